/- limb: twice. -/
import Derived.Test.YtadgamfhlklemaaGreatDoorAvL3
import Derived.Laws.BitsAllLaws
namespace Go.Proofs.YtadgamfhlklemaaGreatDoor
open Go.RowKit
def tb (bit : Int) (xs : List Int) : Nat → Int
  | 0 => bit
  | k + 1 => dg xs k / 9223372036854775808
def tw (bit : Int) (xs : List Int) (k : Nat) : Int := (dg xs k * 2) % 18446744073709551616 + tb bit xs k
theorem nat_or_one (m : Nat) : (2 * m) ||| 1 = 2 * m + 1 := by
  have h1 : ((2 * m) ||| 1) / 2 = m := by rw [Nat.or_div_two]; simp
  have h2 : ((2 * m) ||| 1) % 2 = 1 := Nat.or_mod_two_eq_one.2 (.inr rfl)
  omega
theorem or_bit {x t : Int} (_hx : 0 ≤ x ∧ x < 18446744073709551616) (ht : t = 0 ∨ t = 1) : bits .or .u64 (IntKind.u64.wrap (x * 2)) t = (x * 2) % 18446744073709551616 + t := by
  have e : IntKind.u64.wrap (x * 2) = (x * 2) % 18446744073709551616 := by rw [IntKind.wrap_u64]
  rw [e]
  obtain ⟨m, hm⟩ : ∃ m : Nat, (x * 2) % 18446744073709551616 = ((2 * m : Nat) : Int) := ⟨((x * 2) % 18446744073709551616 / 2).toNat, by omega⟩
  have hlt : 2 * m < 18446744073709551616 := by omega
  rw [hm]
  rcases ht with rfl | rfl
  · have := u64_or_nat (2 * m) 0 hlt (by omega)
    rw [Nat.or_zero] at this
    simpa using this
  · have := u64_or_nat (2 * m) 1 hlt (by omega)
    rw [nat_or_one] at this
    exact_mod_cast this
theorem tb_01 {bit : Int} (hb : bit = 0 ∨ bit = 1) {xs : List Int} (hx : Wd xs) : ∀ k, tb bit xs k = 0 ∨ tb bit xs k = 1
  | 0 => hb
  | k + 1 => by have := hx.dgB k; simp only [tb]; omega
theorem tw_wd {bit : Int} (hb : bit = 0 ∨ bit = 1) {xs : List Int} (hx : Wd xs) (k : Nat) : 0 ≤ tw bit xs k ∧ tw bit xs k < 18446744073709551616 := by
  have := tb_01 hb hx k; have := hx.dgB k; unfold tw; omega
theorem vL_tw {bit : Int} (hb : bit = 0 ∨ bit = 1) {xs : List Int} (hx : Wd xs) (L : Nat) : ∀ k, k ≤ L → vL (outL (tw bit xs) L L) k = 2 * vL xs k + bit - tb bit xs k * pw k
  | 0, _ => by simp [vL, tb, pw]
  | k + 1, h => by
    have ih := vL_tw hb hx L k (by omega)
    have hk := hx.dgB k
    simp only [vL]
    rw [ih, dg_out _ (by omega), tw, pw_succ]
    have e1 : (dg xs k * 2) % 18446744073709551616 = 2 * dg xs k - 18446744073709551616 * (dg xs k / 9223372036854775808) := by omega
    rw [e1, show tb bit xs (k + 1) = dg xs k / 9223372036854775808 from rfl, Int.add_mul, Int.sub_mul, Int.mul_comm 18446744073709551616 (dg xs k / 9223372036854775808), Int.mul_assoc, Int.mul_assoc]
    omega
structure OutR (w wr : World) (f : Nat → Int) (L k : Nat) : Prop where
  blk : Blk wr w.heap.size 115 (u64s (outL f L k)).toArray
  below : Below w.heap.size w wr
theorem OutR.start (w : World) (f : Nat → Int) (L : Nat) : OutR w (w.alloc (.cells (madeCells #[.int .u64 0] L) 115)) f L 0 := by
  refine ⟨?_, (Below.refl _ _).alloc (Nat.le_refl _) _⟩
  have e : (u64s (outL f L 0)).toArray = madeCells #[.int .u64 0] L := by
    apply Array.toList_inj.1
    rw [toList_madeCells_one]
    simp [outL, u64s]
  rw [e]
  exact Blk.new _ _ _
theorem OutR.cell {w wr : World} {f : Nat → Int} {L k : Nat} (h : OutR w wr f L k) (hk : k < L) : ∃ u, wr.cell? ⟨w.heap.size, k, none⟩ = some u := by
  have := h.blk.cell k
  have hl : k < (u64s (outL f L k)).length := by simp [outL]; omega
  rw [List.getElem?_toArray, List.getElem?_eq_getElem hl] at this
  exact ⟨_, this⟩
theorem OutR.step {w wr : World} {f : Nat → Int} {L k : Nat} (h : OutR w wr f L k) (hk : k < L) : OutR w (wr.setCell ⟨w.heap.size, k, none⟩ (.int .u64 (f k))) f L (k + 1) := by
  refine ⟨?_, h.below.setCell (Nat.le_refl _) _⟩
  have := h.blk.set_ k (.int .u64 (f k))
  rw [← outL_set f hk]
  rw [show u64s ((outL f L k).set k (f k)) = (u64s (outL f L k)).set k (.int .u64 (f k)) from List.map_set]
  rw [List.setIfInBounds_toArray] at this
  exact this
theorem OutR.ws {w wr : World} {f : Nat → Int} {L : Nat} (h : OutR w wr f L L) (hf : ∀ k, 0 ≤ f k ∧ f k < 18446744073709551616) : Ws wr (w.heap.size + 1) (some ⟨w.heap.size, 0, none⟩) L (outL f L L) :=
  ⟨Reads.cells_at h.blk (Nat.lt_succ_self _) (by simp [outL]), outL_wd L hf⟩
def TwicePost (w : World) (xs ms : List Int) (bit : Int) (L : Nat) (e : Ending) (w' : World) : Prop :=
  ∃ ds carry A' c' zs, (carry = 0 ∨ carry = 1) ∧ val ds = 2 * val xs + bit - carry * pw L ∧ e = .returned (.slice A' L c') ∧ Ws w' w'.heap.size A' L zs ∧ Below w.heap.size w w' ∧ (∃ g, A' = some ⟨g, 0, none⟩ ∧ w.heap.size ≤ g) ∧ LessV ds ms zs carry L
set_option maxHeartbeats 4000000 in
set_option maxRecDepth 100000 in
theorem twice_any (w : World) (b : Nat) (A Am : Option Addr) (c cm L : Nat) (bit : Int) (u v : Value) (xs ms : List Int) (hb01 : bit = 0 ∨ bit = 1) (hL9 : L ≤ 1000000) (hb : Blk w b 363 #[.slice Am L cm, u, v]) (h : Ws w w.heap.size A L xs) (h' : Ws w w.heap.size Am L ms) :
    Calls Tryz.prog 266 #[.pointer (some ⟨b, 0, none⟩), .slice A L c, .int .u64 bit] w (TwicePost w xs ms bit L) := by
  have hmk := run_make_row' (P := Tryz.prog) 73 115 (.int .u64 0) 8 Tryz.underlying73 infoU64 rfl .i64 .i64 L (by omega) (by omega) w
  go_enter Tryz.func266, Tryz.ntmps266
  go_wp2_with (fail)
  go_loopw [2, 15] (fun t i wr => ∃ (k : Nat), k ≤ L ∧ t = .int .u64 (tb bit xs k) ∧ i = .int .i64 k ∧ OutR w wr (tw bit xs) L k) (fun _ i _ => L - (intOf i).toNat)
  case atStart => exact ⟨0, by omega, rfl, rfl, OutR.start _ _ _⟩
  case round =>
    obtain ⟨k, hk, rfl, rfl, hR⟩ := hrel
    by_cases hlt : k < L
    · have d1 : decide ((k : Int) < L) = true := by simp; omega
      obtain ⟨ad, rfl, hc⟩ := (h.below hR.below).at_ hlt
      have bx := h.wd.dgB k
      have hor := or_bit bx (tb_01 hb01 h.wd k)
      obtain ⟨u, hu⟩ := hR.cell hlt
      have hf := hR.blk.frozen k
      have H := Lib.hid hR
      clear hR
      go_wp2_with (fail)
      go_roundw
      case rel => exact ⟨k + 1, by omega, by rfl, by go_num, H.out.step hlt⟩
      case measure => simp [intOf]; omega
    · obtain rfl : k = L := by omega
      have d1 : decide ((k : Int) < k) = false := by simp
      have hws := hR.ws (tw_wd hb01 h.wd)
      have hval := vL_tw hb01 h.wd k k (Nat.le_refl _)
      have hbm := hb.below hR.below hb.lt
      have hm := (h'.below hR.below).up (Below.refl _ _) hR.below.size
      have hB := hR.below
      have hlt9 := hR.blk.lt
      clear hR hmk
      go_wp2_with (fail)
      refine (less64_any wr b _ Am k cm k _ u v _ ms hL9 hbm (hws.up (Below.refl _ _) hlt9) hm).mono ?_
      rintro e w1 ⟨A', c', zs, rfl, h1, h2, hA, h3⟩
      have hA2 : ∃ g, A' = some ⟨g, 0, none⟩ ∧ w.heap.size ≤ g := by
        rcases hA with rfl | ⟨g, rfl, hg⟩
        · exact ⟨_, rfl, Nat.le_refl _⟩
        · exact ⟨g, rfl, Nat.le_trans hB.size hg⟩
      clear hA
      go_wp2_with (fail)
      go_ret
      exact ⟨outL (tw bit xs) k k, _, A', c', zs, tb_01 hb01 h.wd k, by rw [val, outL_length _ (Nat.le_refl _), hval, vL_ge (by rw [h.len]; exact Nat.le_refl _)], rfl, h1, below_then hB hB.size h2, hA2, h3⟩
end Go.Proofs.YtadgamfhlklemaaGreatDoor
