/- limb: Add, Sub (each). -/
import Derived.Test.YtadgamfhlklemaaGreatDoorAvL1
import Derived.Test.YtadgamfhlklemaaGreatDoorAvB6
import Derived.Laws.Externs
import Derived.Shelf.Spec.BitsCarry
import Derived.Deep.OwnRows
namespace Go.Proofs.YtadgamfhlklemaaGreatDoor
open Go.RowKit
def bor (x y b : Int) : Int := if x < y + b then 1 else 0
def sub1 (x y b : Int) : Int := (x - y - b) % 18446744073709551616
theorem sub64_any (x y b : Int) (hx : 0 ≤ x) (hy : 0 ≤ y) (hy' : y < 18446744073709551616) (hb0 : 0 ≤ b) (hb : b ≤ 1) (w : World) : (callFunc 218 #[.int .u64 x, .int .u64 y, .int .u64 b]).run Tryz.prog w =
    .ok (.value (.tuple #[.int .u64 (sub1 x y b), .int .u64 (bor x y b)])) w := by
  obtain ⟨x, rfl⟩ := Int.eq_ofNat_of_zero_le hx
  obtain ⟨y, rfl⟩ := Int.eq_ofNat_of_zero_le hy
  obtain ⟨b, rfl⟩ := Int.eq_ofNat_of_zero_le hb0
  have e1 : (((x + 18446744073709551616 - y - b) % 18446744073709551616 : Nat) : Int) = sub1 x y b := by unfold sub1; omega
  have e2 : ((if x < y + b then 1 else 0 : Nat) : Int) = bor x y b := by unfold bor; split <;> split <;> omega
  rw [← e1, ← e2]
  rw [run_callFunc_extern Tryz.func218 (by kernel_rfl) (by kernel_rfl) (by kernel_rfl) (e := Go.Proofs.sub64Entry) (by kernel_rfl), Go.Proofs.run_sub64 x y b (by omega)]
  rfl
def brL (xs ys : List Int) : Nat → Int
  | 0 => 0
  | k + 1 => bor (dg xs k) (dg ys k) (brL xs ys k)
def subL (xs ys : List Int) (k : Nat) : Int := sub1 (dg xs k) (dg ys k) (brL xs ys k)
theorem bor_01 (x y b : Int) : 0 ≤ bor x y b ∧ bor x y b ≤ 1 := by unfold bor; split <;> omega
theorem brL_01 (xs ys : List Int) : ∀ k, 0 ≤ brL xs ys k ∧ brL xs ys k ≤ 1
  | 0 => by simp [brL]
  | k + 1 => bor_01 _ _ _
theorem sub1_eq {x y b : Int} (hx : 0 ≤ x ∧ x < 18446744073709551616) (hy : 0 ≤ y ∧ y < 18446744073709551616) (hb : 0 ≤ b ∧ b ≤ 1) : sub1 x y b = x - y - b + 18446744073709551616 * bor x y b := by
  unfold sub1 bor; split <;> omega
/-- The first k words of a difference, L words in all. -/
def outL (f : Nat → Int) (L k : Nat) : List Int := (List.range k).map f ++ List.replicate (L - k) 0
theorem outL_length (f : Nat → Int) {L k : Nat} (h : k ≤ L) : (outL f L k).length = L := by simp [outL]; omega
theorem outL_set (f : Nat → Int) {L k : Nat} (h : k < L) : (outL f L k).set k (f k) = outL f L (k + 1) := by
  apply List.ext_getElem?
  intro j
  simp only [outL, List.getElem?_set, List.length_append, List.length_map, List.length_range, List.length_replicate]
  rcases Nat.lt_trichotomy j k with h1 | h1 | h1
  · rw [if_neg (by omega), List.getElem?_append_left (by simp; omega), List.getElem?_append_left (by simp; omega)]
    simp [h1, show j < k + 1 by omega]
  · subst h1
    rw [if_pos rfl, if_pos (by omega), List.getElem?_append_left (by simp)]
    simp
  · rw [if_neg (by omega), List.getElem?_append_right (by simp; omega), List.getElem?_append_right (by simp; omega)]
    simp only [List.length_map, List.length_range, List.getElem?_replicate]
    by_cases h2 : j < L
    · rw [if_pos (by omega), if_pos (by omega)]
    · rw [if_neg (by omega), if_neg (by omega)]
theorem outL_full (f : Nat → Int) (L : Nat) : outL f L L = (List.range L).map f := by simp [outL]
theorem dg_out (f : Nat → Int) {L k : Nat} (h : k < L) : dg (outL f L L) k = f k := by
  rw [outL_full]; simp [dg, List.getD, h]
theorem vL_sub {xs ys : List Int} (hx : Wd xs) (hy : Wd ys) (L : Nat) : ∀ k, k ≤ L → vL (outL (subL xs ys) L L) k = vL xs k - vL ys k + brL xs ys k * pw k
  | 0, _ => by simp [vL, brL]
  | k + 1, h => by
    have ih := vL_sub hx hy L k (by omega)
    simp only [vL, brL]
    rw [ih, dg_out _ (by omega), subL, sub1_eq (hx.dgB k) (hy.dgB k) (brL_01 xs ys k), pw_succ]
    have e : (dg xs k - dg ys k - brL xs ys k + 18446744073709551616 * bor (dg xs k) (dg ys k) (brL xs ys k)) * pw k
        = dg xs k * pw k - dg ys k * pw k - brL xs ys k * pw k + bor (dg xs k) (dg ys k) (brL xs ys k) * (18446744073709551616 * pw k) := by
      rw [Int.add_mul, Int.sub_mul, Int.sub_mul, Int.mul_comm 18446744073709551616 (bor _ _ _), Int.mul_assoc]
    rw [e]
    omega
theorem outL_wd {f : Nat → Int} (L : Nat) (h : ∀ k, 0 ≤ f k ∧ f k < 18446744073709551616) : Wd (outL f L L) := by
  intro x hx
  rw [outL_full] at hx
  obtain ⟨k, _, rfl⟩ := List.mem_map.1 hx
  exact h k
theorem subL_wd (xs ys : List Int) (k : Nat) : 0 ≤ subL xs ys k ∧ subL xs ys k < 18446744073709551616 := by unfold subL sub1; omega
theorem infoU64 : (Tryz.prog.info? 115).map (fun i => (i.zero, i.size, i.bytes)) = some (some (.int .u64 0), 1, 8) := by kernel_rfl
structure SubR (w wr : World) (xs ys : List Int) (L k : Nat) : Prop where
  blk : Blk wr w.heap.size 115 (u64s (outL (subL xs ys) L k)).toArray
  below : Below w.heap.size w wr
theorem SubR.start (w : World) (xs ys : List Int) (L : Nat) : SubR w (w.alloc (.cells (madeCells #[.int .u64 0] L) 115)) xs ys L 0 := by
  refine ⟨?_, (Below.refl _ _).alloc (Nat.le_refl _) _⟩
  have e : (u64s (outL (subL xs ys) L 0)).toArray = madeCells #[.int .u64 0] L := by
    apply Array.toList_inj.1
    rw [toList_madeCells_one]
    simp [outL, u64s]
  rw [e]
  exact Blk.new _ _ _
theorem SubR.cell {w wr : World} {xs ys : List Int} {L k : Nat} (h : SubR w wr xs ys L k) (hk : k < L) : ∃ u, wr.cell? ⟨w.heap.size, k, none⟩ = some u := by
  have := h.blk.cell k
  have hl : k < (u64s (outL (subL xs ys) L k)).length := by simp [outL]; omega
  rw [List.getElem?_toArray, List.getElem?_eq_getElem hl] at this
  exact ⟨_, this⟩
theorem SubR.step {w wr : World} {xs ys : List Int} {L k : Nat} (h : SubR w wr xs ys L k) (hk : k < L) : SubR w (wr.setCell ⟨w.heap.size, k, none⟩ (.int .u64 (sub1 (dg xs k) (dg ys k) (brL xs ys k)))) xs ys L (k + 1) := by
  refine ⟨?_, h.below.setCell (Nat.le_refl _) _⟩
  have := h.blk.set_ k (.int .u64 (subL xs ys k))
  rw [← outL_set (subL xs ys) hk]
  rw [show u64s ((outL (subL xs ys) L k).set k (subL xs ys k)) = (u64s (outL (subL xs ys) L k)).set k (.int .u64 (subL xs ys k)) from List.map_set]
  rw [List.setIfInBounds_toArray] at this
  exact this
set_option maxHeartbeats 4000000 in
set_option maxRecDepth 100000 in
theorem each_sub (w : World) (A A' : Option Addr) (n c n' c' L : Nat) (xs ys : List Int) (hL : max n n' = L) (hL9 : L ≤ 1000000) (h : Ws w w.heap.size A n xs) (h' : Ws w w.heap.size A' n' ys) :
    Calls Tryz.prog 307 #[.slice A n c, .slice A' n' c', .func (.func 218) #[] #[]] w fun e w' => e = .returned (.tuple #[.slice (some ⟨w.heap.size, 0, none⟩) L L, .int .u64 (brL xs ys L)]) ∧ SubR w w' xs ys L L := by
  have hmk := run_make_row' (P := Tryz.prog) 73 115 (.int .u64 0) 8 Tryz.underlying73 infoU64 rfl .i64 .i64 L (by omega) (by omega) w
  go_enter Tryz.func307, Tryz.ntmps307
  by_cases hnn : n < n'
  · obtain rfl : n' = L := by omega
    go_wp2_with (fail)
    go_loopw [9, 19] (fun b i wr => ∃ k : Nat, k ≤ n' ∧ b = .int .u64 (brL xs ys k) ∧ i = .int .i64 k ∧ SubR w wr xs ys n' k) (fun _ i _ => n' - (intOf i).toNat)
    case atStart => exact ⟨0, by omega, rfl, rfl, SubR.start w xs ys n'⟩
    case round =>
      obtain ⟨k, hk, rfl, rfl, hR⟩ := hrel
      by_cases hlt : k < n'
      · have d1 : decide ((k : Int) < n') = true := by simp; omega
        have hX := h.below hR.below
        have hY := h'.below hR.below
        have bx := hX.wd.dgB k
        have by_ := hY.wd.dgB k
        have bb := brL_01 xs ys k
        have hsub := fun W => sub64_any (dg xs k) (dg ys k) (brL xs ys k) bx.1 by_.1 by_.2 bb.1 bb.2 W
        obtain ⟨u, hu⟩ := hR.cell hlt
        have hf := hR.blk.frozen k
        have H := Lib.hid hR
        clear hR bx by_ bb
        go_wp2_with (fail)
        refine (at_any wr A n c w.heap.size k k xs rfl hX).mono ?_
        rintro e w1 ⟨rfl, rfl⟩
        go_wp2_with (fail)
        refine (at_any wr A' n' c' w.heap.size k k ys rfl hY).mono ?_
        rintro e w1 ⟨rfl, rfl⟩
        go_wp2_with (fail)
        go_roundw
        case rel => exact ⟨k + 1, by omega, rfl, by go_num, H.out.step hlt⟩
        case measure => simp [intOf]; omega
      · obtain rfl : k = n' := by omega
        have d1 : decide ((k : Int) < k) = false := by simp
        have H := Lib.hid hR
        clear hR hmk
        go_wp2_with (fail)
        go_ret2
        exact ⟨rfl, H.out⟩
  · obtain rfl : n = L := by omega
    go_wp2_with (fail)
    go_loopw [9, 19] (fun b i wr => ∃ k : Nat, k ≤ n ∧ b = .int .u64 (brL xs ys k) ∧ i = .int .i64 k ∧ SubR w wr xs ys n k) (fun _ i _ => n - (intOf i).toNat)
    case atStart => exact ⟨0, by omega, rfl, rfl, SubR.start w xs ys n⟩
    case round =>
      obtain ⟨k, hk, rfl, rfl, hR⟩ := hrel
      by_cases hlt : k < n
      · have d1 : decide ((k : Int) < n) = true := by simp; omega
        have hX := h.below hR.below
        have hY := h'.below hR.below
        have bx := hX.wd.dgB k
        have by_ := hY.wd.dgB k
        have bb := brL_01 xs ys k
        have hsub := fun W => sub64_any (dg xs k) (dg ys k) (brL xs ys k) bx.1 by_.1 by_.2 bb.1 bb.2 W
        obtain ⟨u, hu⟩ := hR.cell hlt
        have hf := hR.blk.frozen k
        have H := Lib.hid hR
        clear hR bx by_ bb
        go_wp2_with (fail)
        refine (at_any wr A n c w.heap.size k k xs rfl hX).mono ?_
        rintro e w1 ⟨rfl, rfl⟩
        go_wp2_with (fail)
        refine (at_any wr A' n' c' w.heap.size k k ys rfl hY).mono ?_
        rintro e w1 ⟨rfl, rfl⟩
        go_wp2_with (fail)
        go_roundw
        case rel => exact ⟨k + 1, by omega, rfl, by go_num, H.out.step hlt⟩
        case measure => simp [intOf]; omega
      · obtain rfl : k = n := by omega
        have d1 : decide ((k : Int) < k) = false := by simp
        have H := Lib.hid hR
        clear hR hmk
        go_wp2_with (fail)
        go_ret2
        exact ⟨rfl, H.out⟩
/-- What a difference is: a row of the call's own. -/
structure Own64 (w w' : World) (g L : Nat) (zs : List Int) : Prop where
  ws : Ws w' (g + 1) (some ⟨g, 0, none⟩) L zs
  ge : w.heap.size ≤ g
  lt : g < w'.heap.size
  below : Below w.heap.size w w'
theorem SubR.done {w wr : World} {xs ys : List Int} {L : Nat} (h : SubR w wr xs ys L L) : Own64 w wr w.heap.size L (outL (subL xs ys) L L) :=
  ⟨⟨Reads.cells_at h.blk (Nat.lt_succ_self _) (by simp [outL]), outL_wd L (subL_wd xs ys)⟩, Nat.le_refl _, h.blk.lt, h.below⟩
set_option maxHeartbeats 1000000 in
set_option maxRecDepth 100000 in
theorem sub_any (w : World) (A A' : Option Addr) (n c n' c' L : Nat) (xs ys : List Int) (hL : max n n' = L) (hL9 : L ≤ 1000000) (h : Ws w w.heap.size A n xs) (h' : Ws w w.heap.size A' n' ys) :
    Calls Tryz.prog 305 #[.slice A n c, .slice A' n' c'] w fun e w' => e = .returned (.tuple #[.slice (some ⟨w.heap.size, 0, none⟩) L L, .int .u64 (brL xs ys L)]) ∧ Own64 w w' w.heap.size L (outL (subL xs ys) L L) := by
  go_enter Tryz.func305, Tryz.ntmps305
  go_wp2_with (fail)
  refine (each_sub w A A' n c n' c' L xs ys hL hL9 h h').mono ?_
  rintro e w1 ⟨rfl, hS⟩
  have H := Lib.hid hS
  clear hS
  go_wp2_with (fail)
  go_ret2
  exact ⟨rfl, H.out.done⟩
end Go.Proofs.YtadgamfhlklemaaGreatDoor
