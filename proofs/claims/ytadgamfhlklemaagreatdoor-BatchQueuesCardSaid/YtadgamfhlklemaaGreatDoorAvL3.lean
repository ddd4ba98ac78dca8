/- limb: less. -/
import Derived.Test.YtadgamfhlklemaaGreatDoorAvL2
namespace Go.Proofs.YtadgamfhlklemaaGreatDoor
open Go.RowKit
theorem Ws.up {w w' : World} {B n : Nat} {A : Option Addr} {xs : List Int} (h : Ws w B A n xs) (hb : Below B w w') {B' : Nat} (hB : B ≤ B') : Ws w' B' A n xs := ⟨(h.rd.below hb).more hB, h.wd⟩
theorem val_out {xs ys : List Int} (hx : Wd xs) (hy : Wd ys) {L : Nat} (h1 : xs.length ≤ L) (h2 : ys.length ≤ L) : val (outL (subL xs ys) L L) = val xs - val ys + brL xs ys L * pw L := by
  have := vL_sub hx hy L L (Nat.le_refl _)
  rw [vL_ge h1, vL_ge h2] at this
  rw [← this, val, outL_length _ (Nat.le_refl _)]
/-- a, or a less the modulus. -/
def LessV (xs ms zs : List Int) (carry : Int) (L : Nat) : Prop :=
  (carry = 0 ∧ val xs < val ms ∧ val zs = val xs) ∨ (¬ (carry = 0 ∧ val xs < val ms) ∧ ∃ br, 0 ≤ br ∧ br ≤ 1 ∧ val zs = val xs - val ms + br * pw L)
def LessPost (w : World) (A : Option Addr) (xs ms : List Int) (carry : Int) (L : Nat) (e : Ending) (w' : World) : Prop :=
  ∃ A' c' zs, e = .returned (.slice A' L c') ∧ Ws w' w'.heap.size A' L zs ∧ Below w.heap.size w w' ∧ (A' = A ∨ ∃ g, A' = some ⟨g, 0, none⟩ ∧ w.heap.size ≤ g) ∧ LessV xs ms zs carry L
set_option maxHeartbeats 4000000 in
set_option maxRecDepth 100000 in
theorem less64_any (w : World) (b : Nat) (A Am : Option Addr) (c cm L : Nat) (carry : Int) (u v : Value) (xs ms : List Int) (hL9 : L ≤ 1000000) (hb : Blk w b 363 #[.slice Am L cm, u, v]) (h : Ws w w.heap.size A L xs) (h' : Ws w w.heap.size Am L ms) :
    Calls Tryz.prog 290 #[.pointer (some ⟨b, 0, none⟩), .slice A L c, .int .u64 carry] w (LessPost w A xs ms carry L) := by
  have c0 := hb.cell 0
  simp only [List.getElem?_toArray, List.getElem?_cons_zero] at c0
  by_cases hc : carry = 0
  · subst hc
    by_cases hlt : val xs < val ms
    · have hcm : cmpI (val xs) (val ms) = -1 := cmpI_lt hlt
      go_enter Tryz.func290, Tryz.ntmps290
      go_wp2_with (fail)
      refine (cmp_any w A Am L c L cm w.heap.size xs ms hL9 hL9 h h').mono ?_
      rintro e w1 ⟨rfl, rfl⟩
      rw [hcm]
      go_wp2_with (fail)
      go_ret
      exact ⟨A, c, xs, rfl, h, Below.refl _ _, .inl rfl, .inl ⟨rfl, hlt, rfl⟩⟩
    · have d1 : decide (cmpI (val xs) (val ms) < 0) = false := by
        rcases Int.lt_or_eq_of_le (show val ms ≤ val xs by omega) with h1 | h1
        · rw [cmpI_gt h1]; decide
        · rw [cmpI_eq h1.symm]; decide
      go_enter Tryz.func290, Tryz.ntmps290
      go_wp2_with (fail)
      refine (cmp_any w A Am L c L cm w.heap.size xs ms hL9 hL9 h h').mono ?_
      rintro e w1 ⟨rfl, rfl⟩
      go_wp2_with (fail)
      refine (sub_any w A Am L c L cm L xs ms (by omega) hL9 h h').mono ?_
      rintro e w1 ⟨rfl, ho⟩
      have H := Lib.hid ho
      clear ho
      go_wp2_with (fail)
      go_ret
      exact ⟨_, _, _, rfl, ⟨H.out.ws.rd.more (by have := H.out.lt; omega), H.out.ws.wd⟩, H.out.below, .inr ⟨_, rfl, H.out.ge⟩, .inr ⟨by omega, _, (brL_01 _ _ _).1, (brL_01 _ _ _).2, val_out h.wd h'.wd (by rw [h.len]; exact Nat.le_refl _) (by rw [h'.len]; exact Nat.le_refl _)⟩⟩
  · have d1 : (carry == 0) = false := by simp [hc]
    go_enter Tryz.func290, Tryz.ntmps290
    go_wp2_with (fail)
    refine (sub_any w A Am L c L cm L xs ms (by omega) hL9 h h').mono ?_
    rintro e w1 ⟨rfl, ho⟩
    have H := Lib.hid ho
    clear ho
    go_wp2_with (fail)
    go_ret
    exact ⟨_, _, _, rfl, ⟨H.out.ws.rd.more (by have := H.out.lt; omega), H.out.ws.wd⟩, H.out.below, .inr ⟨_, rfl, H.out.ge⟩, .inr ⟨by omega, _, (brL_01 _ _ _).1, (brL_01 _ _ _).2, val_out h.wd h'.wd (by rw [h.len]; exact Nat.le_refl _) (by rw [h'.len]; exact Nat.le_refl _)⟩⟩
end Go.Proofs.YtadgamfhlklemaaGreatDoor
