/- Queue.Add. -/
import Derived.Test.YtadgamfhlklemaaGreatDoorAvC2
import Derived.Test.YtadgamfhlklemaaGreatDoorAvB8
namespace Go.Proofs.YtadgamfhlklemaaGreatDoor
open Go.RowKit
theorem own_setCell {w : World} {base g o : Nat} {e t : TypeId} {size n : Nat} {v : Value} {xs : List Value} {cs : Array Value} (h : w.ownsRow base e size v n xs) (hb : Blk w g t cs) (hne : e ≠ t) (u : Value) : (w.setCell ⟨g, o, none⟩ u).ownsRow base e size v n xs :=
  h.kept (only_setCells w g o [u]) (.inr (own_blk_ne h hb hne))
/-- A job's seven cells. -/
abbrev jv (k b : Int) (s m p : Sl) (r d : Int) : Value := .agg #[.int .i64 k, .int .i64 b, s.v, m.v, p.v, .int .i64 r, .int .i64 d]
def vfIs (k : Int) : Bool := decide (k = 1) || decide (k = 2) || decide (k = 3)
theorem vf_nil (k : Int) (h : vfIs k = false) : vfOf k = .nilFunc := by
  simp [vfIs] at h
  simp [vfOf, h]
theorem vf_cases (k : Int) : (k = 1 ∧ vfIs k = true) ∨ (k = 2 ∧ vfIs k = true) ∨ (k = 3 ∧ vfIs k = true) ∨ (vfOf k = .nilFunc ∧ vfIs k = false) := by
  by_cases h1 : k = 1
  · exact .inl ⟨h1, by simp [vfIs, h1]⟩
  · by_cases h2 : k = 2
    · exact .inr (.inl ⟨h2, by simp [vfIs, h2]⟩)
    · by_cases h3 : k = 3
      · exact .inr (.inr (.inl ⟨h3, by simp [vfIs, h3]⟩))
      · exact .inr (.inr (.inr ⟨by simp [vfOf, h1, h2, h3], by simp [vfIs, h1, h2, h3]⟩))
theorem eq_vf (k : Int) (W : World) : (binOp .eql 59 (vfOf k) .nilFunc).run Tryz.prog W = .ok (.bool (!vfIs k)) W := by
  rcases vf_cases k with ⟨rfl, h⟩ | ⟨rfl, h⟩ | ⟨rfl, h⟩ | ⟨h, h'⟩
  · rw [h]; kernel_rfl
  · rw [h]; kernel_rfl
  · rw [h]; kernel_rfl
  · rw [h, h']; kernel_rfl
theorem eqg_vf (k : Int) (W : World) (x y : Operand) : (eqGuard .eql 59 x y (vfOf k) .nilFunc).run Tryz.prog W = .ok () W := by
  rcases vf_cases k with ⟨rfl, h⟩ | ⟨rfl, h⟩ | ⟨rfl, h⟩ | ⟨h, h'⟩
  · rfl
  · rfl
  · rfl
  · rw [h]; rfl
set_option maxHeartbeats 1000000 in
set_option maxRecDepth 100000 in
theorem add_kind (w : World) (q : Nat) (k b : Int) (s m p : Sl) (r d : Int) (hk : vfIs k = false) :
    Calls Tryz.prog 8 #[.pointer (some ⟨q, 0, none⟩), jv k b s m p r d] w fun e w' => e = .returned (.tuple #[.int .i64 0, .int .i64 5]) ∧ Below w.heap.size w w' := by
  have hE := fun W => eq_vf k W
  have hG := fun W x y => eqg_vf k W x y
  go_enter Tryz.func8, Tryz.ntmps8
  go_wp2_with (fail)
  refine (verifier_any k _).mono ?_
  rintro e w1 ⟨rfl, hb⟩
  go_wp2_with (fail)
  go_ret2
  exact ⟨rfl, below_then ((Below.refl _ _).alloc (Nat.le_refl _) _) (by simp) hb⟩
set_option maxHeartbeats 1000000 in
set_option maxRecDepth 100000 in
theorem add_many (w : World) (base q : Nat) (js : List Wt) (last : Int) (k b : Int) (s m p : Sl) (r d : Int) (hk : vfIs k = true) (hl : QL w base q js last) (hn : 1000 ≤ js.length) (hn1 : js.length ≤ 1000000) :
    Calls Tryz.prog 8 #[.pointer (some ⟨q, 0, none⟩), jv k b s m p r d] w fun e w' => e = .returned (.tuple #[.int .i64 0, .int .i64 9]) ∧ Below w.heap.size w w' := by
  have hE := fun W => eq_vf k W
  have hG := fun W x y => eqg_vf k W x y
  obtain ⟨g, cap, hq, hb, hr, hqg⟩ := hl.row (by omega)
  have d1 : decide (1000 ≤ (js.length : Int)) = true := by simp; omega
  go_enter Tryz.func8, Tryz.ntmps8
  go_wp2_with (fail)
  refine (verifier_any k _).mono ?_
  rintro e w1 ⟨rfl, hb⟩
  have hB : Below w.heap.size w w1 := below_then ((Below.refl _ _).alloc (Nat.le_refl _) _) (by simp) hb
  have hc := (hq.below hB hq.lt).cell 0
  go_wp2_with (go_at_call 19; refine (len_any _ _ _ _).mono ?_; rintro e w2 ⟨rfl, rfl⟩)
  go_ret2
  exact ⟨rfl, hB⟩
end Go.Proofs.YtadgamfhlklemaaGreatDoor
