/- Layer 25's statement: of, small, cheap. -/
import Derived.Test.YtadgamfhlklemaaGreatDoorAvC8
namespace Go.Proofs.YtadgamfhlklemaaGreatDoor
open Go.RowKit
theorem ret_bool {a b : Bool} (h : a = true ↔ b = true) : Ending.returned (.bool a) = Ending.returned (.bool b) := by
  rw [Bool.eq_iff_iff.2 h]
def smallB (s m p : Sl) : Bool := decide (s.n ≤ 400) && decide (m.n ≤ 400) && decide (p.n ≤ 2000)
def cheapB (k b : Int) (s m p : Sl) : Bool := smallB s m p && (decide (k < 1) || decide (k > 3) || decide (s.n < 32) || (decide (s.n > 32) && decide (s.n < 96)) || decide (b < 1) || decide (b > 2))
theorem job_cell {W : World} {g : Nat} {t0 : TypeId} {k b r d : Int} {s m p : Sl} (hb : Blk W g t0 #[.int .i64 k, .int .i64 b, s.v, m.v, p.v, .int .i64 r, .int .i64 d]) :
    W.cell? ⟨g, 0, none⟩ = some (.int .i64 k) ∧ W.cell? ⟨g, 1, none⟩ = some (.int .i64 b) ∧ W.cell? ⟨g, 2, none⟩ = some s.v ∧ W.cell? ⟨g, 3, none⟩ = some m.v ∧ W.cell? ⟨g, 4, none⟩ = some p.v ∧ W.cell? ⟨g, 5, none⟩ = some (.int .i64 r) ∧ W.cell? ⟨g, 6, none⟩ = some (.int .i64 d) :=
  ⟨hb.cell 0, hb.cell 1, hb.cell 2, hb.cell 3, hb.cell 4, hb.cell 5, hb.cell 6⟩
set_option maxHeartbeats 1000000 in
set_option maxRecDepth 100000 in
theorem small_any (w : World) (k b r d : Int) (s m p : Sl) :
    Calls Tryz.prog 17 #[jv k b s m p r d] w fun e w' => e = .returned (.bool (smallB s m p)) ∧ Below w.heap.size w w' := by
  obtain ⟨c0, c1, c2, c3, c4, c5, c6⟩ := job_cell (Blk.new w 33 #[.int .i64 k, .int .i64 b, s.v, m.v, p.v, .int .i64 r, .int .i64 d])
  go_enter Tryz.func17, Tryz.ntmps17
  go_wp2_with (fail)
  all_goals go_ret
  all_goals exact ⟨ret_bool (by simp [smallB]; omega), (Below.refl _ _).alloc (Nat.le_refl _) _⟩
set_option maxHeartbeats 1000000 in
set_option maxRecDepth 100000 in
theorem cheap_any (w : World) (k b r d : Int) (s m p : Sl) :
    Calls Tryz.prog 5 #[jv k b s m p r d] w fun e w' => e = .returned (.bool (cheapB k b s m p)) ∧ Below w.heap.size w w' := by
  have hB := (Below.refl w.heap.size w).alloc (Nat.le_refl _) (.cells #[.int .i64 k, .int .i64 b, s.v, m.v, p.v, .int .i64 r, .int .i64 d] 33)
  have hJ := Blk.new w 33 #[.int .i64 k, .int .i64 b, s.v, m.v, p.v, .int .i64 r, .int .i64 d]
  obtain ⟨c0, c1, c2, c3, c4, c5, c6⟩ := job_cell hJ
  go_enter Tryz.func5, Tryz.ntmps5
  go_wp2_with (fail)
  refine (small_any _ k b r d s m p).mono ?_
  rintro e w1 ⟨rfl, hb1⟩
  have hB1 := below_then hB hB.size hb1
  obtain ⟨c0, c1, c2, c3, c4, c5, c6⟩ := job_cell (hJ.below hb1 hJ.lt)
  cases hs : smallB s m p
  · go_wp2_with (fail)
    go_ret
    exact ⟨ret_bool (by simp [cheapB, hs]), hB1⟩
  · go_wp2_with (fail)
    all_goals go_ret
    all_goals exact ⟨ret_bool (by simp [cheapB, hs]; omega), hB1⟩
set_option maxHeartbeats 1000000 in
set_option maxRecDepth 100000 in
theorem of_any (w : World) (k b r d : Int) (s m p : Sl) :
    Calls Tryz.prog 6 #[jv k b s m p r d] w fun e w' => e = .returned (jv k b s m p r d) ∧ Below w.heap.size w w' := by
  have hJ := Blk.new w 33 #[.int .i64 k, .int .i64 b, s.v, m.v, p.v, .int .i64 r, .int .i64 d]
  obtain ⟨c0, c1, c2, c3, c4, c5, c6⟩ := job_cell (hJ.alloc (.cells #[.int .i64 0, .int .i64 0, .slice none 0 0, .slice none 0 0, .slice none 0 0, .int .i64 0, .int .i64 0] 37))
  have hz := Blk.new (w.alloc (.cells #[.int .i64 k, .int .i64 b, s.v, m.v, p.v, .int .i64 r, .int .i64 d] 33)) 37 #[.int .i64 k, .int .i64 b, s.v, m.v, p.v, .int .i64 r, .int .i64 d]
  simp only [World.size_alloc] at hz
  obtain ⟨e0, e1, e2, e3, e4, e5, e6⟩ := job_cell hz
  go_enter Tryz.func6, Tryz.ntmps6
  go_wp2_with (fail)
  refine bodyPost_ret (v := jv k b s m p r d) (by simp [results, Tryz.results6, go_sem, e0, e1, e2, e3, e4, e5, e6]) rfl ⟨rfl, ?_⟩
  exact ((Below.refl _ _).alloc (Nat.le_refl _) _).alloc (by simp) _
end Go.Proofs.YtadgamfhlklemaaGreatDoor
