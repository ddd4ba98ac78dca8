/- group.Read at a size other than 96; schnorr.Verify of what ends at its sizes. -/
import Derived.Test.YtadgamfhlklemaaGreatDoorAvL7
import Derived.Test.YtadgamfhlklemaaGreatDoorAvH3
namespace Go.Proofs.YtadgamfhlklemaaGreatDoor
open Go.RowKit
theorem blk12 {W : World} {g : Nat} {t : TypeId} {x0 x1 x2 x3 x4 x5 x6 x7 x8 x9 x10 x11 : Value} (h : Blk W g t #[x0, x1, x2, x3, x4, x5, x6, x7, x8, x9, x10, x11]) :
    (W.cell? ⟨g, 0, none⟩ = some x0 ∧ W.cell? ⟨g, 1, none⟩ = some x1 ∧ W.cell? ⟨g, 2, none⟩ = some x2 ∧ W.cell? ⟨g, 3, none⟩ = some x3 ∧ W.cell? ⟨g, 4, none⟩ = some x4 ∧ W.cell? ⟨g, 5, none⟩ = some x5 ∧ W.cell? ⟨g, 6, none⟩ = some x6 ∧ W.cell? ⟨g, 7, none⟩ = some x7 ∧ W.cell? ⟨g, 8, none⟩ = some x8 ∧ W.cell? ⟨g, 9, none⟩ = some x9 ∧ W.cell? ⟨g, 10, none⟩ = some x10 ∧ W.cell? ⟨g, 11, none⟩ = some x11) ∧
    (W.frozen? ⟨g, 0, none⟩ = false ∧ W.frozen? ⟨g, 1, none⟩ = false ∧ W.frozen? ⟨g, 2, none⟩ = false ∧ W.frozen? ⟨g, 3, none⟩ = false ∧ W.frozen? ⟨g, 4, none⟩ = false ∧ W.frozen? ⟨g, 5, none⟩ = false ∧ W.frozen? ⟨g, 6, none⟩ = false ∧ W.frozen? ⟨g, 7, none⟩ = false ∧ W.frozen? ⟨g, 8, none⟩ = false ∧ W.frozen? ⟨g, 9, none⟩ = false ∧ W.frozen? ⟨g, 10, none⟩ = false ∧ W.frozen? ⟨g, 11, none⟩ = false) :=
  ⟨⟨h.cell 0, h.cell 1, h.cell 2, h.cell 3, h.cell 4, h.cell 5, h.cell 6, h.cell 7, h.cell 8, h.cell 9, h.cell 10, h.cell 11⟩, ⟨h.frozen 0, h.frozen 1, h.frozen 2, h.frozen 3, h.frozen 4, h.frozen 5, h.frozen 6, h.frozen 7, h.frozen 8, h.frozen 9, h.frozen 10, h.frozen 11⟩⟩
abbrev zero12 : Value := .agg #[.int .u64 0, .int .u64 0, .int .u64 0, .int .u64 0, .int .u64 0, .int .u64 0, .int .u64 0, .int .u64 0, .int .u64 0, .int .u64 0, .int .u64 0, .int .u64 0]
set_option maxHeartbeats 4000000 in
set_option maxRecDepth 100000 in
theorem ringread_size (w : World) (p : Nat) (s : Sl) (hs : s.n ≠ 96) :
    Calls Tryz.prog 139 #[.pointer (some ⟨p, 0, none⟩), s.v] w fun e w' => e = .returned (.tuple #[zero12, .int .i64 1]) ∧ Below w.heap.size w w' := by
  have d1 : ((s.n : Int) != 96) = true := by rw [bne_iff_ne]; omega
  go_enter Tryz.func139, Tryz.ntmps139
  go_wp2_with (fail)
  refine bodyPost_ret (v := .tuple #[zero12, .int .i64 1]) (by simp [results, Tryz.results139, go_sem]) rfl ⟨rfl, ?_⟩
  exact (Below.refl _ _).alloc (Nat.le_refl _) _
set_option maxHeartbeats 4000000 in
set_option maxRecDepth 100000 in
theorem groupread_size (w : World) (s : Sl) (hs : s.n ≠ 96) :
    Calls Tryz.prog 137 #[s.v] w fun e w' => e = .returned (.tuple #[zero12, .int .i64 1]) ∧ Below w.heap.size w w' := by
  have hB0 := (Below.refl w.heap.size w).alloc (Nat.le_refl _) (.cells #[.int .u64 0, .int .u64 0, .int .u64 0, .int .u64 0, .int .u64 0, .int .u64 0, .int .u64 0, .int .u64 0, .int .u64 0, .int .u64 0, .int .u64 0, .int .u64 0] 159)
  have hbk := Blk.new w 159 #[.int .u64 0, .int .u64 0, .int .u64 0, .int .u64 0, .int .u64 0, .int .u64 0, .int .u64 0, .int .u64 0, .int .u64 0, .int .u64 0, .int .u64 0, .int .u64 0]
  go_enter Tryz.func137, Tryz.ntmps137
  go_wp2_with (fail)
  refine (group_any _).mono ?_
  rintro e w1 ⟨p, rfl, hb1⟩
  have hb1' := below_then hB0 hB0.size hb1
  have hbk1 := hbk.below hb1 hbk.lt
  clear hB0 hbk hb1
  go_wp2_with (fail)
  refine (ringread_size w1 p s hs).mono ?_
  rintro e w2 ⟨rfl, hb2⟩
  have hb2' := below_then hb1' hb1'.size hb2
  have hbk2 := hbk1.below hb2 hbk1.lt
  have hbk3 := hbk2.alloc (.cells #[.int .u64 0, .int .u64 0, .int .u64 0, .int .u64 0, .int .u64 0, .int .u64 0, .int .u64 0, .int .u64 0, .int .u64 0, .int .u64 0, .int .u64 0, .int .u64 0] 152)
  obtain ⟨⟨c0, c1, c2, c3, c4, c5, c6, c7, c8, c9, c10, c11⟩, ⟨f0, f1, f2, f3, f4, f5, f6, f7, f8, f9, f10, f11⟩⟩ := blk12 hbk3
  have hB4 := hb2'.alloc hb2'.size (.cells #[.int .u64 0, .int .u64 0, .int .u64 0, .int .u64 0, .int .u64 0, .int .u64 0, .int .u64 0, .int .u64 0, .int .u64 0, .int .u64 0, .int .u64 0, .int .u64 0] 152)
  have HBK := Lib.hid hbk3
  clear hb1' hbk1 hb2 hbk2 hb2' hbk3
  go_wp2_with (fail)
  have hz := ((((((((((((HBK.out.set_ 0 (.int .u64 0)).set_ 1 (.int .u64 0)).set_ 2 (.int .u64 0)).set_ 3 (.int .u64 0)).set_ 4 (.int .u64 0)).set_ 5 (.int .u64 0)).set_ 6 (.int .u64 0)).set_ 7 (.int .u64 0)).set_ 8 (.int .u64 0)).set_ 9 (.int .u64 0)).set_ 10 (.int .u64 0)).set_ 11 (.int .u64 0))
  simp only [List.setIfInBounds_toArray, List.set_cons_zero, List.set_cons_succ] at hz
  obtain ⟨⟨e0, e1, e2, e3, e4, e5, e6, e7, e8, e9, e10, e11⟩, _⟩ := blk12 hz
  refine bodyPost_ret (v := .tuple #[zero12, .int .i64 1]) (by simp [results, Tryz.results137, go_sem, e0, e1, e2, e3, e4, e5, e6, e7, e8, e9, e10, e11]) rfl ⟨rfl, ?_⟩
  exact (Below.setCell (p := ⟨w.heap.size, 11, none⟩) (Below.setCell (p := ⟨w.heap.size, 10, none⟩) (Below.setCell (p := ⟨w.heap.size, 9, none⟩) (Below.setCell (p := ⟨w.heap.size, 8, none⟩) (Below.setCell (p := ⟨w.heap.size, 7, none⟩) (Below.setCell (p := ⟨w.heap.size, 6, none⟩) (Below.setCell (p := ⟨w.heap.size, 5, none⟩) (Below.setCell (p := ⟨w.heap.size, 4, none⟩) (Below.setCell (p := ⟨w.heap.size, 3, none⟩) (Below.setCell (p := ⟨w.heap.size, 2, none⟩) (Below.setCell (p := ⟨w.heap.size, 1, none⟩) (Below.setCell (p := ⟨w.heap.size, 0, none⟩) hB4 (Nat.le_refl _) _) (Nat.le_refl _) _) (Nat.le_refl _) _) (Nat.le_refl _) _) (Nat.le_refl _) _) (Nat.le_refl _) _) (Nat.le_refl _) _) (Nat.le_refl _) _) (Nat.le_refl _) _) (Nat.le_refl _) _) (Nat.le_refl _) _) (Nat.le_refl _) _)
end Go.Proofs.YtadgamfhlklemaaGreatDoor
