/- The table of verifiers. -/
import Derived.Test.YtadgamfhlklemaaGreatDoorAvC1
import Derived.MapKept
namespace Go.Proofs.YtadgamfhlklemaaGreatDoor
open Go.RowKit Go.MapKept
/-- What verifies jobs of a kind. -/
def vfOf (k : Int) : Value := if k = 1 then .func (.func 31) #[] #[] else if k = 2 then .func (.func 32) #[] #[] else if k = 3 then .func (.func 33) #[] #[] else .nilFunc
def resOf : Option (Nat × Value) → Value
  | some (_, v) => v
  | none => .nilFunc
def me (n : Int) (f b : Nat) : MapEntry := ⟨.int .i64 n, .func (.func f) #[] #[], b⟩
theorem run_newMap (T : TypeId) (w : World) : (Instr.makeMap T none).run Tryz.prog w = .ok (.map (some w.heap.size)) (w.alloc (.map #[] 0)) := by
  simp [Instr.makeMap]
theorem put_alloc (w : World) (o o' : Obj) : ({ w.alloc o with heap := (w.alloc o).heap.setIfInBounds w.heap.size o' } : World) = w.alloc o' := by
  have e : (w.alloc o).heap = w.heap.push o := rfl
  have e2 : (w.heap.push o).setIfInBounds w.heap.size o' = w.heap.push o' := by
    apply Array.ext'
    simp
  rw [e, e2]
  rfl
theorem run_ins (E : Array MapEntry) (c : Nat) (n : Int) (v : Value) (w : World) (h : Instr.findNow (.int .i64) (.int .i64 n) E.toList 0 = some none) : (Instr.mapUpdate 77 (.map (some w.heap.size)) (.int .i64 n) v).run Tryz.prog (w.alloc (.map E c)) = .ok () (w.alloc (.map (E.push ⟨.int .i64 n, v, c⟩) (c + 1))) := by
  have hb : (w.alloc (.map E c)).heap[w.heap.size]? = some (.map E c) := heap_alloc_new w _
  have hk : (Instr.checkKey false 10000 3 (.int .i64 n)).run Tryz.prog (w.alloc (.map E c)) = .ok () (w.alloc (.map E c)) := run_checkKey Tryz.underlying3 (by simp [IsKey]) false 9999
  have hf : (Instr.findKey 3 (.int .i64 n) E.toList).run Tryz.prog (w.alloc (.map E c)) = .ok none (w.alloc (.map E c)) := by
    simp [Instr.findKey, run_underlying Tryz.underlying3, h]
  have hs := run_setObj_map (P := Tryz.prog) (.map (E.push ⟨.int .i64 n, v, c⟩) (c + 1)) hb
  rw [put_alloc] at hs
  simp [Instr.mapUpdate, run_underlying Tryz.underlying77, Go.MapKept.run_getObj_map hb, hk, hf, hs]
theorem run_look (E : Array MapEntry) (c : Nat) (n : Int) (r : Option (Nat × Value)) (w : World) (h : Instr.findNow (.int .i64) (.int .i64 n) E.toList 0 = some r) (v : Value) (hv : resOf r = v) : (Instr.lookup 77 (.map (some w.heap.size)) (.int .i64 n) false).run Tryz.prog (w.alloc (.map E c)) = .ok v (w.alloc (.map E c)) := by
  have hb : (w.alloc (.map E c)).heap[w.heap.size]? = some (.map E c) := heap_alloc_new w _
  have hk : ∀ em, (Instr.checkKey em 10000 3 (.int .i64 n)).run Tryz.prog (w.alloc (.map E c)) = .ok () (w.alloc (.map E c)) := fun em => run_checkKey Tryz.underlying3 (by simp [IsKey]) em 9999
  have hz : (zeroValue 59).run Tryz.prog (w.alloc (.map E c)) = .ok .nilFunc (w.alloc (.map E c)) := by kernel_rfl
  have hf : (Instr.findKey 3 (.int .i64 n) E.toList).run Tryz.prog (w.alloc (.map E c)) = .ok r (w.alloc (.map E c)) := by
    simp [Instr.findKey, run_underlying Tryz.underlying3, h]
  subst hv
  cases r with
  | none => simp [resOf, Instr.lookup, run_underlying Tryz.underlying77, Go.MapKept.run_getObj_map hb, hk, hf, hz]
  | some p => simp [resOf, Instr.lookup, run_underlying Tryz.underlying77, Go.MapKept.run_getObj_map hb, hk, hf]

theorem vf_look (k : Int) : ∃ r, Instr.findNow (.int .i64) (.int .i64 k) #[(⟨.int .i64 1, .func (.func 31) #[] #[], 0⟩ : MapEntry), ⟨.int .i64 2, .func (.func 32) #[] #[], 1⟩, ⟨.int .i64 3, .func (.func 33) #[] #[], 2⟩].toList 0 = some r ∧ resOf r = vfOf k := by
  unfold vfOf
  by_cases h1 : k = 1
  · subst h1; exact ⟨some (0, _), rfl, rfl⟩
  · by_cases h2 : k = 2
    · subst h2; exact ⟨some (1, _), rfl, rfl⟩
    · by_cases h3 : k = 3
      · subst h3; exact ⟨some (2, _), rfl, rfl⟩
      · have e1 : (k == 1) = false := by simpa using h1
        have e2 : (k == 2) = false := by simpa using h2
        have e3 : (k == 3) = false := by simpa using h3
        exact ⟨none, by simp [Instr.findNow, Instr.sameNow, e1, e2, e3], by simp [resOf, h1, h2, h3]⟩
set_option maxHeartbeats 1000000 in
set_option maxRecDepth 100000 in
theorem verifier_any (k : Int) (w : World) : Calls Tryz.prog 18 #[.int .i64 k] w fun e w' => e = .returned (vfOf k) ∧ Below w.heap.size w w' := by
  have h0 := fun W => run_newMap 77 W
  have h1 := run_ins #[] 0 1 (.func (.func 31) #[] #[]) w rfl
  have h2 := run_ins #[⟨.int .i64 1, .func (.func 31) #[] #[], 0⟩] 1 2 (.func (.func 32) #[] #[]) w rfl
  have h3 := run_ins #[⟨.int .i64 1, .func (.func 31) #[] #[], 0⟩, ⟨.int .i64 2, .func (.func 32) #[] #[], 1⟩] 2 3 (.func (.func 33) #[] #[]) w rfl
  obtain ⟨r, hr, hv⟩ := vf_look k
  have h4 := run_look _ 3 k r w hr _ hv
  clear hr hv
  simp only [List.push_toArray, List.cons_append, List.nil_append] at h1 h2 h3
  go_enter Tryz.func18, Tryz.ntmps18
  go_wp2
  go_ret
  exact ⟨rfl, (Below.refl _ _).alloc (Nat.le_refl _) _⟩
end Go.Proofs.YtadgamfhlklemaaGreatDoor
