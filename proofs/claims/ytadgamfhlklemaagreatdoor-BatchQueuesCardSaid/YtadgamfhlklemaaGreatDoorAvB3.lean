/- Rows under a swap; the methods of the line behind the interface. -/
import Derived.Test.YtadgamfhlklemaaGreatDoorAvB2
namespace Go.Proofs.YtadgamfhlklemaaGreatDoor
open Go.RowKit

theorem setCells_keeps (g : Nat) : ∀ (vs : List Value) (o : Nat) (w : World), (w.setCells g o vs).os = w.os ∧ (w.setCells g o vs).tape = w.tape ∧ (w.setCells g o vs).output = w.output ∧ (w.setCells g o vs).heap.size = w.heap.size ∧ (∀ k, k ≠ g → (w.setCells g o vs).heap[k]? = w.heap[k]?) ∧
    (∀ cur e fr, w.heap[g]? = some (.cells cur e fr) → ∃ cur', (w.setCells g o vs).heap[g]? = some (.cells cur' e fr) ∧ cur'.size = cur.size)
  | [], o, w => ⟨rfl, rfl, rfl, rfl, fun _ _ => rfl, fun cur _ _ h => ⟨cur, h, rfl⟩⟩
  | v :: r, o, w => by
    obtain ⟨h1, h2, h3, h4, h5, h6⟩ := setCells_keeps g r (o + 1) (w.setCell ⟨g, o, none⟩ v)
    refine ⟨h1, h2, h3, by rw [World.setCells, h4]; simp [World.setCell], fun k hk => ?_, fun cur e fr h => ?_⟩
    · rw [World.setCells, h5 k hk]
      exact Below.heap_setCell w ⟨g, o, none⟩ v k hk
    · obtain ⟨cur', e1, e2⟩ := h6 (cur.setIfInBounds o v) e fr (by simp [World.setCell, Array.getElem?_modify, h])
      exact ⟨cur', e1, by simpa using e2⟩

theorem Wt.cells_length (x : Wt) : x.cells.length = 8 := rfl

theorem At.some_ {w : World} {g o : Nat} {x : Wt} (h : At w g o x) (k : Nat) (hk : k < 8) : (w.cell? ⟨g, o + k, none⟩).isSome = true := by
  rw [h.at_ k hk, List.getElem?_eq_getElem (by rw [x.cells_length]; exact hk)]
  rfl
theorem At.set_same {w : World} {g o : Nat} {x : Wt} (h : At w g o x) (y : Wt) : At (w.setCells g o y.cells) g o y :=
  At.of _ _ _ _ fun k hk => by
    rw [World.cell?_setCells_in g y.cells o w (fun j hj => h.some_ j (by have := y.cells_length; omega)) k (by have := y.cells_length; omega)]
    rw [List.getElem?_eq_getElem]
theorem At.set_other {w : World} {g o o' : Nat} {x : Wt} (h : At w g o x) (y : Wt) (hne : o + 8 ≤ o' ∨ o' + 8 ≤ o) : At (w.setCells g o' y.cells) g o x :=
  At.of _ _ _ _ fun k hk => by
    rw [World.cell?_setCells_out g y.cells o' w _ (fun _ _ => by simp only [y.cells_length]; omega)]
    exact h.at_ k hk

theorem Row.set {w : World} {g cap : Nat} {js : List Wt} (h : Row w g cap js) (i : Nat) (hi : i < js.length) (y : Wt) : Row (w.setCells g (i * 8) y.cells) g cap (js.set i y) := by
  obtain ⟨cur, hc, hs⟩ := h.blk
  obtain ⟨cur', e1, e2⟩ := (setCells_keeps g y.cells (i * 8) w).2.2.2.2.2 cur _ _ hc
  refine ⟨⟨cur', e1, by omega⟩, by simpa using h.le, h.max, fun k hk => ?_⟩
  have hk' : k < js.length := by simpa using hk
  rcases Nat.lt_trichotomy k i with hlt | heq | hgt
  · have := (h.at_ k hk').set_other (o' := i * 8) y (by omega)
    rw [List.getElem_set_ne (by omega)]
    exact this
  · subst heq
    rw [List.getElem_set_self]
    exact (h.at_ k hk').set_same y
  · have := (h.at_ k hk').set_other (o' := i * 8) y (by omega)
    rw [List.getElem_set_ne (by omega)]
    exact this
theorem Row.same {w w' : World} {g cap : Nat} {js : List Wt} (h : Row w g cap js) (hg : w'.heap[g]? = w.heap[g]?) : Row w' g cap js := by
  obtain ⟨cur, hc, hs⟩ := h.blk
  exact ⟨⟨cur, hg.trans hc, hs⟩, h.le, h.max, fun i hi => (h.at_ i hi).cell_same hg⟩
theorem Row.drew {w : World} {g cap : Nat} {js : List Wt} (h : Row w g cap js) : Row w.drew g cap js := ⟨h.blk, h.le, h.max, fun i hi => (h.at_ i hi).cell_same rfl⟩
theorem Row.lt {w : World} {g cap : Nat} {js : List Wt} (h : Row w g cap js) : g < w.heap.size := by
  obtain ⟨cur, hc, hs⟩ := h.blk
  exact Blk.lt hc
theorem Row.frozen {w : World} {g cap : Nat} {js : List Wt} (h : Row w g cap js) (o : Nat) : w.frozen? ⟨g, o, none⟩ = false := by
  obtain ⟨cur, hc, hs⟩ := h.blk
  exact Blk.frozen hc o
theorem Row.below {w w' : World} {g cap : Nat} {js : List Wt} (h : Row w g cap js) (hb : Below w.heap.size w w') : Row w' g cap js := h.same (hb.block g h.lt)

/-- Two places changed for one another. -/
def swapL (js : List Wt) (i j : Nat) (hi : i < js.length) (hj : j < js.length) : List Wt := (js.set i js[j]).set j js[i]
theorem swapL_length (js : List Wt) (i j : Nat) (hi : i < js.length) (hj : j < js.length) : (swapL js i j hi hj).length = js.length := by simp [swapL]
/-- Only block g has turned, beside what is new. -/
abbrev Only (w w' : World) (g : Nat) : Prop := w.grownBy w' (some g)
theorem only_of_below {a w : World} (h : Below a.heap.size a w) (g : Nat) : Only a w g := ⟨h.os, h.tape, h.output, h.size, fun i hi _ => h.block i hi⟩
theorem only_trans {a b c : World} {g : Nat} (h : Only a b g) (k : Only b c g) : Only a c g :=
  ⟨k.os.trans h.os, k.tape.trans h.tape, k.output.trans h.output, Nat.le_trans h.size k.size, fun i hi hn => (k.block i (Nat.lt_of_lt_of_le hi h.size) hn).trans (h.block i hi hn)⟩
theorem only_refl (w : World) (g : Nat) : Only w w g := ⟨rfl, rfl, rfl, Nat.le_refl _, fun _ _ _ => rfl⟩
theorem only_setCells (w : World) (g o : Nat) (vs : List Value) : Only w (w.setCells g o vs) g := by
  obtain ⟨h1, h2, h3, h4, h5, _⟩ := setCells_keeps g vs o w
  exact ⟨h1, h2, h3, by omega, fun i _ hn => h5 i (fun e => hn (by rw [e]))⟩
theorem only_drew {a w : World} {g : Nat} (h : Only a w g) : Only a w.drew g := ⟨h.os, h.tape, h.output, h.size, h.block⟩

theorem swap_row (w : World) (g cap i j : Nat) (js : List Wt) (hi : i < js.length) (hj : j < js.length) (hn : js.length ≤ 1000000) (hr : Row w g cap js) :
    Calls Tryz.prog 325 #[.slice (some ⟨g, 0, none⟩) js.length cap, .int .i64 i, .int .i64 j] w fun e w' => e = .returned (.tuple #[]) ∧ Row w' g cap (swapL js i j hi hj) ∧ Only w w' g := by
  by_cases hij : i = j
  · subst hij
    refine (swap_same w g js.length cap i js[i] hi hn hr.frozen (hr.at_ i hi)).mono ?_
    rintro e w' ⟨he, rfl⟩
    refine ⟨he, ?_, only_drew (only_trans (only_setCells _ _ _ _) (only_setCells _ _ _ _))⟩
    have h1 := (hr.set i hi js[i]).set i (by simpa using hi) js[i]
    exact h1.drew
  · refine (swap_any w g js.length cap i j js[i] js[j] hi hj hij hn hr.frozen (hr.at_ i hi) (hr.at_ j hj)).mono ?_
    rintro e w' ⟨he, rfl⟩
    refine ⟨he, ?_, only_drew (only_trans (only_setCells _ _ _ _) (only_setCells _ _ _ _))⟩
    exact ((hr.set i hi js[j]).set j (by simpa using hj) js[i]).drew

noncomputable def ldOr (q : Nat) (f : Nat) (W : World) : Result (FuncId × Value) := match W.cell? ⟨q,0,none⟩ with
  | some v => .ok (f, v) W
  | none => match W.farLoad Tryz.prog ⟨q,0,none⟩ false with | .ok (v,_) => .ok (f, v) W | .error h => .halt h W
theorem meth_len0 (q : Nat) (W : World) : (method 623 63 (.pointer (some ⟨q, 0, none⟩)) "Len").run Tryz.prog W = ldOr q 19 W := by kernel_rfl
theorem meth_less0 (q : Nat) (W : World) : (method 623 63 (.pointer (some ⟨q, 0, none⟩)) "Less").run Tryz.prog W = ldOr q 324 W := by kernel_rfl
theorem meth_swap0 (q : Nat) (W : World) : (method 623 63 (.pointer (some ⟨q, 0, none⟩)) "Swap").run Tryz.prog W = ldOr q 325 W := by kernel_rfl
theorem meth_push (q : Nat) (w : World) : (method 623 63 (.pointer (some ⟨q, 0, none⟩)) "Push").run Tryz.prog w = .ok (328, .pointer (some ⟨q, 0, none⟩)) w := by kernel_rfl
theorem meth_pop (q : Nat) (w : World) : (method 623 63 (.pointer (some ⟨q, 0, none⟩)) "Pop").run Tryz.prog w = .ok (327, .pointer (some ⟨q, 0, none⟩)) w := by kernel_rfl
theorem meth_len {q : Nat} {W : World} {v : Value} (h : W.cell? ⟨q,0,none⟩ = some v) : (method 623 63 (.pointer (some ⟨q, 0, none⟩)) "Len").run Tryz.prog W = .ok (19, v) W := by rw [meth_len0, ldOr, h]
theorem meth_less {q : Nat} {W : World} {v : Value} (h : W.cell? ⟨q,0,none⟩ = some v) : (method 623 63 (.pointer (some ⟨q, 0, none⟩)) "Less").run Tryz.prog W = .ok (324, v) W := by rw [meth_less0, ldOr, h]
theorem meth_swap {q : Nat} {W : World} {v : Value} (h : W.cell? ⟨q,0,none⟩ = some v) : (method 623 63 (.pointer (some ⟨q, 0, none⟩)) "Swap").run Tryz.prog W = .ok (325, v) W := by rw [meth_swap0, ldOr, h]

theorem len_any (A : Option Addr) (n c : Nat) (w : World) : Calls Tryz.prog 19 #[.slice A n c] w fun e w' => e = .returned (.int .i64 n) ∧ w = w' := by
  go_enter Tryz.func19, Tryz.ntmps19
  go_wp2
  go_ret
  exact ⟨rfl, rfl⟩
end Go.Proofs.YtadgamfhlklemaaGreatDoor
