/- Memory words for the batch walks: a queue's element as eight cells; frames. Conditions: none. -/
import Derived.Test.YtadgamfhlklemaaGreatDoorAvP0
import Derived.Test.YtadgamfhlklemaaGreatDoorProg
import Derived.WalkKit
import Derived.Below
import Derived.Laws.OwnMore
import Derived.Deep.Draws
import Derived.Deep.LoopGhost
import Derived.Deep.QuietTactic
import Derived.BigQuiet
import Derived.BigRegion
import Derived.Deep.RegionWith
import Derived.Deep.RegionHeld3
import Derived.Deep.RegionLaw
import Derived.Deep.DeepCutAuto
import Derived.Outline
import Derived.KernelRfl
import Derived.Lib.Hide
import Derived.WalkSpells
namespace Go.Proofs.YtadgamfhlklemaaGreatDoor
open Go.RowKit

/-! ### Blocks known whole -/
def Blk (w : World) (g : Nat) (t : TypeId) (cs : Array Value) : Prop := w.heap[g]? = some (.cells cs t (0, 0))
section
variable {w w' : World} {g : Nat} {t : TypeId} {cs : Array Value}
theorem Blk.lt (h : Blk w g t cs) : g < w.heap.size := by
  rcases Nat.lt_or_ge g w.heap.size with hlt | hge
  · exact hlt
  · unfold Blk at h; rw [Array.getElem?_eq_none hge] at h; cases h
theorem Blk.cell (h : Blk w g t cs) (i : Nat) : w.cell? ⟨g, i, none⟩ = cs[i]? := cell_of_row w g i cs t (0, 0) h
theorem Blk.frozen (h : Blk w g t cs) (i : Nat) : w.frozen? ⟨g, i, none⟩ = false := by
  unfold Blk at h
  simp [World.frozen?, h]
theorem Blk.new (w : World) (t : TypeId) (cs : Array Value) : Blk (w.alloc (.cells cs t)) w.heap.size t cs := heap_alloc_new w _
theorem Blk.drew (h : Blk w g t cs) : Blk w.drew g t cs := h
theorem Blk.drewN (h : Blk w g t cs) (n : Nat) : Blk (w.drewN n) g t cs := h
theorem Blk.alloc (h : Blk w g t cs) (o : Obj) : Blk (w.alloc o) g t cs := (Below.heap_alloc w o g h.lt).trans h
theorem Blk.set_ (h : Blk w g t cs) (i : Nat) (u : Value) : Blk (w.setCell ⟨g, i, none⟩ u) g t (cs.setIfInBounds i u) := by
  unfold Blk at h ⊢
  simp [World.setCell, Array.getElem?_modify, h]
theorem Blk.far (h : Blk w g t cs) {p : Addr} (hp : g ≠ p.block) (u : Value) : Blk (w.setCell p u) g t cs := (Below.heap_setCell w p u g hp).trans h
theorem Blk.below {B : Nat} (h : Blk w g t cs) (hb : Below B w w') (hg : g < B) : Blk w' g t cs := (hb.block g hg).trans h
theorem Blk.grown {row : Option Nat} (h : Blk w g t cs) (hb : w.grownBy w' row) (hg : some g ≠ row) : Blk w' g t cs := (hb.block g h.lt hg).trans h
theorem Blk.ne_ {g' : Nat} {t' : TypeId} {cs' : Array Value} (h : Blk w g t cs) (h' : Blk w g' t' cs') (hne : t ≠ t') : g ≠ g' := by
  rintro rfl
  unfold Blk at h h'
  rw [h] at h'
  injection h' with h'
  injection h' with _ ht
  exact hne ht
end

/-! ### Frames -/
theorem below_drew {B : Nat} {w W : World} (h : Below B w W) : Below B w W.drew := ⟨h.os, h.tape, h.output, h.size, h.block⟩
theorem below_drewN {B : Nat} {w W : World} (h : Below B w W) (n : Nat) : Below B w (W.drewN n) := ⟨h.os, h.tape, h.output, h.size, h.block⟩
theorem below_alloc {B : Nat} {w W : World} (h : Below B w W) (hB : B ≤ w.heap.size) (o : Obj) : Below B w (W.alloc o) := h.alloc (Nat.le_trans hB h.size) o
theorem below_then {B : Nat} {w w1 w2 : World} (h : Below B w w1) (hB : B ≤ w1.heap.size) (k : Below w1.heap.size w1 w2) : Below B w w2 :=
  h.trans ⟨k.os, k.tape, k.output, k.size, fun i hi => k.block i (Nat.lt_of_lt_of_le hi hB)⟩
theorem below_via {w w1 w2 : World} {S : Prop} (h : Below w.heap.size w w1 ∧ S) (k : Below w1.heap.size w1 w2) : Below w.heap.size w w2 := below_then h.1 h.1.size k
theorem below_grown {w w1 : World} (h : Below w.heap.size w w1) (row : Option Nat) : w.grownBy w1 row := ⟨h.os, h.tape, h.output, h.size, fun i hi _ => h.block i hi⟩

structure At (w : World) (g o : Nat) (x : Wt) : Prop where
  c0 : w.cell? ⟨g, o, none⟩ = some (.int .i64 x.kind)
  c1 : w.cell? ⟨g, o+1, none⟩ = some (.int .i64 x.backend)
  c2 : w.cell? ⟨g, o+2, none⟩ = some (x.st.v)
  c3 : w.cell? ⟨g, o+3, none⟩ = some (x.ms.v)
  c4 : w.cell? ⟨g, o+4, none⟩ = some (x.pf.v)
  c5 : w.cell? ⟨g, o+5, none⟩ = some (.int .i64 x.rounds)
  c6 : w.cell? ⟨g, o+6, none⟩ = some (.int .i64 x.degree)
  c7 : w.cell? ⟨g, o+7, none⟩ = some (.int .i64 x.ticket)
theorem At.of (w : World) (g o : Nat) (x : Wt) (h : ∀ k, k < 8 → w.cell? ⟨g, o + k, none⟩ = x.cells[k]?) : At w g o x :=
  ⟨h 0 (by omega), h 1 (by omega), h 2 (by omega), h 3 (by omega), h 4 (by omega), h 5 (by omega), h 6 (by omega), h 7 (by omega)⟩
theorem At.at_ {w : World} {g o : Nat} {x : Wt} (h : At w g o x) : ∀ k, k < 8 → w.cell? ⟨g, o + k, none⟩ = x.cells[k]? := fun k hk => by
  obtain ⟨h0, h1, h2, h3, h4, h5, h6, h7⟩ := h
  match k, hk with
  | 0, _ => exact h0
  | 1, _ => exact h1
  | 2, _ => exact h2
  | 3, _ => exact h3
  | 4, _ => exact h4
  | 5, _ => exact h5
  | 6, _ => exact h6
  | 7, _ => exact h7
theorem At.cell_same {w w' : World} {g o : Nat} {x : Wt} (h : At w g o x) (hc : w'.heap[g]? = w.heap[g]?) : At w' g o x := by
  have e : ∀ a : Addr, a.block = g → w'.cell? a = w.cell? a := fun a ha => World.cell?_of_block (by rw [ha]; exact hc)
  obtain ⟨h0, h1, h2, h3, h4, h5, h6, h7⟩ := h
  exact ⟨(e _ rfl).trans h0, (e _ rfl).trans h1, (e _ rfl).trans h2, (e _ rfl).trans h3, (e _ rfl).trans h4, (e _ rfl).trans h5, (e _ rfl).trans h6, (e _ rfl).trans h7⟩

/-- The row of the waiting ones: block g, room for cap of them, holds js. -/
structure Row (w : World) (g cap : Nat) (js : List Wt) : Prop where
  blk : ∃ cur, w.heap[g]? = some (.cells cur 65 (0, 0)) ∧ cur.size = cap * 8
  le : js.length ≤ cap
  max : cap ≤ maxLen
  at_ : ∀ i (h : i < js.length), At w g (i * 8) js[i]
/-- The queue's variable at block q: the line is v, the last ticket. -/
structure Qu (w : World) (base q : Nat) (js : List Wt) (last : Int) : Prop where
  line : ∃ v, Blk w q 27 #[v, .int .i64 last] ∧ ((v = .slice none 0 0 ∧ js = []) ∨ ∃ g cap, v = .slice (some ⟨g, 0, none⟩) js.length cap ∧ base ≤ g ∧ Row w g cap js)
end Go.Proofs.YtadgamfhlklemaaGreatDoor
