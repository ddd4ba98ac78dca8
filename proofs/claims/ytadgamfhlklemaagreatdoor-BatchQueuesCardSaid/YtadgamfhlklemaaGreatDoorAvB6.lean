/- Push and Pop of the line. -/
import Derived.Test.YtadgamfhlklemaaGreatDoorAvB5
import Derived.Test.YtadgamfhlklemaaGreatDoorAvR
namespace Go.Proofs.YtadgamfhlklemaaGreatDoor
open Go.RowKit
theorem infoWait : (Tryz.prog.info? 65).map (fun i => (i.zero, i.size, i.bytes)) = some (some (.agg #[.int .i64 0, .int .i64 0, .slice none 0 0, .slice none 0 0, .slice none 0 0, .int .i64 0, .int .i64 0, .int .i64 0]), 8, 112) := by kernel_rfl

/-- A row as cells in a list. -/
def flat (js : List Wt) : List Value := js.flatMap Wt.cells
theorem flat_length (js : List Wt) : (flat js).length = js.length * 8 := by
  induction js with
  | nil => rfl
  | cons x r ih => simp only [flat, List.flatMap_cons, List.length_append, Wt.cells_length, List.length_cons] at ih ⊢; omega
theorem flat_at (js : List Wt) (i : Nat) (hi : i < js.length) (k : Nat) (hk : k < 8) : (flat js)[i * 8 + k]? = (js[i]).cells[k]? := by
  induction js generalizing i with
  | nil => simp at hi
  | cons x r ih =>
    cases i with
    | zero => simp only [flat, List.flatMap_cons, Nat.zero_mul, Nat.zero_add, List.getElem_cons_zero]; rw [List.getElem?_append_left (by rw [x.cells_length]; exact hk)]
    | succ i =>
      simp only [flat, List.flatMap_cons, List.getElem_cons_succ]
      rw [List.getElem?_append_right (by rw [x.cells_length]; omega), x.cells_length, show (i + 1) * 8 + k - 8 = i * 8 + k from by omega]
      exact ih i (by simpa using hi)
theorem flat_append (js ks : List Wt) : flat (js ++ ks) = flat js ++ flat ks := by simp [flat]
/-- The line as append's law has it, and back. -/
structure Ln (w : World) (base : Nat) (v : Value) (js : List Wt) : Prop where
  or_ : (v = .slice none 0 0 ∧ js = []) ∨ ∃ g cap, v = .slice (some ⟨g, 0, none⟩) js.length cap ∧ base ≤ g ∧ Row w g cap js
theorem Ln.own {w : World} {base : Nat} {v : Value} {js : List Wt} (h : Ln w base v js) : w.ownsRow base 65 8 v js.length (flat js) := by
  refine ⟨flat_length js, ?_⟩
  rcases h.or_ with ⟨rfl, rfl⟩ | ⟨g, cap, rfl, hb, hr⟩
  · exact .inl ⟨rfl, rfl⟩
  · obtain ⟨cur, hc, hs⟩ := hr.blk
    refine .inr ⟨g, cap, cur, rfl, hb, hc, hr.le, hr.max, hs, ?_⟩
    have hle := hr.le
    apply List.ext_getElem?
    intro k
    by_cases hk : k < js.length * 8
    · have hk8 : k = k / 8 * 8 + k % 8 := by omega
      have h2 := (hr.at_ (k / 8) (by omega)).at_ (k % 8) (by omega)
      rw [← flat_at js (k / 8) (by omega) (k % 8) (by omega), ← hk8] at h2
      rw [← h2, List.getElem?_take_of_lt hk, cell_of_row w g k cur 65 (0, 0) hc]
      simp
    · rw [List.getElem?_eq_none (by rw [List.length_take]; omega), List.getElem?_eq_none (by rw [flat_length]; omega)]
theorem Ln.of_own {w : World} {base n : Nat} {v : Value} {js : List Wt} (hn : n = js.length) (h : w.ownsRow base 65 8 v n (flat js)) : Ln w base v js := by
  subst hn
  rcases h.2 with ⟨rfl, h0⟩ | ⟨g, cap, cur, rfl, hb, hc, hle, hm, hs, ht⟩
  · exact ⟨.inl ⟨rfl, List.eq_nil_of_length_eq_zero h0⟩⟩
  · refine ⟨.inr ⟨g, cap, rfl, hb, ⟨cur, hc, hs⟩, hle, hm, fun i hi => At.of _ _ _ _ fun k hk => ?_⟩⟩
    rw [cell_of_row w g _ cur 65 (0, 0) hc, ← flat_at js i hi k hk, ← ht, List.getElem?_take_of_lt (by omega)]
    simp
/-- What may turn: block q, and rows of waiting ones that came about behind B. -/
structure Kept (B q : Nat) (w w' : World) : Prop where
  os : w'.os = w.os
  tape : w'.tape = w.tape
  output : w'.output = w.output
  size : w.heap.size ≤ w'.heap.size
  block : ∀ k, k < w.heap.size → k ≠ q → (k < B ∨ ∀ cs f, w.heap[k]? ≠ some (.cells cs 65 f)) → w'.heap[k]? = w.heap[k]?
theorem Kept.refl (B q : Nat) (w : World) : Kept B q w w := ⟨rfl, rfl, rfl, Nat.le_refl _, fun _ _ _ _ => rfl⟩
theorem Kept.trans {B q : Nat} {a b c : World} (h : Kept B q a b) (k : Kept B q b c) : Kept B q a c :=
  ⟨k.os.trans h.os, k.tape.trans h.tape, k.output.trans h.output, Nat.le_trans h.size k.size, fun i hi hn ho => by
    have e := h.block i hi hn ho
    rw [← e]
    exact k.block i (Nat.lt_of_lt_of_le hi h.size) hn (ho.imp id fun f cs fr => by rw [e]; exact f cs fr)⟩
theorem Kept.of_below {B q : Nat} {w w' : World} (h : Below w.heap.size w w') : Kept B q w w' := ⟨h.os, h.tape, h.output, h.size, fun i hi _ _ => h.block i hi⟩
theorem Kept.of_grown {B q : Nat} {w w' : World} {row : Option Nat} (h : w.grownBy w' row) (hr : ∀ g, row = some g → B ≤ g ∧ ∃ cs f, w.heap[g]? = some (.cells cs 65 f)) : Kept B q w w' :=
  ⟨h.os, h.tape, h.output, h.size, fun i hi _ ho => h.block i hi (fun e => by
    obtain ⟨h1, cs, f, h2⟩ := hr i e.symm
    rcases ho with ho | ho
    · omega
    · exact ho cs f h2)⟩
theorem Kept.setCell {B q : Nat} {a w : World} (h : Kept B q a w) (o : Nat) (u : Value) : Kept B q a (w.setCell ⟨q, o, none⟩ u) :=
  ⟨h.os, h.tape, h.output, by simpa [World.setCell] using h.size, fun i hi hn ho => (Below.heap_setCell w ⟨q, o, none⟩ u i hn).trans (h.block i hi hn ho)⟩
theorem Kept.drew {B q : Nat} {a w : World} (h : Kept B q a w) : Kept B q a w.drew := ⟨h.os, h.tape, h.output, h.size, h.block⟩
theorem own_blk_ne {w : World} {base g : Nat} {e t : TypeId} {size n : Nat} {v : Value} {xs : List Value} {cs : Array Value} (h : w.ownsRow base e size v n xs) (hg : Blk w g t cs) (hne : e ≠ t) : v.ownBlock ≠ some g := by
  rcases h.2 with ⟨rfl, _⟩ | ⟨g', cap, cur, rfl, _, hh, _⟩
  · simp [Value.ownBlock]
  · intro he
    have : g' = g := by simpa [Value.ownBlock] using he
    subst this
    exact Blk.ne_ (t := e) hh hg hne rfl
theorem own_below {w w' : World} {base : Nat} {e : TypeId} {size n : Nat} {v : Value} {xs : List Value} (h : w.ownsRow base e size v n xs) (hb : Below w.heap.size w w') : w'.ownsRow base e size v n xs :=
  h.kept (below_grown hb none) (by cases v.ownBlock <;> simp)
theorem Reads.cells_at {w : World} {B g t : Nat} {cs : Array Value} {n size : Nat} (h : Blk w g t cs) (hB : g < B) (hs : cs.size = n * size) : Reads w B size (some ⟨g, 0, none⟩) n cs.toList :=
  ⟨by simpa using hs, fun _ => ⟨_, rfl, hB, fun j u hu => by
    have hadd : (⟨g, 0, none⟩ : Addr).add j = ⟨g, j, none⟩ := by unfold Addr.add; split <;> simp_all
    rw [hadd, h.cell j]
    simpa using hu⟩⟩
theorem ta_wait (cs : Array Value) (w : World) : (Instr.typeAssert (.iface 65 (.agg cs)) 20 65 true).run Tryz.prog w = .ok (.tuple #[.agg cs, .bool true]) w := by kernel_rfl
set_option maxHeartbeats 1000000 in
set_option maxRecDepth 100000 in
theorem lpush_any (w : World) (base q : Nat) (v : Value) (last : Int) (js : List Wt) (x : Wt) (hn1 : js.length ≤ 1000000) (hbase : base ≤ w.heap.size) (hq : Blk w q 27 #[v, .int .i64 last]) (hl : Ln w base v js) :
    Calls Tryz.prog 328 #[.pointer (some ⟨q, 0, none⟩), .iface 65 (.agg #[.int .i64 x.kind, .int .i64 x.backend, x.st.v, x.ms.v, x.pf.v, .int .i64 x.rounds, .int .i64 x.degree, .int .i64 x.ticket])] w fun e w' => e = .returned (.tuple #[]) ∧ Kept base q w w' ∧ ∃ v', Blk w' q 27 #[v', .int .i64 last] ∧ Ln w' base v' (js ++ [x]) := by
  obtain ⟨i0, hi0, hz0, hz1, hz2⟩ := info_parts infoWait
  have hown := hl.own
  have hc : w.cell? ⟨q, 0, none⟩ = some v := hq.cell 0
  have hc2 : ∀ o, (w.alloc o).cell? ⟨q, 0, none⟩ = some v := fun o => (hq.alloc o).cell 0
  have hc3 : ∀ o1 o2, ((w.alloc o1).alloc o2).cell? ⟨q, 0, none⟩ = some v := fun o1 o2 => ((hq.alloc o1).alloc o2).cell 0
  obtain ⟨A, c, rfl⟩ : ∃ A c, v = .slice A js.length c := by
    rcases hl.or_ with ⟨rfl, rfl⟩ | ⟨g, cap, rfl, _⟩
    · exact ⟨none, 0, rfl⟩
    · exact ⟨_, _, rfl⟩
  have hta := fun W => ta_wait #[.int .i64 x.kind, .int .i64 x.backend, x.st.v, x.ms.v, x.pf.v, .int .i64 x.rounds, .int .i64 x.degree, .int .i64 x.ticket] W
  have hb2 : ∀ o1 o2, Below w.heap.size w ((w.alloc o1).alloc o2).drew := fun o1 o2 => (((Below.refl _ _).alloc (Nat.le_refl _) _).alloc (by simp) _).drew
  have W2own : ∀ o1 o2, ((w.alloc o1).alloc o2).drew.ownsRow base 65 8 (.slice A js.length c) js.length (flat js) := fun o1 o2 => own_below hown (hb2 o1 o2)
  have W2reads : ∀ o1, Reads ((w.alloc o1).alloc (.cells x.cells.toArray 65)).drew (w.heap.size + 2) 8 (some ⟨w.heap.size + 1, 0, none⟩) 1 x.cells := fun o1 => by
    have h1 := Blk.new (w.alloc o1) 65 x.cells.toArray
    simp only [World.size_alloc] at h1
    exact Reads.cells_at (n := 1) (size := 8) h1.drew (by omega) rfl
  have hone : ∀ u ∈ x.cells, u.oneCell' = true := by
    intro u hu
    simp only [Wt.cells, List.mem_cons, List.not_mem_nil, or_false] at hu
    rcases hu with rfl | rfl | rfl | rfl | rfl | rfl | rfl | rfl <;> rfl
  have h63 : js.length + 1 ≤ maxLen := by simp only [maxLen]; omega
  have hby : (js.length + 1) * 112 ≤ 140737488355328 := by omega
  have hb3 : ∀ o1 o2, base ≤ ((w.alloc o1).alloc o2).drew.heap.size := fun o1 o2 => Nat.le_trans hbase (hb2 o1 o2).size
  have hqk : ∀ o1 o2 w1, ((w.alloc o1).alloc o2).drew.grownBy w1 (Value.ownBlock (.slice A js.length c)) → Blk w1 q 27 #[.slice A js.length c, .int .i64 last] := fun o1 o2 w1 hg => (hq.below (hb2 o1 o2) hq.lt).grown hg (Ne.symm (own_blk_ne hown hq (by decide)))
  have hkk : ∀ o1 o2 w1, ((w.alloc o1).alloc o2).drew.grownBy w1 (Value.ownBlock (.slice A js.length c)) → Kept base q w w1 := fun o1 o2 w1 hg => (Kept.of_below (hb2 o1 o2)).trans (Kept.of_grown hg (fun g hg' => by
    have hl := (own_below hown (hb2 o1 o2)).lt g hg'
    refine ⟨hl.1, ?_⟩
    rcases (own_below hown (hb2 o1 o2)).2 with ⟨e, _⟩ | ⟨g', cap, cur, e, _, hh, _⟩
    · rw [e] at hg'; simp [Value.ownBlock] at hg'
    · rw [e] at hg'
      have : g' = g := by simpa [Value.ownBlock] using hg'
      subst this
      exact ⟨_, _, hh⟩))
  have HQK := Lib.hid hqk
  have HKK := Lib.hid hkk
  clear hqk hkk
  go_enter Tryz.func328, Tryz.ntmps328
  go_wp2
  go_region_law ((refine step_append_any _ rfl (.tmp 15) (.tmp 17) 25 rfl base 65 i0 _ 8 112 Tryz.underlying25 hi0 hz0 hz1 hz2 rfl ?_ (.slice A js.length c) js.length (flat js) rfl (W2own _ _) (w.heap.size + 2) (some ⟨w.heap.size + 1, 0, none⟩) 1 1 x.cells rfl (W2reads _) hone h63 hby (hb3 _ _) ?_; decide; intro v' w1 hown1 hg1 hat1; obtain ⟨A1, c1, rfl⟩ := own_form hown1; have hq1 := HQK.out _ _ _ hg1; have hk1 := HKK.out _ _ _ hg1; have hcq := hq1.cell 0; have hfq := hq1.frozen 0; clear W2own W2reads hone hb3 hb2 hc hc2 hc3 hta))
  all_goals
    go_end0
    refine ⟨rfl, hk1.setCell 0 _, _, hq1.set_ 0 _, ?_⟩
    have e1 : flat js ++ x.cells = flat (js ++ [x]) := by rw [flat_append]; simp [flat]
    rw [e1] at hown1
    refine Ln.of_own (n := js.length + 1) (by simp) ?_
    exact hown1.kept (only_setCells w1 q 0 [.slice A1 (js.length + 1) c1]) (.inr (fun e => own_blk_ne hown1 hq1 (by decide) e))
end Go.Proofs.YtadgamfhlklemaaGreatDoor
