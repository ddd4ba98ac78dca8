/- How an argument that is a slice of acts is read: nine cells an act, the slices of bytes inside. -/
import Derived.Test.YtadgamfhlklemaaGreatDoorAvQ2
import Derived.Test.YtadgamfhlklemaaGreatDoorAvG1
import Derived.Deep.Slices
namespace Go.Proofs.YtadgamfhlklemaaGreatDoor.Rw
open Go.ChangeShapes Go.WideShapes Go.RowKit Go.Deep
section
variable {H : Type} {enc : TypeId × Value → H} {W : World} {sp : Nat → Bool} {hd : Bool}
set_option maxRecDepth 100000 in
theorem trod_bytes {fuel : Nat} {cs : List Value} {x : DataW H × List MemPlace} (hf : DataW.trod enc Tryz.prog W 0 sp hd fuel 31 cs = some x) : ∃ s : Sl, cs = [s.v] ∧ BytesIn W s := by
  rcases open_ints Tryz.underlying31 Tryz.underlying5 (by kernel_rfl) hf with ⟨hcs, _⟩ | ⟨a, len, cap, zs, hcs, _, hl, _, hz, _, hcell, hw⟩
  · exact ⟨⟨none, 0, 0⟩, hcs, [], Reads.none_, by simp⟩
  · have hlz : len ≤ zs.length := by rw [hz]; split <;> omega
    refine ⟨⟨some a, len, cap⟩, hcs, zs.take len, ⟨by simp; omega, fun hn => ⟨a, rfl, ?_, fun j u hu => ?_⟩⟩, fun z hz => ?_⟩
    · have := World.block_lt_of_cell? _ _ (hcell 0 (by show 0 < zs.length; have : 0 < len := hn; omega))
      rwa [block_of_add] at this
    · rw [List.getElem?_map, List.getElem?_take] at hu
      split at hu
      · obtain ⟨z, hz, rfl⟩ := Option.map_eq_some_iff.1 hu
        have hj := hcell j (by omega)
        simp [hj, List.getD, hz]
      · cases hu
    · exact bounds_u8 (hw z (List.mem_of_mem_take hz))
theorem got {xs : List (DataW H × List MemPlace)} {n i : Nat} {o : Option (DataW H × List MemPlace)} (hl : xs.length = n) (hi : i < n) (h : o = xs[i]?) : ∃ y, o = some y := by
  rw [List.getElem?_eq_getElem (by omega)] at h
  exact ⟨_, h⟩
set_option maxRecDepth 100000 in
theorem trod_job {fuel : Nat} {cs : List Value} {x : DataW H × List MemPlace} (h : DataW.trod enc Tryz.prog W 0 sp hd fuel 33 cs = some x) :
    ∃ (k b r d : Int) (s m p : Sl), cs = [.int .i64 k, .int .i64 b, s.v, m.v, p.v, .int .i64 r, .int .i64 d] ∧ BytesIn W s ∧ BytesIn W m ∧ BytesIn W p := by
  obtain ⟨ys, n, _, _, hlen, hyl, hf⟩ := DataW.trod_struct Tryz.underlying33 h
  have hc7 : Tryz.prog.cellsOf 33 = 7 := by kernel_rfl
  have hc1 : Tryz.prog.cellsOf 3 = 1 := by kernel_rfl
  have hcb : Tryz.prog.cellsOf 31 = 1 := by kernel_rfl
  rw [hc7] at hlen
  match cs, hlen with
  | [v0, v1, v2, v3, v4, v5, v6], _ =>
    obtain ⟨y0, h0⟩ := got hyl (i := 0) (by decide) (hf 0 _ rfl)
    obtain ⟨y1, h1⟩ := got hyl (i := 1) (by decide) (hf 1 _ rfl)
    obtain ⟨y2, h2⟩ := got hyl (i := 2) (by decide) (hf 2 _ rfl)
    obtain ⟨y3, h3⟩ := got hyl (i := 3) (by decide) (hf 3 _ rfl)
    obtain ⟨y4, h4⟩ := got hyl (i := 4) (by decide) (hf 4 _ rfl)
    obtain ⟨y5, h5⟩ := got hyl (i := 5) (by decide) (hf 5 _ rfl)
    obtain ⟨y6, h6⟩ := got hyl (i := 6) (by decide) (hf 6 _ rfl)
    replace h0 : DataW.trod enc Tryz.prog W 0 sp hd n 3 (([v0, v1, v2, v3, v4, v5, v6].drop 0).take (Tryz.prog.cellsOf 3)) = some y0 := h0
    replace h1 : DataW.trod enc Tryz.prog W 0 sp hd n 3 (([v0, v1, v2, v3, v4, v5, v6].drop 1).take (Tryz.prog.cellsOf 3)) = some y1 := h1
    replace h2 : DataW.trod enc Tryz.prog W 0 sp hd n 31 (([v0, v1, v2, v3, v4, v5, v6].drop 2).take (Tryz.prog.cellsOf 31)) = some y2 := h2
    replace h3 : DataW.trod enc Tryz.prog W 0 sp hd n 31 (([v0, v1, v2, v3, v4, v5, v6].drop 3).take (Tryz.prog.cellsOf 31)) = some y3 := h3
    replace h4 : DataW.trod enc Tryz.prog W 0 sp hd n 31 (([v0, v1, v2, v3, v4, v5, v6].drop 4).take (Tryz.prog.cellsOf 31)) = some y4 := h4
    replace h5 : DataW.trod enc Tryz.prog W 0 sp hd n 3 (([v0, v1, v2, v3, v4, v5, v6].drop 5).take (Tryz.prog.cellsOf 3)) = some y5 := h5
    replace h6 : DataW.trod enc Tryz.prog W 0 sp hd n 3 (([v0, v1, v2, v3, v4, v5, v6].drop 6).take (Tryz.prog.cellsOf 3)) = some y6 := h6
    simp only [hc1, hcb, List.drop_zero, List.drop_succ_cons, List.take_succ_cons, List.take_zero] at h0 h1 h2 h3 h4 h5 h6
    obtain ⟨k, e0, _⟩ := DataW.trod_int Tryz.underlying3 h0
    obtain ⟨b, e1, _⟩ := DataW.trod_int Tryz.underlying3 h1
    obtain ⟨s, e2, q2⟩ := trod_bytes h2
    obtain ⟨m, e3, q3⟩ := trod_bytes h3
    obtain ⟨p, e4, q4⟩ := trod_bytes h4
    obtain ⟨r, e5, _⟩ := DataW.trod_int Tryz.underlying3 h5
    obtain ⟨d, e6, _⟩ := DataW.trod_int Tryz.underlying3 h6
    injection e0 with e0; injection e1 with e1; injection e2 with e2; injection e3 with e3; injection e4 with e4; injection e5 with e5; injection e6 with e6
    subst e0 e1 e2 e3 e4 e5 e6
    exact ⟨k, b, r, d, s, m, p, rfl, q2, q3, q4⟩
set_option maxRecDepth 100000 in
theorem trod_act {fuel : Nat} {cs : List Value} {x : DataW H × List MemPlace} (h : DataW.trod enc Tryz.prog W 0 sp hd fuel 35 cs = some x) :
    ∃ a : ActD, cs = a.cells ∧ BytesIn W a.s ∧ BytesIn W a.m ∧ BytesIn W a.p := by
  obtain ⟨ys, n, _, _, hlen, hyl, hf⟩ := DataW.trod_struct Tryz.underlying35 h
  have hc9 : Tryz.prog.cellsOf 35 = 9 := by kernel_rfl
  have hc7 : Tryz.prog.cellsOf 33 = 7 := by kernel_rfl
  have hc1 : Tryz.prog.cellsOf 3 = 1 := by kernel_rfl
  rw [hc9] at hlen
  match cs, hlen with
  | [v0, v1, v2, v3, v4, v5, v6, v7, v8], _ =>
    obtain ⟨y0, h0⟩ := got hyl (i := 0) (by decide) (hf 0 _ rfl)
    obtain ⟨y1, h1⟩ := got hyl (i := 1) (by decide) (hf 1 _ rfl)
    obtain ⟨y2, h2⟩ := got hyl (i := 2) (by decide) (hf 2 _ rfl)
    replace h0 : DataW.trod enc Tryz.prog W 0 sp hd n 3 (([v0, v1, v2, v3, v4, v5, v6, v7, v8].drop 0).take (Tryz.prog.cellsOf 3)) = some y0 := h0
    replace h1 : DataW.trod enc Tryz.prog W 0 sp hd n 3 (([v0, v1, v2, v3, v4, v5, v6, v7, v8].drop 1).take (Tryz.prog.cellsOf 3)) = some y1 := h1
    replace h2 : DataW.trod enc Tryz.prog W 0 sp hd n 33 (([v0, v1, v2, v3, v4, v5, v6, v7, v8].drop 2).take (Tryz.prog.cellsOf 33)) = some y2 := h2
    simp only [hc1, hc7, List.drop_zero, List.drop_succ_cons, List.take_succ_cons, List.take_zero] at h0 h1 h2
    obtain ⟨c, e0, _⟩ := DataW.trod_int Tryz.underlying3 h0
    obtain ⟨n, e1, _⟩ := DataW.trod_int Tryz.underlying3 h1
    obtain ⟨k, b, r, d, s, m, p, e2, q2, q3, q4⟩ := trod_job h2
    injection e0 with e0; injection e1 with e1
    simp only [List.cons.injEq, and_true] at e2
    obtain ⟨r0, r1, r2, r3, r4, r5, r6⟩ := e2
    subst e0 e1 r0 r1 r2 r3 r4 r5 r6
    exact ⟨⟨c, n, k, b, s, m, p, r, d⟩, rfl, q2, q3, q4⟩
set_option maxRecDepth 100000 in
theorem open_acts {v : Value} {d : DataW H} {p : List MemPlace} {r : Reach} {b0 : Nat} (hval : Value.okWide Tryz.prog W r b0 22 v) (h : DataW.Trod enc Tryz.prog W 0 sp hd 22 v d p) :
    ∃ A n c xs, v = .slice A n c ∧ InA W A n xs := by
  obtain ⟨A, n, c, rfl⟩ := okWide_slice Tryz.underlying22 hval
  obtain ⟨fuel, hf⟩ := h
  rcases open_slice Tryz.underlying22 hf with ⟨hcs, _⟩ | ⟨a, len, cap, m, q, D, Pl, hcs, _, hl, _, hm, _, hi⟩
  · simp [Value.cells] at hcs
    obtain ⟨rfl, rfl, rfl⟩ := hcs
    exact ⟨none, 0, 0, [], rfl, rfl, fun i h => by simp at h⟩
  · simp [Value.cells] at hcs
    obtain ⟨rfl, rfl, rfl⟩ := hcs
    have hnm : n ≤ m := by rw [hm]; split <;> omega
    have hc9 : Tryz.prog.cellsOf 35 = 9 := by kernel_rfl
    have hex : ∀ i, i < n → ∃ x : ActD, (∀ j u, x.cells[j]? = some u → W.cell? (a.add (i * 9 + j)) = some u) ∧ BytesIn W x.s ∧ BytesIn W x.m ∧ BytesIn W x.p := by
      intro i hin
      obtain ⟨cs', hc, ht'⟩ := hi i (by omega)
      rw [hc9] at hc
      obtain ⟨x, rfl, q2, q3, q4⟩ := trod_act ht'
      obtain ⟨_, hcl, hat⟩ := World.cells?_some hc
      refine ⟨x, fun j u hu => ?_, q2, q3, q4⟩
      have hj : j < 9 := by
        rcases Nat.lt_or_ge j 9 with h | h
        · exact h
        · rw [List.getElem?_eq_none (by rw [hcl]; exact h)] at hu; cases hu
      have := hat j hj
      rw [add_of_add] at this
      rw [this]; exact hu
    have hch : ∀ i, ∃ x : ActD, i < n → (∀ j u, x.cells[j]? = some u → W.cell? (a.add (i * 9 + j)) = some u) ∧ BytesIn W x.s ∧ BytesIn W x.m ∧ BytesIn W x.p := by
      intro i
      by_cases h : i < n
      · obtain ⟨x, hx⟩ := hex i h
        exact ⟨x, fun _ => hx⟩
      · exact ⟨default, fun h' => absurd h' h⟩
    refine ⟨some a, n, c, (List.range n).map fun i => (hch i).choose, rfl, by simp, fun i hi' => ?_⟩
    have hin : i < n := by simpa using hi'
    have hx := (hch i).choose_spec hin
    have e : ((List.range n).map fun i => (hch i).choose)[i] = (hch i).choose := by simp
    rw [e]
    have hb := World.block_lt_of_cell? _ _ (hx.1 0 _ rfl)
    rw [block_of_add] at hb
    exact ⟨a, rfl, hb, hx⟩
end
end Go.Proofs.YtadgamfhlklemaaGreatDoor.Rw
