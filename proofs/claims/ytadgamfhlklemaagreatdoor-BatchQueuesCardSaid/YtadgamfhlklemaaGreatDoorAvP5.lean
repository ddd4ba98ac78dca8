/- The document's list beside the heap: the same jobs, the same first. No program in sight. -/
import Derived.Test.YtadgamfhlklemaaGreatDoorAvP2
import Derived.Test.YtadgamfhlklemaaGreatDoorAvP3
namespace Go.Proofs.YtadgamfhlklemaaGreatDoor
/-- A job without the places of its bytes. -/
def key (x : Wt) : Wt := ⟨x.kind, x.backend, ⟨none, x.st.n, 0⟩, ⟨none, x.ms.n, 0⟩, ⟨none, x.pf.n, 0⟩, x.rounds, x.degree, x.ticket⟩
structure KeyE (x y : Wt) : Prop where
  kind : x.kind = y.kind
  backend : x.backend = y.backend
  st : x.st.n = y.st.n
  ms : x.ms.n = y.ms.n
  pf : x.pf.n = y.pf.n
  rounds : x.rounds = y.rounds
  degree : x.degree = y.degree
  ticket : x.ticket = y.ticket
theorem key_e {x y : Wt} (h : key x = key y) : KeyE x y := by
  simp only [key, Wt.mk.injEq, Sl.mk.injEq, true_and, and_true] at h
  obtain ⟨h1, h2, h3, h4, h5, h6, h7, h8⟩ := h
  exact ⟨h1, h2, h3, h4, h5, h6, h7, h8⟩
theorem e_key {x y : Wt} (h : KeyE x y) : key x = key y := by
  obtain ⟨h1, h2, h3, h4, h5, h6, h7, h8⟩ := h
  simp only [key, h1, h2, h3, h4, h5, h6, h7, h8]
theorem KeyE.cost {x y : Wt} (h : KeyE x y) : x.cost = y.cost := by simp only [Wt.cost, h.st, h.ms, h.pf]
def Asc (ms : List Wt) : Prop := ms.Pairwise fun x y => x.ticket < y.ticket
/-- A job that may wait here: of a kind, and ending at its sizes. -/
structure OKj (x : Wt) : Prop where
  k1 : 1 ≤ x.kind
  k3 : x.kind ≤ 3
  cheap : (x.backend ≠ 1 ∧ x.backend ≠ 2) ∨ (x.st.n ≠ 32 ∧ x.st.n < 96)
  s1 : x.st.n ≤ 2000
  s2 : x.ms.n ≤ 2000
  s3 : x.pf.n ≤ 2000
theorem OKj.small {x : Wt} (h : OKj x) : x.Small := ⟨Nat.le_trans h.s1 (by omega), Nat.le_trans h.s2 (by omega), Nat.le_trans h.s3 (by omega)⟩
theorem OKj.key {x y : Wt} (h : OKj x) (e : KeyE x y) : OKj y := by
  obtain ⟨h1, h2, h3, h4, h5, h6⟩ := h
  rw [e.kind] at h1 h2
  rw [e.backend, e.st] at h3
  rw [e.st] at h4
  rw [e.ms] at h5
  rw [e.pf] at h6
  exact ⟨h1, h2, h3, h4, h5, h6⟩
structure QM (js ms : List Wt) (last : Int) : Prop where
  perm : (js.map key).Perm (ms.map key)
  asc : Asc ms
  pos : ∀ x ∈ ms, 1 ≤ x.ticket ∧ x.ticket ≤ last
  heap : Hp js.length js
  ok : ∀ x ∈ ms, OKj x
theorem QM.nil : QM [] [] 0 := ⟨List.Perm.refl _, List.Pairwise.nil, fun x h => by simp at h, fun k h0 h => by simp at h, fun x h => by simp at h⟩
theorem QM.len {js ms : List Wt} {last : Int} (h : QM js ms last) : js.length = ms.length := by simpa using h.perm.length_eq
theorem QM.twin {js ms : List Wt} {last : Int} (h : QM js ms last) {x : Wt} (hx : x ∈ js) : ∃ k, ∃ hk : k < ms.length, KeyE x ms[k] := by
  have h1 : key x ∈ ms.map key := h.perm.mem_iff.1 (List.mem_map_of_mem hx)
  obtain ⟨y, hy, e⟩ := List.mem_map.1 h1
  obtain ⟨k, hk, rfl⟩ := List.mem_iff_getElem.1 hy
  exact ⟨k, hk, key_e e.symm⟩
theorem QM.twin' {js ms : List Wt} {last : Int} (h : QM js ms last) {y : Wt} (hy : y ∈ ms) : ∃ k, k < js.length ∧ KeyE (gt js k) y := by
  have h1 : key y ∈ js.map key := h.perm.mem_iff.2 (List.mem_map_of_mem hy)
  obtain ⟨x, hx, e⟩ := List.mem_map.1 h1
  obtain ⟨k, hk, rfl⟩ := List.mem_iff_getElem.1 hx
  exact ⟨k, hk, by rw [gt_eq js k hk]; exact key_e e⟩
theorem QM.okj {js ms : List Wt} {last : Int} (h : QM js ms last) {x : Wt} (hx : x ∈ js) : OKj x := by
  obtain ⟨k, hk, e⟩ := h.twin hx
  exact (h.ok _ (List.getElem_mem hk)).key ⟨e.kind.symm, e.backend.symm, e.st.symm, e.ms.symm, e.pf.symm, e.rounds.symm, e.degree.symm, e.ticket.symm⟩
theorem QM.small {js ms : List Wt} {last : Int} (h : QM js ms last) : AllSmall js ∧ AllSmall ms := ⟨fun _ hx => (h.okj hx).small, fun _ hx => (h.ok _ hx).small⟩
theorem gt_mem {js : List Wt} {i : Nat} (h : i < js.length) : gt js i ∈ js := by rw [gt_eq js i h]; exact List.getElem_mem h
theorem asc_lt {ms : List Wt} (h : Asc ms) {i j : Nat} (hi : i < ms.length) (hj : j < ms.length) (hij : i < j) : ms[i].ticket < ms[j].ticket :=
  List.pairwise_iff_getElem.1 h i j hi hj hij
theorem asc_inj {ms : List Wt} (h : Asc ms) {i j : Nat} (hi : i < ms.length) (hj : j < ms.length) (e : ms[i].ticket = ms[j].ticket) : i = j := by
  rcases Nat.lt_trichotomy i j with hlt | he | hgt
  · have := asc_lt h hi hj hlt; omega
  · exact he
  · have := asc_lt h hj hi hgt; omega
theorem QM.push {js ms : List Wt} {last : Int} (h : QM js ms last) {x y : Wt} (hk : KeyE x y) (ht : y.ticket = last + 1) (hl : 0 ≤ last) (ho : OKj y) : QM (pushM js x) (ms ++ [y]) (last + 1) := by
  refine ⟨?_, ?_, ?_, ?_, ?_⟩
  · have h1 := (pushM_perm js x).map key
    refine h1.trans ?_
    rw [List.map_append, List.map_append, List.map_singleton, List.map_singleton, e_key hk]
    exact h.perm.append_right _
  · refine List.pairwise_append.2 ⟨h.asc, List.pairwise_singleton _ _, fun a ha b hb => ?_⟩
    rw [List.mem_singleton.1 hb, ht]
    have := (h.pos a ha).2
    omega
  · intro z hz
    rcases List.mem_append.1 hz with hz | hz
    · have := h.pos z hz; omega
    · rw [List.mem_singleton.1 hz, ht]; omega
  · rw [pushM_length]
    exact pushM_heap js x h.heap
  · intro z hz
    rcases List.mem_append.1 hz with hz | hz
    · exact h.ok z hz
    · rw [List.mem_singleton.1 hz]; exact ho
theorem QM.take {js ms : List Wt} {last : Int} (h : QM js ms last) {i k : Nat} (hi : i < js.length) (hk : k < ms.length) (e : KeyE (gt js i) ms[k]) :
    QM ((takeM js i (js.length - 1)).take (js.length - 1)) (ms.take k ++ ms.drop (k + 1)) last := by
  have hsub : (ms.take k ++ ms.drop (k + 1)).Sublist ms := by
    rw [← List.eraseIdx_eq_take_drop_succ]
    exact List.eraseIdx_sublist ms k
  refine ⟨?_, ?_, ?_, ?_, ?_⟩
  · have h1 := (left_perm js i (js.length - 1) (by omega) hi).map key
    rw [List.map_append, List.map_singleton, e_key e] at h1
    have h2 : ms.Perm ((ms.take k ++ ms.drop (k + 1)) ++ [ms[k]]) := by
      have e1 : ms = ms.take k ++ (ms[k] :: ms.drop (k + 1)) := by rw [← List.drop_eq_getElem_cons hk, List.take_append_drop]
      refine (List.Perm.of_eq e1).trans ?_
      rw [List.append_assoc]
      exact (List.perm_append_singleton _ _).symm.append_left _
    have h3 := h2.map key
    rw [List.map_append, List.map_singleton] at h3
    exact (List.perm_append_right_iff _).1 (h1.trans (h.perm.trans h3))
  · exact h.asc.sublist hsub
  · exact fun x hx => h.pos x (hsub.subset hx)
  · have hl := left_length js i (js.length - 1) (by omega) hi
    rw [hl]
    exact (takeM_heap js i (js.length - 1) (by omega) hi (by rw [show js.length - 1 + 1 = js.length by omega]; exact h.heap)).take (by rw [(takeM_spec js i (js.length - 1) (by omega) hi).1]; omega)
  · exact fun x hx => h.ok x (hsub.subset hx)
theorem QM.first {js ms : List Wt} {last : Int} (h : QM js ms last) {k : Nat} (hk : k < ms.length) (h1 : ∀ j (hj : j < ms.length), j < k → ms[k].cost < ms[j].cost) (h2 : ∀ j (hj : j < ms.length), j < ms.length → ms[k].cost ≤ ms[j].cost) : KeyE (gt js 0) ms[k] := by
  have hl := h.len
  obtain ⟨j, hj, ej⟩ := h.twin (gt_mem (js := js) (i := 0) (by omega))
  obtain ⟨i, hi, ei⟩ := h.twin' (List.getElem_mem hk)
  have hle := h.heap.first i hi
  unfold Le at hle
  rw [ej.cost, ei.cost, ej.ticket, ei.ticket] at hle
  have hc := h2 j hj hj
  have : j = k := by
    rcases Nat.lt_trichotomy j k with hlt | he | hgt
    · have := h1 j hj hlt; omega
    · exact he
    · have := asc_lt h.asc hk hj hgt; omega
  subst this
  exact ej
theorem QM.found {js ms : List Wt} {last : Int} (h : QM js ms last) {i k : Nat} (hi : i < js.length) (hk : k < ms.length) (e : (gt js i).ticket = ms[k].ticket) : KeyE (gt js i) ms[k] := by
  obtain ⟨j, hj, ej⟩ := h.twin (gt_mem hi)
  have : j = k := asc_inj h.asc hj hk (ej.ticket.symm.trans e)
  subst this
  exact ej
theorem QM.lacks {js ms : List Wt} {last t : Int} (h : QM js ms last) : (∀ x ∈ js, x.ticket ≠ t) ↔ (∀ x ∈ ms, x.ticket ≠ t) := by
  constructor
  · intro hn x hx e
    obtain ⟨k, hk, ek⟩ := h.twin' hx
    exact hn _ (gt_mem hk) (ek.ticket.trans e)
  · intro hn x hx e
    obtain ⟨k, hk, ek⟩ := h.twin hx
    exact hn _ (List.getElem_mem hk) (ek.ticket.symm.trans e)
end Go.Proofs.YtadgamfhlklemaaGreatDoor
