/- The heap's order: its first one is the least; Push, Pop and Remove keep that. No program in sight. -/
import Derived.Test.YtadgamfhlklemaaGreatDoorAvP1
namespace Go.Proofs.YtadgamfhlklemaaGreatDoor
def Le (x y : Wt) : Prop := x.cost < y.cost ∨ (x.cost = y.cost ∧ x.ticket ≤ y.ticket)
theorem not_less (x y : Wt) : lessB x y = false ↔ Le y x := by
  unfold lessB Le
  simp only [Bool.or_eq_false_iff, Bool.and_eq_false_iff, decide_eq_false_iff_not]
  omega
theorem less_le (x y : Wt) (h : lessB x y = true) : Le x y := by
  unfold lessB at h
  unfold Le
  simp only [Bool.or_eq_true, Bool.and_eq_true, decide_eq_true_eq] at h
  omega
theorem Le.refl (x : Wt) : Le x x := .inr ⟨rfl, Int.le_refl _⟩
theorem Le.trans {x y z : Wt} (h : Le x y) (k : Le y z) : Le x z := by unfold Le at *; omega
/-- The first n places are a heap. -/
def Hp (n : Nat) (js : List Wt) : Prop := ∀ k, 0 < k → k < n → Le (gt js ((k - 1) / 2)) (gt js k)
theorem Hp.first {n : Nat} {js : List Wt} (h : Hp n js) (k : Nat) (hk : k < n) : Le (gt js 0) (gt js k) := by
  induction k using Nat.strongRecOn with
  | _ k ih =>
    by_cases h0 : k = 0
    · subst h0; exact .refl _
    · exact (ih ((k - 1) / 2) (by omega) (by omega)).trans (h k (by omega) hk)
/-- All is right but place j against the one above. -/
structure UpI (n : Nat) (js : List Wt) (j : Nat) : Prop where
  a : ∀ k, 0 < k → k < n → k ≠ j → Le (gt js ((k - 1) / 2)) (gt js k)
  b : ∀ k, 0 < k → k < n → (k - 1) / 2 = j → 0 < j → Le (gt js ((j - 1) / 2)) (gt js k)
theorem up_heap (n : Nat) (js : List Wt) (j : Nat) (hn : n ≤ js.length) (hj : j < n) (h : UpI n js j) : Hp n (upL js j) := by
  induction j using Nat.strongRecOn generalizing js with
  | _ j ih =>
    cases j with
    | zero => rw [upL_zero]; exact fun k h0 hk => h.a k h0 hk (by omega)
    | succ i =>
      cases hb : lessB (gt js (i + 1)) (gt js (i / 2)) with
      | false =>
        rw [upL_no js i hb]
        intro k h0 hk
        by_cases e : k = i + 1
        · subst e; exact (not_less _ _).1 hb
        · exact h.a k h0 hk e
      | true =>
        rw [upL_yes js i hb]
        have hl := less_le _ _ hb
        have gl : gt (swapM js (i / 2) (i + 1)) (i / 2) = gt js (i + 1) := gt_swapM_left js _ _ (by omega) (by omega)
        have gr : gt (swapM js (i / 2) (i + 1)) (i + 1) = gt js (i / 2) := gt_swapM_right js _ _ (by omega)
        refine ih (i / 2) (by omega) (swapM js (i / 2) (i + 1)) (by rw [swapM_length]; exact hn) (by omega) ⟨fun k h0 hk hne => ?_, fun k h0 hk hp hi => ?_⟩
        · by_cases e : k = i + 1
          · subst e
            rw [gr, show (i + 1 - 1) / 2 = i / 2 from by omega, gl]
            exact hl
          · rw [gt_swapM_ne js _ _ k hne e]
            by_cases e1 : (k - 1) / 2 = i / 2
            · rw [e1, gl]
              have := h.a k h0 hk e
              rw [e1] at this
              exact hl.trans this
            · by_cases e2 : (k - 1) / 2 = i + 1
              · rw [e2, gr]
                have := h.b k h0 hk e2 (by omega)
                rwa [show (i + 1 - 1) / 2 = i / 2 from by omega] at this
              · rw [gt_swapM_ne js _ _ _ e1 e2]
                exact h.a k h0 hk e
        · have hpar : gt (swapM js (i / 2) (i + 1)) ((i / 2 - 1) / 2) = gt js ((i / 2 - 1) / 2) := gt_swapM_ne js _ _ _ (by omega) (by omega)
          rw [hpar]
          have hup := h.a (i / 2) (by omega) (by omega) (by omega)
          by_cases e : k = i + 1
          · subst e; rw [gr]; exact hup
          · rw [gt_swapM_ne js _ _ k (by omega) e]
            have := h.a k h0 hk e
            rw [hp] at this
            exact hup.trans this
/-- All is right but place i against those below (and maybe against the one above). -/
structure DnI (n : Nat) (js : List Wt) (i : Nat) : Prop where
  a : ∀ k, 0 < k → k < n → k ≠ i → (k - 1) / 2 ≠ i → Le (gt js ((k - 1) / 2)) (gt js k)
  b : ∀ k, 0 < k → k < n → (k - 1) / 2 = i → 0 < i → Le (gt js ((i - 1) / 2)) (gt js k)
theorem child_least (n : Nat) (js : List Wt) (i : Nat) (k : Nat) (h0 : 0 < k) (hk : k < n) (hp : (k - 1) / 2 = i) : Le (gt js (childM n js i)) (gt js k) := by
  unfold childM
  have hk2 : k = 2 * i + 1 ∨ k = 2 * i + 2 := by omega
  split
  · rename_i h
    rcases hk2 with rfl | rfl
    · exact less_le _ _ h.2
    · exact .refl _
  · rename_i h
    rcases hk2 with rfl | rfl
    · exact .refl _
    · have : lessB (gt js (2 * i + 2)) (gt js (2 * i + 1)) = false := by
        cases hb : lessB (gt js (2 * i + 2)) (gt js (2 * i + 1)) with
        | false => rfl
        | true => exact absurd ⟨hk, hb⟩ h
      exact (not_less _ _).1 this
theorem childM_parent (n : Nat) (js : List Wt) (i : Nat) : (childM n js i - 1) / 2 = i ∧ 0 < childM n js i := by unfold childM; split <;> omega
theorem dn_step (n : Nat) (js : List Wt) (i : Nat) (hn : n ≤ js.length) (h1 : 2 * i + 1 < n) (h : DnI n js i) (hb : lessB (gt js (childM n js i)) (gt js i) = true) :
    DnI n (swapM js i (childM n js i)) (childM n js i) ∧ Le (gt (swapM js i (childM n js i)) ((childM n js i - 1) / 2)) (gt (swapM js i (childM n js i)) (childM n js i)) ∧ (0 < i → Le (gt (swapM js i (childM n js i)) ((i - 1) / 2)) (gt (swapM js i (childM n js i)) i)) := by
  have hc := childM_le n js i h1
  obtain ⟨hcp, hc0⟩ := childM_parent n js i
  have hleast := child_least n js i
  have hl := less_le _ _ hb
  generalize childM n js i = c at *
  have gl : gt (swapM js i c) i = gt js c := gt_swapM_left js _ _ (by omega) (by omega)
  have gr : gt (swapM js i c) c = gt js i := gt_swapM_right js _ _ (by omega)
  refine ⟨⟨fun k h0 hk hne hpk => ?_, fun k h0 hk hpk hc1 => ?_⟩, by rw [hcp, gl, gr]; exact hl, fun hi => ?_⟩
  · by_cases e : k = i
    · subst e
      rw [gl, gt_swapM_ne js _ _ _ (by omega) (by omega)]
      exact h.b c hc0 (by omega) hcp h0
    · rw [gt_swapM_ne js _ _ k e hne]
      by_cases e1 : (k - 1) / 2 = i
      · rw [e1, gl]; exact hleast k h0 hk e1
      · rw [gt_swapM_ne js _ _ _ e1 hpk]
        exact h.a k h0 hk e e1
  · rw [hcp, gl, gt_swapM_ne js _ _ k (by omega) (by omega)]
    have := h.a k h0 hk (by omega) (by omega)
    rwa [hpk] at this
  · rw [gl, gt_swapM_ne js _ _ _ (by omega) (by omega)]
    exact h.b c hc0 (by omega) hcp hi
theorem down_heapS (n : Nat) (js : List Wt) (i : Nat) (hn : n ≤ js.length) (hi : i < js.length) (h : DnI n js i) (hs : 0 < i → i < n → Le (gt js ((i - 1) / 2)) (gt js i)) : Hp n (downL n js i).1 := by
  by_cases h1 : n ≤ 2 * i + 1
  · rw [downL_end n js i h1]
    intro k h0 hk
    by_cases e : k = i
    · subst e; exact hs h0 hk
    · exact h.a k h0 hk e (by omega)
  · cases hb : lessB (gt js (childM n js i)) (gt js i) with
    | false =>
      rw [downL_no n js i _ rfl hb]
      intro k h0 hk
      by_cases e : k = i
      · subst e; exact hs h0 hk
      · by_cases e1 : (k - 1) / 2 = i
        · rw [e1]; exact ((not_less _ _).1 hb).trans (child_least n js i k h0 hk e1)
        · exact h.a k h0 hk e e1
    | true =>
      have hc := childM_le n js i (by omega)
      obtain ⟨g1, g2, _⟩ := dn_step n js i hn (by omega) h hb
      rw [downL_yes n js i _ (by omega) rfl hb]
      exact down_heapS n _ _ (by rw [swapM_length]; exact hn) (by rw [swapM_length]; omega) g1 (fun _ _ => g2)
termination_by n - i
decreasing_by omega
theorem down_heap (n : Nat) (js : List Wt) (i : Nat) (hn : n ≤ js.length) (_hi : i < n) (h : DnI n js i) :
    (i < (downL n js i).2 → Hp n (downL n js i).1) ∧ (¬ i < (downL n js i).2 → UpI n (downL n js i).1 i) := by
  by_cases h1 : n ≤ 2 * i + 1
  · rw [downL_end n js i h1]
    exact ⟨fun h => by simp at h, fun _ => ⟨fun k h0 hk e => h.a k h0 hk e (by omega), fun k h0 hk e => by omega⟩⟩
  · cases hb : lessB (gt js (childM n js i)) (gt js i) with
    | false =>
      rw [downL_no n js i _ rfl hb]
      refine ⟨fun h => by simp at h, fun _ => ⟨fun k h0 hk e => ?_, h.b⟩⟩
      by_cases e1 : (k - 1) / 2 = i
      · rw [e1]; exact ((not_less _ _).1 hb).trans (child_least n js i k h0 hk e1)
      · exact h.a k h0 hk e e1
    | true =>
      have hc := childM_le n js i (by omega)
      obtain ⟨g1, g2, _⟩ := dn_step n js i hn (by omega) h hb
      rw [downL_yes n js i _ (by omega) rfl hb]
      have hlen : (swapM js i (childM n js i)).length = js.length := swapM_length _ _ _
      refine ⟨fun _ => down_heapS n _ _ (by omega) (by omega) g1 (fun _ _ => g2), fun hno => ?_⟩
      have := (downL_spec n (swapM js i (childM n js i)) (childM n js i) (by omega) (by omega)).2.2.1
      omega
theorem pushM_heap (js : List Wt) (x : Wt) (h : Hp js.length js) : Hp (js.length + 1) (pushM js x) := by
  unfold pushM
  refine up_heap _ _ _ (by simp) (by omega) ⟨fun k h0 hk e => ?_, fun k h0 hk e => by omega⟩
  have e1 : ∀ m, m < js.length → gt (js ++ [x]) m = gt js m := fun m hm => by
    rw [gt_eq _ m (by simp; omega), gt_eq js m hm, List.getElem_append_left hm]
  rw [e1 _ (by omega), e1 _ (by omega)]
  exact h k h0 (by omega)
theorem takeM_heap (js : List Wt) (i n : Nat) (hn : js.length = n + 1) (hi : i < js.length) (h : Hp (n + 1) js) : Hp n (takeM js i n) := by
  unfold takeM
  by_cases e : n = i
  · rw [if_pos e]; exact fun k h0 hk => h k h0 (by omega)
  · rw [if_neg e]
    have hd : DnI n (swapM js i n) i := by
      refine ⟨fun k h0 hk hne hpk => ?_, fun k h0 hk hpk h0i => ?_⟩
      · rw [gt_swapM_ne js _ _ k hne (by omega), gt_swapM_ne js _ _ _ hpk (by omega)]
        exact h k h0 (by omega)
      · rw [gt_swapM_ne js _ _ k (by omega) (by omega), gt_swapM_ne js _ _ _ (by omega) (by omega)]
        have h1 := h k h0 (by omega)
        rw [hpk] at h1
        exact (h i h0i (by omega)).trans h1
    obtain ⟨d1, d2⟩ := down_heap n (swapM js i n) i (by rw [swapM_length]; omega) (by omega) hd
    have hl := (downL_spec n (swapM js i n) i (by rw [swapM_length]; omega) (by rw [swapM_length]; omega)).1
    rw [swapM_length] at hl
    dsimp only
    by_cases hr : i < (downL n (swapM js i n) i).2
    · rw [if_pos hr]; exact d1 hr
    · rw [if_neg hr]
      exact up_heap n _ i (by omega) (by omega) (d2 hr)
theorem Hp.take {js : List Wt} {n : Nat} (h : Hp n js) (_hn : n ≤ js.length) : Hp n (js.take n) := by
  intro k h0 hk
  have e : ∀ m, m < n → gt (js.take n) m = gt js m := fun m hm => by
    unfold gt
    rw [List.getD_eq_getElem?_getD, List.getD_eq_getElem?_getD, List.getElem?_take_of_lt hm]
  rw [e _ (by omega), e _ hk]
  exact h k h0 hk
end Go.Proofs.YtadgamfhlklemaaGreatDoor
