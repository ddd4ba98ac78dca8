/- What the heap's steps keep of a list of jobs: its length, its members, its tail. No program in sight. -/
import Derived.Test.YtadgamfhlklemaaGreatDoorAvP0
namespace Go.Proofs.YtadgamfhlklemaaGreatDoor
theorem swapM_perm (js : List Wt) (i j : Nat) (hi : i < js.length) (hj : j < js.length) : (swapM js i j).Perm js := by
  rw [List.perm_iff_count]
  intro a
  unfold swapM
  rw [List.count_set (by simpa using hj), List.count_set hi]
  rw [gt_eq js i hi, gt_eq js j hj]
  by_cases hij : i = j
  · subst hij
    rw [List.getElem_set_self]
    have : (js[i] == a) = true → 0 < List.count a js := fun h => by
      rw [List.count_pos_iff]; have := eq_of_beq h; subst this; exact List.getElem_mem hi
    by_cases h : (js[i] == a) = true
    · have := this h; simp [h]; omega
    · simp [h]
  · rw [List.getElem_set_ne (by omega)]
    have h1 : (js[i] == a) = true → 0 < List.count a js := fun h => by
      rw [List.count_pos_iff]; have := eq_of_beq h; subst this; exact List.getElem_mem hi
    have h2 : (js[j] == a) = true → 0 < List.count a js := fun h => by
      rw [List.count_pos_iff]; have := eq_of_beq h; subst this; exact List.getElem_mem hj
    by_cases ha : (js[i] == a) = true <;> by_cases hb : (js[j] == a) = true <;> simp [ha, hb]
    · have := h1 ha; omega
    · have := h1 ha; omega
theorem gt_swapM_ne (js : List Wt) (i j k : Nat) (h1 : k ≠ i) (h2 : k ≠ j) : gt (swapM js i j) k = gt js k := by
  unfold gt swapM
  rw [List.getD_eq_getElem?_getD, List.getD_eq_getElem?_getD, List.getElem?_set_ne (by omega), List.getElem?_set_ne (by omega)]
theorem gt_swapM_left (js : List Wt) (i j : Nat) (hi : i < js.length) (hij : i ≠ j) : gt (swapM js i j) i = gt js j := by
  unfold swapM
  rw [gt_eq _ _ (by simpa using hi), List.getElem_set_ne (by omega), List.getElem_set_self]
theorem gt_swapM_right (js : List Wt) (i j : Nat) (hj : j < js.length) : gt (swapM js i j) j = gt js i := by
  unfold swapM
  rw [gt_eq _ _ (by simpa using hj), List.getElem_set_self]
theorem upL_spec (js : List Wt) (j : Nat) (hj : j < js.length) : (upL js j).length = js.length ∧ (upL js j).Perm js ∧ ∀ k, j < k → gt (upL js j) k = gt js k := by
  induction j using Nat.strongRecOn generalizing js with
  | _ j ih =>
    cases j with
    | zero => rw [upL_zero]; exact ⟨rfl, .refl _, fun _ _ => rfl⟩
    | succ k =>
      cases hb : lessB (gt js (k + 1)) (gt js (k / 2)) with
      | false => rw [upL_no js k hb]; exact ⟨rfl, .refl _, fun _ _ => rfl⟩
      | true =>
        rw [upL_yes js k hb]
        obtain ⟨h1, h2, h3⟩ := ih (k / 2) (by omega) (swapM js (k / 2) (k + 1)) (by rw [swapM_length]; omega)
        refine ⟨by rw [h1, swapM_length], h2.trans (swapM_perm js _ _ (by omega) (by omega)), fun i hi => ?_⟩
        rw [h3 i (by omega), gt_swapM_ne js _ _ _ (by omega) (by omega)]
theorem downL_spec (n : Nat) (js : List Wt) (i : Nat) (hn : n ≤ js.length) (hi : i < js.length) : (downL n js i).1.length = js.length ∧ (downL n js i).1.Perm js ∧ i ≤ (downL n js i).2 ∧ (∀ k, n ≤ k → k ≠ i → gt (downL n js i).1 k = gt js k) ∧ (n ≤ i → (downL n js i).1 = js) := by
  by_cases h : n ≤ 2 * i + 1
  · rw [downL_end n js i h]; exact ⟨rfl, .refl _, Nat.le_refl _, fun _ _ _ => rfl, fun _ => rfl⟩
  · cases hb : lessB (gt js (childM n js i)) (gt js i) with
    | false => rw [downL_no n js i _ rfl hb]; exact ⟨rfl, .refl _, Nat.le_refl _, fun _ _ _ => rfl, fun _ => rfl⟩
    | true =>
      have hc := childM_le n js i (by omega)
      rw [downL_yes n js i _ (by omega) rfl hb]
      have := downL_spec n (swapM js i (childM n js i)) (childM n js i) (by rw [swapM_length]; exact hn) (by rw [swapM_length]; omega)
      obtain ⟨h1, h2, h3, h4, _⟩ := this
      refine ⟨by rw [h1, swapM_length], h2.trans (swapM_perm js _ _ hi (by omega)), by omega, fun k hk hki => ?_, fun h => by omega⟩
      rw [h4 k hk (by omega), gt_swapM_ne js _ _ _ (by omega) (by omega)]
termination_by n - i
decreasing_by omega
theorem AllSmall.perm {js ks : List Wt} (h : AllSmall js) (p : ks.Perm js) : AllSmall ks := fun x hx => h x (p.mem_iff.1 hx)

/-- What Pop and Remove of place i make of the list: what is left, and what came off. -/
def pushM (js : List Wt) (x : Wt) : List Wt := upL (js ++ [x]) js.length
def takeM (js : List Wt) (i n : Nat) : List Wt :=
  if n = i then js else
    let r := downL n (swapM js i n) i
    if i < r.2 then r.1 else upL r.1 i
theorem pushM_perm (js : List Wt) (x : Wt) : (pushM js x).Perm (js ++ [x]) := (upL_spec (js ++ [x]) js.length (by simp)).2.1
theorem pushM_length (js : List Wt) (x : Wt) : (pushM js x).length = js.length + 1 := by unfold pushM; rw [(upL_spec (js ++ [x]) js.length (by simp)).1]; simp
theorem takeM_spec (js : List Wt) (i n : Nat) (hn : js.length = n + 1) (hi : i < js.length) : (takeM js i n).length = js.length ∧ (takeM js i n).Perm js ∧ gt (takeM js i n) n = gt js i := by
  unfold takeM
  by_cases h : n = i
  · rw [if_pos h]; subst h; exact ⟨rfl, .refl _, rfl⟩
  · rw [if_neg h]
    obtain ⟨h1, h2, h3, h4, _⟩ := downL_spec n (swapM js i n) i (by rw [swapM_length]; omega) (by rw [swapM_length]; exact hi)
    have e : gt (downL n (swapM js i n) i).1 n = gt js i := by rw [h4 n (Nat.le_refl _) h, gt_swapM_right js i n (by omega)]
    dsimp only
    by_cases hr : i < (downL n (swapM js i n) i).2
    · rw [if_pos hr]
      exact ⟨by rw [h1, swapM_length], h2.trans (swapM_perm js _ _ hi (by omega)), e⟩
    · rw [if_neg hr]
      obtain ⟨g1, g2, g3⟩ := upL_spec (downL n (swapM js i n) i).1 i (by rw [h1, swapM_length]; exact hi)
      exact ⟨by rw [g1, h1, swapM_length], g2.trans (h2.trans (swapM_perm js _ _ hi (by omega))), by rw [g3 n (by omega), e]⟩
theorem take_concat (ks : List Wt) (n : Nat) (h : ks.length = n + 1) : ks.take n ++ [gt ks n] = ks := by
  rw [gt_eq ks n (by omega), List.take_append_getElem, List.take_of_length_le (by omega)]
end Go.Proofs.YtadgamfhlklemaaGreatDoor
