/- Which tickets are gone: a list of marks beside the jobs that wait. -/
import Derived.Test.YtblljhdebfnmoaaGreatDoorAvP3
import Derived.Test.YtblljhdebfnmoaaGreatDoorAvC9
namespace Go.Proofs.YtblljhdebfnmoaaGreatDoor
theorem runL_perm : ∀ (n : Nat) (js : List Wt), js.length = n → (runL js).Perm js
  | 0, js, h => by rw [runL_nil js h, List.eq_nil_of_length_eq_zero h]
  | n + 1, js, h => by
    rw [runL_cons js n h]
    have h1 := left_perm js 0 n h (by omega)
    have h2 := runL_perm n _ (left_length js 0 n h (by omega))
    exact (h2.cons _).trans ((List.perm_append_singleton _ _).symm.trans h1)
def PlainJ (js : List Wt) : Prop := ∀ x ∈ js, x.kind = 3 ∧ x.backend = 0
/-- bs marks the tickets that are gone; js are the others' jobs. -/
structure OpenT (js : List Wt) (n : Nat) (bs : List Bool) : Prop where
  len : bs.length = n + 1
  nd : (tks js).Nodup
  pos : ∀ t ∈ tks js, 1 ≤ t ∧ t ≤ n
  mem : ∀ t : Nat, 1 ≤ t → t ≤ n → ((t : Int) ∈ tks js ↔ bs[t]? = some false)
theorem OpenT.start {js : List Wt} {n : Nat} (h : Tks js n) : OpenT js n (List.replicate (n + 1) false) :=
  ⟨by simp, h.nd, fun t ht => (h.mem t).1 ht, fun t h1 h2 => by
    rw [h.mem, List.getElem?_replicate, if_pos (by omega)]
    simp; omega⟩
theorem OpenT.less {js js' : List Wt} {n : Nat} {bs : List Bool} {x : Wt} {t : Nat} (h : OpenT js n bs) (hp : (js' ++ [x]).Perm js) (hx : x.ticket = t) : OpenT js' n (bs.set t true) := by
  have hp' := hp.map Wt.ticket
  have e : (js' ++ [x]).map Wt.ticket = tks js' ++ [(t : Int)] := by simp [tks, hx]
  rw [e] at hp'
  have nd := hp'.nodup_iff.2 h.nd
  rw [List.nodup_append] at nd
  have hm : ∀ u : Int, u ∈ tks js ↔ u ∈ tks js' ∨ u = t := fun u => by
    have : u ∈ tks js ↔ u ∈ tks js' ++ [(t : Int)] := hp'.mem_iff.symm
    rw [this, List.mem_append, List.mem_singleton]
  refine ⟨by simp [h.len], nd.1, fun u hu => h.pos u ((hm u).2 (.inl hu)), fun u h1 h2 => ?_⟩
  have hu := h.mem u h1 h2
  rw [hm] at hu
  by_cases he : u = t
  · subst he
    rw [List.getElem?_set_self (by rw [h.len]; omega)]
    refine ⟨fun hin => absurd rfl (nd.2.2 _ hin _ (by simp)), fun h => by cases h⟩
  · rw [List.getElem?_set_ne (Ne.symm he), ← hu]
    exact ⟨.inl, fun h => h.resolve_right (by omega)⟩
theorem OpenT.perm {js js' : List Wt} {n : Nat} {bs : List Bool} (h : OpenT js n bs) (hp : js'.Perm js) : OpenT js' n bs := by
  have hp' : (tks js').Perm (tks js) := hp.map Wt.ticket
  exact ⟨h.len, hp'.nodup_iff.2 h.nd, fun t ht => h.pos t (hp'.mem_iff.1 ht), fun t h1 h2 => by rw [hp'.mem_iff]; exact h.mem t h1 h2⟩
theorem OpenT.next {x : Wt} {r : List Wt} {n : Nat} {bs : List Bool} {t : Nat} (h : OpenT (x :: r) n bs) (hx : x.ticket = t) : OpenT r n (bs.set t true) :=
  h.less (x := x) (List.perm_append_singleton x r) hx
theorem OpenT.all {n : Nat} {bs : List Bool} (h : OpenT [] n bs) (t : Nat) (h1 : 1 ≤ t) (h2 : t ≤ n) : bs[t]? = some true := by
  have hm := h.mem t h1 h2
  have hl := h.len
  have e : bs[t]? = some bs[t] := List.getElem?_eq_getElem (by omega)
  rw [e] at hm ⊢
  cases hb : bs[t] with
  | true => rfl
  | false => rw [hb] at hm; exact absurd (hm.2 rfl) (by simp [tks])
theorem PlainJ.perm {js ks : List Wt} (h : PlainJ js) (p : ks.Perm js) : PlainJ ks := fun x hx => h x (p.mem_iff.1 hx)
theorem PlainJ.push {js : List Wt} {x : Wt} (h : PlainJ js) (h1 : x.kind = 3) (h2 : x.backend = 0) : PlainJ (pushM js x) := PlainJ.perm (fun y hy => by
  rcases List.mem_append.1 hy with hy | hy
  · exact h y hy
  · rw [List.mem_singleton.1 hy]; exact ⟨h1, h2⟩) (pushM_perm js x)
end Go.Proofs.YtblljhdebfnmoaaGreatDoor
