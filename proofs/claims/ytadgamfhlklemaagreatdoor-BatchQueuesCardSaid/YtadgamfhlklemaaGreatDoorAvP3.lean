/- Tickets of the jobs that wait. No program in sight. -/
import Derived.Test.YtadgamfhlklemaaGreatDoorAvP1
namespace Go.Proofs.YtadgamfhlklemaaGreatDoor
def tks (js : List Wt) : List Int := js.map Wt.ticket
/-- All tickets from 1 to k wait, each once. -/
structure Tks (js : List Wt) (k : Nat) : Prop where
  len : js.length = k
  nd : (tks js).Nodup
  mem : ∀ t : Int, t ∈ tks js ↔ 1 ≤ t ∧ t ≤ k
theorem Tks.nil : Tks [] 0 := ⟨rfl, List.nodup_nil, fun t => by simp [tks]; omega⟩
theorem Tks.push {js : List Wt} {k : Nat} (h : Tks js k) (x : Wt) (hx : x.ticket = k + 1) : Tks (pushM js x) (k + 1) := by
  have hp := (pushM_perm js x).map Wt.ticket
  have e : (js ++ [x]).map Wt.ticket = tks js ++ [((k : Int) + 1)] := by simp [tks, hx]
  rw [e] at hp
  refine ⟨by rw [pushM_length, h.len], ?_, fun t => ?_⟩
  · refine hp.nodup_iff.2 ?_
    rw [List.nodup_append]
    refine ⟨h.nd, by simp, fun a ha b hb => ?_⟩
    have h1 := (h.mem a).1 ha
    have h2 := List.mem_singleton.1 hb
    omega
  · have : t ∈ tks (pushM js x) ↔ t ∈ tks js ++ [((k : Int) + 1)] := hp.mem_iff
    rw [this, List.mem_append, h.mem, List.mem_singleton]
    omega
/-- What is left when place i is taken: the others. -/
theorem left_perm (js : List Wt) (i n : Nat) (hn : js.length = n + 1) (hi : i < js.length) : ((takeM js i n).take n ++ [gt js i]).Perm js := by
  obtain ⟨h1, h2, h3⟩ := takeM_spec js i n hn hi
  rw [← h3, take_concat _ n (by omega)]
  exact h2
theorem left_length (js : List Wt) (i n : Nat) (hn : js.length = n + 1) (hi : i < js.length) : ((takeM js i n).take n).length = n := by
  rw [List.length_take, (takeM_spec js i n hn hi).1]; omega
theorem left_sub (js : List Wt) (i n : Nat) (hn : js.length = n + 1) (hi : i < js.length) : ∀ x ∈ (takeM js i n).take n, x ∈ js := fun _ hx =>
  (left_perm js i n hn hi).mem_iff.1 (List.mem_append.2 (.inl hx))
theorem left_nd (js : List Wt) (i n : Nat) (hn : js.length = n + 1) (hi : i < js.length) (h : (tks js).Nodup) : (tks ((takeM js i n).take n)).Nodup ∧ (∀ x ∈ (takeM js i n).take n, x.ticket ≠ (gt js i).ticket) ∧ (∀ t, t ∈ tks js ↔ t ∈ tks ((takeM js i n).take n) ∨ t = (gt js i).ticket) := by
  have hp := (left_perm js i n hn hi).map Wt.ticket
  have e : ((takeM js i n).take n ++ [gt js i]).map Wt.ticket = tks ((takeM js i n).take n) ++ [(gt js i).ticket] := by simp [tks]
  rw [e] at hp
  have h2 := hp.nodup_iff.2 h
  rw [List.nodup_append] at h2
  refine ⟨h2.1, fun x hx => h2.2.2 x.ticket (List.mem_map_of_mem hx) _ (by simp), fun t => ?_⟩
  have : t ∈ tks js ↔ t ∈ tks ((takeM js i n).take n) ++ [(gt js i).ticket] := hp.mem_iff.symm
  rw [this, List.mem_append, List.mem_singleton]
end Go.Proofs.YtadgamfhlklemaaGreatDoor
