/- A slice of bytes that an argument is. -/
import Derived.Test.YtadgamfhlklemaaGreatDoorAvR
namespace Go.Proofs.YtadgamfhlklemaaGreatDoor
open Go.RowKit
/-- A slice of bytes that an argument is. -/
structure InB (w : World) (B : Nat) (A : Option Addr) (n : Nat) (zs : List Int) : Prop where
  rd : Reads w B 1 A n (zs.map fun z => .int .u8 z)
  ok : ∀ z ∈ zs, 0 ≤ z ∧ z ≤ 255
theorem InB.at_ {w : World} {B n k : Nat} {A : Option Addr} {zs : List Int} (h : InB w B A n zs) (hk : k < n) : ∃ ad z, A = some ad ∧ w.cell? (ad.add k) = some (.int .u8 z) ∧ 0 ≤ z ∧ z ≤ 255 := by
  obtain ⟨ad, u, hA, _, hu, hc⟩ := h.rd.at_ hk
  rw [List.getElem?_map] at hu
  obtain ⟨z, hz, rfl⟩ := Option.map_eq_some_iff.1 hu
  obtain ⟨i, hi, rfl⟩ := List.getElem?_eq_some_iff.1 hz
  exact ⟨ad, _, hA, hc, (h.ok _ (List.getElem_mem _)).1, (h.ok _ (List.getElem_mem _)).2⟩
theorem InB.below {w w' : World} {B n : Nat} {A : Option Addr} {zs : List Int} (h : InB w B A n zs) (hb : Below B w w') : InB w' B A n zs := ⟨h.rd.below hb, h.ok⟩
end Go.Proofs.YtadgamfhlklemaaGreatDoor
