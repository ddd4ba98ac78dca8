/- How an argument that is a slice of bytes is read. -/
import Derived.Test.YtadgamfhlklemaaGreatDoorAvI0
import Derived.Test.YtadgamfhlklemaaGreatDoorAvB1
import Derived.OpenShut
import Derived.ChangeSlices
import Derived.ChangeShapes
import Derived.Carry
namespace Go.Proofs.YtadgamfhlklemaaGreatDoor.Rw
open Go.ChangeShapes Go.WideShapes Go.RowKit
set_option maxRecDepth 100000 in
theorem open_bytes {H : Type} {enc : TypeId × Value → H} {W : World} {sp : Nat → Bool} {hd : Bool} {v : Value} {d : DataW H} {p : List MemPlace} {r : Reach} {b0 : Nat} (hval : Value.okWide Tryz.prog W r b0 31 v) (h : DataW.Trod enc Tryz.prog W 0 sp hd 31 v d p) :
    ∃ A n c zs, v = .slice A n c ∧ InB W W.heap.size A n zs := by
  obtain ⟨A, n, c, rfl⟩ := okWide_slice Tryz.underlying31 hval
  obtain ⟨fuel, hf⟩ := h
  rcases open_ints Tryz.underlying31 Tryz.underlying5 (by kernel_rfl) hf with ⟨hcs, _⟩ | ⟨a, len, cap, zs, hcs, _, hl, _, hz, _, hcell, hw⟩
  · simp [Value.cells] at hcs
    obtain ⟨rfl, rfl, rfl⟩ := hcs
    exact ⟨none, 0, 0, [], rfl, Reads.none_, by simp⟩
  · simp [Value.cells] at hcs
    obtain ⟨rfl, rfl, rfl⟩ := hcs
    have hlz : n ≤ zs.length := by rw [hz]; split <;> omega
    refine ⟨some a, n, c, zs.take n, rfl, ⟨by simp; omega, fun hn => ⟨a, rfl, ?_, fun j u hu => ?_⟩⟩, fun z hz => ?_⟩
    · have := World.block_lt_of_cell? _ _ (hcell 0 (by omega))
      rwa [block_of_add] at this
    · rw [List.getElem?_map, List.getElem?_take] at hu
      split at hu
      · obtain ⟨z, hz, rfl⟩ := Option.map_eq_some_iff.1 hu
        have hj := hcell j (by omega)
        simp [hj, List.getD, hz]
      · cases hu
    · exact bounds_u8 (hw z (List.mem_of_mem_take hz))
end Go.Proofs.YtadgamfhlklemaaGreatDoor.Rw
