/- wide.Group; group.Read at another size. -/
import Derived.Test.YtadgamfhlklemaaGreatDoorAvL6
namespace Go.Proofs.YtadgamfhlklemaaGreatDoor
open Go.RowKit
theorem primeL_wd : Wd primeL := by
  intro x hx
  simp only [primeL, List.mem_cons, List.not_mem_nil, or_false] at hx
  omega
set_option maxHeartbeats 4000000 in
set_option maxRecDepth 100000 in
theorem ring_prime (w : World) : Calls Tryz.prog 197 #[.agg (u64s primeL).toArray] w fun e w' => ∃ p, e = .returned (.pointer (some ⟨p, 0, none⟩)) ∧ Below w.heap.size w w' := by
  have hb := Blk.new w 152 (u64s primeL).toArray
  have hB : Below w.heap.size w (w.alloc (.cells (u64s primeL).toArray 152)) := (Below.refl _ _).alloc (Nat.le_refl _) _
  have hws : Ws (w.alloc (.cells (u64s primeL).toArray 152)) (w.alloc (.cells (u64s primeL).toArray 152)).heap.size (some ⟨w.heap.size, 0, none⟩) 12 primeL :=
    ⟨Reads.cells_at hb hb.lt (by decide), primeL_wd⟩
  go_enter Tryz.func197, Tryz.ntmps197
  go_wp2_with (fail)
  refine (new_any _ w.heap.size 12 12 primeL (by omega) (by omega) (by decide +kernel) (by decide) hws).mono ?_
  rintro e w1 ⟨p, rfl, hb1⟩
  go_wp2_with (fail)
  go_ret
  exact ⟨_, rfl, (below_then hB hB.size hb1).alloc (by have := hb1.size; have := hB.size; omega) _⟩
set_option maxHeartbeats 1000000 in
set_option maxRecDepth 100000 in
theorem group_any (w : World) : Calls Tryz.prog 146 #[] w fun e w' => ∃ p, e = .returned (.pointer (some ⟨p, 0, none⟩)) ∧ Below w.heap.size w w' := by
  go_enter Tryz.func146, Tryz.ntmps146
  go_wp2_with (fail)
  refine (prime_any w).mono ?_
  rintro e w1 ⟨rfl, hb1⟩
  go_wp2_with (fail)
  refine (ring_prime w1).mono ?_
  rintro e w2 ⟨p, rfl, hb2⟩
  go_wp2_with (fail)
  go_ret
  exact ⟨p, rfl, below_then hb1 hb1.size hb2⟩
end Go.Proofs.YtadgamfhlklemaaGreatDoor
