/- Queue.Len; Drop's test. -/
import Derived.Test.YtadgamfhlklemaaGreatDoorAvC3
namespace Go.Proofs.YtadgamfhlklemaaGreatDoor
open Go.RowKit
set_option maxHeartbeats 1000000 in
set_option maxRecDepth 100000 in
theorem qlen_any (w : World) (base q : Nat) (js : List Wt) (last : Int) (hl : QL w base q js last) :
    Calls Tryz.prog 16 #[.pointer (some ⟨q, 0, none⟩)] w fun e w' => e = .returned (.int .i64 js.length) ∧ w = w' := by
  obtain ⟨v, hq, hln⟩ := hl.ex
  obtain ⟨A, c, rfl⟩ := own_form hln.own
  have c0 : w.cell? ⟨q, 0, none⟩ = some (.slice A js.length c) := hq.cell 0
  go_enter Tryz.func16, Tryz.ntmps16
  go_wp2_with (go_at_call 19; refine (len_any _ _ _ _).mono ?_; rintro e w2 ⟨rfl, rfl⟩)
  go_ret
  exact ⟨rfl, rfl⟩
theorem same_ticket (w : World) (b : Nat) (t : Int) (x : Wt) (hb : w.cell? ⟨b, 0, none⟩ = some (.int .i64 t)) :
    Calls Tryz.prog 23 #[.agg #[.int .i64 x.kind, .int .i64 x.backend, x.st.v, x.ms.v, x.pf.v, .int .i64 x.rounds, .int .i64 x.degree, .int .i64 x.ticket], .pointer (some ⟨b, 0, none⟩)] w fun e w' => e = .returned (.bool (x.ticket == t)) ∧ Below w.heap.size w w' := by
  have hb2 : ∀ o, (w.alloc o).cell? ⟨b, 0, none⟩ = some (.int .i64 t) := fun o => by rw [World.cell?_alloc_lt _ _ _ (World.block_lt_of_cell? _ _ hb)]; exact hb
  go_enter Tryz.func23, Tryz.ntmps23
  go_wp2
  go_ret
  exact ⟨rfl, (Below.refl _ _).alloc (Nat.le_refl _) _⟩
end Go.Proofs.YtadgamfhlklemaaGreatDoor
