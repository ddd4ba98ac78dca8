/- Queue.First. -/
import Derived.Test.YtadgamfhlklemaaGreatDoorAvC5
namespace Go.Proofs.YtadgamfhlklemaaGreatDoor
open Go.RowKit
set_option maxHeartbeats 1000000 in
set_option maxRecDepth 100000 in
theorem first_none (w : World) (base q : Nat) (js : List Wt) (last : Int) (hl : QL w base q js last) (hn : js.length = 0) :
    Calls Tryz.prog 15 #[.pointer (some ⟨q, 0, none⟩)] w fun e w' => e = .returned (.tuple #[.int .i64 0, .int .i64 13]) ∧ w = w' := by
  have d1 : ((js.length : Int) == 0) = true := by simp [hn]
  have HN := Lib.hid hn
  clear hn
  go_enter Tryz.func15, Tryz.ntmps15
  go_wp2_with (fail)
  refine (qlen_any w base q js last hl).mono ?_
  rintro e w2 ⟨rfl, rfl⟩
  go_wp2_with (fail)
  go_ret2
  exact ⟨rfl, rfl⟩
set_option maxHeartbeats 1000000 in
set_option maxRecDepth 100000 in
theorem first_some (w : World) (base q : Nat) (js : List Wt) (last : Int) (hl : QL w base q js last) (hn : 0 < js.length) :
    Calls Tryz.prog 15 #[.pointer (some ⟨q, 0, none⟩)] w fun e w' => e = .returned (.tuple #[.int .i64 (gt js 0).ticket, .int .i64 0]) ∧ w = w' := by
  have d1 : ((js.length : Int) == 0) = false := by rw [beq_eq_false_iff_ne]; omega
  obtain ⟨g, cap, hq, hb, hr, hqg⟩ := hl.row hn
  have c0 : w.cell? ⟨q, 0, none⟩ = some (.slice (some ⟨g, 0, none⟩) js.length cap) := hq.cell 0
  have h7 := (hr.at_ 0 hn).c7
  rw [← gt_eq js 0 hn] at h7
  simp only [Nat.zero_mul, Nat.zero_add] at h7
  have hlt : (0 : Int) < (js.length : Int) := by omega
  go_enter Tryz.func15, Tryz.ntmps15
  go_wp2_with (fail)
  refine (qlen_any w base q js last hl).mono ?_
  rintro e w2 ⟨rfl, rfl⟩
  go_wp2_with (fail)
  go_ret2
  exact ⟨rfl, rfl⟩
end Go.Proofs.YtadgamfhlklemaaGreatDoor
