/- The document's Verify by kind, of a waiting job that ends at its sizes. -/
import Derived.Test.YtadgamfhlklemaaGreatDoorAvH3
namespace Go.Proofs.YtadgamfhlklemaaGreatDoor
open Go.RowKit
theorem codeC_12 {k b r d : Int} (h : k = 1 ∨ k = 2) : codeC k b r d = codeC 1 b 0 0 ∧ codeC k b r d = codeC 2 b 0 0 := by
  rcases h with rfl | rfl <;> simp [codeC]
set_option maxHeartbeats 1000000 in
set_option maxRecDepth 100000 in
theorem rver_any (w : World) (k b r d : Int) (s m p : Sl) (h1 : 1 ≤ k) (h3 : k ≤ 3) (h : cheapC b s) :
    Calls Tryz.prog 14 #[jv k b s m p r d] w fun e w' => e = .returned (.int .i64 (codeC k b r d)) ∧ Below w.heap.size w w' := by
  obtain ⟨c0, c1, c2, c3, c4, c5, c6⟩ := job_cell (Blk.new w 33 #[.int .i64 k, .int .i64 b, s.v, m.v, p.v, .int .i64 r, .int .i64 d])
  have hB := (Below.refl w.heap.size w).alloc (Nat.le_refl _) (.cells #[.int .i64 k, .int .i64 b, s.v, m.v, p.v, .int .i64 r, .int .i64 d] 33)
  have hk : k = 1 ∨ k = 2 ∨ k = 3 := by omega
  clear h1 h3
  rcases hk with rfl | rfl | rfl
  · rw [(codeC_12 (.inl rfl)).1]
    go_enter Tryz.func14, Tryz.ntmps14
    go_wp2_with (fail)
    refine (rv20_any _ b s m p h).mono ?_
    rintro e w1 ⟨rfl, rfl⟩
    go_wp2_with (fail)
    go_ret
    exact ⟨rfl, hB⟩
  · rw [(codeC_12 (.inr rfl)).2]
    go_enter Tryz.func14, Tryz.ntmps14
    go_wp2_with (fail)
    refine (rv21_any _ b s m p h).mono ?_
    rintro e w1 ⟨rfl, rfl⟩
    go_wp2_with (fail)
    go_ret
    exact ⟨rfl, hB⟩
  · go_enter Tryz.func14, Tryz.ntmps14
    go_wp2_with (fail)
    refine (rv24_any _ b r d s p h).mono ?_
    rintro e w1 ⟨rfl, rfl⟩
    go_wp2_with (fail)
    go_ret
    exact ⟨rfl, hB⟩
end Go.Proofs.YtadgamfhlklemaaGreatDoor
