/- The document's Add: a job of no kind. -/
import Derived.Test.YtadgamfhlklemaaGreatDoorAvH1
namespace Go.Proofs.YtadgamfhlklemaaGreatDoor
open Go.RowKit
set_option maxHeartbeats 4000000 in
set_option maxRecDepth 100000 in
theorem radd_kind (w : World) (lv : Value) (last k b r d : Int) (s m p : Sl) (hk : k < 1 ∨ 3 < k) (A : Option Addr) (n c : Nat) (hl : lv = .slice A n c) :
    Calls Tryz.prog 7 #[.agg #[lv, .int .i64 last], jv k b s m p r d] w fun e w' => e = .returned (.tuple #[.agg #[lv, .int .i64 last], .int .i64 0, .int .i64 5]) ∧ Below w.heap.size w w' := by
  subst hl
  have hB : ∀ o1 o2 o3, Below w.heap.size w (((w.alloc o1).alloc o2).alloc o3) := fun _ _ _ => (((Below.refl _ _).alloc (Nat.le_refl _) _).alloc (by simp) _).alloc (by simp; omega) _
  rcases hk with hk | hk
  · have d1 : decide (k < 1) = true := by simp; omega
    clear hk
    go_enter Tryz.func7, Tryz.ntmps7
    go_wp2_with (fail)
    exact bodyPost_ret (v := .tuple #[.agg #[.slice A n c, .int .i64 last], .int .i64 0, .int .i64 5]) (by simp [results, Tryz.results7, go_sem]) rfl ⟨rfl, hB _ _ _⟩
  · have d1 : decide (k < 1) = false := by simp; omega
    have d2 : decide (k > 3) = true := by simp; omega
    clear hk
    go_enter Tryz.func7, Tryz.ntmps7
    go_wp2_with (fail)
    exact bodyPost_ret (v := .tuple #[.agg #[.slice A n c, .int .i64 last], .int .i64 0, .int .i64 5]) (by simp [results, Tryz.results7, go_sem]) rfl ⟨rfl, hB _ _ _⟩
end Go.Proofs.YtadgamfhlklemaaGreatDoor
