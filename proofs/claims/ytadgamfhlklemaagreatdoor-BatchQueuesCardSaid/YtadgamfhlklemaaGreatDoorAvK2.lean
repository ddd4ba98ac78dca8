/- batch.Verify of a waiting job that ends at its sizes. -/
import Derived.Test.YtadgamfhlklemaaGreatDoorAvK1
import Derived.Test.YtadgamfhlklemaaGreatDoorAvH7
namespace Go.Proofs.YtadgamfhlklemaaGreatDoor
open Go.RowKit
structure WfS (s : Sl) : Prop where
  le : s.n ≤ s.c
  ad : s.n ≠ 0 → ∃ a, s.a = some a
theorem job_blk (w : World) (k b : Int) (s m p : Sl) (r d : Int) : Blk (w.alloc (.cells #[.int .i64 k, .int .i64 b, s.v, m.v, p.v, .int .i64 r, .int .i64 d] 37)) w.heap.size 37 #[.int .i64 k, .int .i64 b, s.v, m.v, p.v, .int .i64 r, .int .i64 d] := Blk.new w _ _
set_option maxHeartbeats 1000000 in
set_option maxRecDepth 100000 in
theorem jobschnorr_cheap (w : World) (k b r d : Int) (s m p : Sl) (h : cheapC b s) (hp : WfS p) :
    Calls Tryz.prog 31 #[jv k b s m p r d] w fun e w' => e = .returned (.int .i64 (codeC 1 b 0 0)) ∧ Below w.heap.size w w' := by
  have hb0 : ∀ o, Below w.heap.size w (w.alloc o) := fun o => (Below.refl _ _).alloc (Nat.le_refl _) _
  obtain ⟨c0, c1, c2, c3, c4, c5, c6⟩ := job_cell (job_blk w k b s m p r d)
  go_enter Tryz.func31, Tryz.ntmps31
  go_wp2_with (fail)
  refine (schnorr_cheap _ b s m p hp.le h hp.ad).mono ?_
  rintro e w1 ⟨rfl, hb⟩
  have hB : Below w.heap.size w w1 := below_then (hb0 _) (by simp) hb
  go_wp2_with (fail)
  go_ret
  exact ⟨rfl, hB⟩
set_option maxHeartbeats 1000000 in
set_option maxRecDepth 100000 in
theorem jobsigma_cheap (w : World) (k b r d : Int) (s m p : Sl) (h : cheapC b s) :
    Calls Tryz.prog 32 #[jv k b s m p r d] w fun e w' => e = .returned (.int .i64 (codeC 2 b 0 0)) ∧ Below w.heap.size w w' := by
  have hb0 : ∀ o, Below w.heap.size w (w.alloc o) := fun o => (Below.refl _ _).alloc (Nat.le_refl _) _
  obtain ⟨c0, c1, c2, c3, c4, c5, c6⟩ := job_cell (job_blk w k b s m p r d)
  go_enter Tryz.func32, Tryz.ntmps32
  go_wp2_with (fail)
  refine (sigma_cheap _ b s m p h).mono ?_
  rintro e w1 ⟨rfl, hb⟩
  have hB : Below w.heap.size w w1 := below_then (hb0 _) (by simp) hb
  go_wp2_with (fail)
  go_ret
  exact ⟨rfl, hB⟩
set_option maxHeartbeats 1000000 in
set_option maxRecDepth 100000 in
theorem jobsum_cheap (w : World) (k b r d : Int) (s m p : Sl) (h : cheapC b s) :
    Calls Tryz.prog 33 #[jv k b s m p r d] w fun e w' => e = .returned (.int .i64 (codeC 3 b r d)) ∧ Below w.heap.size w w' := by
  have hb0 : ∀ o, Below w.heap.size w (w.alloc o) := fun o => (Below.refl _ _).alloc (Nat.le_refl _) _
  obtain ⟨c0, c1, c2, c3, c4, c5, c6⟩ := job_cell (job_blk w k b s m p r d)
  go_enter Tryz.func33, Tryz.ntmps33
  go_wp2_with (fail)
  refine (sumcheck_cheap _ b r d s p h).mono ?_
  rintro e w1 ⟨rfl, hb⟩
  have hB : Below w.heap.size w w1 := below_then (hb0 _) (by simp) hb
  unfold zeroEnd
  go_wp2_with (fail)
  go_ret
  exact ⟨rfl, hB.alloc hB.size _⟩
set_option maxHeartbeats 1000000 in
set_option maxRecDepth 100000 in
theorem ver_cheap (x : Wt) (h1 : 1 ≤ x.kind) (h3 : x.kind ≤ 3) (h : cheapC x.backend x.st) (hp : WfS x.pf) : VerIs (fun _ => True) x (codeC x.kind x.backend x.rounds x.degree) := by
  intro w _
  obtain ⟨k, b, s, m, p, r, d, t⟩ := x
  dsimp only at h1 h3 h hp ⊢
  have hb0 : ∀ o, Below w.heap.size w (w.alloc o) := fun o => (Below.refl _ _).alloc (Nat.le_refl _) _
  have hk : k = 1 ∨ k = 2 ∨ k = 3 := by omega
  clear h1 h3
  rcases hk with rfl | rfl | rfl
  · rw [(codeC_12 (.inl rfl)).1]
    have hE := fun W => eq_vf 1 W
    have hG := fun W x y => eqg_vf 1 W x y
    have hv : vfOf 1 = .func (.func 31) #[] #[] := rfl
    have hi : vfIs 1 = true := rfl
    rw [hi] at hE
    rw [hv] at hE hG
    have hbx := job_blk w 1 b s m p r d
    obtain ⟨c0, c1, c2, c3, c4, c5, c6⟩ := job_cell hbx
    have HV := Lib.hid hv
    clear hv hi
    go_enter Tryz.func27, Tryz.ntmps27
    go_wp2_with (fail)
    refine (verifier_any 1 _).mono ?_
    rintro e w1 ⟨rfl, hb⟩
    rw [HV.out]
    have hB : Below w.heap.size w w1 := below_then (hb0 _) (by simp) hb
    have hx1 := hbx.below hb (by simp)
    obtain ⟨b0, b1, b2, b3, b4, b5, b6⟩ := job_cell hx1
    clear hbx hx1 hb c0 c1 c2 c3 c4 c5 c6
    go_wp2_with (fail)
    refine (jobschnorr_cheap w1 1 b r d s m p h hp).mono ?_
    rintro e w2 ⟨rfl, hb2⟩
    go_wp2_with (fail)
    go_ret
    exact ⟨rfl, below_then hB hB.size hb2⟩
  · rw [(codeC_12 (.inr rfl)).2]
    have hE := fun W => eq_vf 2 W
    have hG := fun W x y => eqg_vf 2 W x y
    have hv : vfOf 2 = .func (.func 32) #[] #[] := rfl
    have hi : vfIs 2 = true := rfl
    rw [hi] at hE
    rw [hv] at hE hG
    have hbx := job_blk w 2 b s m p r d
    obtain ⟨c0, c1, c2, c3, c4, c5, c6⟩ := job_cell hbx
    have HV := Lib.hid hv
    clear hv hi
    go_enter Tryz.func27, Tryz.ntmps27
    go_wp2_with (fail)
    refine (verifier_any 2 _).mono ?_
    rintro e w1 ⟨rfl, hb⟩
    rw [HV.out]
    have hB : Below w.heap.size w w1 := below_then (hb0 _) (by simp) hb
    have hx1 := hbx.below hb (by simp)
    obtain ⟨b0, b1, b2, b3, b4, b5, b6⟩ := job_cell hx1
    clear hbx hx1 hb c0 c1 c2 c3 c4 c5 c6
    go_wp2_with (fail)
    refine (jobsigma_cheap w1 2 b r d s m p h).mono ?_
    rintro e w2 ⟨rfl, hb2⟩
    go_wp2_with (fail)
    go_ret
    exact ⟨rfl, below_then hB hB.size hb2⟩
  · skip
    have hE := fun W => eq_vf 3 W
    have hG := fun W x y => eqg_vf 3 W x y
    have hv : vfOf 3 = .func (.func 33) #[] #[] := rfl
    have hi : vfIs 3 = true := rfl
    rw [hi] at hE
    rw [hv] at hE hG
    have hbx := job_blk w 3 b s m p r d
    obtain ⟨c0, c1, c2, c3, c4, c5, c6⟩ := job_cell hbx
    have HV := Lib.hid hv
    clear hv hi
    go_enter Tryz.func27, Tryz.ntmps27
    go_wp2_with (fail)
    refine (verifier_any 3 _).mono ?_
    rintro e w1 ⟨rfl, hb⟩
    rw [HV.out]
    have hB : Below w.heap.size w w1 := below_then (hb0 _) (by simp) hb
    have hx1 := hbx.below hb (by simp)
    obtain ⟨b0, b1, b2, b3, b4, b5, b6⟩ := job_cell hx1
    clear hbx hx1 hb c0 c1 c2 c3 c4 c5 c6
    go_wp2_with (fail)
    refine (jobsum_cheap w1 3 b r d s m p h).mono ?_
    rintro e w2 ⟨rfl, hb2⟩
    go_wp2_with (fail)
    go_ret
    exact ⟨rfl, below_then hB hB.size hb2⟩
end Go.Proofs.YtadgamfhlklemaaGreatDoor
