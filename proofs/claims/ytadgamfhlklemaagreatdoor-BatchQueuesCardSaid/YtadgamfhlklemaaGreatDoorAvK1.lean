/- sigma.Verify and sumcheck.Verify of what ends at its sizes; batch.Verify of a waiting job. -/
import Derived.Test.YtadgamfhlklemaaGreatDoorAvL9
import Derived.Test.YtadgamfhlklemaaGreatDoorAvC7
namespace Go.Proofs.YtadgamfhlklemaaGreatDoor
open Go.RowKit
set_option maxHeartbeats 1000000 in
set_option maxRecDepth 100000 in
theorem sbegin_no (w : World) (b : Int) : Calls Tryz.prog 88 #[.int .i64 b, .bool false] w fun e w' => e = .returned (.int .i64 (if b ≠ 1 ∧ b ≠ 2 then 15 else 1)) ∧ w = w' := by
  by_cases h : b ≠ 1 ∧ b ≠ 2
  · rw [if_pos h]
    have d1 : (b != 1) = true := by rw [bne_iff_ne]; exact h.1
    have d2 : (b != 2) = true := by rw [bne_iff_ne]; exact h.2
    clear h
    go_enter Tryz.func88, Tryz.ntmps88
    go_wp2_with (fail)
    go_ret
    exact ⟨rfl, rfl⟩
  · rw [if_neg h]
    have hb : b = 1 ∨ b = 2 := by omega
    clear h
    rcases hb with rfl | rfl
    all_goals (
      go_enter Tryz.func88, Tryz.ntmps88
      go_wp2_with (fail)
      go_ret
      exact ⟨rfl, rfl⟩)
theorem codeC_2 (b : Int) : (if b ≠ 1 ∧ b ≠ 2 then (15 : Int) else 1) = codeC 2 b 0 0 := by
  unfold codeC
  by_cases h : b ≠ 1 ∧ b ≠ 2
  · rw [if_pos h, if_pos h]
  · rw [if_neg h, if_neg h]; simp
set_option maxHeartbeats 4000000 in
set_option maxRecDepth 100000 in
theorem sigma_cheap (w : World) (b : Int) (s m p : Sl) (h : cheapC b s) :
    Calls Tryz.prog 54 #[.int .i64 b, s.v, m.v, p.v] w fun e w' => e = .returned (.int .i64 (codeC 2 b 0 0)) ∧ Below w.heap.size w w' := by
  have d0 : (codeC 2 b 0 0 != 0) = true := by
    rw [← codeC_2, bne_iff_ne]
    split <;> omega
  have HC := Lib.hid (codeC_2 b)
  by_cases hs : s.n = 192
  · -- then the backend is none
    have hb : b ≠ 1 ∧ b ≠ 2 := by
      rcases h with h | h
      · exact h
      · omega
    have d1 : ((s.n : Int) == 192) = true := by simp [hs]
    have e1 : codeC 2 b 0 0 = 15 := by simp [codeC, hb]
    have d2 : (b != 1) = true := by rw [bne_iff_ne]; exact hb.1
    have d3 : (b != 2) = true := by rw [bne_iff_ne]; exact hb.2
    have sb : ∀ (t : Bool) (W : World), Calls Tryz.prog 88 #[.int .i64 b, .bool t] W fun e w' => e = .returned (.int .i64 15) ∧ W = w' := by
      intro t W
      clear hs h d0 HC d1 e1 hb
      go_enter Tryz.func88, Tryz.ntmps88
      go_wp2_with (fail)
      go_ret
      exact ⟨rfl, rfl⟩
    have SB := Lib.hid sb
    rw [e1]
    clear h hs hb e1 d0 HC sb d2 d3
    go_enter Tryz.func54, Tryz.ntmps54
    go_wp2_with (fail)
    refine (SB.out _ w).mono ?_
    rintro e w1 ⟨rfl, rfl⟩
    go_wp2_with (fail)
    go_ret
    exact ⟨rfl, Below.refl _ _⟩
  · have d1 : ((s.n : Int) == 192) = false := by rw [beq_eq_false_iff_ne]; omega
    clear h hs
    go_enter Tryz.func54, Tryz.ntmps54
    go_wp2_with (fail)
    refine (sbegin_no w b).mono ?_
    rintro e w1 ⟨rfl, rfl⟩
    rw [HC.out]
    go_wp2_with (fail)
    go_ret
    exact ⟨rfl, Below.refl _ _⟩
def mayC (r d : Int) : Int := if mayB r d = true then 0 else 7
theorem mayC_no {r d : Int} (h : mayB r d = false) : mayC r d = 7 := by unfold mayC; rw [h]; rfl
theorem mayC_yes {r d : Int} (h : mayB r d = true) : mayC r d = 0 := by unfold mayC; rw [h]; rfl
theorem ret_i64 {a b : Int} (h : a = b) : Ending.returned (.int .i64 a) = .returned (.int .i64 b) := by rw [h]
set_option maxHeartbeats 1000000 in
set_option maxRecDepth 100000 in
theorem may_any (w : World) (r d : Int) : Calls Tryz.prog 156 #[.int .i64 r, .int .i64 d] w fun e w' => e = .returned (.int .i64 (mayC r d)) ∧ w = w' := by
  go_enter Tryz.func156, Tryz.ntmps156
  go_wp2_with (fail)
  all_goals go_ret
  all_goals refine ⟨ret_i64 ?_, rfl⟩
  all_goals first | exact (mayC_yes (by simp [mayB]; omega)).symm | exact (mayC_no (by simp [mayB]; omega)).symm
set_option maxHeartbeats 1000000 in
set_option maxRecDepth 100000 in
theorem size_no (w : World) (r d : Int) (h : mayB r d = false) : Calls Tryz.prog 96 #[.int .i64 r, .int .i64 d] w fun e w' => e = .returned (.tuple #[.int .i64 0, .int .i64 7]) ∧ w = w' := by
  go_enter Tryz.func96, Tryz.ntmps96
  go_wp2_with (fail)
  refine (may_any w r d).mono ?_
  rintro e w1 ⟨rfl, rfl⟩
  rw [mayC_no h]
  go_wp2_with (fail)
  go_ret2
  exact ⟨rfl, rfl⟩
set_option maxHeartbeats 1000000 in
set_option maxRecDepth 100000 in
theorem size_yes (w : World) (r d : Int) (h : mayB r d = true) : Calls Tryz.prog 96 #[.int .i64 r, .int .i64 d] w fun e w' => e = .returned (.tuple #[.int .i64 (32 * (r * (d + 1) + 1)), .int .i64 0]) ∧ w = w' := by
  have hb : 1 ≤ r ∧ r ≤ 64 ∧ 1 ≤ d ∧ d ≤ 8 := by
    simp only [mayB, Bool.and_eq_true, decide_eq_true_eq] at h
    omega
  obtain ⟨b1, b2, b3, b4⟩ := hb
  have m1 : r * (d + 1) ≤ 64 * 9 := Int.mul_le_mul b2 (by omega) (by omega) (by omega)
  have m0 : 0 ≤ r * (d + 1) := Int.mul_nonneg (by omega) (by omega)
  go_enter Tryz.func96, Tryz.ntmps96
  go_wp2_with (fail)
  refine (may_any w r d).mono ?_
  rintro e w1 ⟨rfl, rfl⟩
  rw [mayC_yes h]
  go_wp2_with (fail)
  go_ret2
  exact ⟨rfl, rfl⟩
set_option maxHeartbeats 4000000 in
set_option maxRecDepth 100000 in
theorem sumcheck_cheap (w : World) (b r d : Int) (s p : Sl) (h : cheapC b s) :
    Calls Tryz.prog 55 #[.int .i64 b, .int .i64 r, .int .i64 d, s.v, p.v] w fun e w' => e = .returned (.tuple #[zeroEnd, .int .i64 (codeC 3 b r d)]) ∧ Below w.heap.size w w' := by
  by_cases hb : b ≠ 1 ∧ b ≠ 2
  · have e1 : codeC 3 b r d = 15 := by simp [codeC, hb]
    rw [e1]
    exact sumVerify_backend w b r d s p hb.1 hb.2
  · have hs := h.resolve_left hb
    have hc : codeC 3 b r d = if mayB r d = false then 7 else 1 := by simp only [codeC, if_neg hb]; simp
    rw [hc]
    have d3 : ((s.n : Int) != 32) = true := by rw [bne_iff_ne]; omega
    have hb12 : b = 1 ∨ b = 2 := by omega
    clear hb hc h hs
    cases hm : mayB r d
    · have HM := Lib.hid hm
      rw [if_pos rfl]
      clear hm
      rcases hb12 with rfl | rfl
      all_goals (
        go_enter Tryz.func55, Tryz.ntmps55
        go_wp2_with (fail)
        refine (size_no _ r d HM.out).mono ?_
        rintro e w1 ⟨rfl, rfl⟩
        go_wp2_with (fail)
        refine bodyPost_ret (v := .tuple #[zeroEnd, .int .i64 7]) (by simp [results, Tryz.results55, go_sem, zeroEnd]) rfl ⟨rfl, ?_⟩
        exact (Below.refl _ _).alloc (Nat.le_refl _) _)
    · have HM := Lib.hid hm
      rw [if_neg (by simp)]
      clear hm
      rcases hb12 with rfl | rfl
      all_goals (
        go_enter Tryz.func55, Tryz.ntmps55
        go_wp2_with (fail)
        refine (size_yes _ r d HM.out).mono ?_
        rintro e w1 ⟨rfl, rfl⟩
        go_wp2_with (fail)
        refine bodyPost_ret (v := .tuple #[zeroEnd, .int .i64 1]) (by simp [results, Tryz.results55, go_sem, zeroEnd]) rfl ⟨rfl, ?_⟩
        exact (Below.refl _ _).alloc (Nat.le_refl _) _)
end Go.Proofs.YtadgamfhlklemaaGreatDoor
