/- The heap's down, over the line. -/
import Derived.Test.YtadgamfhlklemaaGreatDoorAvB4
namespace Go.Proofs.YtadgamfhlklemaaGreatDoor
open Go.RowKit
structure DnRel (w wr : World) (g cap m n : Nat) (js : List Wt) (i : Nat) (js' : List Wt) (i' : Nat) : Prop where
  lt : i' < m
  ge : i ≤ i'
  len : js'.length = m
  row : Row wr g cap js'
  only : Only w wr g
  eq : downL n js' i' = downL n js i
  small : AllSmall js'
theorem dec_gt (a b : Nat) (_h : b ≤ a) : decide ((a : Int) > (b : Int)) = decide (b < a) := by simp

set_option maxHeartbeats 1000000 in
set_option maxRecDepth 10000 in
theorem down_any (w : World) (q g cap m n i : Nat) (I N : Int) (hI : I = i) (hN : N = n) (last : Int) (js : List Wt) (hm : js.length = m) (hnm : n ≤ m) (hi : i < m) (hn1 : m ≤ 1000000) (hq : Blk w q 27 #[.slice (some ⟨g, 0, none⟩) m cap, .int .i64 last]) (hqg : q ≠ g) (hr : Row w g cap js) (hs : AllSmall js) :
    Calls Tryz.prog 35 #[.iface 63 (.pointer (some ⟨q, 0, none⟩)), .int .i64 I, .int .i64 N] w fun e w' => e = .returned (.bool (decide (i < (downL n js i).2))) ∧ Row w' g cap (downL n js i).1 ∧ Only w w' g := by
  subst hI hN
  go_enter Tryz.func35, Tryz.ntmps35
  go_wp2
  go_loopw [7] (fun v wr => ∃ (i' : Nat) (js' : List Wt), v = .int .i64 i' ∧ DnRel w wr g cap m n js i js' i') (fun v _ => (n - (intOf v).toNat))
  case atStart => exact ⟨i, js, rfl, hi, Nat.le_refl _, hm, hr, only_refl _ _, rfl, hs⟩
  case round =>
    obtain ⟨i', js', rfl, h⟩ := hrel
    have hlt := h.lt
    have hge := h.ge
    have hqr : Blk wr q 27 #[.slice (some ⟨g, 0, none⟩) m cap, .int .i64 last] := hq.grown h.only (by simpa using hqg)
    have hc : wr.cell? ⟨q, 0, none⟩ = some (.slice (some ⟨g, 0, none⟩) m cap) := hqr.cell 0
    have hml := meth_less hc
    clear hc
    have f0 : ∀ r : List Wt × Nat, r.2 = i' → decide (i < i') = decide (i < r.2) := fun r e => by rw [e]
    have F0 := Lib.hid f0
    clear f0
    by_cases hA : n ≤ 2 * i' + 1
    · have HE := Lib.hid (downL_end n js' i' hA)
      have d1 : decide ((n : Int) ≤ 2 * (i' : Int) + 1) = true := by simp; omega
      go_wp2
      go_ret
      exact ⟨by rw [← h.eq, HE.out]; simp, by rw [← h.eq, HE.out]; exact h.row, h.only⟩
    · have d1 : decide ((n : Int) ≤ 2 * (i' : Int) + 1) = false := by simp; omega
      have d2 : decide (2 * (i' : Int) + 1 < 0) = false := by simp; omega
      have hA' : 2 * i' + 1 < n := by omega
      clear hA
      by_cases hB : 2 * i' + 2 < n
      · have d3 : decide (2 * (i' : Int) + 1 + 1 < (n : Int)) = true := by simp; omega
        cases hb1 : lessB (gt js' (2 * i' + 2)) (gt js' (2 * i' + 1)) with
        | false =>
          have HC := Lib.hid (show childM n js' i' = 2 * i' + 1 from by unfold childM; rw [if_neg (by simp [hb1])])
          have HB1 := Lib.hid hb1
          clear hb1
          go_wp2_with (fail)
          refine (less_row wr g cap (2 * i' + 2) (2 * i' + 1) m _ _ (by omega) (by omega) js' h.len (by omega) (by omega) hn1 h.row h.small false HB1.out).mono ?_
          rintro e w1 ⟨rfl, hb1⟩
          have hq1 : Blk w1 q 27 #[.slice (some ⟨g, 0, none⟩) m cap, .int .i64 last] := hqr.below hb1 hqr.lt
          have hm1 := meth_less (hq1.cell 0)
          clear hml
          cases hb2 : lessB (gt js' (2 * i' + 1)) (gt js' i') with
          | false =>
            have HE := Lib.hid (downL_no n js' i' (2 * i' + 1) HC.out hb2)
            have HB := Lib.hid hb2
            clear hb2
            go_wp2_with (fail)
            refine (less_row w1 g cap (2 * i' + 1) (i') m _ _ (by omega) (by omega) js' h.len (by omega) (by omega) hn1 (h.row.below hb1) h.small false HB.out).mono ?_
            rintro e w2 ⟨rfl, hb2⟩
            go_wp2
            go_ret
            exact ⟨by rw [← h.eq, HE.out]; simp, by rw [← h.eq, HE.out]; exact (h.row.below hb1).below hb2, only_trans (only_trans h.only (only_of_below hb1 g)) (only_of_below hb2 g)⟩
          | true =>
            have HE := Lib.hid (downL_yes n js' i' (2 * i' + 1) hA' HC.out hb2)
            have HB := Lib.hid hb2
            clear hb2
            go_wp2_with (fail)
            refine (less_row w1 g cap (2 * i' + 1) (i') m _ _ (by omega) (by omega) js' h.len (by omega) (by omega) hn1 (h.row.below hb1) h.small true HB.out).mono ?_
            rintro e w2 ⟨rfl, hb2⟩
            have hq2 : Blk w2 q 27 #[.slice (some ⟨g, 0, none⟩) m cap, .int .i64 last] := hq1.below hb2 hq1.lt
            have hm2 := meth_swap (hq2.cell 0)
            go_wp2_with (fail)
            refine (swap_rowM w2 g cap i' (2 * i' + 1) m _ _ (by omega) (by omega) js' h.len (by omega) (by omega) hn1 ((h.row.below hb1).below hb2)).mono ?_
            rintro e w3 ⟨rfl, hr3, ho3⟩
            go_wp2
            go_roundw
            case rel => exact ⟨2 * i' + 1, _, by go_num, by omega, by omega, by rw [swapM_length]; exact h.len, hr3, only_trans (only_trans (only_trans h.only (only_of_below hb1 g)) (only_of_below hb2 g)) ho3, by rw [← HE.out]; exact h.eq, h.small.swap (by rw [h.len]; omega) (by rw [h.len]; omega)⟩
            case measure => simp [intOf]; omega
        | true =>
          have HC := Lib.hid (show childM n js' i' = 2 * i' + 2 from by unfold childM; rw [if_pos ⟨hB, hb1⟩])
          have HB1 := Lib.hid hb1
          clear hb1
          go_wp2_with (fail)
          refine (less_row wr g cap (2 * i' + 2) (2 * i' + 1) m _ _ (by omega) (by omega) js' h.len (by omega) (by omega) hn1 h.row h.small true HB1.out).mono ?_
          rintro e w1 ⟨rfl, hb1⟩
          have hq1 : Blk w1 q 27 #[.slice (some ⟨g, 0, none⟩) m cap, .int .i64 last] := hqr.below hb1 hqr.lt
          have hm1 := meth_less (hq1.cell 0)
          clear hml
          cases hb2 : lessB (gt js' (2 * i' + 2)) (gt js' i') with
          | false =>
            have HE := Lib.hid (downL_no n js' i' (2 * i' + 2) HC.out hb2)
            have HB := Lib.hid hb2
            clear hb2
            go_wp2_with (fail)
            refine (less_row w1 g cap (2 * i' + 2) (i') m _ _ (by omega) (by omega) js' h.len (by omega) (by omega) hn1 (h.row.below hb1) h.small false HB.out).mono ?_
            rintro e w2 ⟨rfl, hb2⟩
            go_wp2
            go_ret
            exact ⟨by rw [← h.eq, HE.out]; simp, by rw [← h.eq, HE.out]; exact (h.row.below hb1).below hb2, only_trans (only_trans h.only (only_of_below hb1 g)) (only_of_below hb2 g)⟩
          | true =>
            have HE := Lib.hid (downL_yes n js' i' (2 * i' + 2) hA' HC.out hb2)
            have HB := Lib.hid hb2
            clear hb2
            go_wp2_with (fail)
            refine (less_row w1 g cap (2 * i' + 2) (i') m _ _ (by omega) (by omega) js' h.len (by omega) (by omega) hn1 (h.row.below hb1) h.small true HB.out).mono ?_
            rintro e w2 ⟨rfl, hb2⟩
            have hq2 : Blk w2 q 27 #[.slice (some ⟨g, 0, none⟩) m cap, .int .i64 last] := hq1.below hb2 hq1.lt
            have hm2 := meth_swap (hq2.cell 0)
            go_wp2_with (fail)
            refine (swap_rowM w2 g cap i' (2 * i' + 2) m _ _ (by omega) (by omega) js' h.len (by omega) (by omega) hn1 ((h.row.below hb1).below hb2)).mono ?_
            rintro e w3 ⟨rfl, hr3, ho3⟩
            go_wp2
            go_roundw
            case rel => exact ⟨2 * i' + 2, _, by go_num, by omega, by omega, by rw [swapM_length]; exact h.len, hr3, only_trans (only_trans (only_trans h.only (only_of_below hb1 g)) (only_of_below hb2 g)) ho3, by rw [← HE.out]; exact h.eq, h.small.swap (by rw [h.len]; omega) (by rw [h.len]; omega)⟩
            case measure => simp [intOf]; omega
      · have d3 : decide (2 * (i' : Int) + 1 + 1 < (n : Int)) = false := by simp; omega
        have HC := Lib.hid (show childM n js' i' = 2 * i' + 1 from by unfold childM; rw [if_neg (by omega)])
        cases hb2 : lessB (gt js' (2 * i' + 1)) (gt js' i') with
        | false =>
          have HE := Lib.hid (downL_no n js' i' (2 * i' + 1) HC.out hb2)
          have HB := Lib.hid hb2
          clear hb2
          go_wp2_with (fail)
          refine (less_row wr g cap (2 * i' + 1) (i') m _ _ (by omega) (by omega) js' h.len (by omega) (by omega) hn1 h.row h.small false HB.out).mono ?_
          rintro e w2 ⟨rfl, hb2⟩
          go_wp2
          go_ret
          exact ⟨by rw [← h.eq, HE.out]; simp, by rw [← h.eq, HE.out]; exact h.row.below hb2, only_trans h.only (only_of_below hb2 g)⟩
        | true =>
          have HE := Lib.hid (downL_yes n js' i' (2 * i' + 1) hA' HC.out hb2)
          have HB := Lib.hid hb2
          clear hb2
          go_wp2_with (fail)
          refine (less_row wr g cap (2 * i' + 1) (i') m _ _ (by omega) (by omega) js' h.len (by omega) (by omega) hn1 h.row h.small true HB.out).mono ?_
          rintro e w2 ⟨rfl, hb2⟩
          have hq2 : Blk w2 q 27 #[.slice (some ⟨g, 0, none⟩) m cap, .int .i64 last] := hqr.below hb2 hqr.lt
          have hm2 := meth_swap (hq2.cell 0)
          go_wp2_with (fail)
          refine (swap_rowM w2 g cap i' (2 * i' + 1) m _ _ (by omega) (by omega) js' h.len (by omega) (by omega) hn1 (h.row.below hb2)).mono ?_
          rintro e w3 ⟨rfl, hr3, ho3⟩
          go_wp2
          go_roundw
          case rel => exact ⟨2 * i' + 1, _, by go_num, by omega, by omega, by rw [swapM_length]; exact h.len, hr3, only_trans (only_trans h.only (only_of_below hb2 g)) ho3, by rw [← HE.out]; exact h.eq, h.small.swap (by rw [h.len]; omega) (by rw [h.len]; omega)⟩
          case measure => simp [intOf]; omega
end Go.Proofs.YtadgamfhlklemaaGreatDoor
