/- The heap's Pop and Remove over the line. -/
import Derived.Test.YtadgamfhlklemaaGreatDoorAvB7
namespace Go.Proofs.YtadgamfhlklemaaGreatDoor
open Go.RowKit
theorem swapM_self (js : List Wt) (i : Nat) (hi : i < js.length) : swapM js i i = js := by
  unfold swapM
  rw [gt_eq js i hi, List.set_getElem_self, List.set_getElem_self]
theorem popM_eq (js : List Wt) (n : Nat) (hn : js.length = n + 1) : (downL n (swapM js 0 n) 0).1 = takeM js 0 n := by
  unfold takeM
  by_cases h : n = 0
  · subst h; rw [if_pos rfl, swapM_self js 0 (by omega), downL_end 0 js 0 (by omega)]
  · rw [if_neg h]
    dsimp only
    split
    · rfl
    · rw [upL_zero]
set_option maxHeartbeats 1000000 in
set_option maxRecDepth 100000 in
theorem pop_any (w : World) (base q n : Nat) (last : Int) (js : List Wt) (hn : js.length = n + 1) (hn1 : n ≤ 999999) (hl : QL w base q js last) (hs : AllSmall js) :
    Calls Tryz.prog 26 #[.iface 63 (.pointer (some ⟨q, 0, none⟩))] w fun e w' => e = .returned (.iface 65 (.agg (gt (takeM js 0 n) n).cells.toArray)) ∧ Kept base q w w' ∧ QL w' base q ((takeM js 0 n).take n) last := by
  obtain ⟨g, cap, hq, hb, hr, hqg⟩ := hl.row (by omega)
  have HN := Lib.hid hn
  rw [hn] at hq
  clear hn
  have hml := meth_len (hq.cell 0)
  have hms := meth_swap (hq.cell 0)
  have hdn := downL_spec n (swapM js 0 n) 0 (by rw [swapM_length, HN.out]; omega) (by rw [swapM_length, HN.out]; omega)
  have HPE := Lib.hid (popM_eq js n HN.out)
  have HDL : Hid ((downL n (swapM js 0 n) 0).1.length = n + 1) := by rw [hdn.1, swapM_length, HN.out]; rfl
  clear hdn
  go_enter Tryz.func26, Tryz.ntmps26
  go_wp2_with (go_at_call 19; refine (len_any _ _ _ _).mono ?_; rintro e w2 ⟨rfl, rfl⟩)
  refine (swap_rowM w g cap 0 n (n + 1) _ _ (by omega) (by omega) js HN.out (by omega) (by omega) (by omega) hr).mono ?_
  rintro e w1 ⟨rfl, hr1, ho1⟩
  have hq1 := hq.grown ho1 (by simpa using hqg)
  clear hml hms
  go_wp2_with (fail)
  refine (down_any w1 q g cap (n + 1) n 0 _ _ (by omega) (by omega) last (swapM js 0 n) (by rw [swapM_length]; exact HN.out) (by omega) (by omega) (by omega) hq1 hqg hr1 (hs.swap (by rw [HN.out]; omega) (by rw [HN.out]; omega))).mono ?_
  rintro e w2 ⟨rfl, hr2, ho2⟩
  have hq2 := hq1.grown ho2 (by simpa using hqg)
  have hmp := fun W => meth_pop q W
  go_wp2_with (fail)
  refine (lpop_any w2 q g cap n last (downL n (swapM js 0 n) 0).1 HDL (by omega) hq2 hr2 hqg).mono ?_
  rintro e w3 ⟨rfl, hq3, hr3, ho3⟩
  go_wp2
  go_ret
  refine ⟨by simp [HPE.out], ((kept_only hb hr ho1).trans (kept_only hb hr1 ho2)).trans (kept_q ho3), ?_⟩
  rw [← HPE.out]
  exact QL.of_row (by rw [List.length_take, show (downL n (swapM js 0 n) 0).1.length = n + 1 from HDL]; omega) hq3 hb hr3

theorem takeM_last (js : List Wt) (n : Nat) : takeM js n n = js := by unfold takeM; rw [if_pos rfl]
theorem takeM_moved (js : List Wt) (i n : Nat) (h : n ≠ i) (hm : i < (downL n (swapM js i n) i).2) : takeM js i n = (downL n (swapM js i n) i).1 := by unfold takeM; rw [if_neg h]; simp [hm]
theorem takeM_up (js : List Wt) (i n : Nat) (h : n ≠ i) (hm : ¬ i < (downL n (swapM js i n) i).2) : takeM js i n = upL (downL n (swapM js i n) i).1 i := by unfold takeM; rw [if_neg h]; simp [hm]
set_option maxHeartbeats 1000000 in
set_option maxRecDepth 100000 in
theorem remove_any (w : World) (base q n i : Nat) (I : Int) (hI : I = i) (last : Int) (js : List Wt) (hn : js.length = n + 1) (hi : i ≤ n) (hn1 : n ≤ 999999) (hl : QL w base q js last) (hs : AllSmall js) :
    Calls Tryz.prog 24 #[.iface 63 (.pointer (some ⟨q, 0, none⟩)), .int .i64 I] w fun e w' => e = .returned (.iface 65 (.agg (gt (takeM js i n) n).cells.toArray)) ∧ Kept base q w w' ∧ QL w' base q ((takeM js i n).take n) last := by
  subst hI
  obtain ⟨g, cap, hq, hb, hr, hqg⟩ := hl.row (by omega)
  have HN := Lib.hid hn
  rw [hn] at hq
  clear hn
  have hml := meth_len (hq.cell 0)
  have hmp := fun W => meth_pop q W
  by_cases hni : n = i
  · subst hni
    have d1 : ((n : Int) == (n : Int)) = true := by simp
    go_enter Tryz.func24, Tryz.ntmps24
    go_wp2_with (go_at_call 19; refine (len_any _ _ _ _).mono ?_; rintro e w2 ⟨rfl, rfl⟩)
    refine (lpop_any w q g cap n last js HN.out (by omega) hq hr hqg).mono ?_
    rintro e w3 ⟨rfl, hq3, hr3, ho3⟩
    go_wp2
    go_ret
    refine ⟨by simp [takeM_last], kept_q ho3, ?_⟩
    rw [takeM_last]
    exact QL.of_row (by rw [List.length_take, HN.out]; omega) hq3 hb hr3
  · have d1 : ((n : Int) == (i : Int)) = false := by rw [beq_eq_false_iff_ne]; omega
    have hms := meth_swap (hq.cell 0)
    have hdn := downL_spec n (swapM js i n) i (by rw [swapM_length, HN.out]; omega) (by rw [swapM_length, HN.out]; omega)
    have HDL : Hid ((downL n (swapM js i n) i).1.length = n + 1) := by rw [hdn.1, swapM_length, HN.out]; rfl
    have hsm : AllSmall (swapM js i n) := hs.swap (by rw [HN.out]; omega) (by rw [HN.out]; omega)
    have HSM := Lib.hid (hsm.perm hdn.2.1)
    clear hdn
    go_enter Tryz.func24, Tryz.ntmps24
    go_wp2_with (go_at_call 19; refine (len_any _ _ _ _).mono ?_; rintro e w2 ⟨rfl, rfl⟩)
    refine (swap_rowM w g cap i n (n + 1) _ _ (by omega) (by omega) js HN.out (by omega) (by omega) (by omega) hr).mono ?_
    rintro e w1 ⟨rfl, hr1, ho1⟩
    have hq1 := hq.grown ho1 (by simpa using hqg)
    clear hml hms
    go_wp2_with (fail)
    refine (down_any w1 q g cap (n + 1) n i _ _ (by omega) (by omega) last (swapM js i n) (by rw [swapM_length]; exact HN.out) (by omega) (by omega) (by omega) hq1 hqg hr1 hsm).mono ?_
    rintro e w2 ⟨rfl, hr2, ho2⟩
    have hq2 := hq1.grown ho2 (by simpa using hqg)
    by_cases hmv : i < (downL n (swapM js i n) i).2
    · have HE := Lib.hid (takeM_moved js i n hni hmv)
      rw [decide_eq_true hmv]
      clear hmv
      go_wp2_with (fail)
      refine (lpop_any w2 q g cap n last (downL n (swapM js i n) i).1 HDL (by omega) hq2 hr2 hqg).mono ?_
      rintro e w3 ⟨rfl, hq3, hr3, ho3⟩
      go_wp2
      go_ret
      refine ⟨by simp [HE.out], ((kept_only hb hr ho1).trans (kept_only hb hr1 ho2)).trans (kept_q ho3), ?_⟩
      rw [HE.out]
      exact QL.of_row (by rw [List.length_take, show (downL n (swapM js i n) i).1.length = n + 1 from HDL]; omega) hq3 hb hr3
    · have HE := Lib.hid (takeM_up js i n hni hmv)
      rw [decide_eq_false hmv]
      clear hmv
      go_wp2_with (fail)
      refine (up_any w2 q g cap (n + 1) i _ (by omega) last (downL n (swapM js i n) i).1 HDL (by omega) (by omega) hq2 hqg hr2 HSM.out).mono ?_
      rintro e w3 ⟨rfl, hr3, ho3⟩
      have hq3 := hq2.grown ho3 (by simpa using hqg)
      have HUL : Hid ((upL (downL n (swapM js i n) i).1 i).length = n + 1) := by rw [(upL_spec _ i (by rw [show (downL n (swapM js i n) i).1.length = n + 1 from HDL]; omega)).1]; exact HDL
      go_wp2_with (fail)
      refine (lpop_any w3 q g cap n last _ HUL (by omega) hq3 hr3 hqg).mono ?_
      rintro e w4 ⟨rfl, hq4, hr4, ho4⟩
      go_wp2
      go_ret
      refine ⟨by simp [HE.out], (((kept_only hb hr ho1).trans (kept_only hb hr1 ho2)).trans (kept_only hb hr2 ho3)).trans (kept_q ho4), ?_⟩
      rw [HE.out]
      exact QL.of_row (by rw [List.length_take, show (upL (downL n (swapM js i n) i).1 i).length = n + 1 from HUL]; omega) hq4 hb hr4
end Go.Proofs.YtadgamfhlklemaaGreatDoor
