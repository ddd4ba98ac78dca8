/- The heap's up and down, over the line. -/
import Derived.Test.YtadgamfhlklemaaGreatDoorAvB3
namespace Go.Proofs.YtadgamfhlklemaaGreatDoor
open Go.RowKit
theorem swapM_eq (js : List Wt) (i j : Nat) (hi : i < js.length) (hj : j < js.length) : swapL js i j hi hj = swapM js i j := by simp [swapM, swapL, gt_eq, hi, hj]
structure UpRel (w wr : World) (g cap n : Nat) (js : List Wt) (j : Nat) (js' : List Wt) (j' : Nat) : Prop where
  lt : j' < n
  len : js'.length = n
  row : Row wr g cap js'
  only : Only w wr g
  eq : upL js' j' = upL js j
  small : AllSmall js'

theorem less_row (w : World) (g cap i j n : Nat) (I J : Int) (hI : I = i) (hJ : J = j) (js : List Wt) (hjs : js.length = n) (hi : i < n) (hj : j < n) (hn : n ≤ 1000000) (hr : Row w g cap js) (hs : AllSmall js) (b : Bool) (hb : lessB (gt js i) (gt js j) = b) :
    Calls Tryz.prog 324 #[.slice (some ⟨g, 0, none⟩) n cap, .int .i64 I, .int .i64 J] w fun e w' => e = .returned (.bool b) ∧ Below w.heap.size w w' := by
  subst hI hJ hb hjs
  have h1 := hr.at_ i hi
  have h2 := hr.at_ j hj
  rw [← gt_eq js i hi] at h1
  rw [← gt_eq js j hj] at h2
  exact less_any w g _ cap i j _ _ hi hj hn h1 h2 (hs.gt_ hi) (hs.gt_ hj)
theorem swap_rowM (w : World) (g cap i j n : Nat) (I J : Int) (hI : I = i) (hJ : J = j) (js : List Wt) (hjs : js.length = n) (hi : i < n) (hj : j < n) (hn : n ≤ 1000000) (hr : Row w g cap js) :
    Calls Tryz.prog 325 #[.slice (some ⟨g, 0, none⟩) n cap, .int .i64 I, .int .i64 J] w fun e w' => e = .returned (.tuple #[]) ∧ Row w' g cap (swapM js i j) ∧ Only w w' g := by
  subst hI hJ hjs
  have h := swap_row w g cap i j js hi hj hn hr
  rwa [swapM_eq] at h

set_option maxHeartbeats 400000 in
set_option maxRecDepth 10000 in
theorem up_any (w : World) (q g cap n j : Nat) (J : Int) (hJ : J = j) (last : Int) (js : List Wt) (hn : js.length = n) (hj : j < n) (hn1 : n ≤ 1000000) (hq : Blk w q 27 #[.slice (some ⟨g, 0, none⟩) n cap, .int .i64 last]) (hqg : q ≠ g) (hr : Row w g cap js) (hs : AllSmall js) :
    Calls Tryz.prog 34 #[.iface 63 (.pointer (some ⟨q, 0, none⟩)), .int .i64 J] w fun e w' => e = .returned (.tuple #[]) ∧ Row w' g cap (upL js j) ∧ Only w w' g := by
  subst hJ
  go_enter Tryz.func34, Tryz.ntmps34
  go_wp2
  go_loopw [1] (fun v wr => ∃ (j' : Nat) (js' : List Wt), v = .int .i64 j' ∧ UpRel w wr g cap n js j js' j') (fun v _ => (intOf v).toNat)
  case atStart => exact ⟨j, js, rfl, hj, hn, hr, only_refl _ _, rfl, hs⟩
  case round =>
    obtain ⟨j', js', rfl, h⟩ := hrel
    have hlt := h.lt
    have hqr : Blk wr q 27 #[.slice (some ⟨g, 0, none⟩) n cap, .int .i64 last] := hq.grown h.only (by simpa using hqg)
    have hc : wr.cell? ⟨q, 0, none⟩ = some (.slice (some ⟨g, 0, none⟩) n cap) := hqr.cell 0
    cases j' with
    | zero =>
      go_wp2
      go_end0
      exact ⟨rfl, by rw [← h.eq, upL_zero]; exact h.row, h.only⟩
    | succ k =>
      have hk2 : ((k : Int) / 2 == (k : Int) + 1) = false := by rw [beq_eq_false_iff_ne]; omega
      have hm := meth_less hc
      have hl2 : k / 2 < n := by omega
      cases hb : lessB (gt js' (k + 1)) (gt js' (k / 2)) with
      | false =>
        have HE := Lib.hid (upL_no js' k hb)
        have HB := Lib.hid hb
        clear hb
        go_wp2_with (go_at_call 324; refine (less_row wr g cap (k + 1) (k / 2) n _ _ (by omega) (by omega) js' h.len (by omega) (by omega) hn1 h.row h.small false HB.out).mono ?_; rintro e w1 ⟨rfl, hb1⟩)
        go_end0
        exact ⟨rfl, by rw [← h.eq, HE.out]; exact h.row.below hb1, only_trans h.only (only_of_below hb1 g)⟩
      | true =>
        have HE := Lib.hid (upL_yes js' k hb)
        have HB := Lib.hid hb
        clear hb
        go_wp2_with (first
          | (go_at_call 324; refine (less_row wr g cap (k + 1) (k / 2) n _ _ (by omega) (by omega) js' h.len (by omega) (by omega) hn1 h.row h.small true HB.out).mono ?_; rintro e w1 ⟨rfl, hb1⟩; have hq1 : Blk w1 q 27 #[.slice (some ⟨g, 0, none⟩) n cap, .int .i64 last] := hqr.below hb1 hqr.lt; have hm1 := meth_swap (hq1.cell 0); clear hm)
          | (go_at_call 325; refine (swap_rowM w1 g cap (k / 2) (k + 1) n _ _ (by omega) (by omega) js' h.len (by omega) (by omega) hn1 (h.row.below hb1)).mono ?_; rintro e w2 ⟨rfl, hr2, ho2⟩))
        go_roundw
        case rel => exact ⟨k / 2, _, by go_num, by omega, by rw [swapM_length]; exact h.len, hr2, only_trans (only_trans h.only (only_of_below hb1 g)) ho2, by rw [← HE.out]; exact h.eq, h.small.swap (by rw [h.len]; omega) (by rw [h.len]; omega)⟩
        case measure => simp [intOf]; omega
end Go.Proofs.YtadgamfhlklemaaGreatDoor
