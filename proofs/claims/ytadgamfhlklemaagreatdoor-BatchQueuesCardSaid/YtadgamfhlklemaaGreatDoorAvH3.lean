/- The document's Verify, of a job that ends at its sizes. -/
import Derived.Test.YtadgamfhlklemaaGreatDoorAvH1
namespace Go.Proofs.YtadgamfhlklemaaGreatDoor
open Go.RowKit
def mayB (r d : Int) : Bool := decide (1 ≤ r) && decide (r ≤ 64) && decide (1 ≤ d) && decide (d ≤ 8)
/-- What is wrong with a job that ends at its sizes. -/
def codeC (k b r d : Int) : Int := if b ≠ 1 ∧ b ≠ 2 then 15 else if k = 3 ∧ mayB r d = false then 7 else 1
def cheapC (b : Int) (s : Sl) : Prop := (b ≠ 1 ∧ b ≠ 2) ∨ (s.n ≠ 32 ∧ s.n < 96)
theorem cheapC_of {k b : Int} {s m p : Sl} (h : cheapB k b s m p = true) (h1 : 1 ≤ k) (h3 : k ≤ 3) : cheapC b s := by
  simp only [cheapB, Bool.and_eq_true, Bool.or_eq_true, decide_eq_true_eq] at h
  unfold cheapC
  omega
set_option maxHeartbeats 1000000 in
set_option maxRecDepth 100000 in
theorem ref04_size (w : World) (t : Bool) (s : Sl) (hs : s.n ≠ 96) :
    Calls Tryz.prog 37 #[.bool t, s.v] w fun e w' => e = .returned (.tuple #[.slice none 0 0, .int .i64 1]) ∧ w = w' := by
  have d1 : ((s.n : Int) != 96) = true := by rw [bne_iff_ne]; omega
  go_enter Tryz.func37, Tryz.ntmps37
  go_wp2_with (fail)
  go_ret2
  exact ⟨rfl, rfl⟩
set_option maxHeartbeats 1000000 in
set_option maxRecDepth 100000 in
theorem ref05_size (w : World) (s : Sl) (hs : s.n ≠ 96) :
    Calls Tryz.prog 36 #[s.v] w fun e w' => e = .returned (.tuple #[.slice none 0 0, .int .i64 1]) ∧ w = w' := by
  go_enter Tryz.func36, Tryz.ntmps36
  go_wp2_with (fail)
  refine (ref04_size w true s hs).mono ?_
  rintro e w1 ⟨rfl, rfl⟩
  go_wp2_with (fail)
  go_ret2
  exact ⟨rfl, rfl⟩
set_option maxHeartbeats 1000000 in
set_option maxRecDepth 100000 in
theorem rv20_any (w : World) (b : Int) (s m p : Sl) (h : cheapC b s) :
    Calls Tryz.prog 28 #[.int .i64 b, s.v, m.v, p.v] w fun e w' => e = .returned (.int .i64 (codeC 1 b 0 0)) ∧ w = w' := by
  by_cases hb : b ≠ 1 ∧ b ≠ 2
  · have d1 : (b != 1) = true := by rw [bne_iff_ne]; exact hb.1
    have d2 : (b != 2) = true := by rw [bne_iff_ne]; exact hb.2
    have hc : codeC 1 b 0 0 = 15 := by simp [codeC, hb]
    rw [hc]
    clear hb hc h
    go_enter Tryz.func28, Tryz.ntmps28
    go_wp2_with (fail)
    go_ret
    exact ⟨rfl, rfl⟩
  · have hs := h.resolve_left hb
    have hc : codeC 1 b 0 0 = 1 := by simp only [codeC, if_neg hb]; simp
    rw [hc]
    have hs96 : s.n ≠ 96 := by omega
    have hb12 : b = 1 ∨ b = 2 := by omega
    clear hb hc h hs
    by_cases hp : p.n = 192
    · have d3 : ((p.n : Int) != 192) = false := by simp; omega
      clear hp
      rcases hb12 with rfl | rfl
      all_goals (
        go_enter Tryz.func28, Tryz.ntmps28
        go_wp2_with (fail)
        refine (ref05_size w s hs96).mono ?_
        rintro e w1 ⟨rfl, rfl⟩
        go_wp2_with (fail)
        go_ret
        exact ⟨rfl, rfl⟩)
    · have d3 : ((p.n : Int) != 192) = true := by rw [bne_iff_ne]; omega
      clear hp
      rcases hb12 with rfl | rfl
      all_goals (
        go_enter Tryz.func28, Tryz.ntmps28
        go_wp2_with (fail)
        go_ret
        exact ⟨rfl, rfl⟩)
set_option maxHeartbeats 1000000 in
set_option maxRecDepth 100000 in
theorem rv21_any (w : World) (b : Int) (s m p : Sl) (h : cheapC b s) :
    Calls Tryz.prog 29 #[.int .i64 b, s.v, m.v, p.v] w fun e w' => e = .returned (.int .i64 (codeC 2 b 0 0)) ∧ w = w' := by
  by_cases hb : b ≠ 1 ∧ b ≠ 2
  · have d1 : (b != 1) = true := by rw [bne_iff_ne]; exact hb.1
    have d2 : (b != 2) = true := by rw [bne_iff_ne]; exact hb.2
    have hc : codeC 2 b 0 0 = 15 := by simp [codeC, hb]
    rw [hc]
    clear hb hc h
    go_enter Tryz.func29, Tryz.ntmps29
    go_wp2_with (fail)
    go_ret
    exact ⟨rfl, rfl⟩
  · have hs := h.resolve_left hb
    have hc : codeC 2 b 0 0 = 1 := by simp only [codeC, if_neg hb]; simp
    rw [hc]
    have d3 : ((s.n : Int) != 192) = true := by rw [bne_iff_ne]; omega
    have hb12 : b = 1 ∨ b = 2 := by omega
    clear hb hc h hs
    rcases hb12 with rfl | rfl
    all_goals (
      go_enter Tryz.func29, Tryz.ntmps29
      go_wp2_with (fail)
      go_ret
      exact ⟨rfl, rfl⟩)
set_option maxHeartbeats 1000000 in
set_option maxRecDepth 100000 in
theorem may24_any (w : World) (r d : Int) :
    Calls Tryz.prog 44 #[.int .i64 r, .int .i64 d] w fun e w' => e = .returned (.bool (mayB r d)) ∧ w = w' := by
  go_enter Tryz.func44, Tryz.ntmps44
  go_wp2_with (fail)
  all_goals go_ret
  all_goals exact ⟨ret_bool (by simp [mayB]; omega), rfl⟩
set_option maxHeartbeats 1000000 in
set_option maxRecDepth 100000 in
theorem rv24_any (w : World) (b r d : Int) (s p : Sl) (h : cheapC b s) :
    Calls Tryz.prog 30 #[.int .i64 b, .int .i64 r, .int .i64 d, s.v, p.v] w fun e w' => e = .returned (.tuple #[.slice none 0 0, .slice none 0 0, .int .i64 (codeC 3 b r d)]) ∧ w = w' := by
  by_cases hb : b ≠ 1 ∧ b ≠ 2
  · have d1 : (b != 1) = true := by rw [bne_iff_ne]; exact hb.1
    have d2 : (b != 2) = true := by rw [bne_iff_ne]; exact hb.2
    have hc : codeC 3 b r d = 15 := by simp [codeC, hb]
    rw [hc]
    clear hb hc h
    go_enter Tryz.func30, Tryz.ntmps30
    go_wp2_with (fail)
    exact bodyPost_ret (v := .tuple #[.slice none 0 0, .slice none 0 0, .int .i64 15]) (by simp [results, Tryz.results30, go_sem]) rfl ⟨rfl, rfl⟩
  · have hs := h.resolve_left hb
    have hc : codeC 3 b r d = if mayB r d = false then 7 else 1 := by simp only [codeC, if_neg hb]; simp
    rw [hc]
    have d3 : ((s.n : Int) != 32) = true := by rw [bne_iff_ne]; omega
    have hb12 : b = 1 ∨ b = 2 := by omega
    clear hb hc h hs
    cases hm : mayB r d
    all_goals rcases hb12 with rfl | rfl
    all_goals (
      go_enter Tryz.func30, Tryz.ntmps30
      go_wp2_with (fail)
      refine (may24_any w r d).mono ?_
      rintro e w1 ⟨rfl, rfl⟩
      rw [hm]
      go_wp2_with (fail)
      refine bodyPost_ret (v := .tuple #[.slice none 0 0, .slice none 0 0, .int .i64 _]) (by simp [results, Tryz.results30, go_sem]) rfl ⟨rfl, rfl⟩)
end Go.Proofs.YtadgamfhlklemaaGreatDoor
