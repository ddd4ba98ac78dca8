/- schnorr.Verify of what ends at its sizes. -/
import Derived.Test.YtadgamfhlklemaaGreatDoorAvL8
namespace Go.Proofs.YtadgamfhlklemaaGreatDoor
open Go.RowKit
set_option maxHeartbeats 4000000 in
set_option maxRecDepth 100000 in
theorem each_size (w : World) (g n c : Nat) (s : Sl) (hn : 0 < n) (hs : s.n ≠ 96) (hc : w.cell? ⟨g, 0, none⟩ = some s.v) :
    Calls Tryz.prog 136 #[.func (.func 137) #[] #[], .slice (some ⟨g, 0, none⟩) n c] w fun e w' => e = .returned (.tuple #[.slice none 0 0, .int .i64 1]) ∧ Below w.heap.size w w' := by
  have d1 : decide ((0 : Int) < n) = true := by simp; omega
  have d2 : (0 : Int) < n := by omega
  go_enter Tryz.func136, Tryz.ntmps136
  go_wp2_with (fail)
  go_loopw [6, 13] (fun o i wr => o = .slice none 0 0 ∧ i = .int .i64 0 ∧ wr = w) (fun _ i _ => 1)
  case atStart => exact ⟨rfl, rfl, rfl⟩
  case round =>
    obtain ⟨rfl, rfl, rfl⟩ := hrel
    go_wp2_with (fail)
    refine (groupread_size _ s hs).mono ?_
    rintro e w1 ⟨rfl, hb1⟩
    go_wp2_with (fail)
    go_ret2
    exact ⟨rfl, hb1.alloc hb1.size _⟩
set_option maxHeartbeats 4000000 in
set_option maxRecDepth 100000 in
theorem elements_size (w : World) (g n c : Nat) (s : Sl) (hn : 0 < n) (hs : s.n ≠ 96) (hc : w.cell? ⟨g, 0, none⟩ = some s.v) :
    Calls Tryz.prog 80 #[.slice (some ⟨g, 0, none⟩) n c] w fun e w' => e = .returned (.tuple #[.slice none 0 0, .int .i64 1]) ∧ Below w.heap.size w w' := by
  go_enter Tryz.func80, Tryz.ntmps80
  go_wp2_with (fail)
  refine (each_size w g n c s hn hs hc).mono ?_
  rintro e w1 ⟨rfl, hb1⟩
  go_wp2_with (fail)
  go_ret2
  exact ⟨rfl, hb1⟩
def backC (b : Int) : Int := if b ≠ 1 ∧ b ≠ 2 then 15 else 0
set_option maxHeartbeats 1000000 in
set_option maxRecDepth 100000 in
theorem backend_any (w : World) (b : Int) : Calls Tryz.prog 79 #[.int .i64 b] w fun e w' => e = .returned (.int .i64 (backC b)) ∧ w = w' := by
  unfold backC
  by_cases h : b ≠ 1 ∧ b ≠ 2
  · rw [if_pos h]
    have d1 : (b != 1) = true := by rw [bne_iff_ne]; exact h.1
    have d2 : (b != 2) = true := by rw [bne_iff_ne]; exact h.2
    clear h
    go_enter Tryz.func79, Tryz.ntmps79
    go_wp2_with (fail)
    go_ret
    exact ⟨rfl, rfl⟩
  · rw [if_neg h]
    have hb : b = 1 ∨ b = 2 := by omega
    clear h
    rcases hb with rfl | rfl
    all_goals (
      go_enter Tryz.func79, Tryz.ntmps79
      go_wp2_with (fail)
      go_ret
      exact ⟨rfl, rfl⟩)
set_option maxHeartbeats 4000000 in
set_option maxRecDepth 100000 in
theorem schnorr_cheap (w : World) (b : Int) (s m p : Sl) (hpc : p.n ≤ p.c) (h : cheapC b s) (hp96 : p.n ≠ 0 → ∃ a, p.a = some a) :
    Calls Tryz.prog 53 #[.int .i64 b, s.v, m.v, p.v] w fun e w' => e = .returned (.int .i64 (codeC 1 b 0 0)) ∧ Below w.heap.size w w' := by
  by_cases hb : b ≠ 1 ∧ b ≠ 2
  · have e1 : backC b = 15 := by unfold backC; rw [if_pos hb]
    have e2 : codeC 1 b 0 0 = 15 := by simp [codeC, hb]
    rw [e2]
    clear e2
    go_enter Tryz.func53, Tryz.ntmps53
    go_wp2_with (fail)
    refine (backend_any w b).mono ?_
    rintro e w1 ⟨rfl, rfl⟩
    rw [e1]
    go_wp2_with (fail)
    go_ret
    exact ⟨rfl, Below.refl _ _⟩
  · have e1 : backC b = 0 := by unfold backC; rw [if_neg hb]
    have hc : codeC 1 b 0 0 = 1 := by simp only [codeC, if_neg hb]; simp
    have hs : s.n ≠ 96 := by have := h.resolve_left hb; omega
    rw [hc]
    clear hc h hb
    by_cases hp : p.n = 192
    rotate_left
    · have d3 : ((p.n : Int) != 192) = true := by rw [bne_iff_ne]; omega
      clear hp
      go_enter Tryz.func53, Tryz.ntmps53
      go_wp2_with (fail)
      refine (backend_any w b).mono ?_
      rintro e w1 ⟨rfl, rfl⟩
      rw [e1]
      go_wp2_with (fail)
      go_ret
      exact ⟨rfl, Below.refl _ _⟩
    · obtain ⟨a, n, c⟩ := p
      dsimp only at hp hpc hp96
      subst hp
      obtain ⟨ad, rfl⟩ := hp96 (by omega)
      have hc96 : (96 : Int) ≤ c := by omega
      have hbk := Blk.new w 31 #[s.v, .slice (some ad) 96 c]
      go_enter Tryz.func53, Tryz.ntmps53
      go_wp2_with (fail)
      refine (backend_any w b).mono ?_
      rintro e w1 ⟨rfl, rfl⟩
      rw [e1]
      go_wp2_with (fail)
      refine (elements_size _ w.heap.size 2 2 s (by omega) hs (hbk.cell 0)).mono ?_
      rintro e w1 ⟨rfl, hb1⟩
      have hB := below_then ((Below.refl w.heap.size w).alloc (Nat.le_refl _) (.cells #[s.v, .slice (some ad) 96 c] 31)) (by simp) hb1
      go_wp2_with (fail)
      go_ret
      exact ⟨rfl, hB⟩
end Go.Proofs.YtadgamfhlklemaaGreatDoor
