/- Walks of the queue's line: Cost, Less, Swap. -/
import Derived.Test.YtadgamfhlklemaaGreatDoorAvB1
namespace Go.Proofs.YtadgamfhlklemaaGreatDoor
open Go.RowKit

theorem cost_any (k b : Int) (s m p : Sl) (r d : Int) (w : World) (h1 : s.n ≤ 1000000000000000) (h2 : m.n ≤ 1000000000000000) (h3 : p.n ≤ 1000000000000000) (c : Nat) (hc : c = s.n + m.n + p.n) :
   Calls Tryz.prog 326 #[.agg #[.int .i64 k, .int .i64 b, s.v, m.v, p.v, .int .i64 r, .int .i64 d]] w fun e w' => e = .returned (.int .i64 c) ∧ Below w.heap.size w w' := by
  subst hc
  go_enter Tryz.func326, Tryz.ntmps326
  go_wp2
  go_ret
  exact ⟨by simp, (Below.refl _ _).alloc (Nat.le_refl _) _⟩

def C7 (w : World) (g o : Nat) (x : Wt) : Prop := w.cell? ⟨g, o, none⟩ = some (.int .i64 x.kind) ∧ w.cell? ⟨g, o+1, none⟩ = some (.int .i64 x.backend) ∧ w.cell? ⟨g, o+2, none⟩ = some (x.st.v) ∧ w.cell? ⟨g, o+3, none⟩ = some (x.ms.v) ∧ w.cell? ⟨g, o+4, none⟩ = some (x.pf.v) ∧ w.cell? ⟨g, o+5, none⟩ = some (.int .i64 x.rounds) ∧ w.cell? ⟨g, o+6, none⟩ = some (.int .i64 x.degree)
theorem C7.below {w w1 : World} {g o : Nat} {x : Wt} {B : Nat} (h : C7 w g o x) (hb : Below B w w1) (hg : g < B) : C7 w1 g o x := by
  obtain ⟨h0,h1,h2,h3,h4,h5,h6⟩ := h
  refine ⟨?_,?_,?_,?_,?_,?_,?_⟩ <;> (rw [hb.cell (p := ⟨g, _, none⟩) hg]; assumption)
theorem keep_less {w w' : World} {g i j : Nat} {x y : Wt} (S0 : C7 w g (i*8) x ∧ C7 w g (j*8) y) (hg : g < w.heap.size) (hb : Below w.heap.size w w') :
  Below w.heap.size w w' ∧ C7 w' g (i*8) x ∧ C7 w' g (j*8) y := ⟨hb, S0.1.below hb hg, S0.2.below hb hg⟩

set_option maxHeartbeats 400000 in
theorem less_any (w : World) (g n cap i j : Nat) (x y : Wt) (hi : i < n) (hj : j < n) (_hn : n ≤ 1000000) (hx : At w g (i * 8) x) (hy : At w g (j*8) y) (sx : x.Small) (sy : y.Small) :
   Calls Tryz.prog 324 #[.slice (some ⟨g, 0, none⟩) n cap, .int .i64 i, .int .i64 j] w fun e w' => e = .returned (.bool (lessB x y)) ∧ Below w.heap.size w w' := by
  obtain ⟨x0,x1,x2,x3,x4,x5,x6,x7⟩ := hx
  obtain ⟨y0,y1,y2,y3,y4,y5,y6,y7⟩ := hy
  obtain ⟨s1, s2, s3⟩ := sx
  obtain ⟨s4, s5, s6⟩ := sy
  have hg : g < w.heap.size := World.block_lt_of_cell? _ _ x0
  have S0 : C7 w g (i*8) x ∧ C7 w g (j*8) y := ⟨⟨x0, x1, x2, x3, x4, x5, x6⟩, ⟨y0, y1, y2, y3, y4, y5, y6⟩⟩
  go_enter Tryz.func324, Tryz.ntmps324
  go_wp2
  go_region_held3 (fun w' => Below w.heap.size w w' ∧ (w'.cell? ⟨g, i*8, none⟩ = some (.int .i64 x.kind) ∧ w'.cell? ⟨g, i*8+1, none⟩ = some (.int .i64 x.backend) ∧ w'.cell? ⟨g, i*8+2, none⟩ = some (x.st.v) ∧ w'.cell? ⟨g, i*8+3, none⟩ = some (x.ms.v) ∧ w'.cell? ⟨g, i*8+4, none⟩ = some (x.pf.v) ∧ w'.cell? ⟨g, i*8+5, none⟩ = some (.int .i64 x.rounds) ∧ w'.cell? ⟨g, i*8+6, none⟩ = some (.int .i64 x.degree)) ∧ (w'.cell? ⟨g, j*8, none⟩ = some (.int .i64 y.kind) ∧ w'.cell? ⟨g, j*8+1, none⟩ = some (.int .i64 y.backend) ∧ w'.cell? ⟨g, j*8+2, none⟩ = some (y.st.v) ∧ w'.cell? ⟨g, j*8+3, none⟩ = some (y.ms.v) ∧ w'.cell? ⟨g, j*8+4, none⟩ = some (y.pf.v) ∧ w'.cell? ⟨g, j*8+5, none⟩ = some (.int .i64 y.rounds) ∧ w'.cell? ⟨g, j*8+6, none⟩ = some (.int .i64 y.degree)))
    ((refine keep_less S0 hg ?_; first | exact below_drew (Below.refl _ _) | exact below_via (by assumption) hb))
    (first | (go_at_call_of 326 (x.kind); refine (cost_any _ _ _ _ _ _ _ _ s1 s2 s3 x.cost rfl).mono ?_; rintro e w' ⟨rfl, hb⟩) | (go_at_call_of 326 (y.kind); refine (cost_any _ _ _ _ _ _ _ _ s4 s5 s6 y.cost rfl).mono ?_; rintro e w' ⟨rfl, hb⟩))
  obtain ⟨hB, hc1, hc2⟩ := ‹Below w.heap.size w w' ∧ _›
  have e7 : w'.cell? ⟨g, i*8+7, none⟩ = some (.int .i64 x.ticket) := by rw [hB.cell (p := ⟨g, _, none⟩) hg]; exact x7
  have f7 : w'.cell? ⟨g, j*8+7, none⟩ = some (.int .i64 y.ticket) := by rw [hB.cell (p := ⟨g, _, none⟩) hg]; exact y7
  have hii : (i : Int) < n := by omega
  have hjj : (j : Int) < n := by omega
  clear x0 x1 x2 x3 x4 x5 x6 x7 y0 y1 y2 y3 y4 y5 y6 y7 S0 hc1 hc2
  have L1 : x.cost < y.cost → lessB x y = true := fun h => by simp [lessB, h]
  have L2 : x.cost = y.cost → lessB x y = decide (x.ticket < y.ticket) := fun h => by simp [lessB, h]
  have L3 : y.cost < x.cost → lessB x y = false := fun h => by simp [lessB]; omega
  have h1 := Lib.hid L1
  have h2 := Lib.hid L2
  have h3 := Lib.hid L3
  clear L1 L2 L3
  rcases Nat.lt_trichotomy x.cost y.cost with hlt | heq | hgt
  · go_wp2
    go_quiet (fail)
    go_wp2
    go_ret
    exact ⟨by simp [h1.out hlt], below_drewN hB _⟩
  · have d1 : decide (x.cost < y.cost) = false := by simp; omega
    have d2 : ((x.cost : Int) == (y.cost : Int)) = true := by simp [heq]
    have H := Lib.hid heq
    clear heq
    go_wp2
    go_quiet (fail)
    go_wp2
    go_ret
    exact ⟨by simp [h2.out H.out], below_drewN hB _⟩
  · have d1 : decide (x.cost < y.cost) = false := by simp; omega
    have d2 : ((x.cost : Int) == (y.cost : Int)) = false := by simp; omega
    go_wp2
    go_quiet (fail)
    go_wp2
    go_ret
    exact ⟨by simp [h3.out hgt], below_drewN hB _⟩

set_option maxHeartbeats 400000 in
theorem swap_any (w : World) (g n cap i j : Nat) (x y : Wt) (hi : i < n) (hj : j < n) (hij : i ≠ j) (_hn : n ≤ 1000000) (hfz : ∀ o, w.frozen? ⟨g, o, none⟩ = false) (hx : At w g (i * 8) x) (hy : At w g (j*8) y)  :
   Calls Tryz.prog 325 #[.slice (some ⟨g, 0, none⟩) n cap, .int .i64 i, .int .i64 j] w fun e w' => e = .returned (.tuple #[]) ∧ w' = ((w.setCells g (i*8) y.cells).setCells g (j*8) x.cells).drew := by
  obtain ⟨x0,x1,x2,x3,x4,x5,x6,x7⟩ := hx
  obtain ⟨y0,y1,y2,y3,y4,y5,y6,y7⟩ := hy
  have hii : (i : Int) < n := by omega
  have hjj : (j : Int) < n := by omega
  go_enter Tryz.func325, Tryz.ntmps325
  go_wp2
  go_region
  go_end0
  exact ⟨rfl, rfl⟩
set_option maxHeartbeats 400000 in
theorem swap_same (w : World) (g n cap i : Nat) (x : Wt) (hi : i < n) (_hn : n ≤ 1000000) (hfz : ∀ o, w.frozen? ⟨g, o, none⟩ = false) (hx : At w g (i * 8) x) :
   Calls Tryz.prog 325 #[.slice (some ⟨g, 0, none⟩) n cap, .int .i64 i, .int .i64 i] w fun e w' => e = .returned (.tuple #[]) ∧ w' = ((w.setCells g (i*8) x.cells).setCells g (i*8) x.cells).drew := by
  obtain ⟨x0,x1,x2,x3,x4,x5,x6,x7⟩ := hx
  have hii : (i : Int) < n := by omega
  go_enter Tryz.func325, Tryz.ntmps325
  go_wp2
  go_region
  go_end0
  exact ⟨rfl, rfl⟩
end Go.Proofs.YtadgamfhlklemaaGreatDoor
