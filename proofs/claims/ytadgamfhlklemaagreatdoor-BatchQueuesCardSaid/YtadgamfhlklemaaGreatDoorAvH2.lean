/- The document's queue: Add. -/
import Derived.Test.YtadgamfhlklemaaGreatDoorAvH1
import Derived.Test.YtadgamfhlklemaaGreatDoorAvC4
import Derived.IntWalk
namespace Go.Proofs.YtadgamfhlklemaaGreatDoor
open Go.RowKit
theorem infoRw : (Tryz.prog.info? 53).map (fun i => (i.zero, i.size, i.bytes)) = some (some (.agg #[.int .i64 0, .int .i64 0, .slice none 0 0, .slice none 0 0, .slice none 0 0, .int .i64 0, .int .i64 0, .int .i64 0]), 8, 112) := by kernel_rfl
theorem one_flat (ms : List Wt) : One (flat ms) := fun u hu => by
  simp only [flat, List.mem_flatMap, Wt.cells, List.mem_cons, List.not_mem_nil, or_false] at hu
  obtain ⟨x, _, h⟩ := hu
  rcases h with rfl | rfl | rfl | rfl | rfl | rfl | rfl | rfl <;> rfl
theorem radd_cells {W : World} {q j : Nat} {t0 t1 : TypeId} {lv : Value} {l k b r d : Int} {s m p : Sl} (hq : Blk W q t0 #[lv, .int .i64 l]) (hj : Blk W j t1 #[.int .i64 k, .int .i64 b, s.v, m.v, p.v, .int .i64 r, .int .i64 d]) :
    W.cell? ⟨q, 0, none⟩ = some lv ∧ W.cell? ⟨q, 1, none⟩ = some (.int .i64 l) ∧ W.cell? ⟨j, 0, none⟩ = some (.int .i64 k) ∧ W.cell? ⟨j, 1, none⟩ = some (.int .i64 b) ∧ W.cell? ⟨j, 2, none⟩ = some s.v ∧ W.cell? ⟨j, 3, none⟩ = some m.v ∧ W.cell? ⟨j, 4, none⟩ = some p.v ∧ W.cell? ⟨j, 5, none⟩ = some (.int .i64 r) ∧ W.cell? ⟨j, 6, none⟩ = some (.int .i64 d) :=
  ⟨hq.cell 0, hq.cell 1, hj.cell 0, hj.cell 1, hj.cell 2, hj.cell 3, hj.cell 4, hj.cell 5, hj.cell 6⟩
theorem ne_own {x y : Option Nat} {g s : Nat} (h : x = y ∨ x = some s) (h1 : some g ≠ y) (h2 : g < s) : some g ≠ x := by
  rcases h with rfl | rfl
  · exact h1
  · intro e; injection e; omega
theorem own_ge {w : World} {base : Nat} {e : TypeId} {size n : Nat} {v : Value} {xs : List Value} (h : w.ownsRow base e size v n xs) : ∀ k, v.ownBlock = some k → base ≤ k := by
  intro k hk
  rcases h.2 with ⟨rfl, _⟩ | ⟨g, cap, cur, rfl, hb, _⟩
  · simp [Value.ownBlock] at hk
  · simp [Value.ownBlock] at hk; omega
theorem zero_own {w : World} {b n c : Nat} {e : TypeId} {A : Option Addr} {xs : List Value} (h : w.ownsRow b e 8 (.slice A (0 + n + 1) c) (0 + n + 1) xs) : w.ownsRow b e 8 (.slice A (n + 1) c) (n + 1) xs := by
  rwa [Nat.zero_add] at h
structure Radd (w wx : World) (ms : List Wt) (last : Int) (x : Wt) (v' : Value) : Prop where
  own : wx.ownsRow w.heap.size 53 8 v' (ms.length + 1) (flat (ms ++ [x]))
  bq : Blk wx w.heap.size 30 #[v', .int .i64 (last + 1)]
  bo : Blk wx (w.heap.size + 1 + 1) 30 #[.slice none 0 0, .int .i64 0]
  below : Below w.heap.size w wx
theorem radd_mid {w w2 : World} {ms : List Wt} {last k b r d : Int} {s m p : Sl} {l v2 : Value} (ho : w2.ownsRow w.heap.size 53 8 v2 (ms.length + 1) ([] ++ flat ms ++ [.int .i64 k, .int .i64 b, s.v, m.v, p.v, .int .i64 r, .int .i64 d, .int .i64 (last + 1)])) (bq : Blk w2 w.heap.size 30 #[l, .int .i64 (last + 1)]) (bo : Blk w2 (w.heap.size + 1 + 1) 30 #[.slice none 0 0, .int .i64 0]) (hb : Below w.heap.size w w2) :
    Radd w (w2.setCell ⟨w.heap.size, 0, none⟩ v2) ms last ⟨k, b, s, m, p, r, d, last + 1⟩ v2 := by
  refine ⟨?_, bq.set_ 0 v2, bo.far (p := ⟨w.heap.size, 0, none⟩) (show w.heap.size + 1 + 1 ≠ w.heap.size by omega) _, hb.setCell (Nat.le_refl _) _⟩
  have := own_setCell ho bq (by decide) (o := 0) v2
  rw [flat_append]
  exact this
theorem made_own {w : World} {e : TypeId} {base g : Nat} (h : w.heap[g]? = some (.cells #[] e (0, 0))) (hb : base ≤ g) : w.ownsRow base e 8 (.slice (some ⟨g, 0, none⟩) 0 0) 0 [] :=
  ⟨rfl, .inr ⟨g, 0, #[], rfl, hb, h, Nat.le_refl _, by simp [maxLen], rfl, rfl⟩⟩
set_option maxHeartbeats 40000000 in
set_option maxRecDepth 100000 in
theorem radd_ok (w : World) (base : Nat) (lv : Value) (ms : List Wt) (last k b r d : Int) (s m p : Sl) (hk1 : 1 ≤ k) (hk3 : k ≤ 3) (hown : w.ownsRow base 53 8 lv ms.length (flat ms)) (hn : ms.length < 1000) (hl0 : 0 ≤ last) (hl1 : last ≤ 1000000000) :
    Calls Tryz.prog 7 #[.agg #[lv, .int .i64 last], jv k b s m p r d] w fun e w' => ∃ v', e = .returned (.tuple #[.agg #[v', .int .i64 (last + 1)], .int .i64 (last + 1), .int .i64 0]) ∧ w'.ownsRow w.heap.size 53 8 v' (ms.length + 1) (flat (ms ++ [⟨k, b, s, m, p, r, d, last + 1⟩])) ∧ Below w.heap.size w w' := by
  obtain ⟨i0, hi0, hz0, hz1, hz2⟩ := info_parts infoRw
  obtain ⟨A, c, rfl⟩ := own_form hown
  have d1 : decide (k < 1) = false := by simp; omega
  have d2 : decide (k > 3) = false := by simp; omega
  have d3 : decide ((ms.length : Int) ≥ 1000) = false := by simp; omega
  have hsum : IntKind.i64.wrap (last + 1) = last + 1 := IntWalk.i64_in _ ⟨by omega, by omega⟩
  have hone : One (flat ms) := one_flat ms
  have h63 : 0 + ms.length ≤ maxLen := by simp only [maxLen]; omega
  have hby : (0 + ms.length) * 112 ≤ 140737488355328 := by omega
  have h63' : 0 + ms.length + 1 ≤ maxLen := by simp only [maxLen]; omega
  have hby' : (0 + ms.length + 1) * 112 ≤ 140737488355328 := by omega
  have HR := Lib.hid (fun (W : World) (h : Below w.heap.size w W) => (Reads.of_own hown).below h)
  go_enter Tryz.func7, Tryz.ntmps7
  go_wp2_with (fail)
  have bq : Blk (((w.alloc (.cells #[.slice A ms.length c, .int .i64 (last + 1)] 30)).alloc (.cells #[.int .i64 k, .int .i64 b, s.v, m.v, p.v, .int .i64 r, .int .i64 d] 33)).alloc (.cells #[.slice none 0 0, .int .i64 0] 30)) w.heap.size 30 #[.slice A ms.length c, .int .i64 (last + 1)] := ((Blk.new w _ _).alloc _).alloc _
  have bj : Blk (((w.alloc (.cells #[.slice A ms.length c, .int .i64 (last + 1)] 30)).alloc (.cells #[.int .i64 k, .int .i64 b, s.v, m.v, p.v, .int .i64 r, .int .i64 d] 33)).alloc (.cells #[.slice none 0 0, .int .i64 0] 30)) (w.heap.size + 1) 33 #[.int .i64 k, .int .i64 b, s.v, m.v, p.v, .int .i64 r, .int .i64 d] := by
    have := (Blk.new (w.alloc (.cells #[.slice A ms.length c, .int .i64 (last + 1)] 30)) 33 #[.int .i64 k, .int .i64 b, s.v, m.v, p.v, .int .i64 r, .int .i64 d]).alloc (.cells #[.slice none 0 0, .int .i64 0] 30)
    simpa using this
  have bo : Blk (((w.alloc (.cells #[.slice A ms.length c, .int .i64 (last + 1)] 30)).alloc (.cells #[.int .i64 k, .int .i64 b, s.v, m.v, p.v, .int .i64 r, .int .i64 d] 33)).alloc (.cells #[.slice none 0 0, .int .i64 0] 30)) (w.heap.size + 1 + 1) 30 #[.slice none 0 0, .int .i64 0] := by
    have := Blk.new ((w.alloc (.cells #[.slice A ms.length c, .int .i64 (last + 1)] 30)).alloc (.cells #[.int .i64 k, .int .i64 b, s.v, m.v, p.v, .int .i64 r, .int .i64 d] 33)) 30 #[.slice none 0 0, .int .i64 0]
    simpa using this
  have hb3 : Below w.heap.size w (((w.alloc (.cells #[.slice A ms.length c, .int .i64 (last + 1)] 30)).alloc (.cells #[.int .i64 k, .int .i64 b, s.v, m.v, p.v, .int .i64 r, .int .i64 d] 33)).alloc (.cells #[.slice none 0 0, .int .i64 0] 30)) := (((Below.refl _ _).alloc (Nat.le_refl _) _).alloc (by simp) _).alloc (by simp; omega) _
  have hs3 : (((w.alloc (.cells #[.slice A ms.length c, .int .i64 (last + 1)] 30)).alloc (.cells #[.int .i64 k, .int .i64 b, s.v, m.v, p.v, .int .i64 r, .int .i64 d] 33)).alloc (.cells #[.slice none 0 0, .int .i64 0] 30)).heap.size = w.heap.size + 1 + 1 + 1 := by simp
  generalize ((w.alloc (.cells #[.slice A ms.length c, .int .i64 (last + 1)] 30)).alloc (.cells #[.int .i64 k, .int .i64 b, s.v, m.v, p.v, .int .i64 r, .int .i64 d] 33)).alloc (.cells #[.slice none 0 0, .int .i64 0] 30) = W3 at bq bj bo hb3 hs3 ⊢
  have hn0 : Blk (W3.alloc (.cells #[] 53)) (w.heap.size + 1 + 1 + 1) 53 #[] := by rw [← hs3]; exact Blk.new W3 _ _
  have hc0 : Blk (W3.alloc (.cells #[.int .i64 k, .int .i64 b, s.v, m.v, p.v, .int .i64 r, .int .i64 d, .int .i64 (last + 1)] 53)) (w.heap.size + 1 + 1 + 1) 53 #[.int .i64 k, .int .i64 b, s.v, m.v, p.v, .int .i64 r, .int .i64 d, .int .i64 (last + 1)] := by rw [← hs3]; exact Blk.new W3 _ _
  have hc1 : Blk ((W3.alloc (.cells #[] 53)).alloc (.cells #[.int .i64 k, .int .i64 b, s.v, m.v, p.v, .int .i64 r, .int .i64 d, .int .i64 (last + 1)] 53)) (w.heap.size + 1 + 1 + 1 + 1) 53 #[.int .i64 k, .int .i64 b, s.v, m.v, p.v, .int .i64 r, .int .i64 d, .int .i64 (last + 1)] := by
    have := Blk.new (W3.alloc (.cells #[] 53)) 53 #[.int .i64 k, .int .i64 b, s.v, m.v, p.v, .int .i64 r, .int .i64 d, .int .i64 (last + 1)]
    rwa [World.size_alloc, hs3] at this
  have hn1 : Blk ((W3.alloc (.cells #[.int .i64 k, .int .i64 b, s.v, m.v, p.v, .int .i64 r, .int .i64 d, .int .i64 (last + 1)] 53)).alloc (.cells #[] 53)) (w.heap.size + 1 + 1 + 1 + 1) 53 #[] := by
    have := Blk.new (W3.alloc (.cells #[.int .i64 k, .int .i64 b, s.v, m.v, p.v, .int .i64 r, .int .i64 d, .int .i64 (last + 1)] 53)) 53 #[]
    rwa [World.size_alloc, hs3] at this
  have hone1 : One [.int .i64 k, .int .i64 b, s.v, m.v, p.v, .int .i64 r, .int .i64 d, .int .i64 (last + 1)] := by
    intro u hu
    simp only [List.mem_cons, List.not_mem_nil, or_false] at hu
    rcases hu with rfl | rfl | rfl | rfl | rfl | rfl | rfl | rfl <;> rfl
  have hbd : ∀ o, Below w.heap.size w (W3.alloc o).drew := fun o => (hb3.alloc (by omega) _).drew
  have hbd2 : ∀ o o', Below w.heap.size w ((W3.alloc o).alloc o').drew := fun o o' => ((hb3.alloc (by omega) _).alloc (by simp; omega) _).drew
  have q3 : some w.heap.size ≠ (Value.slice (some (⟨w.heap.size + 1 + 1 + 1, 0, none⟩ : Addr)) 0 0).ownBlock := by simp [Value.ownBlock] <;> omega
  have j3 : some (w.heap.size + 1) ≠ (Value.slice (some (⟨w.heap.size + 1 + 1 + 1, 0, none⟩ : Addr)) 0 0).ownBlock := by simp [Value.ownBlock] <;> omega
  have o3 : some (w.heap.size + 1 + 1) ≠ (Value.slice (some (⟨w.heap.size + 1 + 1 + 1, 0, none⟩ : Addr)) 0 0).ownBlock := by simp [Value.ownBlock] <;> omega
  have q4 : some w.heap.size ≠ (Value.slice (some (⟨w.heap.size + 1 + 1 + 1 + 1, 0, none⟩ : Addr)) 0 0).ownBlock := by simp [Value.ownBlock] <;> omega
  have j4 : some (w.heap.size + 1) ≠ (Value.slice (some (⟨w.heap.size + 1 + 1 + 1 + 1, 0, none⟩ : Addr)) 0 0).ownBlock := by simp [Value.ownBlock] <;> omega
  have o4 : some (w.heap.size + 1 + 1) ≠ (Value.slice (some (⟨w.heap.size + 1 + 1 + 1 + 1, 0, none⟩ : Addr)) 0 0).ownBlock := by simp [Value.ownBlock] <;> omega
  have c13 : some (w.heap.size + 1 + 1 + 1 + 1) ≠ (Value.slice (some (⟨w.heap.size + 1 + 1 + 1, 0, none⟩ : Addr)) 0 0).ownBlock := by simp [Value.ownBlock] <;> omega
  have c04 : some (w.heap.size + 1 + 1 + 1) ≠ (Value.slice (some (⟨w.heap.size + 1 + 1 + 1 + 1, 0, none⟩ : Addr)) 0 0).ownBlock := by simp [Value.ownBlock] <;> omega
  have l3 : w.heap.size ≤ w.heap.size + 1 + 1 + 1 := by omega
  have l4 : w.heap.size ≤ w.heap.size + 1 + 1 + 1 + 1 := by omega
  have r3 : ∀ k, (Value.slice (some (⟨w.heap.size + 1 + 1 + 1, 0, none⟩ : Addr)) 0 0).ownBlock = some k → w.heap.size ≤ k := by intro k hk; simp [Value.ownBlock] at hk; omega
  have r4 : ∀ k, (Value.slice (some (⟨w.heap.size + 1 + 1 + 1 + 1, 0, none⟩ : Addr)) 0 0).ownBlock = some k → w.heap.size ≤ k := by intro k hk; simp [Value.ownBlock] at hk; omega
  have s1 : ∀ o, w.heap.size ≤ (W3.alloc o).drew.heap.size := by intro o; simp; omega
  have s2 : ∀ o o', w.heap.size ≤ ((W3.alloc o).alloc o').drew.heap.size := by intro o o'; simp; omega
  have tq1 : ∀ o, w.heap.size < (W3.alloc o).drew.heap.size := by intro o; simp; omega
  have to1 : ∀ o, w.heap.size + 1 + 1 < (W3.alloc o).drew.heap.size := by intro o; simp; omega
  have tq2 : ∀ o o', w.heap.size < ((W3.alloc o).alloc o').drew.heap.size := by intro o o'; simp; omega
  have to2 : ∀ o o', w.heap.size + 1 + 1 < ((W3.alloc o).alloc o').drew.heap.size := by intro o o'; simp; omega
  go_cut [] (fun wx => ∃ v', Radd w wx ms last ⟨k, b, s, m, p, r, d, last + 1⟩ v')
  case first =>
   obtain ⟨x00, x01, x02, x03, x04, x05, x06, x07, x08⟩ := radd_cells bq bj
   have hca := fun o => radd_cells (bq.alloc o) (bj.alloc o)
   have hcb := fun o o' => radd_cells ((bq.alloc o).alloc o') ((bj.alloc o).alloc o')
   simp only [forall_and] at hca hcb
   obtain ⟨x10, x11, x12, x13, x14, x15, x16, x17, x18⟩ := hca
   obtain ⟨x20, x21, x22, x23, x24, x25, x26, x27, x28⟩ := hcb
   go_region_law
    (first
      | (refine step_append_any _ rfl (.tmp 25) (.tmp 27) 28 rfl w.heap.size 53 i0 _ 8 112 Tryz.underlying28 hi0 hz0 hz1 hz2 rfl (by decide) (.slice (some ⟨w.heap.size + 1 + 1 + 1, 0, none⟩) 0 0) 0 [] rfl ?_ w.heap.size A ms.length c (flat ms) rfl ?_ hone h63 hby ?_ ?_; exact made_own hn0 l3; exact HR.out _ (hbd _); exact (s1 _); intro v1 w1 ho1 hg1 ha1; have bq1 := (bq.alloc _).drew.grown hg1 q3; have bj1 := (bj.alloc _).drew.grown hg1 j3; have bo1 := (bo.alloc _).drew.grown hg1 o3; have hb1 := (hbd _).grown hg1 (s1 _) r3; have nq := ne_own ha1 q3 (tq1 _); have no := ne_own ha1 o3 (to1 _); have nj := ne_own ha1 j3 (Nat.lt_of_succ_lt (to1 _)); obtain ⟨y0, y1, y2, y3, y4, y5, y6, y7, y8⟩ := radd_cells bq1 bj1)
      | (refine step_append_any _ rfl (.tmp 25) (.tmp 27) 28 rfl w.heap.size 53 i0 _ 8 112 Tryz.underlying28 hi0 hz0 hz1 hz2 rfl (by decide) (.slice (some ⟨w.heap.size + 1 + 1 + 1, 0, none⟩) 0 0) 0 [] rfl ?_ w.heap.size A ms.length c (flat ms) rfl ?_ hone h63 hby ?_ ?_; exact made_own (hn0.alloc _) l3; exact HR.out _ (hbd2 _ _); exact (s2 _ _); intro v1 w1 ho1 hg1 ha1; have bq1 := ((bq.alloc _).alloc _).drew.grown hg1 q3; have bj1 := ((bj.alloc _).alloc _).drew.grown hg1 j3; have bo1 := ((bo.alloc _).alloc _).drew.grown hg1 o3; have hb1 := (hbd2 _ _).grown hg1 (s2 _ _) r3; have bs1 := hc1.drew.grown hg1 c13; have nq := ne_own ha1 q3 (tq2 _ _); have no := ne_own ha1 o3 (to2 _ _); have nj := ne_own ha1 j3 (Nat.lt_of_succ_lt (to2 _ _)); obtain ⟨y0, y1, y2, y3, y4, y5, y6, y7, y8⟩ := radd_cells bq1 bj1)
      | (refine step_append_any _ rfl (.tmp 25) (.tmp 27) 28 rfl w.heap.size 53 i0 _ 8 112 Tryz.underlying28 hi0 hz0 hz1 hz2 rfl (by decide) (.slice (some ⟨w.heap.size + 1 + 1 + 1 + 1, 0, none⟩) 0 0) 0 [] rfl ?_ w.heap.size A ms.length c (flat ms) rfl ?_ hone h63 hby ?_ ?_; exact made_own hn1 l4; exact HR.out _ (hbd2 _ _); exact (s2 _ _); intro v1 w1 ho1 hg1 ha1; have bq1 := ((bq.alloc _).alloc _).drew.grown hg1 q4; have bj1 := ((bj.alloc _).alloc _).drew.grown hg1 j4; have bo1 := ((bo.alloc _).alloc _).drew.grown hg1 o4; have hb1 := (hbd2 _ _).grown hg1 (s2 _ _) r4; have bs1 := (hc0.alloc _).drew.grown hg1 c04; have nq := ne_own ha1 q4 (tq2 _ _); have no := ne_own ha1 o4 (to2 _ _); have nj := ne_own ha1 j4 (Nat.lt_of_succ_lt (to2 _ _)); obtain ⟨y0, y1, y2, y3, y4, y5, y6, y7, y8⟩ := radd_cells bq1 bj1)
      | (refine step_append_any _ rfl (.tmp 28) (.tmp 33) 28 rfl w.heap.size 53 i0 _ 8 112 Tryz.underlying28 hi0 hz0 hz1 hz2 rfl (by decide) v1 (0 + ms.length) ([] ++ flat ms) rfl ?_ (w1.heap.size + 1) (some ⟨w1.heap.size, 0, none⟩) 1 1 [.int .i64 k, .int .i64 b, s.v, m.v, p.v, .int .i64 r, .int .i64 d, .int .i64 (last + 1)] rfl ?_ hone1 h63' hby' ?_ ?_; exact own_below ho1 ((Below.refl _ _).alloc (Nat.le_refl _) _); exact Reads.cells_at (Blk.new w1 _ _) (Nat.lt_succ_self _) rfl; exact (below_alloc hb1 (Nat.le_refl _) _).size; intro v2 w2 ho2 hg2 ha2; obtain ⟨A2, c2, rfl⟩ := own_form ho2; have bq2 := (bq1.alloc _).grown hg2 nq; have bo2 := (bo1.alloc _).grown hg2 no; have hb2 := (below_alloc hb1 (Nat.le_refl _) _).grown hg2 (below_alloc hb1 (Nat.le_refl _) _).size (own_ge ho1); have fq2 := bq2.frozen 0; have bj2 := (bj1.alloc _).grown hg2 nj; obtain ⟨g0, g1, g2, g3, g4, g5, g6, g7, g8⟩ := radd_cells bq2 bj2)
      | (refine step_append_any _ rfl (.tmp 28) (.tmp 33) 28 rfl w.heap.size 53 i0 _ 8 112 Tryz.underlying28 hi0 hz0 hz1 hz2 rfl (by decide) v1 (0 + ms.length) ([] ++ flat ms) rfl ?_ (w.heap.size + 1 + 1 + 1 + 1 + 1) (some ⟨w.heap.size + 1 + 1 + 1 + 1, 0, none⟩) 1 1 [.int .i64 k, .int .i64 b, s.v, m.v, p.v, .int .i64 r, .int .i64 d, .int .i64 (last + 1)] rfl ?_ hone1 h63' hby' ?_ ?_; exact ho1; exact Reads.cells_at bs1 (Nat.lt_succ_self _) rfl; exact hb1.size; intro v2 w2 ho2 hg2 ha2; obtain ⟨A2, c2, rfl⟩ := own_form ho2; have bq2 := (bq1).grown hg2 nq; have bo2 := (bo1).grown hg2 no; have hb2 := hb1.grown hg2 hb1.size (own_ge ho1); have fq2 := bq2.frozen 0; have bj2 := (bj1).grown hg2 nj; obtain ⟨g0, g1, g2, g3, g4, g5, g6, g7, g8⟩ := radd_cells bq2 bj2)
      | (refine step_append_any _ rfl (.tmp 28) (.tmp 33) 28 rfl w.heap.size 53 i0 _ 8 112 Tryz.underlying28 hi0 hz0 hz1 hz2 rfl (by decide) v1 (0 + ms.length) ([] ++ flat ms) rfl ?_ (w.heap.size + 1 + 1 + 1 + 1) (some ⟨w.heap.size + 1 + 1 + 1, 0, none⟩) 1 1 [.int .i64 k, .int .i64 b, s.v, m.v, p.v, .int .i64 r, .int .i64 d, .int .i64 (last + 1)] rfl ?_ hone1 h63' hby' ?_ ?_; exact ho1; exact Reads.cells_at bs1 (Nat.lt_succ_self _) rfl; exact hb1.size; intro v2 w2 ho2 hg2 ha2; obtain ⟨A2, c2, rfl⟩ := own_form ho2; have bq2 := (bq1).grown hg2 nq; have bo2 := (bo1).grown hg2 no; have hb2 := hb1.grown hg2 hb1.size (own_ge ho1); have fq2 := bq2.frozen 0; have bj2 := (bj1).grown hg2 nj; obtain ⟨g0, g1, g2, g3, g4, g5, g6, g7, g8⟩ := radd_cells bq2 bj2))
   all_goals (go_wp2_with fail; go_meet; exact ⟨_, radd_mid (zero_own ho2) bq2 bo2 hb2⟩)
  case rest =>
    obtain ⟨v', hr⟩ := hcut
    obtain ⟨A', c', rfl⟩ := own_form hr.own
    have c0 := hr.bq.cell 0
    have c1 := hr.bq.cell 1
    have e0 := hr.bo.cell 0
    have e1 := hr.bo.cell 1
    have fo0 := hr.bo.frozen 0
    have fo1 := hr.bo.frozen 1
    simp only [List.getElem?_toArray, List.getElem?_cons_succ, List.getElem?_cons_zero] at c0 c1 e0 e1
    have hbo := (hr.bo.set_ 0 (.slice A' (ms.length + 1) c')).set_ 1 (.int .i64 (last + 1))
    have z0 := hbo.cell 0
    have z1 := hbo.cell 1
    have z0' : ((wc.setCell ⟨w.heap.size + 1 + 1, 0, none⟩ (.slice A' (ms.length + 1) c')).setCell ⟨w.heap.size + 1 + 1, 1, none⟩ (.int .i64 (last + 1))).cell? ⟨w.heap.size + 1 + 1, 0, none⟩ = some (.slice A' (ms.length + 1) c') := z0
    have z1' : ((wc.setCell ⟨w.heap.size + 1 + 1, 0, none⟩ (.slice A' (ms.length + 1) c')).setCell ⟨w.heap.size + 1 + 1, 1, none⟩ (.int .i64 (last + 1))).cell? ⟨w.heap.size + 1 + 1, 1, none⟩ = some (.int .i64 (last + 1)) := z1
    have hown2 := own_setCell (own_setCell hr.own hr.bo (by decide) (o := 0) (.slice A' (ms.length + 1) c')) (hr.bo.set_ 0 _) (by decide) (o := 1) (.int .i64 (last + 1))
    have hb2 := (hr.below.setCell (p := ⟨w.heap.size + 1 + 1, 0, none⟩) (by show _ ≤ w.heap.size + 1 + 1; omega) (.slice A' (ms.length + 1) c')).setCell (p := ⟨w.heap.size + 1 + 1, 1, none⟩) (by show _ ≤ w.heap.size + 1 + 1; omega) (.int .i64 (last + 1))
    have HR2 := Lib.hid hr
    clear hr hbo z0 z1 hn0 hc0 hc1 hn1 hone1 hbd hbd2 q3 j3 o3 q4 j4 o4 c13 c04 l3 l4 r3 r4 s1 s2 tq1 to1 tq2 to2 bq bj bo hb3 hs3
    go_wp2_with (fail)
    go_region
    all_goals go_wp2_with (fail)
    all_goals refine bodyPost_ret (v := .tuple #[.agg #[.slice A' (ms.length + 1) c', .int .i64 (last + 1)], .int .i64 (last + 1), .int .i64 0]) (by simp [results, Tryz.results7, go_sem, z0', z1']) rfl ⟨_, rfl, ?_, ?_⟩
    all_goals first | exact own_drew hown2 | exact hb2.drew
end Go.Proofs.YtadgamfhlklemaaGreatDoor
