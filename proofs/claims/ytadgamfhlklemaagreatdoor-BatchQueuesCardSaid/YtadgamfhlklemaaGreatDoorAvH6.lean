/- The document's queue: Without. -/
import Derived.Test.YtadgamfhlklemaaGreatDoorAvH5
namespace Go.Proofs.YtadgamfhlklemaaGreatDoor
open Go.RowKit
theorem infoRw6 : (Tryz.prog.info? 53).map (fun i => (i.zero, i.size, i.bytes)) = some (some (.agg #[.int .i64 0, .int .i64 0, .slice none 0 0, .slice none 0 0, .slice none 0 0, .int .i64 0, .int .i64 0, .int .i64 0]), 8, 112) := by kernel_rfl
theorem flat_take (ms : List Wt) (i : Nat) : flat (ms.take i) = (flat ms).take (i * 8) := by
  induction ms generalizing i with
  | nil => simp [flat]
  | cons x r ih =>
    cases i with
    | zero => simp [flat]
    | succ i =>
      have h8 : x.cells.length = 8 := x.cells_length
      have := ih i
      simp only [flat, List.take_succ_cons, List.flatMap_cons] at this ⊢
      rw [List.take_append, h8, this, List.take_of_length_le (l := x.cells) (by omega), show (i + 1) * 8 - 8 = i * 8 by omega]
theorem flat_drop (ms : List Wt) (i : Nat) : flat (ms.drop i) = (flat ms).drop (i * 8) := by
  induction ms generalizing i with
  | nil => simp [flat]
  | cons x r ih =>
    cases i with
    | zero => simp [flat]
    | succ i =>
      have h8 : x.cells.length = 8 := x.cells_length
      have := ih i
      simp only [flat, List.drop_succ_cons, List.flatMap_cons] at this ⊢
      rw [List.drop_append, h8, this, List.drop_eq_nil_of_le (by omega : x.cells.length ≤ (i + 1) * 8), show (i + 1) * 8 - 8 = i * 8 by omega, List.nil_append]
theorem one_flat6 (ms : List Wt) : ∀ u ∈ flat ms, u.oneCell' = true := fun u hu => by
  simp only [flat, List.mem_flatMap, Wt.cells, List.mem_cons, List.not_mem_nil, or_false] at hu
  obtain ⟨x, _, h⟩ := hu
  rcases h with rfl | rfl | rfl | rfl | rfl | rfl | rfl | rfl <;> rfl
theorem Reads.takeN {w : World} {B n k : Nat} {A : Option Addr} {xs : List Value} (h : Reads w B 8 A n xs) (hk : k ≤ n) : Reads w B 8 A k (xs.take (k * 8)) := by
  refine ⟨by rw [List.length_take, h.1]; omega, fun hp => ?_⟩
  obtain ⟨ad, e, hb, hc⟩ := h.2 (by omega)
  refine ⟨ad, e, hb, fun j u hu => hc j u ?_⟩
  rw [List.getElem?_take] at hu
  split at hu
  · exact hu
  · cases hu
theorem own_zero {w : World} {b n sz : Nat} {e : TypeId} {v : Value} {xs : List Value} (h : w.ownsRow b e sz v (0 + n) ([] ++ xs)) : w.ownsRow b e sz v n xs := by
  rwa [Nat.zero_add, List.nil_append] at h
theorem own_len {w : World} {b n m sz : Nat} {e : TypeId} {v : Value} {xs : List Value} (hn : n = m) (h : w.ownsRow b e sz v n xs) : w.ownsRow b e sz v m xs := hn ▸ h
theorem ne_own2 {x y : Option Nat} {g s : Nat} (h : x = y ∨ x = some s) (h1 : some g ≠ y) (h2 : g < s) : some g ≠ x := by
  rcases h with rfl | rfl
  · exact h1
  · intro e; injection e; omega
theorem own_ge2 {w : World} {base : Nat} {e : TypeId} {size n : Nat} {v : Value} {xs : List Value} (h : w.ownsRow base e size v n xs) : ∀ k, v.ownBlock = some k → base ≤ k := by
  intro k hk
  rcases h.2 with ⟨rfl, _⟩ | ⟨g, cap, cur, rfl, hb, _⟩
  · simp [Value.ownBlock] at hk
  · simp [Value.ownBlock] at hk; omega
theorem made8 {w : World} {e : TypeId} {base g : Nat} (h : w.heap[g]? = some (.cells #[] e (0, 0))) (hb : base ≤ g) : w.ownsRow base e 8 (.slice (some ⟨g, 0, none⟩) 0 0) 0 [] :=
  ⟨rfl, .inr ⟨g, 0, #[], rfl, hb, h, Nat.le_refl _, by simp [maxLen], rfl, rfl⟩⟩
set_option maxHeartbeats 4000000 in
set_option maxRecDepth 100000 in
theorem rwithout_any (w : World) (base : Nat) (A : Option Addr) (c i : Nat) (ms : List Wt) (last : Int) (hn : ms.length ≤ 1000000) (hi : i < ms.length) (hown : w.ownsRow base 53 8 (.slice A ms.length c) ms.length (flat ms)) :
    Calls Tryz.prog 11 #[.agg #[.slice A ms.length c, .int .i64 last], .int .i64 i] w fun e w' => ∃ A' c', e = .returned (.agg #[.slice A' (ms.length - 1) c', .int .i64 last]) ∧ w'.ownsRow w.heap.size 53 8 (.slice A' (ms.length - 1) c') (ms.length - 1) (flat (ms.take i ++ ms.drop (i + 1))) ∧ Below w.heap.size w w' := by
  obtain ⟨i0, hi0, hz0, hz1, hz2⟩ := info_parts infoRw6
  have hr := Reads.of_own hown
  obtain ⟨g, cap, hv, _, hlt⟩ := hown.form (by omega)
  have hA : A = some ⟨g, 0, none⟩ := by injection hv
  subst hA
  have hcap : ms.length ≤ c := by
    rcases hown.2 with ⟨h, _⟩ | ⟨g', cap', cur, h, _, _, hle, _⟩
    · cases h
    · injection h with _ _ h; omega
  have hm : (((w.alloc (.cells #[.slice (some ⟨g, 0, none⟩) ms.length c, .int .i64 last] 30)).alloc (.cells #[.slice none 0 0, .int .i64 0] 30)).alloc (.cells #[] 53)).ownsRow w.heap.size 53 8 (.slice (some ⟨w.heap.size + 1 + 1, 0, none⟩) 0 0) 0 [] := by
    refine made8 ?_ (by omega)
    have := Blk.new ((w.alloc (.cells #[.slice (some ⟨g, 0, none⟩) ms.length c, .int .i64 last] 30)).alloc (.cells #[.slice none 0 0, .int .i64 0] 30)) 53 #[]
    simp only [World.size_alloc] at this
    exact this
  have hb3 : Below w.heap.size w (((w.alloc (.cells #[.slice (some ⟨g, 0, none⟩) ms.length c, .int .i64 last] 30)).alloc (.cells #[.slice none 0 0, .int .i64 0] 30)).alloc (.cells #[] 53)) := (((Below.refl _ _).alloc (Nat.le_refl _) _).alloc (by simp) _).alloc (by simp; omega) _
  have hr3 := (hr.below hb3).takeN (k := i) (by omega)
  have h63 : 0 + i ≤ maxLen := by simp only [maxLen]; omega
  have hby : (0 + i) * 112 ≤ 140737488355328 := by omega
  have hs3 : w.heap.size ≤ (((w.alloc (.cells #[.slice (some ⟨g, 0, none⟩) ms.length c, .int .i64 last] 30)).alloc (.cells #[.slice none 0 0, .int .i64 0] 30)).alloc (.cells #[] 53)).heap.size := hb3.size
  have one3 : ∀ u ∈ (flat ms).take (i * 8), u.oneCell' = true := fun u hu => one_flat6 ms u (List.mem_of_mem_take hu)
  have hii : (i : Int) ≤ c := by omega
  have hi1 : (i : Int) + 1 ≤ ms.length := by omega
  have bq : Blk (((w.alloc (.cells #[.slice (some ⟨g, 0, none⟩) ms.length c, .int .i64 last] 30)).alloc (.cells #[.slice none 0 0, .int .i64 0] 30)).alloc (.cells #[] 53)) w.heap.size 30 #[.slice (some ⟨g, 0, none⟩) ms.length c, .int .i64 last] := ((Blk.new w _ _).alloc _).alloc _
  have bo : Blk (((w.alloc (.cells #[.slice (some ⟨g, 0, none⟩) ms.length c, .int .i64 last] 30)).alloc (.cells #[.slice none 0 0, .int .i64 0] 30)).alloc (.cells #[] 53)) (w.heap.size + 1) 30 #[.slice none 0 0, .int .i64 0] := by
    have := (Blk.new (w.alloc (.cells #[.slice (some ⟨g, 0, none⟩) ms.length c, .int .i64 last] 30)) 30 #[.slice none 0 0, .int .i64 0]).alloc (.cells #[] 53)
    simpa using this
  have nq3 : some w.heap.size ≠ (Value.slice (some (⟨w.heap.size + 1 + 1, 0, none⟩ : Addr)) 0 0).ownBlock := by simp [Value.ownBlock]; omega
  have no3 : some (w.heap.size + 1) ≠ (Value.slice (some (⟨w.heap.size + 1 + 1, 0, none⟩ : Addr)) 0 0).ownBlock := by simp [Value.ownBlock]
  have r3 : ∀ k, (Value.slice (some (⟨w.heap.size + 1 + 1, 0, none⟩ : Addr)) 0 0).ownBlock = some k → w.heap.size ≤ k := by intro k hk; simp [Value.ownBlock] at hk; omega
  have h63' : i + (ms.length - (i + 1)) ≤ maxLen := by simp only [maxLen]; omega
  have hby' : (i + (ms.length - (i + 1))) * 112 ≤ 140737488355328 := by omega
  have one4 : ∀ u ∈ (flat ms).drop ((i + 1) * 8), u.oneCell' = true := fun u hu => one_flat6 ms u (List.mem_of_mem_drop hu)
  have hlen : i + (ms.length - (i + 1)) = ms.length - 1 := by omega
  have nqo : w.heap.size + 1 ≠ w.heap.size := by omega
  have tq : w.heap.size < ((w.alloc (.cells #[.slice (some ⟨g, 0, none⟩) ms.length c, .int .i64 last] 30)).alloc (.cells #[.slice none 0 0, .int .i64 0] 30) |>.alloc (.cells #[] 53)).heap.size := by simp; omega
  have to_ : w.heap.size + 1 < ((w.alloc (.cells #[.slice (some ⟨g, 0, none⟩) ms.length c, .int .i64 last] 30)).alloc (.cells #[.slice none 0 0, .int .i64 0] 30) |>.alloc (.cells #[] 53)).heap.size := by simp
  have hrd := hr.cut (k := i + 1) (cap := c) (by omega) hcap
  by_cases hci : c = i + 1
  · subst hci
    have HRD := Lib.hid (fun (W : World) (_ : Below w.heap.size w W) => (⟨by simp, fun h => absurd h (by omega)⟩ : Reads W w.heap.size 8 (some ⟨g, 0, none⟩) 0 []))
    have hlen : i + 0 = ms.length - 1 := by omega
    have h63' : i + 0 ≤ maxLen := by simp only [maxLen]; omega
    have hby' : (i + 0) * 112 ≤ 140737488355328 := by omega
    have one4 : ∀ u ∈ ([] : List Value), u.oneCell' = true := by simp
    clear hrd
    go_enter Tryz.func11, Tryz.ntmps11
    go_wp2_with (first | (at_builtin; refine wpList_append_any _ rfl (.tmp 6) (.tmp 10) 28 rfl w.heap.size 53 i0 _ 8 112 Tryz.underlying28 hi0 hz0 hz1 hz2 rfl (by decide) (.slice (some ⟨w.heap.size + 1 + 1, 0, none⟩) 0 0) 0 [] rfl hm w.heap.size (some ⟨g, 0, none⟩) i (i + 1) ((flat ms).take (i * 8)) rfl hr3 one3 h63 hby hs3 ?_; intro v1 w1 ho1 hg1 ha1; have ho1 := own_zero ho1; obtain ⟨A1, c1, rfl⟩ := own_form ho1; have bq1 := bq.grown hg1 nq3; have bo1 := bo.grown hg1 no3; have hb1 := hb3.grown hg1 hs3 r3; have x0 := bq1.cell 0; have x1 := bq1.cell 1; have xf := bq1.frozen 0; simp only [List.getElem?_toArray, List.getElem?_cons_succ, List.getElem?_cons_zero] at x0 x1) | (at_builtin; refine wpList_append_any _ rfl (.tmp 12) (.tmp 17) 28 rfl w.heap.size 53 i0 _ 8 112 Tryz.underlying28 hi0 hz0 hz1 hz2 rfl (by decide) (.slice A1 i c1) i ((flat ms).take (i * 8)) rfl ho1 w.heap.size (some ⟨g, 0, none⟩) 0 0 [] rfl (HRD.out _ hb1) one4 h63' hby' hb1.size ?_; intro v2 w2 ho2 hg2 ha2; have ho3 := own_len hlen ho2; obtain ⟨A2, c2, rfl⟩ := own_form ho3; have nq := ne_own2 ha1 nq3 tq; have no := ne_own2 ha1 no3 to_; have bq2 := bq1.grown hg2 nq; have bo2 := bo1.grown hg2 no; have hb2 := hb1.grown hg2 hb1.size (own_ge2 ho1); have y0 := bq2.cell 0; have yf := bq2.frozen 0; have bq3 := bq2.set_ 0 (.slice A2 (ms.length - 1) c2); have z0 := bq3.cell 0; have z1 := bq3.cell 1; have bo3 := bo2.far (p := ⟨w.heap.size, 0, none⟩) nqo (.slice A2 (ms.length - 1) c2); have zf0 := bo3.frozen 0; have zf1 := bo3.frozen 1; have u0 := bo3.cell 0; have u1 := bo3.cell 1; simp only [List.getElem?_toArray, List.getElem?_cons_succ, List.getElem?_cons_zero] at y0 u0 u1; have z0' : (w2.setCell ⟨w.heap.size, 0, none⟩ (.slice A2 (ms.length - 1) c2)).cell? ⟨w.heap.size, 0, none⟩ = some (.slice A2 (ms.length - 1) c2) := z0; have z1' : (w2.setCell ⟨w.heap.size, 0, none⟩ (.slice A2 (ms.length - 1) c2)).cell? ⟨w.heap.size, 1, none⟩ = some (.int .i64 last) := z1))
    have bo4 := (bo3.set_ 0 (.slice A2 (ms.length - 1) c2)).set_ 1 (.int .i64 last)
    have t0 := bo4.cell 0
    have t1 := bo4.cell 1
    simp only [List.setIfInBounds_toArray, List.set_cons_zero, List.set_cons_succ, List.getElem?_toArray, List.getElem?_cons_succ, List.getElem?_cons_zero] at t0 t1
    have ho5 := own_setCell (own_setCell (own_setCell ho3 bq2 (by decide) (o := 0) (.slice A2 (ms.length - 1) c2)) bo3 (by decide) (o := 0) (.slice A2 (ms.length - 1) c2)) (bo3.set_ 0 _) (by decide) (o := 1) (.int .i64 last)
    have hb5 := ((hb2.setCell (p := ⟨w.heap.size, 0, none⟩) (Nat.le_refl _) (.slice A2 (ms.length - 1) c2)).setCell (p := ⟨w.heap.size + 1, 0, none⟩) (by show w.heap.size ≤ w.heap.size + 1; omega) (.slice A2 (ms.length - 1) c2)).setCell (p := ⟨w.heap.size + 1, 1, none⟩) (by show w.heap.size ≤ w.heap.size + 1; omega) (.int .i64 last)
    refine bodyPost_ret (v := .agg #[.slice A2 (ms.length - 1) c2, .int .i64 last]) (by simp [results, Tryz.results11, go_sem, t0, t1]) rfl ⟨A2, c2, rfl, ?_, hb5⟩
    rw [flat_append, flat_take, flat_drop]
    rw [show (flat ms).drop ((i + 1) * 8) = [] from List.drop_eq_nil_of_le (by rw [flat_length]; omega)]
    exact ho5
  · rw [if_neg hci, Option.map_some, Go.WideShapes.add_plain, Nat.zero_add] at hrd
    have HRD := Lib.hid (fun (W : World) (h : Below w.heap.size w W) => hrd.below h)
    clear hrd
    go_enter Tryz.func11, Tryz.ntmps11
    go_wp2_with (first | (at_builtin; refine wpList_append_any _ rfl (.tmp 6) (.tmp 10) 28 rfl w.heap.size 53 i0 _ 8 112 Tryz.underlying28 hi0 hz0 hz1 hz2 rfl (by decide) (.slice (some ⟨w.heap.size + 1 + 1, 0, none⟩) 0 0) 0 [] rfl hm w.heap.size (some ⟨g, 0, none⟩) i c ((flat ms).take (i * 8)) rfl hr3 one3 h63 hby hs3 ?_; intro v1 w1 ho1 hg1 ha1; have ho1 := own_zero ho1; obtain ⟨A1, c1, rfl⟩ := own_form ho1; have bq1 := bq.grown hg1 nq3; have bo1 := bo.grown hg1 no3; have hb1 := hb3.grown hg1 hs3 r3; have x0 := bq1.cell 0; have x1 := bq1.cell 1; have xf := bq1.frozen 0; simp only [List.getElem?_toArray, List.getElem?_cons_succ, List.getElem?_cons_zero] at x0 x1) | (at_builtin; refine wpList_append_any _ rfl (.tmp 12) (.tmp 17) 28 rfl w.heap.size 53 i0 _ 8 112 Tryz.underlying28 hi0 hz0 hz1 hz2 rfl (by decide) (.slice A1 i c1) i ((flat ms).take (i * 8)) rfl ho1 w.heap.size (some ⟨g, (i + 1) * 8, none⟩) (ms.length - (i + 1)) (c - (i + 1)) ((flat ms).drop ((i + 1) * 8)) rfl (HRD.out _ hb1) one4 h63' hby' hb1.size ?_; intro v2 w2 ho2 hg2 ha2; have ho3 := own_len hlen ho2; obtain ⟨A2, c2, rfl⟩ := own_form ho3; have nq := ne_own2 ha1 nq3 tq; have no := ne_own2 ha1 no3 to_; have bq2 := bq1.grown hg2 nq; have bo2 := bo1.grown hg2 no; have hb2 := hb1.grown hg2 hb1.size (own_ge2 ho1); have y0 := bq2.cell 0; have yf := bq2.frozen 0; have bq3 := bq2.set_ 0 (.slice A2 (ms.length - 1) c2); have z0 := bq3.cell 0; have z1 := bq3.cell 1; have bo3 := bo2.far (p := ⟨w.heap.size, 0, none⟩) nqo (.slice A2 (ms.length - 1) c2); have zf0 := bo3.frozen 0; have zf1 := bo3.frozen 1; have u0 := bo3.cell 0; have u1 := bo3.cell 1; simp only [List.getElem?_toArray, List.getElem?_cons_succ, List.getElem?_cons_zero] at y0 u0 u1; have z0' : (w2.setCell ⟨w.heap.size, 0, none⟩ (.slice A2 (ms.length - 1) c2)).cell? ⟨w.heap.size, 0, none⟩ = some (.slice A2 (ms.length - 1) c2) := z0; have z1' : (w2.setCell ⟨w.heap.size, 0, none⟩ (.slice A2 (ms.length - 1) c2)).cell? ⟨w.heap.size, 1, none⟩ = some (.int .i64 last) := z1))
    have bo4 := (bo3.set_ 0 (.slice A2 (ms.length - 1) c2)).set_ 1 (.int .i64 last)
    have t0 := bo4.cell 0
    have t1 := bo4.cell 1
    simp only [List.setIfInBounds_toArray, List.set_cons_zero, List.set_cons_succ, List.getElem?_toArray, List.getElem?_cons_succ, List.getElem?_cons_zero] at t0 t1
    have ho5 := own_setCell (own_setCell (own_setCell ho3 bq2 (by decide) (o := 0) (.slice A2 (ms.length - 1) c2)) bo3 (by decide) (o := 0) (.slice A2 (ms.length - 1) c2)) (bo3.set_ 0 _) (by decide) (o := 1) (.int .i64 last)
    have hb5 := ((hb2.setCell (p := ⟨w.heap.size, 0, none⟩) (Nat.le_refl _) (.slice A2 (ms.length - 1) c2)).setCell (p := ⟨w.heap.size + 1, 0, none⟩) (by show w.heap.size ≤ w.heap.size + 1; omega) (.slice A2 (ms.length - 1) c2)).setCell (p := ⟨w.heap.size + 1, 1, none⟩) (by show w.heap.size ≤ w.heap.size + 1; omega) (.int .i64 last)
    refine bodyPost_ret (v := .agg #[.slice A2 (ms.length - 1) c2, .int .i64 last]) (by simp [results, Tryz.results11, go_sem, t0, t1]) rfl ⟨A2, c2, rfl, ?_, hb5⟩
    rw [flat_append, flat_take, flat_drop]
    exact ho5
end Go.Proofs.YtadgamfhlklemaaGreatDoor
