/- BatchFull, walked. -/
import Derived.Test.YtblljhdebfnmoaaGreatDoorAvD1
import Derived.Test.YtblljhdebfnmoaaGreatDoorAvP3
namespace Go.Proofs.YtblljhdebfnmoaaGreatDoor
open Go.RowKit
structure FullR (w1 wr : World) (k : Nat) (js : List Wt) : Prop where
  tk : Tks js k
  small : AllSmall js
  ql : QL wr w1.heap.size w1.heap.size js k
  box : Blk wr (w1.heap.size + 1) 29 #[.int .i64 3, .int .i64 0, .slice none 0 0, .slice none 0 0, .slice none 0 0, .int .i64 0, .int .i64 0]
  below : Below w1.heap.size w1 wr
theorem FullR.size {w1 wr : World} {k : Nat} {js : List Wt} (h : FullR w1 wr k js) : w1.heap.size ≤ wr.heap.size := h.below.size
theorem small_pushM {js : List Wt} {x : Wt} (h : AllSmall js) (hx : x.Small) : AllSmall (pushM js x) := AllSmall.perm (fun y hy => by
  rcases List.mem_append.1 hy with hy | hy
  · exact h y hy
  · rw [List.mem_singleton.1 hy]; exact hx) (pushM_perm js x)
theorem FullR.add {w1 wr w' : World} {k : Nat} {js : List Wt} {l1 : Int} {x : Wt} (h : FullR w1 wr k js) (hl : l1 = k + 1) (a : Added1 wr w' w1.heap.size w1.heap.size js l1 3 0 0 0 x ⟨none, 0, 0⟩ ⟨none, 0, 0⟩ ⟨none, 0, 0⟩) : FullR w1 w' (k + 1) (pushM js x) :=
  ⟨h.tk.push x (by rw [a.k5, hl]), small_pushM h.small ⟨by rw [a.n1]; simp, by rw [a.n2]; simp, by rw [a.n3]; simp⟩, by have := a.ql; rw [hl] at this; exact_mod_cast this,
    kept_blk h.box (by decide) (by omega) a.kept, below_kept h.below h.size (Nat.le_refl _) a.kept⟩
theorem add_none (w : World) (base q : Nat) (js : List Wt) (last l1 : Int) (hl1 : l1 = last + 1) (hl : QL w base q js last) (hbase : base ≤ w.heap.size) (hn : js.length < 1000) (hs : AllSmall js) (hlast : 0 ≤ last ∧ last ≤ 1000000000) :
    Calls Tryz.prog 6 #[.pointer (some ⟨q, 0, none⟩), .agg #[.int .i64 3, .int .i64 0, .slice none 0 0, .slice none 0 0, .slice none 0 0, .int .i64 0, .int .i64 0]] w (AddPost1 w base q js l1 3 0 ⟨none, 0, 0⟩ ⟨none, 0, 0⟩ ⟨none, 0, 0⟩ 0 0) :=
  add_ok1 w base q js last l1 3 0 ⟨none, 0, 0⟩ ⟨none, 0, 0⟩ ⟨none, 0, 0⟩ 0 0 [] [] [] hl1 rfl hl hbase hn hs hlast (by simp) (by simp) (by simp) Reads.none_ Reads.none_ Reads.none_ One.nil One.nil One.nil
set_option maxHeartbeats 4000000 in
set_option maxRecDepth 100000 in
theorem full_any (more : Int) (h0 : 0 ≤ more) (h255 : more ≤ 255) (w : World) : Calls Tryz.prog 3 #[.int .u8 more] w fun e w' => e = .returned (.bool true) ∧ Below w.heap.size w w' := by
  go_enter Tryz.func3, Tryz.ntmps3
  go_wp2_with (fail)
  refine (speaks25 w).mono ?_
  rintro e w1 ⟨rfl, hb1⟩
  go_wp2_with (fail)
  go_loopw [16] (fun i wr => ∃ (k : Nat) (js : List Wt), k ≤ 1000 ∧ i = .int .i64 k ∧ FullR w1 wr k js) (fun i _ => 1000 - (intOf i).toNat)
  case atStart => exact ⟨0, [], by omega, rfl, Tks.nil, fun x hx => by simp at hx, (ql_new w1).below ((Below.refl _ _).alloc (Nat.le_refl _) _), (by have := Blk.new (w1.alloc (.cells #[.slice none 0 0, .int .i64 0] 26)) 29 #[.int .i64 3, .int .i64 0, .slice none 0 0, .slice none 0 0, .slice none 0 0, .int .i64 0, .int .i64 0]; simpa using this), ((Below.refl _ _).alloc (Nat.le_refl _) _).alloc (by simp) _⟩
  case round =>
    obtain ⟨k, js, hk, rfl, h⟩ := hrel
    have hsz := h.size
    by_cases hlt : k < 1000
    · have d1 : decide ((k : Int) < 1000) = true := by simp; omega
      have c0 := h.box.cell 0
      have c1 := h.box.cell 1
      have c2 := h.box.cell 2
      have c3 := h.box.cell 3
      have c4 := h.box.cell 4
      have c5 := h.box.cell 5
      have c6 := h.box.cell 6
      simp only [List.getElem?_toArray, List.getElem?_cons_succ, List.getElem?_cons_zero] at c0 c1 c2 c3 c4 c5 c6
      have H := Lib.hid h
      clear h
      go_wp2_with (fail)
      refine (add_none wr w1.heap.size w1.heap.size js k (k + 1) rfl H.out.ql hsz (by rw [H.out.tk.len]; omega) H.out.small (by omega)).mono ?_
      rintro e w2 ⟨rfl, x, a⟩
      clear c0 c1 c2 c3 c4 c5 c6
      have d2 : ((k : Int) + 1 != (k : Int) + 1) = false := by simp
      go_wp2_with (fail)
      go_roundw
      case rel => exact ⟨k + 1, pushM js x, by omega, by go_num, H.out.add rfl a⟩
      case measure => simp [intOf]; omega
    · obtain rfl : k = 1000 := by omega
      have H := Lib.hid h
      have HN := Lib.hid h.tk.len
      clear h hlt hk
      have d1 : decide (((1000 : Nat) : Int) < 1000) = false := by simp
      have c0 := H.out.box.cell 0
      have c1 := H.out.box.cell 1
      have c2 := H.out.box.cell 2
      have c3 := H.out.box.cell 3
      have c4 := H.out.box.cell 4
      have c5 := H.out.box.cell 5
      have c6 := H.out.box.cell 6
      simp only [List.getElem?_toArray, List.getElem?_cons_succ, List.getElem?_cons_zero] at c0 c1 c2 c3 c4 c5 c6
      go_wp2_with (fail)
      refine (add_many wr w1.heap.size w1.heap.size js 1000 3 0 ⟨none, 0, 0⟩ ⟨none, 0, 0⟩ ⟨none, 0, 0⟩ 0 0 rfl H.out.ql (by rw [HN.out]; omega) (by rw [HN.out]; omega)).mono ?_
      rintro e w2 ⟨rfl, hb2⟩
      have hq2 := H.out.ql.below hb2
      have hx2 := H.out.box.below hb2 H.out.box.lt
      have hB2 := below_then H.out.below hsz hb2
      have e1 : ((1000 : Int) != 1000) = false := by decide
      clear c0 c1 c2 c3 c4 c5 c6
      go_wp2_with (fail)
      refine (qlen_any w2 w1.heap.size w1.heap.size js 1000 hq2).mono ?_
      rintro e w3 ⟨rfl, rfl⟩
      rw [HN.out]
      go_wp2_with (fail)
      obtain ⟨t, ht⟩ : ∃ t : Int, t = 1 + more % 1000 := ⟨_, rfl⟩
      have ht1 : 1 ≤ t ∧ t ≤ 1000 := by omega
      rw [← ht]
      clear ht
      have hmem : t ∈ tks js := (H.out.tk.mem t).2 (by omega)
      refine (drop_any w2 w1.heap.size w1.heap.size js 1000 t hq2 H.out.small (by rw [HN.out]; omega)).mono ?_
      rintro e w3 (⟨rfl, hno, _, _⟩ | ⟨i, rfl, hi, hti, hd⟩)
      · obtain ⟨x, hx, hxt⟩ := List.mem_map.1 hmem
        exact absurd hxt (hno x hx)
      have hk3 := hd.kept
      have hq3 := hd.ql
      rw [HN.out] at hq3 hi
      simp only [show 1000 - 1 = 999 from rfl] at hq3
      have hlen3 := left_length js i 999 HN.out (by rw [HN.out]; exact hi)
      have hsub3 := left_sub js i 999 HN.out (by rw [HN.out]; exact hi)
      have hnd3 := (left_nd js i 999 HN.out (by rw [HN.out]; exact hi) H.out.tk.nd).2.1
      rw [hti] at hnd3
      generalize (takeM js i 999).take 999 = js3 at *
      have HN3 := Lib.hid hlen3
      have HND3 := Lib.hid hnd3
      have hs3 : AllSmall js3 := fun x hx => H.out.small x (hsub3 x hx)
      have hx3 := kept_blk hx2 (by decide) (by omega) hk3
      have hB3 := below_kept hB2 hB2.size (Nat.le_refl _) hk3
      clear hlen3 hnd3 hsub3 hd hti hmem
      go_wp2_with (fail)
      refine (drop_any w3 w1.heap.size w1.heap.size js3 1000 t hq3 hs3 (by rw [HN3.out]; omega)).mono ?_
      rintro e w4 (⟨rfl, _, hk4, hq4⟩ | ⟨i4, rfl, hi4, hti4, _⟩)
      rotate_left
      · exact absurd hti4 (HND3.out _ (by rw [gt_eq js3 i4 hi4]; exact List.getElem_mem hi4))
      have hx4 := kept_blk hx3 (by decide) (by omega) hk4
      have hB4 := below_kept hB3 hB3.size (Nat.le_refl _) hk4
      have e2 : ((999 : Int) != 999) = false := by decide
      go_wp2_with (fail)
      refine (qlen_any w4 w1.heap.size w1.heap.size js3 1000 hq4).mono ?_
      rintro e w5 ⟨rfl, rfl⟩
      rw [HN3.out]
      have c0 := hx4.cell 0
      have c1 := hx4.cell 1
      have c2 := hx4.cell 2
      have c3 := hx4.cell 3
      have c4 := hx4.cell 4
      have c5 := hx4.cell 5
      have c6 := hx4.cell 6
      simp only [List.getElem?_toArray, List.getElem?_cons_succ, List.getElem?_cons_zero] at c0 c1 c2 c3 c4 c5 c6
      go_wp2_with (fail)
      refine (add_none w4 w1.heap.size w1.heap.size js3 1000 1001 rfl hq4 hB4.size (by rw [HN3.out]; omega) hs3 (by omega)).mono ?_
      rintro e w6 ⟨rfl, x, a⟩
      have HN6 := Lib.hid (pushM_length js3 x)
      clear c0 c1 c2 c3 c4 c5 c6
      have e3 : ((1001 : Int) == 1001) = true := by decide
      have e4 : ((1000 : Int) == 1000) = true := by decide
      go_wp2_with (fail)
      refine (qlen_any w6 w1.heap.size w1.heap.size _ 1001 a.ql).mono ?_
      rintro e w7 ⟨rfl, rfl⟩
      rw [HN6.out, HN3.out]
      go_wp2_with (fail)
      go_ret
      exact ⟨rfl, below_then hb1 hb1.size (below_kept hB4 hB4.size (Nat.le_refl _) a.kept)⟩
end Go.Proofs.YtblljhdebfnmoaaGreatDoor
