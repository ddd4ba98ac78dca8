/- BatchQueues, walked. -/
import Derived.Test.YtadgamfhlklemaaGreatDoorAvQ4
import Derived.Deep.CutBlock
namespace Go.Proofs.YtadgamfhlklemaaGreatDoor
open Go.RowKit
set_option maxHeartbeats 80000000 in
set_option maxRecDepth 100000 in
theorem queues_any (w : World) (A0 : Option Addr) (n c0 : Nat) (xs : List ActD) (hin : InA w A0 n xs) :
    Calls Tryz.prog 3 #[.slice A0 n c0] w fun e w' => e = .returned (.bool true) ∧ Below w.heap.size w w' := by
  go_enter Tryz.func3, Tryz.ntmps3
  go_wp2_with (fail)
  refine (speaks25 w).mono ?_
  rintro e w1 ⟨rfl, hb1⟩
  by_cases hn : n ≤ 60
  rotate_left
  · have d1 : decide ((n : Int) > 60) = true := by simp; omega
    go_wp2_with (fail)
    refine (speaks25 w1).mono ?_
    rintro e w2 ⟨rfl, hb2⟩
    go_wp2_with (fail)
    go_ret
    exact ⟨rfl, below_then hb1 hb1.size hb2⟩
  have d1 : decide ((n : Int) > 60) = false := by simp; omega
  have hin1 := hin.below hb1
  clear hin
  go_wp2_with (fail)
  go_loopg [34] n (fun g i wr => ∃ (k : Nat) (A : Option Addr) (c : Nat) (js ms : List Wt) (last : Int), g = n - k ∧ k ≤ n ∧ i = .int .i64 k ∧ QR w1 wr A c js ms last k)
  case atStart => exact ⟨0, none, 0, [], [], 0, by omega, by omega, rfl, QM.nil, qstart w1, fun x hx => by simp at hx, by omega, by omega, by simp⟩
  case round =>
    obtain ⟨wo, rfl⟩ : ∃ wo : World, wo = wr := ⟨_, rfl⟩
    obtain ⟨k, A, c, js, ms, last, rfl, hk, rfl, h⟩ := hrel
    have hsz := h.qs.below.size
    have hsz2 : w1.heap.size + 1 < wo.heap.size := h.qs.mb.lt
    by_cases hlt : k < n
    rotate_left
    · have d3 : decide ((k : Int) < n) = false := by simp; omega
      go_wp2_with (fail)
      go_ret
      exact ⟨rfl, below_then hb1 hb1.size h.qs.below⟩
    have d3 : decide ((k : Int) < n) = true := by simp; omega
    obtain ⟨ad2, hA2, hl2, hc2, hbs, hbm, hbp⟩ := hin1.at_ k (by rw [hin1.len]; exact hlt)
    clear hA2 hl2 hc2 ad2
    obtain ⟨ad, rfl, had, hcell, hbs2, hbm2, hbp2⟩ := (hin1.below h.qs.below).at_ k (by rw [hin1.len]; exact hlt)
    clear hbs2 hbm2 hbp2
    obtain ⟨x, hx⟩ : ∃ x, x = xs[k]'(by rw [hin1.len]; exact hlt) := ⟨_, rfl⟩
    rw [← hx] at hcell hbs hbm hbp
    clear hx
    obtain ⟨c0', c1, c2, c3, c4, c5, c6, c7, c8⟩ := arg_cell hcell
    have hkn : (k : Int) < n := by omega
    have hact := Blk.new wo 35 #[.int .i64 x.act, .int .i64 x.n, .int .i64 x.k, .int .i64 x.b, x.s.v, x.m.v, x.p.v, .int .i64 x.r, .int .i64 x.d]
    have hB := (Below.refl wo.heap.size wo).alloc (Nat.le_refl _) (.cells #[.int .i64 x.act, .int .i64 x.n, .int .i64 x.k, .int .i64 x.b, x.s.v, x.m.v, x.p.v, .int .i64 x.r, .int .i64 x.d] 35)
    have H := Lib.hid (h.down hB)
    have HA := Lib.hid hact
    have HBS := Lib.hid hbs
    have HBM := Lib.hid hbm
    have HBP := Lib.hid hbp
    clear h hact hbs hbm hbp hcell hB
    obtain ⟨b0, b1, b2, b3, b4, b5, b6, b7, b8⟩ := act_cell HA.out
    go_wp2_with (fail)
    refine (cheap_any _ x.k x.b x.r x.d x.s x.m x.p).mono ?_
    rintro e w2 ⟨rfl, hb2⟩
    have H2 := Lib.hid (H.out.down hb2)
    have HA2 := Lib.hid (HA.out.below hb2 HA.out.lt)
    clear H HA hb2 b0 b1 b2 b3 b4 b5 b6 b7 b8 c0' c1 c2 c3 c4 c5 c6 c7 c8
    cases hch : cheapB x.k x.b x.s x.m x.p
    · clear hch
      go_wp2_with (fail)
      go_ret
      exact ⟨rfl, below_then hb1 hb1.size H2.out.qs.below⟩
    have HCH := Lib.hid hch
    clear hch
    obtain ⟨b0, b1, b2, b3, b4, b5, b6, b7, b8⟩ := act_cell HA2.out
    go_upto_block 2 with (fail)
    go_cut [] (fun wx => ∃ (A' : Option Addr) (c' : Nat) (js' ms' : List Wt) (last' : Int), QR w1 wx A' c' js' ms' last' (k + 1))
    case first =>
      have hms : ms.length ≤ 1000000 := by have := H2.out.len; omega
      have hjs : js.length ≤ 1000000 := by have := H2.out.len; rw [H2.out.qm.len]; omega
      have hmb := H2.out.qs.mb
      have m0 := hmb.cell 0
      have m1 := hmb.cell 1
      simp only [List.getElem?_toArray, List.getElem?_cons_succ, List.getElem?_cons_zero] at m0 m1
      clear hmb
      by_cases h0 : x.act = 0
      · have a0 : (x.act == 0) = true := by simp [h0]
        clear h0
        as_aux_lemma =>
          go_wp2_with (fail)
          refine (of_any w2 x.k x.b x.r x.d x.s x.m x.p).mono ?_
          rintro e w3 ⟨rfl, hb3⟩
          have H3 := Lib.hid (H2.out.down hb3)
          have HA3 := Lib.hid (HA2.out.below hb3 HA2.out.lt)
          have hs3 := H3.out.qs.below.size
          clear m0 m1 b0 b1 b2 b3 b4 b5 b6 b7 b8 hb3 H2 HA2
          go_upto_region 27 with (fail)
          have hj0 := Blk.new w3 37 #[.int .i64 x.k, .int .i64 x.b, x.s.v, x.m.v, x.p.v, .int .i64 x.r, .int .i64 x.d]
          have hb30 := (Below.refl w3.heap.size w3).alloc (Nat.le_refl _) (.cells #[.int .i64 x.k, .int .i64 x.b, x.s.v, x.m.v, x.p.v, .int .i64 x.r, .int .i64 x.d] 37)
          have HR0 := Lib.hid (H3.out.down hb30)
          have HA0 := Lib.hid (HA3.out.below hb30 HA3.out.lt)
          have hgj : w1.heap.size + 1 < w3.heap.size := H3.out.qs.mb.lt
          obtain ⟨gj, hgj'⟩ : ∃ gj, gj = w3.heap.size := ⟨_, rfl⟩
          rw [← hgj'] at hj0 hgj ⊢
          generalize w3.alloc (.cells #[.int .i64 x.k, .int .i64 x.b, x.s.v, x.m.v, x.p.v, .int .i64 x.r, .int .i64 x.d] 37) = W3 at *
          clear hgj' hb30 H3 HA3
          obtain ⟨i0, hi0, hz0, hz1, hz2⟩ := info_parts infoByte
          obtain ⟨zs, hzs⟩ := HBP.out.below HR0.out.qs.below
          have hone := InB.one hzs
          have hrd : ∀ o, Reads (W3.alloc o) W3.heap.size 1 x.p.a x.p.n (zs.map fun z => .int .u8 z) := fun o => hzs.rd.alloc (Nat.le_refl _) o
          have hown : (W3.alloc (.cells #[] 5)).ownsRow W3.heap.size 5 1 (.slice (some ⟨W3.heap.size, 0, none⟩) 0 0) 0 [] := World.ownsRow_made W3 #[] 0 (Nat.le_refl _) (by simp [maxLen]) rfl
          have hpn : x.p.n ≤ 2000 := by have := HCH.out; simp only [cheapB, smallB, Bool.and_eq_true, decide_eq_true_eq] at this; omega
          have h63 : 0 + x.p.n ≤ maxLen := by simp only [maxLen]; omega
          have hby : (0 + x.p.n) * 1 ≤ 140737488355328 := by omega
          have hba : W3.heap.size ≤ (W3.alloc (.cells #[] 5)).heap.size := by simp
          have hrk : ∀ q, (Value.slice (some (⟨W3.heap.size, 0, none⟩ : Addr)) 0 0).ownBlock = some q → W3.heap.size ≤ q := by intro q hq; simp [Value.ownBlock] at hq; omega
          have hba0 := (Below.refl W3.heap.size W3).alloc (Nat.le_refl _) (.cells #[] 5)
          have HRD := Lib.hid hrd
          have HOWN := Lib.hid hown
          have HJ0 := Lib.hid hj0
          obtain ⟨b0, b1, b2, b3, b4, b5, b6, b7, b8⟩ := act_cell (HA0.out.alloc (.cells #[] 5))
          clear hrd hown hj0
          go_upto_region 28 with (at_builtin; refine wpList_append_any _ rfl (.tmp 106) (.tmp 109) 31 rfl W3.heap.size 5 i0 _ 1 1 Tryz.underlying31 hi0 hz0 hz1 hz2 rfl (by decide) (.slice (some ⟨W3.heap.size, 0, none⟩) 0 0) 0 [] rfl HOWN.out W3.heap.size x.p.a x.p.n x.p.c (zs.map fun z => .int .u8 z) rfl (HRD.out _) hone h63 hby hba ?_; intro v' w4 ho4 hg4 ha4; have ho4' := own_zero ho4; clear ho4; obtain ⟨A4, c4, rfl⟩ := own_form ho4'; have hb4 := hba0.grown hg4 hba hrk; have hj4 := HJ0.out.below hb4 HJ0.out.lt; have j4 := hj4.cell 4; have jf4 := hj4.frozen 4; clear b0 b1 b2 b3 b4 b5 b6 b7 b8 hg4 ha4)
          have HQ4 := Lib.hid (QR.mk HR0.out.qm ((HR0.out.qs.down hb4).other hj4 (by omega) (by decide) (by decide) (by decide) (by decide) 4 (.slice A4 x.p.n c4)) HR0.out.wf HR0.out.l0 HR0.out.l1 HR0.out.len)
          have HO4 := Lib.hid (own_base_le (own_setCell ho4' hj4 (by decide) (o := 4) (.slice A4 x.p.n c4)) HR0.out.qs.below.size)
          have HA4 := Lib.hid ((HA0.out.below hb4 HA0.out.lt).far (p := ⟨gj, 4, none⟩) ((HA0.out.below hb4 HA0.out.lt).ne_ hj4 (by decide)) (.slice A4 x.p.n c4))
          have hj5 := hj4.set_ 4 (.slice A4 x.p.n c4)
          simp only [List.setIfInBounds_toArray, List.set_cons_zero, List.set_cons_succ] at hj5
          have HJ4 := Lib.hid hj5
          have HZ := Lib.hid hzs
          clear HR0 HA0 HJ0 HRD HOWN hzs hba hba0 hrk ho4' hb4 hj4 j4 jf4 hj5
          generalize w4.setCell ⟨gj, 4, none⟩ (.slice A4 x.p.n c4) = W4 at *
          obtain ⟨b0, b1, b2, b3, b4, b5, b6, b7, b8⟩ := act_cell HA4.out
          obtain ⟨m0, m1, f0, f1⟩ := HQ4.out.qs.two
          have hl0 := HQ4.out.l0
          have hl1 : last ≤ 1000 := by have := HQ4.out.l1; omega
          have hmn : ms.length < 1000 := by have := HQ4.out.len; omega
          go_wp2_with (fail)
          refine (radd_w w1 W4 A c ms last x.k x.b x.r x.d x.s x.m x.p HQ4.out.qs.below.size HQ4.out.qs.own hmn hl0 hl1).mono ?_
          rintro e w5 ⟨A5, c5, n5, rfl, hn5, ho5, hb5⟩
          obtain ⟨L5, hL5⟩ : ∃ L5, L5 = lsI x.k last := ⟨_, rfl⟩
          rw [← hL5]
          have HL5 := Lib.hid hL5
          have HN5 := Lib.hid hn5
          have hb50 := (Below.refl w5.heap.size w5).alloc (Nat.le_refl _) (.cells #[.slice A5 n5 c5, .int .i64 L5] 30)
          have hqs := (HQ4.out.qs.down hb5).down hb50
          obtain ⟨m0, m1, f0, f1⟩ := hqs.two
          have hq5 := hqs.store' (lm' := L5) hn5 (own_below ho5 hb50)
          have hm5 := hqs.mb
          have ho6 := own_setCell (own_setCell (own_below (own_below HO4.out hb5) hb50) hm5 (by decide) (o := 0) (.slice A5 n5 c5)) (hm5.set_ 0 (.slice A5 n5 c5)) (by decide) (o := 1) (.int .i64 L5)
          have hj6 := (((HJ4.out.below hb5 HJ4.out.lt).below hb50 (HJ4.out.below hb5 HJ4.out.lt).lt).far (p := ⟨w1.heap.size + 1, 0, none⟩) (by show gj ≠ w1.heap.size + 1; omega) (.slice A5 n5 c5)).far (p := ⟨w1.heap.size + 1, 1, none⟩) (by show gj ≠ w1.heap.size + 1; omega) (.int .i64 L5)
          have HQ5 := Lib.hid hq5
          have HO5 := Lib.hid ho6
          have HJ5 := Lib.hid hj6
          clear hL5 hn5 ho5 hb5 hb50 hqs hq5 hm5 ho6 hj6 HO4 HJ4 HA4 b0 b1 b2 b3 b4 b5 b6 b7 b8
          go_upto_region 30 with (fail)
          generalize ((w5.alloc (.cells #[.slice A5 n5 c5, .int .i64 L5] 30)).setCell ⟨w1.heap.size + 1, 0, none⟩ (.slice A5 n5 c5)).setCell ⟨w1.heap.size + 1, 1, none⟩ (.int .i64 L5) = W5 at *
          obtain ⟨b0, b1, b2, b3, b4, b5, b6⟩ := job_cell (s := x.s) (m := x.m) (p := ⟨A4, x.p.n, c4⟩) HJ5.out
          obtain ⟨xs1, hx1⟩ := HBS.out.below HQ5.out.below
          obtain ⟨ys1, hy1⟩ := HBM.out.below HQ5.out.below
          have o1 := InB.one hx1
          have o2 := InB.one hy1
          have hsn : x.s.n ≤ 2000 ∧ x.m.n ≤ 2000 := by have := HCH.out; simp only [cheapB, smallB, Bool.and_eq_true, decide_eq_true_eq] at this; omega
          have hjn : js.length < 1000 := by have := HQ4.out.qm.len; omega
          have R1 := Lib.hid hx1.rd
          have R2 := Lib.hid hy1.rd
          have R3 := Lib.hid (Reads.of_own HO5.out)
          have HWF := Lib.hid (WfS.of_own HO5.out)
          clear hx1 hy1
          go_wp2_with (fail)
          refine (qadd_w W5 w1.heap.size js last x.k x.b x.s x.m ⟨A4, x.p.n, c4⟩ x.r x.d _ _ _ HQ5.out.ql HQ5.out.below.size hjn HQ4.out.qm.small.1 ⟨hl0, hl1⟩ hsn.1 hsn.2 hpn HWF.out R1.out R2.out R3.out o1 o2 hone).mono ?_
          rintro e w6 ⟨rfl, y, hq⟩
          rw [HL5.out] at HQ5
          have hr6 := HQ4.out.grow HCH.out (show KeyE y ⟨x.k, x.b, x.s, x.m, x.p, x.r, x.d, last + 1⟩ from ⟨hq.e.kind, hq.e.backend, hq.e.st, hq.e.ms, hq.e.pf, hq.e.rounds, hq.e.degree, hq.e.ticket⟩) hq.wf (HQ5.out.kept hq.kept hq.ql)
          have hj6 := kept_blk HJ5.out (by decide) (by omega) hq.kept
          have hqb : QB w1 w6 A5 c5 (growJ x.k js y) (growM x.k ms ⟨x.k, x.b, x.s, x.m, x.p, x.r, x.d, last + 1⟩) (lsI x.k last) (k + 1) gj #[.int .i64 x.k, .int .i64 x.b, x.s.v, x.m.v, .slice A4 x.p.n c4, .int .i64 x.r, .int .i64 x.d] ⟨A4, x.p.n, c4⟩ :=
            ⟨hr6, hj6, fun hn => bytes_blk (Kept.ownE (by decide) (by decide) HO5.out hq.kept HQ5.out.ql) hn⟩
          have HQB := Lib.hid hqb
          have j4 := hj6.cell 4
          simp only [List.getElem?_toArray, List.getElem?_cons_succ, List.getElem?_cons_zero] at j4
          clear hqb hr6 hj6 hq HQ5 HO5 HJ5 HQ4 b0 b1 b2 b3 b4 b5 b6 R1 R2 R3 HWF o1 o2 hone HN5 m0 m1 f0 f1
          generalize growJ x.k js y = js6 at *
          generalize growM x.k ms ⟨x.k, x.b, x.s, x.m, x.p, x.r, x.d, last + 1⟩ = ms6 at *
          generalize lsI x.k last = last6 at *
          have t1 : (tkI x.k last != tkI x.k last) = false := by simp
          have t2 : (erI x.k != erI x.k) = false := by simp
          generalize tkI x.k last = T6 at *
          generalize erI x.k = E6 at *
          go_wp2_with (fail)
          obtain ⟨n, hn'⟩ : ∃ n, n = x.p.n := ⟨_, rfl⟩
          rw [← hn'] at HQB ⊢
          clear j4
          go_loopg [129] n (fun g i wr => ∃ q : Nat, g = n - q ∧ q ≤ n ∧ i = .int .i64 q ∧ QB w1 wr A5 c5 js6 ms6 last6 (k + 1) gj #[.int .i64 x.k, .int .i64 x.b, x.s.v, x.m.v, .slice A4 n c4, .int .i64 x.r, .int .i64 x.d] ⟨A4, n, c4⟩)
          case atStart => exact ⟨0, by omega, by omega, rfl, HQB.out⟩
          case round =>
            clear HQB
            obtain ⟨q, rfl, hqn, rfl, hQ⟩ := hrel
            by_cases hlt2 : q < n
            · have d9 : decide ((q : Int) < n) = true := by simp; omega
              obtain ⟨g, bs, hA, hg, hb, hz⟩ := hQ.byt (by show 0 < n; omega)
              obtain ⟨z, hzq⟩ := hz q hlt2
              have j4 := hQ.job.cell 4
              simp only [List.getElem?_toArray, List.getElem?_cons_succ, List.getElem?_cons_zero] at j4
              have hcz := hb.cell q
              have hfz := hb.frozen q
              rw [hzq] at hcz
              have HST := Lib.hid (fun z => hQ.step hA hg hb hz (j := q) z)
              dsimp only at hA
              have HAA := Lib.hid hA
              rw [hA] at j4
              have hqi : (q : Int) < n := by omega
              clear hQ hA hg hb hz hzq
              go_wp2_with (fail)
              go_roundg (n - (q + 1))
              case rel => exact ⟨q + 1, rfl, by omega, by go_num, HST.out _⟩
              case measure => omega
            · have d9 : decide ((q : Int) < n) = false := by simp; omega
              have HQ7 := Lib.hid hQ
              clear hQ
              go_wp2_with (fail)
              go_meet
              exact ⟨_, _, _, _, _, HQ7.out.qr⟩
      have a0 : (x.act == 0) = false := by rw [beq_eq_false_iff_ne]; exact h0
      clear h0
      by_cases h2 : x.act = 2
      · have a2 : (x.act == 2) = true := by simp [h2]
        clear h2
        as_aux_lemma =>
          go_wp2_with (fail)
          refine (rfind_any w2 w1.heap.size A c ms last x.n hms H2.out.qs.own).mono ?_
          rintro e w3 ⟨r, rfl, hf, hb3⟩
          have H3 := Lib.hid (H2.out.down hb3)
          have HA3 := Lib.hid (HA2.out.below hb3 HA2.out.lt)
          clear m0 m1 b0 b1 b2 b3 b4 b5 b6 b7 b8 hb3
          obtain ⟨b0, b1, b2, b3, b4, b5, b6, b7, b8⟩ := act_cell HA3.out
          have HF := Lib.hid hf
          clear hf
          go_wp2_with (fail)
          refine (drop_any w3 w1.heap.size w1.heap.size js last x.n H3.out.qs.ql H3.out.qm.small.1 hjs).mono ?_
          rintro e w4 (⟨rfl, hno, hk4, hq4⟩ | ⟨i, rfl, hi, hti, hd⟩)
          · have hno' := H3.out.qm.lacks.1 hno
            obtain rfl : r = -1 := by
              rcases HF.out with ⟨h, _⟩ | ⟨j, _, hj, htj⟩
              · exact h
              · exact absurd htj (hno' _ (List.getElem_mem hj))
            have d5 : decide ((-1 : Int) ≥ 0) = false := by decide
            clear hno hno' b0 b1 b2 b3 b4 b5 b6 b7 b8
            go_wp2_with (fail)
            go_meet
            exact ⟨A, c, js, ms, last, QR.more ⟨H3.out.qm, H3.out.qs.kept hk4 hq4, H3.out.wf, H3.out.l0, H3.out.l1, H3.out.len⟩⟩
          · have hr : ∃ j : Nat, r = j ∧ ∃ hj : j < ms.length, ms[j].ticket = x.n := by
              rcases HF.out with ⟨_, h⟩ | ⟨j, hr, hj, htj⟩
              · exact absurd hti (H3.out.qm.lacks.2 h _ (gt_mem hi))
              · exact ⟨j, hr, hj, htj⟩
            obtain ⟨j, rfl, hj, htj⟩ := hr
            have HE := Lib.hid (H3.out.qm.found hi hj (hti.trans htj.symm))
            have HS4 := Lib.hid (H3.out.qs.kept hd.kept hd.ql)
            have hmb := HS4.out.mb
            have m0 := hmb.cell 0
            have m1 := hmb.cell 1
            simp only [List.getElem?_toArray, List.getElem?_cons_succ, List.getElem?_cons_zero] at m0 m1
            have d5 : decide ((j : Int) ≥ 0) = true := by simp
            clear hti htj hd hmb b0 b1 b2 b3 b4 b5 b6 b7 b8
            go_wp2_with (fail)
            refine (rwithout_any w4 w1.heap.size A c j ms last hms hj HS4.out.own).mono ?_
            rintro e w5 ⟨A', c', rfl, ho5, hb5⟩
            have hmb := (HS4.out.down hb5).mb
            have m0 := hmb.cell 0
            have m1 := hmb.cell 1
            have f0 := hmb.frozen 0
            have f1 := hmb.frozen 1
            simp only [List.getElem?_toArray, List.getElem?_cons_succ, List.getElem?_cons_zero] at m0 m1
            have HR := Lib.hid (H3.out.taken hi hj HE.out HS4.out hb5 ho5)
            clear ho5 hb5 hmb
            go_wp2_with (fail)
            go_meet
            exact ⟨_, _, _, _, _, HR.out.more⟩
      · have a2 : (x.act == 2) = false := by rw [beq_eq_false_iff_ne]; exact h2
        clear h2
        go_upto_block 3 with (fail)
        go_cut [] (fun wx => ∃ (A' : Option Addr) (c' : Nat) (js' ms' : List Wt), QR w1 wx A' c' js' ms' last k)
        case first =>
          as_aux_lemma =>
            go_wp2_with (fail)
            go_loopg [] ms.length (fun g wr => ∃ (A' : Option Addr) (c' : Nat) (js' ms' : List Wt), g = ms'.length ∧ QR w1 wr A' c' js' ms' last k ∧ Blk wr wo.heap.size 35 #[.int .i64 x.act, .int .i64 x.n, .int .i64 x.k, .int .i64 x.b, x.s.v, x.m.v, x.p.v, .int .i64 x.r, .int .i64 x.d])
            case atStart => exact ⟨A, c, js, ms, rfl, H2.out, HA2.out⟩
            case round =>
              clear H2 HA2 m0 m1 b0 b1 b2 b3 b4 b5 b6 b7 b8
              obtain ⟨A', c', js', ms', rfl, hR, hA⟩ := hrel
              have hmb := hR.qs.mb
              have m0 := hmb.cell 0
              have m1 := hmb.cell 1
              simp only [List.getElem?_toArray, List.getElem?_cons_succ, List.getElem?_cons_zero] at m0 m1
              have hms' : ms'.length ≤ 1000000 := by have := hR.len; omega
              clear hmb
              have HR := Lib.hid hR
              clear hR
              by_cases hm0 : ms'.length = 0
              · have d7 : decide (0 < ms'.length) = false := decide_eq_false (by omega)
                clear hm0
                go_wp2_with (fail)
                go_meet
                exact ⟨A', c', js', ms', HR.out⟩
              have d7 : decide (0 < ms'.length) = true := decide_eq_true (by omega)
              have HJ := Lib.hid (show 0 < js'.length by have := HR.out.qm.len; omega)
              have HA := Lib.hid hA
              clear hm0 hA
              go_wp2_with (fail)
              refine (rfirst_any wr w1.heap.size A' c' ms' last hms' HR.out.qm.small.2 HR.out.qs.own).mono ?_
              rintro e w4 ⟨r, rfl, hf, hb4⟩
              have hfi : ∃ i : Nat, r = i ∧ ∃ h : i < ms'.length, KeyE (gt js' 0) ms'[i] := by
                rcases hf with ⟨_, h⟩ | ⟨i, hr, hi, _, h1, h2⟩
                · have := HJ.out; have := HR.out.qm.len; omega
                · exact ⟨i, hr, hi, HR.out.qm.first hi h1 h2⟩
              obtain ⟨i, rfl, hi, hE⟩ := hfi
              have H4 := Lib.hid (HR.out.down hb4)
              have HA4 := Lib.hid (HA.out.below hb4 HA.out.lt)
              have HE := Lib.hid hE
              clear hf hb4 m0 m1 HR HA hE
              have hjn : js'.length = (js'.length - 1) + 1 := by have := HJ.out; omega
              have HJN := Lib.hid hjn
              clear hjn
              go_wp2_with (fail)
              refine (next_some w4 w1.heap.size w1.heap.size (js'.length - 1) js' last (wcode (gt js' 0)) H4.out.qs.ql HJN.out (by have := H4.out.len; have := H4.out.qm.len; omega) H4.out.qm.small.1 H4.out.qs.below.size (fun W _ => H4.out.code HJ.out W trivial)).mono ?_
              rintro e w5 ⟨rfl, hnp⟩
              have HS5 := Lib.hid (H4.out.qs.kept hnp.kept hnp.ql)
              have HA5 := Lib.hid (kept_blk HA4.out (by decide) (by omega) hnp.kept)
              obtain ⟨y, hy⟩ : ∃ y, y = ms'[i] := ⟨_, rfl⟩
              have hok : OKj y := by rw [hy]; exact H4.out.qm.ok _ (List.getElem_mem hi)
              obtain ⟨gr, rfl, hat⟩ := (RL.of_own HS5.out.own).at_ i hi
              rw [HE.out.ticket, HE.out.code, ← hy]
              rw [← hy] at hat
              have hB6 := (Below.refl w5.heap.size w5).alloc (Nat.le_refl _) (.cells #[.int .i64 y.ticket, .int .i64 (wcode y)] 49)
              have HS6 := Lib.hid (HS5.out.down hB6)
              have HA6 := Lib.hid (HA5.out.below hB6 HA5.out.lt)
              have hat6 := hat.cell_same (hB6.block gr (World.block_lt_of_cell? _ _ hat.c0))
              have hrb := Blk.new w5 49 #[.int .i64 y.ticket, .int .i64 (wcode y)]
              have HY := Lib.hid hy
              have hE4 := HE.out
              have hR4 := H4.out
              have hj4 := HJ.out
              have HQ := Lib.hid (hR4.qm.take (i := 0) (k := i) hj4 hi hE4)
              have HW := Lib.hid (fun z (hz : z ∈ (takeM js' 0 (js'.length - 1)).take (js'.length - 1)) => hR4.wf z (left_sub js' 0 (js'.length - 1) (by omega) hj4 z hz))
              have HL := Lib.hid (show 0 ≤ last ∧ last ≤ k ∧ ms'.length ≤ k from ⟨hR4.l0, hR4.l1, hR4.len⟩)
              clear hat hB6 HS5 HA5 H4 HA4 HE hE4 hR4 hj4 hnp hy
              go_wp2_with (fail)
              generalize w5.alloc (.cells #[.int .i64 y.ticket, .int .i64 (wcode y)] 49) = W6 at *
              have S0 := keep_next hrb HS6.out.mb hat6 (Below.refl _ _)
              obtain ⟨_, ⟨r0, r1⟩, m0, e0, e1, e2, e3, e4, e5, e6, e7⟩ := S0
              have hii : (i : Int) < ms'.length := by omega
              have q1 := fun W => neq_res y.ticket (wcode y) W
              have q2 := fun x y' W => neqg_res x y' #[.int .i64 y.ticket, .int .i64 (wcode y)] #[.int .i64 y.ticket, .int .i64 (wcode y)] W
              go_region_held3 (fun w' => Below W6.heap.size W6 w' ∧ (w'.cell? ⟨w5.heap.size, 0, none⟩ = some (.int .i64 y.ticket) ∧ w'.cell? ⟨w5.heap.size, 1, none⟩ = some (.int .i64 (wcode y))) ∧ w'.cell? ⟨w1.heap.size + 1, 0, none⟩ = some (.slice (some ⟨gr, 0, none⟩) ms'.length c') ∧ w'.cell? ⟨gr, i * 8, none⟩ = some (.int .i64 y.kind) ∧ w'.cell? ⟨gr, i * 8 + 1, none⟩ = some (.int .i64 y.backend) ∧ w'.cell? ⟨gr, i * 8 + 2, none⟩ = some y.st.v ∧ w'.cell? ⟨gr, i * 8 + 3, none⟩ = some y.ms.v ∧ w'.cell? ⟨gr, i * 8 + 4, none⟩ = some y.pf.v ∧ w'.cell? ⟨gr, i * 8 + 5, none⟩ = some (.int .i64 y.rounds) ∧ w'.cell? ⟨gr, i * 8 + 6, none⟩ = some (.int .i64 y.degree) ∧ w'.cell? ⟨gr, i * 8 + 7, none⟩ = some (.int .i64 y.ticket))
                ((refine keep_next hrb HS6.out.mb hat6 ?_; first | exact below_drew (Below.refl _ _) | exact below_via (by assumption) hb'))
                ((go_at_call 14; refine (rver_w _ y hok).mono ?_; rintro e w' ⟨rfl, hb'⟩))
              obtain ⟨hB', _⟩ := ‹Below W6.heap.size W6 w' ∧ _›
              have HS7 := Lib.hid (HS6.out.down hB')
              have HA7 := Lib.hid (HA6.out.below hB' HA6.out.lt)
              clear r0 r1 m0 e0 e1 e2 e3 e4 e5 e6 e7 q1 q2 hrb hat6 hB'
              have hmb := HS7.out.mb
              have m0 := hmb.cell 0
              have m1 := hmb.cell 1
              simp only [List.getElem?_toArray, List.getElem?_cons_succ, List.getElem?_cons_zero] at m0 m1
              clear hmb
              go_wp2_with (fail)
              refine (rwithout_any w' w1.heap.size (some ⟨gr, 0, none⟩) c' i ms' last hms' hi HS7.out.own).mono ?_
              rintro e w8 ⟨A8, c8, rfl, ho8, hb8⟩
              have HS8 := Lib.hid (HS7.out.down hb8)
              have HA8 := Lib.hid (HA7.out.below hb8 HA7.out.lt)
              have hmb := HS8.out.mb
              have m0 := hmb.cell 0
              have m1 := hmb.cell 1
              have f0 := hmb.frozen 0
              have f1 := hmb.frozen 1
              simp only [List.getElem?_toArray, List.getElem?_cons_succ, List.getElem?_cons_zero] at m0 m1
              have HS9 := Lib.hid (HS8.out.store' (A' := A8) (c' := c8) (lm' := last) (cut_length ms' i hi).symm (own_base_le ho8 HS7.out.below.size))
              have HR9 : Hid (QR w1 _ A8 c8 _ _ last k) := Lib.hid (QR.mk HQ.out HS9.out HW.out HL.out.1 HL.out.2.1 (by rw [cut_length ms' i hi]; have := HL.out.2.2; omega))
              have hA9 := (HA8.out.far (p := ⟨w1.heap.size + 1, 0, none⟩) (by show wo.heap.size ≠ w1.heap.size + 1; omega) (.slice A8 (ms'.length - 1) c8)).far (p := ⟨w1.heap.size + 1, 1, none⟩) (by show wo.heap.size ≠ w1.heap.size + 1; omega) (.int .i64 last)
              have HA9 := Lib.hid hA9
              obtain ⟨b0, b1, b2, b3, b4, b5, b6, b7, b8⟩ := act_cell hA9
              clear hA9 hmb ho8 hb8 HS7 HA7 HS8 HA8 HS9 HQ HW
              by_cases ha1 : x.act = 1
              · have a1 : (x.act == 1) = true := by simp [ha1]
                clear ha1
                go_wp2_with (fail)
                go_meet
                exact ⟨_, _, _, _, HR9.out⟩
              · have a1 : (x.act == 1) = false := by rw [beq_eq_false_iff_ne]; exact ha1
                clear ha1
                go_wp2_with (fail)
                go_roundg (ms'.length - 1)
                case rel => exact ⟨_, _, _, _, (cut_length ms' i hi).symm, HR9.out, HA9.out⟩
                case measure => omega
        case rest =>
          as_aux_lemma =>
            obtain ⟨A', c', js', ms', hR⟩ := hcut
            obtain ⟨m0, m1, f0, f1⟩ := hR.qs.two
            have hms' : ms'.length ≤ 1000000 := by have := hR.len; omega
            have HR := Lib.hid hR
            clear hR
            by_cases hm0 : ms'.length = 0
            · have d7 : decide (0 < ms'.length) = false := decide_eq_false (by omega)
              have d8 : ((ms'.length : Int) == 0) = true := by simp [hm0]
              have HJ := Lib.hid (show js'.length = 0 by have := HR.out.qm.len; omega)
              clear hm0
              go_wp2_with (fail)
              refine (next_none wc w1.heap.size w1.heap.size js' last HR.out.qs.ql HJ.out).mono ?_
              rintro e w5 ⟨rfl, hb5⟩
              have HR6 := Lib.hid ((HR.out.down hb5).down ((Below.refl w5.heap.size w5).alloc (Nat.le_refl _) (.cells #[.int .i64 0, .int .i64 0] 49)))
              obtain ⟨m0, m1, f0, f1⟩ := HR6.out.qs.two
              go_wp2_with (fail)
              go_meet
              exact ⟨_, _, _, _, _, HR6.out.more⟩
            · have d7 : decide (0 < ms'.length) = true := decide_eq_true (by omega)
              have d8 : ((ms'.length : Int) == 0) = false := by rw [beq_eq_false_iff_ne]; omega
              have HJ := Lib.hid (show 0 < js'.length by have := HR.out.qm.len; omega)
              have HJN := Lib.hid (show js'.length = (js'.length - 1) + 1 by have := HJ.out; omega)
              clear hm0
              go_wp2_with (fail)
              refine (next_some wc w1.heap.size w1.heap.size (js'.length - 1) js' last (wcode (gt js' 0)) HR.out.qs.ql HJN.out (by have := HR.out.len; have := HR.out.qm.len; omega) HR.out.qm.small.1 HR.out.qs.below.size (fun W _ => HR.out.code HJ.out W trivial)).mono ?_
              rintro e w5 ⟨rfl, hnp⟩
              obtain ⟨T, hT⟩ : ∃ T, T = (gt js' 0).ticket := ⟨_, rfl⟩
              obtain ⟨C, hC⟩ : ∃ C, C = wcode (gt js' 0) := ⟨_, rfl⟩
              rw [← hT, ← hC]
              have HS6 := Lib.hid ((HR.out.qs.kept hnp.kept hnp.ql).down ((Below.refl w5.heap.size w5).alloc (Nat.le_refl _) (.cells #[.int .i64 T, .int .i64 C] 49)))
              clear hT hC hnp m0 m1 f0 f1
              obtain ⟨m0, m1, f0, f1⟩ := HS6.out.two
              have hsm := HR.out.qm.small.2
              have HP := Lib.hid (fun r (hf : rfirstP ms' ms'.length r) => first_pick hf HR.out.qm HJ.out)
              go_upto_region 24 with (fail)
              generalize w5.alloc (.cells #[.int .i64 T, .int .i64 C] 49) = W6 at *
              go_region_with (first
                | (go_at_call 12; refine (rfirst_any W6 w1.heap.size A' c' ms' last hms' hsm HS6.out.own).mono ?_; rintro e w7 ⟨r, rfl, hf, hb7⟩; obtain ⟨i, rfl, hi, hE⟩ := HP.out _ hf; have HE := Lib.hid hE; clear hE hf; have HS7 := Lib.hid (HS6.out.down hb7); obtain ⟨m0', m1', f0', f1'⟩ := HS7.out.two)
                | (go_at_call 12; refine (rfirst_any W6.drew w1.heap.size A' c' ms' last hms' hsm (own_drew HS6.out.own)).mono ?_; rintro e w7 ⟨r, rfl, hf, hb7'⟩; have hb7 := below_then (below_drew (Below.refl W6.heap.size W6)) (Nat.le_refl _) hb7'; obtain ⟨i, rfl, hi, hE⟩ := HP.out _ hf; have HE := Lib.hid hE; clear hE hf; have HS7 := Lib.hid (HS6.out.down hb7); obtain ⟨m0', m1', f0', f1'⟩ := HS7.out.two)
                | (go_at_call 11; refine (rwithout_any w7 w1.heap.size A' c' i ms' last hms' hi HS7.out.own).mono ?_; rintro e w8 ⟨A8, c8, rfl, ho8, hb8⟩; have HR9 := Lib.hid (HR.out.taken' HJ.out hi HE.out HS6.out hb7 hb8 ho8); obtain ⟨n0, n1, g0, g1⟩ := (HS7.out.down hb8).two))
              all_goals (go_wp2_with (fail))
              all_goals (go_meet; (with_reducible first | exact ⟨_, _, _, _, _, HR9.out.more⟩ | exact ⟨_, _, _, _, _, (HR9.out.down (below_drew (Below.refl _ _))).more⟩))
    case rest =>
      as_aux_lemma =>
        obtain ⟨A', c', js', ms', last', h'⟩ := hcut
        have hlen : ((js'.length : Int) != (ms'.length : Int)) = false := by simp [h'.qm.len]
        have hmb := h'.qs.mb
        have m0 := hmb.cell 0
        have m1 := hmb.cell 1
        simp only [List.getElem?_toArray, List.getElem?_cons_succ, List.getElem?_cons_zero] at m0 m1
        have hms : ms'.length ≤ 1000000 := by have := h'.len; omega
        by_cases hj : js'.length = 0
        · have hm0 : ms'.length = 0 := by rw [← h'.qm.len]; exact hj
          have HJ := Lib.hid hj
          have HM := Lib.hid hm0
          have H' := Lib.hid h'
          clear hj hm0 h' hmb
          go_wp2_with (fail)
          refine (first_none wc w1.heap.size w1.heap.size js' last' H'.out.qs.ql HJ.out).mono ?_
          rintro e w3 ⟨rfl, rfl⟩
          go_wp2_with (fail)
          refine (rfirst_any wc w1.heap.size A' c' ms' last' hms H'.out.qm.small.2 H'.out.qs.own).mono ?_
          rintro e w4 ⟨r, rfl, hf, hb4⟩
          obtain rfl : r = -1 := by
            rcases hf with ⟨h, _⟩ | ⟨i, _, hi, _⟩
            · exact h
            · have := HM.out; omega
          have H4 := Lib.hid (H'.out.down hb4)
          clear hf hb4 m0 m1 H'
          have hmb := H4.out.qs.mb
          have m0 := hmb.cell 0
          have m1 := hmb.cell 1
          simp only [List.getElem?_toArray, List.getElem?_cons_succ, List.getElem?_cons_zero] at m0 m1
          have d5 : decide ((-1 : Int) ≥ 0) = false := by decide
          go_wp2_with (fail)
          go_quiet ((go_at_call_of 16 (Value.pointer (some ⟨w1.heap.size, 0, none⟩)); exact quiet_left (qlen_any _ w1.heap.size w1.heap.size js' last' (H4.out.qs.ql.drewN _))))
          go_wp2_with (fail)
          go_roundg (n - (k + 1))
          case rel => exact ⟨k + 1, A', c', js', ms', last', rfl, by omega, by go_num, H4.out.drewN _⟩
          case measure => omega
        · have hjp : 0 < js'.length := by omega
          have HJ := Lib.hid hjp
          have H' := Lib.hid h'
          clear hj hjp h' hmb
          go_wp2_with (fail)
          refine (first_some wc w1.heap.size w1.heap.size js' last' H'.out.qs.ql HJ.out).mono ?_
          rintro e w3 ⟨rfl, rfl⟩
          obtain ⟨T, hT⟩ : ∃ T, T = (gt js' 0).ticket := ⟨_, rfl⟩
          rw [← hT]
          have HT := Lib.hid hT
          clear hT
          go_wp2_with (fail)
          refine (rfirst_any wc w1.heap.size A' c' ms' last' hms H'.out.qm.small.2 H'.out.qs.own).mono ?_
          rintro e w4 ⟨r, rfl, hf, hb4⟩
          have hfi : ∃ i : Nat, r = i ∧ ∃ h : i < ms'.length, ms'[i].ticket = T := by
            rcases hf with ⟨_, h⟩ | ⟨i, hr, hi, _, h1, h2⟩
            · have := HJ.out; have := H'.out.qm.len; omega
            · exact ⟨i, hr, hi, by rw [HT.out, (H'.out.qm.first hi h1 h2).ticket]⟩
          obtain ⟨i, rfl, hi, hiT⟩ := hfi
          have H4 := Lib.hid (H'.out.down hb4)
          obtain ⟨gr, rfl, hat⟩ := (RL.of_own H4.out.qs.own).at_ i hi
          have c7 := hat.c7
          rw [hiT] at c7
          clear hf hb4 m0 m1 H' hat hiT
          have hmb := H4.out.qs.mb
          have m0 := hmb.cell 0
          have m1 := hmb.cell 1
          simp only [List.getElem?_toArray, List.getElem?_cons_succ, List.getElem?_cons_zero] at m0 m1
          have hii : (i : Int) < ms'.length := by omega
          have d5 : decide ((i : Int) ≥ 0) = true := by simp
          have d6 : (T != T) = false := by simp
          go_wp2_with (fail)
          go_quiet ((go_at_call_of 16 (Value.pointer (some ⟨w1.heap.size, 0, none⟩)); exact quiet_left (qlen_any _ w1.heap.size w1.heap.size js' last' (H4.out.qs.ql.drewN _))))
          go_wp2_with (fail)
          go_roundg (n - (k + 1))
          case rel => exact ⟨k + 1, _, c', js', ms', last', rfl, by omega, by go_num, H4.out.drewN _⟩
          case measure => omega
end Go.Proofs.YtadgamfhlklemaaGreatDoor
