/- Queue.Add, where a job is let in. -/
import Derived.Test.YtadgamfhlklemaaGreatDoorAvC3
namespace Go.Proofs.YtadgamfhlklemaaGreatDoor
open Go.RowKit
/-- What Add leaves behind: the job waits, with slices of its own. -/
structure Added (w w' : World) (base q : Nat) (js : List Wt) (last k b : Int) (s m p : Sl) (r d : Int) (s' m' p' : Sl) (xs ys zs : List Value) : Prop where
  n1 : s'.n = s.n
  n2 : m'.n = m.n
  n3 : p'.n = p.n
  o1 : w'.ownsRow w.heap.size 5 1 s'.v s'.n xs
  o2 : w'.ownsRow w.heap.size 5 1 m'.v m'.n ys
  o3 : w'.ownsRow w.heap.size 5 1 p'.v p'.n zs
  kept : Kept base q w w'
  ql : QL w' base q (pushM js ⟨k, b, s', m', p', r, d, last + 1⟩) (last + 1)
def AddPost (w : World) (base q : Nat) (js : List Wt) (last k b : Int) (s m p : Sl) (r d : Int) (xs ys zs : List Value) (e : Ending) (w' : World) : Prop :=
  e = .returned (.tuple #[.int .i64 (last + 1), .int .i64 0]) ∧ ∃ s' m' p', Added w w' base q js last k b s m p r d s' m' p' xs ys zs
theorem drew_grown (w : World) : w.grownBy w.drew none := ⟨rfl, rfl, rfl, Nat.le_refl _, fun _ _ _ => rfl⟩
theorem own_drew {w : World} {base : Nat} {e : TypeId} {size n : Nat} {v : Value} {xs : List Value} (h : w.ownsRow base e size v n xs) : w.drew.ownsRow base e size v n xs := h.kept (drew_grown w) (by cases v.ownBlock <;> simp)
theorem Kept.own {W w3 : World} {base q B n : Nat} {v : Value} {xs : List Value} {cs : Array Value} (h : W.ownsRow B 5 1 v n xs) (hk : Kept base q W w3) (hq : Blk W q 27 cs) : w3.ownsRow B 5 1 v n xs := by
  refine ⟨h.1, ?_⟩
  have hne := own_blk_ne h hq (by decide)
  rcases h.2 with h1 | ⟨g, cap, cur, rfl, h2, h3, h4⟩
  · exact .inl h1
  · refine .inr ⟨g, cap, cur, rfl, h2, ?_, h4⟩
    rw [hk.block g (Blk.lt h3) (by simpa [Value.ownBlock] using hne) (.inr fun cs f hh => by
      rw [h3] at hh
      injection hh with hh
      injection hh with _ hh
      exact absurd hh (by decide))]
    exact h3
theorem S_after {W w3 : World} {g base q : Nat} {js : List Wt} {last k b r d : Int} {s m p : Sl} (hb : Blk W g 37 #[.int .i64 k, .int .i64 b, s.v, m.v, p.v, .int .i64 r, .int .i64 d]) (hne : g ≠ q) (hk : Kept base q W w3) (hql : QL w3 base q js last) :
    w3.cell? ⟨g, 0, none⟩ = some (.int .i64 k) ∧ w3.cell? ⟨g, 1, none⟩ = some (.int .i64 b) ∧ w3.cell? ⟨g, 2, none⟩ = some s.v ∧ w3.cell? ⟨g, 3, none⟩ = some m.v ∧ w3.cell? ⟨g, 4, none⟩ = some p.v ∧ w3.cell? ⟨g, 5, none⟩ = some (.int .i64 r) ∧ w3.cell? ⟨g, 6, none⟩ = some (.int .i64 d) ∧ w3.cell? ⟨q, 1, none⟩ = some (.int .i64 last) := by
  have h3 : Blk w3 g 37 #[.int .i64 k, .int .i64 b, s.v, m.v, p.v, .int .i64 r, .int .i64 d] := (hk.block g hb.lt hne (.inr fun cs f h => by
    unfold Blk at hb
    rw [hb] at h
    injection h with h
    injection h with _ h
    exact absurd h (by decide))).trans hb
  obtain ⟨v, hv, _⟩ := hql.ex
  exact ⟨h3.cell 0, h3.cell 1, h3.cell 2, h3.cell 3, h3.cell 4, h3.cell 5, h3.cell 6, hv.cell 1⟩
/-- Behind the three clones: the job's box holds slices of its own. -/
structure Mid (w wx : World) (k b : Int) (s m p : Sl) (r d : Int) (xs ys zs : List Value) (s' m' p' : Sl) : Prop where
  n1 : s'.n = s.n
  n2 : m'.n = m.n
  n3 : p'.n = p.n
  blk : Blk wx w.heap.size 37 #[.int .i64 k, .int .i64 b, s'.v, m'.v, p'.v, .int .i64 r, .int .i64 d]
  below : Below w.heap.size w wx
  o1 : wx.ownsRow w.heap.size 5 1 s'.v s'.n xs
  o2 : wx.ownsRow w.heap.size 5 1 m'.v m'.n ys
  o3 : wx.ownsRow w.heap.size 5 1 p'.v p'.n zs
theorem own_base_le {w : World} {base base' : Nat} {e : TypeId} {size n : Nat} {v : Value} {xs : List Value} (h : w.ownsRow base e size v n xs) (hb : base' ≤ base) : w.ownsRow base' e size v n xs := by
  refine ⟨h.1, ?_⟩
  rcases h.2 with h1 | ⟨g, cap, cur, h1, h2, h3⟩
  · exact .inl h1
  · exact .inr ⟨g, cap, cur, h1, by omega, h3⟩
theorem mid_of {w wa wb wc : World} {k b : Int} {s m p : Sl} {r d : Int} {xs ys zs : List Value} {Aa Ab Ac : Option Addr} {ca cb cc : Nat}
    (hx : Blk wc w.heap.size 37 #[.int .i64 k, .int .i64 b, s.v, m.v, p.v, .int .i64 r, .int .i64 d]) (hB : Below w.heap.size w wc) (_ha : w.heap.size ≤ wa.heap.size) (_hb : w.heap.size ≤ wb.heap.size) (B1 B2 B3 : Nat) (h1 : w.heap.size ≤ B1) (h2 : w.heap.size ≤ B2) (h3 : w.heap.size ≤ B3)
    (oa : wa.ownsRow B1 5 1 (.slice Aa s.n ca) s.n xs) (bb : Below wa.heap.size wa wb) (ob : wb.ownsRow B2 5 1 (.slice Ab m.n cb) m.n ys) (bc : Below wb.heap.size wb wc) (oc : wc.ownsRow B3 5 1 (.slice Ac p.n cc) p.n zs) :
    Mid w (((wc.setCell ⟨w.heap.size, 2, none⟩ (.slice Aa s.n ca)).setCell ⟨w.heap.size, 3, none⟩ (.slice Ab m.n cb)).setCell ⟨w.heap.size, 4, none⟩ (.slice Ac p.n cc)) k b s m p r d xs ys zs ⟨Aa, s.n, ca⟩ ⟨Ab, m.n, cb⟩ ⟨Ac, p.n, cc⟩ := by
  have x1 := hx.set_ 2 (.slice Aa s.n ca)
  have x2 := x1.set_ 3 (.slice Ab m.n cb)
  have x3 := x2.set_ 4 (.slice Ac p.n cc)
  have keep : ∀ {base n : Nat} {v : Value} {xs : List Value}, wc.ownsRow base 5 1 v n xs → (((wc.setCell ⟨w.heap.size, 2, none⟩ (.slice Aa s.n ca)).setCell ⟨w.heap.size, 3, none⟩ (.slice Ab m.n cb)).setCell ⟨w.heap.size, 4, none⟩ (.slice Ac p.n cc)).ownsRow base 5 1 v n xs := fun h =>
    own_setCell (own_setCell (own_setCell h hx (by decide) _) x1 (by decide) _) x2 (by decide) _
  exact ⟨rfl, rfl, rfl, x3, ((hB.setCell (Nat.le_refl _) _).setCell (Nat.le_refl _) _).setCell (Nat.le_refl _) _,
    keep (own_base_le (own_below (own_below oa bb) bc) h1), keep (own_base_le (own_below ob bc) h2), keep (own_base_le oc h3)⟩
set_option maxHeartbeats 4000000 in
set_option maxRecDepth 100000 in
theorem add_ok (w : World) (base q : Nat) (js : List Wt) (last k b : Int) (s m p : Sl) (r d : Int) (xs ys zs : List Value) (hk : vfIs k = true) (hl : QL w base q js last) (hbase : base ≤ w.heap.size) (hn : js.length < 1000) (hs : AllSmall js) (hlast : 0 ≤ last ∧ last ≤ 1000000000)
    (h1 : s.n ≤ 1000000000000) (h2 : m.n ≤ 1000000000000) (h3 : p.n ≤ 1000000000000)
    (r1 : Reads w w.heap.size 1 s.a s.n xs) (r2 : Reads w w.heap.size 1 m.a m.n ys) (r3 : Reads w w.heap.size 1 p.a p.n zs) (l1 : One xs) (l2 : One ys) (l3 : One zs) :
    Calls Tryz.prog 8 #[.pointer (some ⟨q, 0, none⟩), jv k b s m p r d] w (AddPost w base q js last k b s m p r d xs ys zs) := by
  have hE := fun W => eq_vf k W
  have hG := fun W x y => eqg_vf k W x y
  obtain ⟨v, hq, hln⟩ := hl.ex
  obtain ⟨A, c, rfl⟩ := own_form hln.own
  have d1 : decide (1000 ≤ (js.length : Int)) = false := by simp; omega
  go_enter Tryz.func8, Tryz.ntmps8
  go_wp2_with (fail)
  have hbx : Blk (w.alloc (.cells #[.int .i64 k, .int .i64 b, s.v, m.v, p.v, .int .i64 r, .int .i64 d] 37)) w.heap.size 37 #[.int .i64 k, .int .i64 b, s.v, m.v, p.v, .int .i64 r, .int .i64 d] := Blk.new w _ _
  refine (verifier_any k _).mono ?_
  rintro e w1 ⟨rfl, hb⟩
  have hB : Below w.heap.size w w1 := below_then ((Below.refl _ _).alloc (Nat.le_refl _) _) (by simp) hb
  have hbx1 := hbx.below hb (by simp)
  have hsz : w.heap.size < w1.heap.size := hbx1.lt
  have hc := (hq.below hB hq.lt).cell 0
  go_wp2_with (go_at_call 19; refine (len_any _ _ _ _).mono ?_; rintro e w2 ⟨rfl, rfl⟩)
  clear hE hG hc
  have x2 := hbx1.cell 2
  have x3 := hbx1.cell 3
  have x4 := hbx1.cell 4
  simp only [List.getElem?_toArray, List.getElem?_cons_succ, List.getElem?_cons_zero] at x2 x3 x4
  have HX := Lib.hid hbx1
  clear hbx hb hbx1
  have hBd := below_drew hB
  have hszd : w.heap.size ≤ w1.drew.heap.size := by simp; omega
  have HP1 := Lib.hid (fun (W : World) (h : Below w.heap.size w W) => r1.below h)
  have HP2 := Lib.hid (fun (W : World) (h : Below w.heap.size w W) => r2.below h)
  have HP3 := Lib.hid (fun (W : World) (h : Below w.heap.size w W) => r3.below h)
  clear r1 r2 r3
  go_cut [] (fun wx => ∃ s' m' p', Mid w wx k b s m p r d xs ys zs s' m' p')
  case first =>
    go_region_with (first
      | (go_at_call_of 20 (s.v); refine (clone_any s.a s.n s.c w.heap.size xs _ h1 (HP1.out _ ?_) l1).mono ?_; exact hBd; rintro e wa ⟨Aa, ca, rfl, oa, ba⟩; have HXa := Lib.hid (HX.out.drew.below ba HX.out.lt); have y3 := HXa.out.cell 3; have y4 := HXa.out.cell 4; simp only [List.getElem?_toArray, List.getElem?_cons_succ, List.getElem?_cons_zero] at  y3 y4; have hBa := below_then hBd hszd ba)
      | (go_at_call_of 20 (m.v); refine (clone_any m.a m.n m.c w.heap.size ys _ h2 (HP2.out _ ?_) l2).mono ?_; exact hBa; rintro e wb ⟨Ab, cb, rfl, ob, bb⟩; have HXb := Lib.hid (HXa.out.below bb HXa.out.lt); have z4 := HXb.out.cell 4; simp only [List.getElem?_toArray, List.getElem?_cons_succ, List.getElem?_cons_zero] at  z4; have hBb := below_then hBa hBa.size bb)
      | (go_at_call_of 20 (p.v); refine (clone_any p.a p.n p.c w.heap.size zs _ h3 (HP3.out _ ?_) l3).mono ?_; exact hBb; rintro e wc ⟨Ac, cc, rfl, oc, bc⟩; have HXc := Lib.hid (HXb.out.below bc HXb.out.lt); have t2 := HXc.out.cell 2; have t3 := HXc.out.cell 3; have t4 := HXc.out.cell 4; simp only [List.getElem?_toArray, List.getElem?_cons_succ, List.getElem?_cons_zero] at  t2 t3 t4; have f2 := HXc.out.frozen 2; have f3 := HXc.out.frozen 3; have f4 := HXc.out.frozen 4; have hBc := below_then hBb hBb.size bc))
    all_goals (go_wp2_with fail; go_meet; exact ⟨_, _, _, mid_of (wa := wa) (wb := wb) HXc.out hBc hBa.size hBb.size _ _ _ hszd hBa.size hBb.size oa bb ob bc oc⟩)
  case rest =>
    obtain ⟨s', m', p', hmid⟩ := hcut
    have hqc := hq.below hmid.below hq.lt
    have hbc := hmid.blk
    have hne : w.heap.size ≠ q := Ne.symm (Nat.ne_of_lt hq.lt)
    have c1 := hqc.cell 1
    have f1 := hqc.frozen 1
    simp only [List.getElem?_toArray, List.getElem?_cons_succ, List.getElem?_cons_zero] at c1
    have hq2 := hqc.set_ 1 (.int .i64 (last + 1))
    have hb2 := hbc.far (p := ⟨q, 1, none⟩) hne (.int .i64 (last + 1))
    have b0 := hb2.cell 0
    have b1 := hb2.cell 1
    have b2 := hb2.cell 2
    have b3 := hb2.cell 3
    have b4 := hb2.cell 4
    have b5 := hb2.cell 5
    have b6 := hb2.cell 6
    have c2 := hq2.cell 1
    simp only [List.getElem?_toArray, List.getElem?_cons_succ, List.getElem?_cons_zero] at b0 b1 b2 b3 b4 b5 b6
    have c2' : (wc.setCell ⟨q, 1, none⟩ (.int .i64 (last + 1))).cell? ⟨q, 1, none⟩ = some (.int .i64 (last + 1)) := c2
    have hl0 := hlast.1
    have hl1 := hlast.2
    have hln2 : Ln (wc.setCell ⟨q, 1, none⟩ (.int .i64 (last + 1))).drew base (.slice A js.length c) js :=
      Ln.of_own rfl ((own_setCell (own_below hln.own hmid.below) hqc (by decide) _).kept (⟨rfl, rfl, rfl, Nat.le_refl _, fun _ _ _ => rfl⟩ : (wc.setCell ⟨q, 1, none⟩ (.int .i64 (last + 1))).grownBy (wc.setCell ⟨q, 1, none⟩ (.int .i64 (last + 1))).drew none) (by simp [Value.ownBlock]; cases A <;> simp))
    have HQL := Lib.hid (QL.mk ⟨_, hq2.drew, hln2⟩)
    have HB2 := Lib.hid hb2.drew
    have HM := Lib.hid hmid
    have HHQ := Lib.hid hqc
    have hbz : base ≤ (wc.setCell ⟨q, 1, none⟩ (.int .i64 (last + 1))).drew.heap.size := by
      have := hmid.below.size
      simp [World.setCell]; omega
    have hxs : Wt.Small ⟨k, b, s', m', p', r, d, last + 1⟩ := ⟨by show s'.n ≤ _; rw [hmid.n1]; omega, by show m'.n ≤ _; rw [hmid.n2]; omega, by show p'.n ≤ _; rw [hmid.n3]; omega⟩
    clear c2 hmid hq2 hb2 hln2 hqc hbc hq hln
    go_wp2_with (fail)
    go_region_held3 (fun w' => w'.cell? ⟨w.heap.size, 0, none⟩ = some (.int .i64 k) ∧ w'.cell? ⟨w.heap.size, 1, none⟩ = some (.int .i64 b) ∧ w'.cell? ⟨w.heap.size, 2, none⟩ = some s'.v ∧ w'.cell? ⟨w.heap.size, 3, none⟩ = some m'.v ∧ w'.cell? ⟨w.heap.size, 4, none⟩ = some p'.v ∧ w'.cell? ⟨w.heap.size, 5, none⟩ = some (.int .i64 r) ∧ w'.cell? ⟨w.heap.size, 6, none⟩ = some (.int .i64 d) ∧ w'.cell? ⟨q, 1, none⟩ = some (.int .i64 (last + 1)))
      (first | exact ⟨b0, b1, b2, b3, b4, b5, b6, c2'⟩ | exact S_after HB2.out hne hk3 hql3)
      (first | (refine (push_any _ base q (last + 1) js ⟨k, b, s', m', p', r, d, last + 1⟩ (by omega) hbz HQL.out hs hxs).mono ?_; rintro e w3 ⟨rfl, hk3, hql3⟩))
    have c3 : w3.cell? ⟨q, 1, none⟩ = some (.int .i64 (last + 1)) := by
      obtain ⟨v3, hv3, _⟩ := hql3.ex
      exact hv3.cell 1
    clear b0 b1 b2 b3 b4 b5 b6 c2' f1
    go_wp2_with (fail)
    go_ret2
    have go : ∀ {v : Value} {n : Nat} {ts : List Value}, wc.ownsRow w.heap.size 5 1 v n ts → w3.ownsRow w.heap.size 5 1 v n ts := fun h =>
      Kept.own (own_drew (own_setCell h HHQ.out (by decide) _)) hk3 (HHQ.out.set_ 1 _).drew
    exact ⟨rfl, s', m', p', HM.out.n1, HM.out.n2, HM.out.n3, go HM.out.o1, go HM.out.o2, go HM.out.o3, (((Kept.of_below HM.out.below).setCell 1 _).drew).trans hk3, hql3⟩
end Go.Proofs.YtadgamfhlklemaaGreatDoor
