/- Queue.Next. -/
import Derived.Test.YtadgamfhlklemaaGreatDoorAvC7
namespace Go.Proofs.YtadgamfhlklemaaGreatDoor
open Go.RowKit
set_option maxHeartbeats 1000000 in
set_option maxRecDepth 100000 in
theorem next_none (w : World) (base q : Nat) (js : List Wt) (last : Int) (hl : QL w base q js last) (hn : js.length = 0) :
    Calls Tryz.prog 13 #[.pointer (some ⟨q, 0, none⟩)] w fun e w' => e = .returned (.tuple #[.agg #[.int .i64 0, .int .i64 0], .bool false]) ∧ Below w.heap.size w w' := by
  have d1 : ((js.length : Int) == 0) = true := by simp [hn]
  have HN := Lib.hid hn
  clear hn
  have hb0 : ∀ o, Below w.heap.size w (w.alloc o) := fun o => (Below.refl _ _).alloc (Nat.le_refl _) _
  go_enter Tryz.func13, Tryz.ntmps13
  go_wp2_with (fail)
  refine (qlen_any _ base q js last (hl.below (hb0 _))).mono ?_
  rintro e w2 ⟨rfl, rfl⟩
  go_wp2_with (fail)
  refine bodyPost_ret (v := .tuple #[.agg #[.int .i64 0, .int .i64 0], .bool false]) (by simp [results, Tryz.results13, go_sem]) rfl ⟨rfl, ?_⟩
  exact (Below.refl _ _).alloc (Nat.le_refl _) _
structure NextP (w w' : World) (base q n : Nat) (js : List Wt) (last : Int) : Prop where
  kept : Kept base q w w'
  ql : QL w' base q ((takeM js 0 n).take n) last
theorem kept_blk {W w3 : World} {g base q : Nat} {t : TypeId} {cs : Array Value} (hb : Blk W g t cs) (ht : t ≠ 65) (hne : g ≠ q) (hk : Kept base q W w3) : Blk w3 g t cs :=
  (hk.block g hb.lt hne (.inr fun cs f h => by
    unfold Blk at hb
    rw [hb] at h
    injection h with h
    injection h with _ h
    exact ht h)).trans hb
theorem Kept.setNew {B q : Nat} {a w : World} (h : Kept B q a w) {p : Addr} (hp : a.heap.size ≤ p.block) (u : Value) : Kept B q a (w.setCell p u) :=
  ⟨h.os, h.tape, h.output, by simpa [World.setCell] using h.size, fun i hi hn ho => (Below.heap_setCell w p u i (by omega)).trans (h.block i hi hn ho)⟩
theorem QL.setOther {w : World} {base q g : Nat} {js : List Wt} {last : Int} {t : TypeId} {cs : Array Value} (h : QL w base q js last) (hb : Blk w g t cs) (h1 : t ≠ 27) (h2 : t ≠ 65) (o : Nat) (u : Value) : QL (w.setCell ⟨g, o, none⟩ u) base q js last := by
  obtain ⟨v, hq, hln⟩ := h.ex
  exact ⟨v, hq.far (p := ⟨g, o, none⟩) (hq.ne_ hb (Ne.symm h1)) _, Ln.of_own rfl (own_setCell hln.own hb (Ne.symm h2) u)⟩
theorem at_box {W : World} {g : Nat} {t0 : TypeId} {k b r d t : Int} {s m p : Sl} (hb : Blk W g t0 #[.int .i64 k, .int .i64 b, s.v, m.v, p.v, .int .i64 r, .int .i64 d, .int .i64 t]) :
    W.cell? ⟨g, 0, none⟩ = some (.int .i64 k) ∧ W.cell? ⟨g, 1, none⟩ = some (.int .i64 b) ∧ W.cell? ⟨g, 2, none⟩ = some s.v ∧ W.cell? ⟨g, 3, none⟩ = some m.v ∧ W.cell? ⟨g, 4, none⟩ = some p.v ∧ W.cell? ⟨g, 5, none⟩ = some (.int .i64 r) ∧ W.cell? ⟨g, 6, none⟩ = some (.int .i64 d) ∧ W.cell? ⟨g, 7, none⟩ = some (.int .i64 t) :=
  ⟨hb.cell 0, hb.cell 1, hb.cell 2, hb.cell 3, hb.cell 4, hb.cell 5, hb.cell 6, hb.cell 7⟩
set_option maxHeartbeats 4000000 in
set_option maxRecDepth 100000 in
theorem next_some (w : World) (base q n : Nat) (js : List Wt) (last code : Int) (hl : QL w base q js last) (hn : js.length = n + 1) (hn1 : n ≤ 999999) (hs : AllSmall js) (_hbase : base ≤ w.heap.size)
    (hver : VerIs (fun W => Kept base q w W) (gt js 0) code) :
    Calls Tryz.prog 13 #[.pointer (some ⟨q, 0, none⟩)] w fun e w' => e = .returned (.tuple #[.agg #[.int .i64 (gt js 0).ticket, .int .i64 code], .bool true]) ∧ NextP w w' base q n js last := by
  have d1 : ((js.length : Int) == 0) = false := by rw [beq_eq_false_iff_ne]; omega
  have HN := Lib.hid hn
  clear hn
  have hb0 : ∀ o, Below w.heap.size w (w.alloc o) := fun o => (Below.refl _ _).alloc (Nat.le_refl _) _
  have HG := Lib.hid (takeM_spec js 0 n HN.out (by rw [HN.out]; omega)).2.2
  have hqlt : q < w.heap.size := by obtain ⟨v, hq, _⟩ := hl.ex; exact hq.lt
  have hr0 : Blk (w.alloc (.cells #[.int .i64 0, .int .i64 0] 49)) w.heap.size 49 #[.int .i64 0, .int .i64 0] := Blk.new w _ _
  go_enter Tryz.func13, Tryz.ntmps13
  go_wp2_with (fail)
  refine (qlen_any _ base q js last (hl.below (hb0 _))).mono ?_
  rintro e w2 ⟨rfl, rfl⟩
  go_wp2_with (fail)
  refine (pop_any _ base q n last js HN.out hn1 (hl.below (hb0 _)) hs).mono ?_
  rintro e w3 ⟨rfl, hk3, hl3⟩
  rw [HG.out]
  generalize hx : gt js 0 = x at *
  obtain ⟨k, b, s, m, p, r, d, t⟩ := x
  have HX := Lib.hid hx
  clear hx
  have hK3 : Kept base q w w3 := (Kept.of_below (hb0 _)).trans hk3
  have hr3 := kept_blk hr0 (by decide) (Ne.symm (Nat.ne_of_lt hqlt)) hk3
  clear hr0 hk3
  have hlt3 := hr3.lt
  have hta := fun W => ta_wait #[.int .i64 k, .int .i64 b, s.v, m.v, p.v, .int .i64 r, .int .i64 d, .int .i64 t] W
  unfold Wt.cells
  go_wp2_with (fail)
  have hx4 : Blk (w3.alloc (.cells #[.int .i64 k, .int .i64 b, s.v, m.v, p.v, .int .i64 r, .int .i64 d, .int .i64 t] 65)) w3.heap.size 65 #[.int .i64 k, .int .i64 b, s.v, m.v, p.v, .int .i64 r, .int .i64 d, .int .i64 t] := Blk.new w3 _ _
  have hr4 : Blk (w3.alloc (.cells #[.int .i64 k, .int .i64 b, s.v, m.v, p.v, .int .i64 r, .int .i64 d, .int .i64 t] 65)).drew w.heap.size 49 #[.int .i64 0, .int .i64 0] := (hr3.alloc _).drew
  have hK4 : Kept base q w (w3.alloc (.cells #[.int .i64 k, .int .i64 b, s.v, m.v, p.v, .int .i64 r, .int .i64 d, .int .i64 t] 65)).drew := (hK3.trans (Kept.of_below ((Below.refl _ _).alloc (Nat.le_refl _) _))).drew
  have hl4 : QL (w3.alloc (.cells #[.int .i64 k, .int .i64 b, s.v, m.v, p.v, .int .i64 r, .int .i64 d, .int .i64 t] 65)).drew base q ((takeM js 0 n).take n) last := hl3.below (((Below.refl _ _).alloc (Nat.le_refl _) _).drew)
  have hA := at_box hx4.drew
  have HX4 := Lib.hid hx4.drew
  have HR4 := Lib.hid hr4
  have HL4 := Lib.hid hl4
  have hne : w3.heap.size ≠ w.heap.size := by omega
  clear hx4 hr4 hl3 hl4 hr3 hl
  go_region_held3 (fun w' => w'.cell? ⟨w3.heap.size, 0, none⟩ = some (.int .i64 k) ∧ w'.cell? ⟨w3.heap.size, 1, none⟩ = some (.int .i64 b) ∧ w'.cell? ⟨w3.heap.size, 2, none⟩ = some s.v ∧ w'.cell? ⟨w3.heap.size, 3, none⟩ = some m.v ∧ w'.cell? ⟨w3.heap.size, 4, none⟩ = some p.v ∧ w'.cell? ⟨w3.heap.size, 5, none⟩ = some (.int .i64 r) ∧ w'.cell? ⟨w3.heap.size, 6, none⟩ = some (.int .i64 d) ∧ w'.cell? ⟨w3.heap.size, 7, none⟩ = some (.int .i64 t))
    (first | exact hA | exact at_box (HX5.out) | exact at_box ((HX5.out.far (p := ⟨w.heap.size, 0, none⟩) hne _).far (p := ⟨w.heap.size, 1, none⟩) hne _))
    (first | (refine (hver _ hK4).mono ?_; rintro e w5 ⟨rfl, hb5⟩; have HX5 := Lib.hid (HX4.out.below hb5 HX4.out.lt); have HR5 := Lib.hid (HR4.out.below hb5 HR4.out.lt); have r0 := HR5.out.cell 0; have r1 := HR5.out.cell 1; have f0 := HR5.out.frozen 0; have f1 := HR5.out.frozen 1; simp only [List.getElem?_toArray, List.getElem?_cons_succ, List.getElem?_cons_zero] at r0 r1))
  have hR6 := (HR5.out.set_ 0 (.int .i64 t)).set_ 1 (.int .i64 code)
  have c0 := (HR5.out.set_ 0 (.int .i64 t)).cell 0
  have c1 := hR6.cell 1
  have c0' : (w5.setCell ⟨w.heap.size, 0, none⟩ (.int .i64 t)).cell? ⟨w.heap.size, 0, none⟩ = some (.int .i64 t) := c0
  have c1' : ((w5.setCell ⟨w.heap.size, 0, none⟩ (.int .i64 t)).setCell ⟨w.heap.size, 1, none⟩ (.int .i64 code)).cell? ⟨w.heap.size, 1, none⟩ = some (.int .i64 code) := c1
  have hB5 : Kept base q w w5 := hK4.trans (Kept.of_below hb5)
  go_wp2_with (fail)
  refine bodyPost_ret (v := .tuple #[.agg #[.int .i64 t, .int .i64 code], .bool true]) (by simp [results, Tryz.results13, go_sem, c0', c1']) rfl ⟨by rw [HX.out], ?_, ?_⟩
  · exact (hB5.setNew (p := ⟨w.heap.size, 0, none⟩) (Nat.le_refl _) _).setNew (p := ⟨w.heap.size, 1, none⟩) (Nat.le_refl _) _
  · exact ((HL4.out.below hb5).setOther HR5.out (by decide) (by decide) 0 _).setOther (HR5.out.set_ 0 _) (by decide) (by decide) 1 _
theorem Kept.ownE {W w3 : World} {base q B n size : Nat} {e : TypeId} {v : Value} {xs : List Value} {js : List Wt} {last : Int} (he1 : e ≠ 65) (he2 : e ≠ 27) (h : W.ownsRow B e size v n xs) (hk : Kept base q W w3) (hq : QL W base q js last) : w3.ownsRow B e size v n xs := by
  obtain ⟨v0, hq0, _⟩ := hq.ex
  refine ⟨h.1, ?_⟩
  have hne := own_blk_ne h hq0 he2
  rcases h.2 with h1 | ⟨g, cap, cur, rfl, h2, h3, h4⟩
  · exact .inl h1
  · exact .inr ⟨g, cap, cur, rfl, h2, kept_blk (t := e) h3 he1 (by simpa [Value.ownBlock] using hne) hk, h4⟩
theorem QL.grownE {w w' : World} {base q B n size : Nat} {js : List Wt} {last : Int} {e : TypeId} {v : Value} {xs : List Value} (h : QL w base q js last) (hg : w.grownBy w' v.ownBlock) (ho : w.ownsRow B e size v n xs) (h1 : e ≠ 27) (h2 : e ≠ 65) : QL w' base q js last := by
  obtain ⟨v0, hq, hln⟩ := h.ex
  refine ⟨v0, hq.grown hg (Ne.symm (own_blk_ne ho hq h1)), Ln.of_own rfl (hln.own.kept hg ?_)⟩
  rcases hln.or_ with ⟨rfl, _⟩ | ⟨g, cap, rfl, _, hr⟩
  · exact .inl rfl
  · obtain ⟨cur, hc, _⟩ := hr.blk
    exact .inr (fun e => own_blk_ne ho hc h2 e.symm)
theorem Kept.grownNew {B q : Nat} {a w w' : World} {row : Option Nat} (h : Kept B q a w) (hg : w.grownBy w' row) (hr : ∀ k, row = some k → a.heap.size ≤ k) : Kept B q a w' :=
  ⟨hg.os.trans h.os, hg.tape.trans h.tape, hg.output.trans h.output, Nat.le_trans h.size hg.size, fun i hi hn ho => (hg.block i (Nat.lt_of_lt_of_le hi h.size) (fun e => by have := hr i e.symm; omega)).trans (h.block i hi hn ho)⟩
end Go.Proofs.YtadgamfhlklemaaGreatDoor
