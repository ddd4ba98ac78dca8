/- limb.New at an odd modulus of more than one word. -/
import Derived.Test.YtadgamfhlklemaaGreatDoorAvL5
import Derived.Test.YtadgamfhlklemaaGreatDoorAvC3
namespace Go.Proofs.YtadgamfhlklemaaGreatDoor
open Go.RowKit
theorem own_ne_new {w W : World} {base n sz : Nat} {e : TypeId} {v : Value} {xs : List Value} (h : w.ownsRow base e sz v n xs) (hg : w.heap.size ≤ W.heap.size) : v.ownBlock ≠ some W.heap.size := by
  rcases h.2 with ⟨rfl, _⟩ | ⟨g, cap, cur, rfl, _, hh, _⟩
  · simp [Value.ownBlock]
  · intro he
    simp [Value.ownBlock] at he
    subst he
    rw [Array.getElem?_eq_none hg] at hh
    cases hh
theorem Ws.far {w : World} {B n g : Nat} {xs : List Int} (h : Ws w B (some ⟨g, 0, none⟩) n xs) {p : Addr} (hp : g ≠ p.block) (u : Value) : Ws (w.setCell p u) B (some ⟨g, 0, none⟩) n xs :=
  ⟨⟨h.rd.1, fun hn => by
    obtain ⟨ad, e, hb, hc⟩ := h.rd.2 hn
    obtain rfl : (⟨g, 0, none⟩ : Addr) = ad := Option.some.inj e
    refine ⟨_, rfl, hb, fun j v hv => (World.cell?_setCell_other w p _ u fun e => ?_).trans (hc j v hv)⟩
    apply hp
    rw [e, block_of_add]⟩, h.wd⟩
structure NewR (w wr : World) (p : Nat) (xs : List Int) (L : Nat) (A' As : Option Addr) (c' cs : Nat) (iv : Value) (zs : List Int) : Prop where
  blk : Blk wr p 363 #[.slice A' L c', iv, .slice As L cs]
  own : wr.ownsRow w.heap.size 115 1 (.slice A' L c') L (u64s xs)
  ws : Ws wr wr.heap.size As L zs
  loc : ∃ g, As = some ⟨g, 0, none⟩ ∧ p < g
  below : Below w.heap.size w wr
set_option maxHeartbeats 4000000 in
set_option maxRecDepth 100000 in
theorem new_any (w : World) (b c L : Nat) (xs : List Int) (h2 : 2 ≤ L) (h16 : L ≤ 16) (hodd : bits .and .u64 (dg xs 0) 1 = 1) (htop : dg xs (L - 1) ≠ 0) (h : Ws w w.heap.size (some ⟨b, 0, none⟩) L xs) :
    Calls Tryz.prog 245 #[.slice (some ⟨b, 0, none⟩) L c] w fun e w' => ∃ p, e = .returned (.tuple #[.pointer (some ⟨p, 0, none⟩), .int .i64 0]) ∧ Below w.heap.size w w' := by
  have hl1 : (1 : Int) ≤ L := by omega
  have d1 : decide ((L : Int) < 1) = false := by simp; omega
  have d2 : decide ((L : Int) > 16) = false := by simp; omega
  obtain ⟨ad, e, c0⟩ := h.at_ (k := 0) (by omega)
  obtain rfl : (⟨b, 0, none⟩ : Addr) = ad := Option.some.inj e
  rw [Go.WideShapes.add_plain] at c0
  obtain ⟨ad, e', cT⟩ := h.at_ (k := L - 1) (by omega)
  obtain rfl : (⟨b, 0, none⟩ : Addr) = ad := Option.some.inj e'
  rw [Go.WideShapes.add_plain, Nat.zero_add] at cT
  have d3 : (dg xs (L - 1) == 0) = false := by simp [htop]
  have d4 : ((L : Int) == 1) = false := by rw [beq_eq_false_iff_ne]; omega
  have eL : ((L : Int) - 1).toNat = L - 1 := by omega
  go_enter Tryz.func245, Tryz.ntmps245
  go_wp2_with (fail)
  refine (clone64_any (some ⟨b, 0, none⟩) L c w.heap.size (u64s xs) w (by omega) h.rd (one_u64s xs)).mono ?_
  rintro e w1 ⟨A', c', rfl, ho, hb1⟩
  go_wp2_with (fail)
  have hbx := Blk.new w1 363 #[.slice A' L c', .int .u64 0, .slice none 0 0]
  have hB2 : Below w.heap.size w (w1.alloc (.cells #[.slice A' L c', .int .u64 0, .slice none 0 0] 363)) := hb1.alloc hb1.size _
  have ho2 := own_below ho ((Below.refl _ _).alloc (Nat.le_refl _) (.cells #[.slice A' L c', .int .u64 0, .slice none 0 0] 363))
  generalize w1.alloc (.cells #[.slice A' L c', .int .u64 0, .slice none 0 0] 363) = w2 at hbx hB2 ho2 ⊢
  have e0 := (h.below hB2).at_ (k := 0) (by omega)
  obtain ⟨ad, e3, c02⟩ := e0
  obtain rfl : (⟨b, 0, none⟩ : Addr) = ad := Option.some.inj e3
  rw [Go.WideShapes.add_plain, Nat.zero_add] at c02
  clear c0 cT d1 d2 d3 hodd htop
  go_loopw [5, 45] (fun y i wr => ∃ (k : Nat) (z : Int), k ≤ 6 ∧ y = .int .u64 z ∧ i = .int .i64 k ∧ w2 = wr) (fun _ i _ => 6 - (intOf i).toNat)
  case atStart => exact ⟨0, 1, by omega, rfl, rfl, rfl⟩
  case round =>
    obtain ⟨k, z, hk, rfl, rfl, rfl⟩ := hrel
    by_cases hlt : k < 6
    · have d1 : decide ((k : Int) < 6) = true := by simp; omega
      go_wp2_with (fail)
      go_roundw
      case rel => exact ⟨k + 1, _, by omega, rfl, by go_num, trivial⟩
      case measure => simp [intOf]; omega
    · obtain rfl : k = 6 := by omega
      have d1 : decide (((6 : Nat) : Int) < 6) = false := by decide
      have hmk := fun W => run_make_row' (P := Tryz.prog) 73 115 (.int .u64 0) 8 Tryz.underlying73 infoU64 rfl .i64 .i64 L (by omega) (by omega) W
      have x1 := hbx.cell 1
      have f1 := hbx.frozen 1
      obtain ⟨iv, hiv⟩ : ∃ iv, iv = IntKind.u64.wrap (-z) := ⟨_, rfl⟩
      have b2 := (hbx.set_ 1 (.int .u64 iv)).alloc (.cells (madeCells #[.int .u64 0] L) 115)
      have x2 := b2.cell 2
      have f2 := b2.frozen 2
      have hs3 : (w2.setCell ⟨w1.heap.size, 1, none⟩ (.int .u64 iv)).heap.size = w2.heap.size := by simp [World.setCell]
      have n2 : Blk ((w2.setCell ⟨w1.heap.size, 1, none⟩ (.int .u64 iv)).alloc (.cells (madeCells #[.int .u64 0] L) 115)) w2.heap.size 115 (madeCells #[.int .u64 0] L) := by
        rw [← hs3]; exact Blk.new _ _ _
      have hpn : w2.heap.size ≠ w1.heap.size := by have := hbx.lt; omega
      have b3 := b2.set_ 2 (.slice (some ⟨w2.heap.size, 0, none⟩) L L)
      have n3 := n2.far (p := ⟨w1.heap.size, 2, none⟩) hpn (.slice (some ⟨w2.heap.size, 0, none⟩) L L)
      have x3 := b3.cell 2
      have g0 := n3.frozen 0
      obtain ⟨u0, hu0⟩ : ∃ u0, (madeCells #[.int .u64 0] L)[0]? = some u0 := ⟨_, Array.getElem?_eq_getElem (by rw [size_madeCells]; omega)⟩
      have n30 := n3.cell 0
      rw [hu0] at n30
      have b4 := b3.far (p := ⟨w2.heap.size, 0, none⟩) (Ne.symm hpn) (.int .u64 1)
      have n4 := n3.set_ 0 (.int .u64 1)
      simp only [List.setIfInBounds_toArray, List.set_cons_zero, List.set_cons_succ, List.getElem?_toArray, List.getElem?_cons_succ, List.getElem?_cons_zero] at x1 x2 x3
      have hL0 : (0 : Int) < L := by omega
      subst hiv
      go_wp2_with (fail)
      have hz : Wd (1 :: List.replicate (L - 1) 0) := by
        intro x hx
        rcases List.mem_cons.1 hx with rfl | hx
        · omega
        · rw [(List.mem_replicate.1 hx).2]; omega
      have e5 : ((madeCells #[.int .u64 0] L).setIfInBounds 0 (.int .u64 1)).toList = u64s (1 :: List.replicate (L - 1) 0) := by
        rw [Array.toList_setIfInBounds, toList_madeCells_one]
        obtain ⟨m, rfl⟩ : ∃ m, L = m + 1 := ⟨L - 1, by omega⟩
        simp [List.replicate_succ, u64s]
      have r4 : Ws _ (w2.heap.size + 1) (some ⟨w2.heap.size, 0, none⟩) L (1 :: List.replicate (L - 1) 0) := ⟨e5 ▸ (Reads.cells_at (n := L) (size := 1) n4 (Nat.lt_succ_self _) (by simp [size_madeCells])), hz⟩
      have o3 := own_setCell (own_below (own_setCell ho2 hbx (by decide) (o := 1) (.int .u64 (IntKind.u64.wrap (-z)))) ((Below.refl _ _).alloc (Nat.le_refl _) (.cells (madeCells #[.int .u64 0] L) 115))) b2 (by decide) (o := 2) (.slice (some ⟨w2.heap.size, 0, none⟩) L L)
      have o4 := o3.kept (only_setCells _ w2.heap.size 0 [.int .u64 1]) (.inr (own_ne_new ho2 (Nat.le_refl _)))
      have hB4 : Below w.heap.size w ((((w2.setCell ⟨w1.heap.size, 1, none⟩ (.int .u64 (IntKind.u64.wrap (-z)))).alloc (.cells (madeCells #[.int .u64 0] L) 115)).setCell ⟨w1.heap.size, 2, none⟩ (.slice (some ⟨w2.heap.size, 0, none⟩) L L)).setCell ⟨w2.heap.size, 0, none⟩ (.int .u64 1)) := (((hB2.setCell (p := ⟨w1.heap.size, 1, none⟩) hb1.size _).alloc (by rw [hs3]; exact hB2.size) _).setCell (p := ⟨w1.heap.size, 2, none⟩) hb1.size _).setCell (p := ⟨w2.heap.size, 0, none⟩) hB2.size _
      have hN : NewR w ((((w2.setCell ⟨w1.heap.size, 1, none⟩ (.int .u64 (IntKind.u64.wrap (-z)))).alloc (.cells (madeCells #[.int .u64 0] L) 115)).setCell ⟨w1.heap.size, 2, none⟩ (.slice (some ⟨w2.heap.size, 0, none⟩) L L)).setCell ⟨w2.heap.size, 0, none⟩ (.int .u64 1)) w1.heap.size xs L A' (some ⟨w2.heap.size, 0, none⟩) c' L (.int .u64 (IntKind.u64.wrap (-z))) (1 :: List.replicate (L - 1) 0) :=
        ⟨b4, o4, ⟨r4.rd.more n4.lt, r4.wd⟩, ⟨_, rfl, by have := hbx.lt; omega⟩, hB4⟩
      have hlA := h.wd
      have hpL : 2 ≤ L := h2
      generalize IntKind.u64.wrap (-z) = iv at *
      have HN := Lib.hid hN
      clear hN hB4 o4 o3 r4 n4 b4 n30 g0 x3 n3 b3 n2 x2 f2 b2 x1 f1 hmk e5 hz hu0 ho ho2 hbx c02 hs3 hpn
      go_loopw [75] (fun i wr => ∃ (k : Nat) (As : Option Addr) (cs : Nat) (zs : List Int), k ≤ 128 * L ∧ i = .int .i64 k ∧ NewR w wr w1.heap.size xs L A' As c' cs (.int .u64 iv) zs) (fun i _ => 128 * L - (intOf i).toNat)
      case atStart => exact ⟨0, _, _, _, by omega, rfl, HN.out⟩
      case round =>
        clear HN
        obtain ⟨k, As, cs, zs, hk, rfl, hN⟩ := hrel
        have hm : Ws wr wr.heap.size A' L xs := ⟨Reads.of_own hN.own, h.wd⟩
        have x2 := hN.blk.cell 2
        simp only [List.getElem?_toArray, List.getElem?_cons_succ, List.getElem?_cons_zero] at x2
        by_cases hlt : k < 128 * L
        · have d1 : decide ((k : Int) < 128 * L) = true := by simp; omega
          have HN := Lib.hid hN
          clear hN
          go_wp2_with (fail)
          refine (twice_any wr w1.heap.size As A' cs c' L 0 _ _ zs xs (.inl rfl) (by omega) HN.out.blk HN.out.ws hm).mono ?_
          rintro e w5 ⟨ds, carry, A2, c2, zs2, hc, hd, rfl, hws, hb5, ⟨g, rfl, hg⟩, hl⟩
          have b5 := HN.out.blk.below hb5 HN.out.blk.lt
          have y2 := b5.cell 2
          have f2 := b5.frozen 2
          simp only [List.getElem?_toArray, List.getElem?_cons_succ, List.getElem?_cons_zero] at y2
          have b6 := b5.set_ 2 (.slice (some ⟨g, 0, none⟩) L c2)
          have hgp : g ≠ w1.heap.size := by have := HN.out.blk.lt; omega
          have w6 := hws.far (p := ⟨w1.heap.size, 2, none⟩) hgp (.slice (some ⟨g, 0, none⟩) L c2)
          have o6 := own_setCell (own_below HN.out.own hb5) b5 (by decide) (o := 2) (.slice (some ⟨g, 0, none⟩) L c2)
          have hB6 := (below_then HN.out.below HN.out.below.size hb5).setCell (p := ⟨w1.heap.size, 2, none⟩) hb1.size (.slice (some ⟨g, 0, none⟩) L c2)
          have hs6 : (w5.setCell ⟨w1.heap.size, 2, none⟩ (.slice (some ⟨g, 0, none⟩) L c2)).heap.size = w5.heap.size := by simp [World.setCell]
          have hN6 : NewR w (w5.setCell ⟨w1.heap.size, 2, none⟩ (.slice (some ⟨g, 0, none⟩) L c2)) w1.heap.size xs L A' (some ⟨g, 0, none⟩) c' c2 (.int .u64 iv) zs2 := ⟨b6, o6, by rw [hs6]; exact w6, ⟨g, rfl, by have := HN.out.blk.lt; omega⟩, hB6⟩
          have HN6 := Lib.hid hN6
          clear hN6 hB6 o6 w6 b6 b5
          go_wp2_with (fail)
          go_roundw
          case rel => exact ⟨k + 1, _, _, _, by omega, by go_num, HN6.out⟩
          case measure => simp [intOf]; omega
        · obtain rfl : k = 128 * L := by omega
          have d1 : decide (((128 * L : Nat) : Int) < 128 * L) = false := by simp
          have HN := Lib.hid hN
          clear hN
          go_wp2_with (fail)
          go_ret2
          exact ⟨_, rfl, HN.out.below⟩
end Go.Proofs.YtadgamfhlklemaaGreatDoor
