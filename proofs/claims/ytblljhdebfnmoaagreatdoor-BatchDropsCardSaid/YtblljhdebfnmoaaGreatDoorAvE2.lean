/- BatchDrops, walked. -/
import Derived.Test.YtblljhdebfnmoaaGreatDoorAvP4
import Derived.Test.YtblljhdebfnmoaaGreatDoorAvE1
import Derived.Deep.OwnRows
namespace Go.Proofs.YtblljhdebfnmoaaGreatDoor
open Go.RowKit
/-- A slice of bytes that an argument is. -/
structure InB (w : World) (B : Nat) (A : Option Addr) (n : Nat) (zs : List Int) : Prop where
  rd : Reads w B 1 A n (zs.map fun z => .int .u8 z)
  ok : ∀ z ∈ zs, 0 ≤ z ∧ z ≤ 255
theorem InB.at_ {w : World} {B n k : Nat} {A : Option Addr} {zs : List Int} (h : InB w B A n zs) (hk : k < n) : ∃ ad z, A = some ad ∧ w.cell? (ad.add k) = some (.int .u8 z) ∧ 0 ≤ z ∧ z ≤ 255 := by
  obtain ⟨ad, u, hA, _, hu, hc⟩ := h.rd.at_ hk
  rw [List.getElem?_map] at hu
  obtain ⟨z, hz, rfl⟩ := Option.map_eq_some_iff.1 hu
  obtain ⟨i, hi, rfl⟩ := List.getElem?_eq_some_iff.1 hz
  exact ⟨ad, _, hA, hc, (h.ok _ (List.getElem_mem _)).1, (h.ok _ (List.getElem_mem _)).2⟩
theorem InB.below {w w' : World} {B n : Nat} {A : Option Addr} {zs : List Int} (h : InB w B A n zs) (hb : Below B w w') : InB w' B A n zs := ⟨h.rd.below hb, h.ok⟩
structure AddR (w1 wr : World) (k : Nat) (js : List Wt) : Prop where
  tk : Tks js k
  small : AllSmall js
  plain : PlainJ js
  ql : QL wr w1.heap.size w1.heap.size js k
  below : Below w1.heap.size w1 wr
theorem AddR.add {w1 wr w2 : World} {k m g : Nat} {js : List Wt} {x : Wt} (h : AddR w1 wr k js) (hm : m ≤ 8) (a : Added1 (wr.alloc (.cells (madeCells #[.int .u8 0] m) 5)) w2 w1.heap.size w1.heap.size js (k + 1) 3 0 0 0 x ⟨none, 0, 0⟩ ⟨none, 0, 0⟩ ⟨some ⟨g, 0, none⟩, m, m⟩) : AddR w1 w2 (k + 1) (pushM js x) :=
  ⟨h.tk.push x a.k5, small_pushM h.small ⟨by rw [a.n1]; simp, by rw [a.n2]; simp, by rw [a.n3]; show m ≤ _; omega⟩, h.plain.push a.k1 a.k2, by have := a.ql; exact_mod_cast this,
    below_kept (h.below.alloc h.below.size _) (by have := h.below.size; simp; omega) (Nat.le_refl _) a.kept⟩
structure DropR (w1 wr : World) (g0 n : Nat) (js : List Wt) (bs : List Bool) : Prop where
  op : OpenT js n bs
  cnt : js.length ≤ n
  small : AllSmall js
  plain : PlainJ js
  ql : QL wr w1.heap.size w1.heap.size js n
  gone : Blk wr g0 4 (bs.map Value.bool).toArray
  low : w1.heap.size < g0
  below : Below w1.heap.size w1 wr
theorem tk_mem {js : List Wt} {i : Nat} (hi : i < js.length) : (gt js i).ticket ∈ tks js := by
  rw [gt_eq js i hi]; exact List.mem_map_of_mem (List.getElem_mem hi)
theorem mod_bounds (z : Int) (k : Nat) : 0 ≤ z % ((k : Int) + 2) ∧ z % ((k : Int) + 2) ≤ k + 1 := by
  have h1 := Int.emod_nonneg z (show ((k : Int) + 2) ≠ 0 by omega)
  have h2 := Int.emod_lt_of_pos z (show 0 < ((k : Int) + 2) by omega)
  exact ⟨h1, by omega⟩
theorem DropR.same {w1 wr w3 : World} {g0 n : Nat} {js : List Wt} {bs : List Bool} (h : DropR w1 wr g0 n js bs) (hk : Kept w1.heap.size w1.heap.size wr w3) (hq : QL w3 w1.heap.size w1.heap.size js n) : DropR w1 w3 g0 n js bs :=
  ⟨h.op, h.cnt, h.small, h.plain, hq, kept_blk h.gone (by decide) (by have := h.low; omega) hk, h.low, below_kept h.below h.below.size (Nat.le_refl _) hk⟩
theorem DropR.drop {w1 wr w3 : World} {g0 n i t : Nat} {js : List Wt} {bs : List Bool} (h : DropR w1 wr g0 n js bs) (hi : i < js.length) (ht : (gt js i).ticket = t) (hd : Dropped wr w3 w1.heap.size w1.heap.size js n i) : DropR w1 (w3.setCell ⟨g0, t, none⟩ (.bool true)) g0 n ((takeM js i (js.length - 1)).take (js.length - 1)) (bs.set t true) :=
  have hp := left_perm js i (js.length - 1) (by omega) hi
  have hsub := left_sub js i (js.length - 1) (by omega) hi
  have hg := kept_blk h.gone (by decide) (by have := h.low; omega) hd.kept
  ⟨h.op.less hp ht, by rw [left_length js i (js.length - 1) (by omega) hi]; have := h.cnt; omega, fun x hx => h.small x (hsub x hx), fun x hx => h.plain x (hsub x hx), hd.ql.setOther hg (by decide) (by decide) _ _, by
    have := hg.set_ t (.bool true)
    rw [List.map_set]
    simpa using this, h.low, (below_kept h.below h.below.size (Nat.le_refl _) hd.kept).setCell (by have := h.low; show _ ≤ g0; omega) _⟩
theorem resCells_at (vc : Wt → Int) : ∀ (l : List Wt) (k : Nat) (x : Wt), l[k]? = some x → (resCells vc l)[k * 2]? = some (.int .i64 x.ticket) ∧ (resCells vc l)[k * 2 + 1]? = some (.int .i64 (vc x))
  | [], k, x, h => by simp at h
  | y :: r, 0, x, h => by
    obtain rfl : y = x := by simpa using h
    exact ⟨rfl, rfl⟩
  | y :: r, k + 1, x, h => by
    have := resCells_at vc r k x (by simpa using h)
    rw [show (k + 1) * 2 = k * 2 + 1 + 1 by omega, show k * 2 + 1 + 1 + 1 = (k * 2 + 1) + 1 + 1 by omega]
    exact this
structure ResR (w1 wr : World) (g0 n B : Nat) (A : Option Addr) (c : Nat) (rl : List Wt) (k : Nat) (bs : List Bool) : Prop where
  op : OpenT (rl.drop k) n bs
  own : wr.ownsRow B 40 2 (.slice A rl.length c) rl.length (resCells (fun _ => 15) rl)
  gone : Blk wr g0 4 (bs.map Value.bool).toArray
  low : w1.heap.size < g0
  below : Below w1.heap.size w1 wr
theorem ResR.at_ {w1 wr : World} {g0 n B c k : Nat} {A : Option Addr} {rl : List Wt} {bs : List Bool} (h : ResR w1 wr g0 n B A c rl k bs) (hk : k < rl.length) : ∃ (g t : Nat), A = some ⟨g, 0, none⟩ ∧ rl[k].ticket = t ∧ 1 ≤ t ∧ t ≤ n ∧ bs[t]? = some false ∧ g < wr.heap.size ∧
    wr.cell? ⟨g, k * 2, none⟩ = some (.int .i64 t) ∧ wr.cell? ⟨g, k * 2 + 1, none⟩ = some (.int .i64 15) := by
  have hr := Reads.of_own h.own
  obtain ⟨g, cap, hv, _, hlt⟩ := h.own.form (by omega)
  have hA : A = some ⟨g, 0, none⟩ := by injection hv
  subst hA
  obtain ⟨ad, e, _, hc⟩ := hr.2 (by omega)
  obtain rfl : (⟨g, 0, none⟩ : Addr) = ad := Option.some.inj e
  have hx : rl[k]? = some rl[k] := List.getElem?_eq_getElem hk
  obtain ⟨c0, c1⟩ := resCells_at (fun _ => 15) rl k _ hx
  have hd : rl.drop k = rl[k] :: rl.drop (k + 1) := List.drop_eq_getElem_cons hk
  have hop := h.op
  rw [hd] at hop
  have hin : rl[k].ticket ∈ tks (rl[k] :: rl.drop (k + 1)) := List.mem_cons_self ..
  obtain ⟨p1, p2⟩ := hop.pos _ hin
  obtain ⟨t, ht⟩ : ∃ t : Nat, rl[k].ticket = t := ⟨rl[k].ticket.toNat, by omega⟩
  rw [ht] at p1 p2 hin c0
  have h0 := hc _ _ c0
  have h1 := hc _ _ c1
  refine ⟨g, t, rfl, ht, by omega, by omega, (hop.mem t (by omega) (by omega)).1 hin, hlt, ?_, ?_⟩
  · rw [Go.WideShapes.add_plain, Nat.zero_add] at h0; exact h0
  · rw [Go.WideShapes.add_plain, Nat.zero_add] at h1; exact h1
theorem ResR.step {w1 wr : World} {g0 n B c k t : Nat} {A : Option Addr} {rl : List Wt} {bs : List Bool} (h : ResR w1 wr g0 n B A c rl k bs) (hk : k < rl.length) (ht : rl[k].ticket = t) (o : Obj) : ResR w1 ((wr.alloc o).setCell ⟨g0, t, none⟩ (.bool true)) g0 n B A c rl (k + 1) (bs.set t true) := by
  have hd : rl.drop k = rl[k] :: rl.drop (k + 1) := List.drop_eq_getElem_cons hk
  have hop := h.op
  rw [hd] at hop
  have hg := h.gone.alloc o
  have ho := own_below h.own ((Below.refl wr.heap.size wr).alloc (Nat.le_refl _) o)
  refine ⟨hop.next ht, own_setCell ho hg (by decide) _, ?_, h.low, (h.below.alloc h.below.size o).setCell (by have := h.low; show _ ≤ g0; omega) _⟩
  have := hg.set_ t (.bool true)
  rw [List.map_set]
  simpa using this
theorem infoU8 : (Tryz.prog.info? 5).map (fun i => (i.zero, i.size, i.bytes)) = some (some (.int .u8 0), 1, 1) := by kernel_rfl
theorem infoBool : (Tryz.prog.info? 4).map (fun i => (i.zero, i.size, i.bytes)) = some (some (.bool false), 1, 1) := by kernel_rfl
set_option maxHeartbeats 4000000 in
set_option maxRecDepth 100000 in
theorem drops_any (A A2 : Option Addr) (n c n2 c2 : Nat) (zs ys : List Int) (w : World) (r1 : InB w w.heap.size A n zs) (r2 : InB w w.heap.size A2 n2 ys) :
    Calls Tryz.prog 4 #[.slice A n c, .slice A2 n2 c2] w fun e w' => e = .returned (.bool true) ∧ Below w.heap.size w w' := by
  have hmu := fun (m : Nat) (h1 : 1 * m ≤ 281474976710656) (h2 : m ≤ 9223372036854775807) => run_make_row' (P := Tryz.prog) 27 5 (.int .u8 0) 1 Tryz.underlying27 infoU8 rfl .u8 .u8 m h1 h2
  go_enter Tryz.func4, Tryz.ntmps4
  go_wp2_with (fail)
  refine (speaks25 w).mono ?_
  rintro e w1 ⟨rfl, hb1⟩
  by_cases hn : n ≤ 40
  rotate_left
  · have d1 : decide ((n : Int) > 40) = true := by simp; omega
    go_wp2_with (fail)
    refine (speaks25 w1).mono ?_
    rintro e w2 ⟨rfl, hb2⟩
    go_wp2_with (fail)
    go_ret
    exact ⟨rfl, below_then hb1 hb1.size hb2⟩
  have d1 : decide ((n : Int) > 40) = false := by simp; omega
  by_cases hn2 : n2 ≤ 40
  rotate_left
  · have d2 : decide ((n2 : Int) > 40) = true := by simp; omega
    go_wp2_with (fail)
    refine (speaks25 w1).mono ?_
    rintro e w2 ⟨rfl, hb2⟩
    go_wp2_with (fail)
    go_ret
    exact ⟨rfl, below_then hb1 hb1.size hb2⟩
  have d2 : decide ((n2 : Int) > 40) = false := by simp; omega
  go_wp2_with (fail)
  go_loopw [34] (fun i wr => ∃ (k : Nat) (js : List Wt), k ≤ n ∧ i = .int .i64 k ∧ AddR w1 wr k js) (fun i _ => n - (intOf i).toNat)
  case atStart => exact ⟨0, [], by omega, rfl, Tks.nil, fun x hx => by simp at hx, fun x hx => by simp at hx, ql_new w1, (Below.refl _ _).alloc (Nat.le_refl _) _⟩
  case round =>
    obtain ⟨k, js, hk, rfl, h⟩ := hrel
    have hsz := h.below.size
    by_cases hlt : k < n
    · have d3 : decide ((k : Int) < n) = true := by simp; omega
      obtain ⟨ad, z, rfl, hz, hz0, hz1⟩ := ((r1.below hb1).below (h.below.mono hb1.size)).at_ hlt
      obtain ⟨m, hm⟩ : ∃ m : Nat, z % 9 = m := ⟨(z % 9).toNat, by omega⟩
      have hm8 : m ≤ 8 := by omega
      have hmk := hmu m (by omega) (by omega)
      go_wp2_with (fail)
      rw [hm]
      have hB := (Below.refl w1.heap.size wr).alloc hsz (.cells (madeCells #[.int .u8 0] m) 5)
      have hql := h.ql.below ((Below.refl _ _).alloc (Nat.le_refl _) (.cells (madeCells #[.int .u8 0] m) 5))
      have hrd := reads_new wr (madeCells #[.int .u8 0] m) (wr.heap.size + 1) m (size_madeCells _ _) (by omega)
      have hone : One (madeCells #[.int .u8 0] m).toList := by
        rw [toList_madeCells_one]
        intro u hu
        rw [(List.mem_replicate.1 hu).2]; rfl
      have H := Lib.hid h
      clear h
      go_wp2_with (fail)
      refine (add_ok1 _ w1.heap.size w1.heap.size js k (k + 1) 3 0 ⟨none, 0, 0⟩ ⟨none, 0, 0⟩ ⟨some ⟨wr.heap.size, 0, none⟩, m, m⟩ 0 0 [] [] _ rfl rfl hql (by simp; omega) (by rw [H.out.tk.len]; omega) H.out.small (by omega) (by simp) (by simp) (by show m ≤ _; omega) Reads.none_ Reads.none_ (by simpa using hrd) One.nil One.nil hone).mono ?_
      rintro e w2 ⟨rfl, x, a⟩
      clear hql hrd hone hB hz
      have d4 : ((k : Int) + 1 != (k : Int) + 1) = false := by simp
      go_wp2_with (fail)
      go_roundw
      case rel => exact ⟨k + 1, pushM js x, by omega, by go_num, H.out.add (by omega) a⟩
      case measure => simp [intOf]; omega
    · obtain rfl : k = n := by omega
      have d3 : decide ((k : Int) < k) = false := by simp
      have hmb := run_make_row' (P := Tryz.prog) 36 4 (.bool false) 1 Tryz.underlying36 infoBool rfl .i64 .i64 (k + 1) (by omega) (by omega) wr
      rw [show ((k + 1 : Nat) : Int) = (k : Int) + 1 by omega] at hmb
      obtain ⟨g0, hg0⟩ : ∃ g, g = wr.heap.size := ⟨_, rfl⟩
      have hD0 : DropR w1 (wr.alloc (.cells (madeCells #[.bool false] (k + 1)) 4)) g0 k js (List.replicate (k + 1) false) :=
        ⟨OpenT.start h.tk, Nat.le_of_eq h.tk.len, h.small, h.plain, h.ql.below ((Below.refl _ _).alloc (Nat.le_refl _) _), by
          rw [hg0, List.map_replicate, ← toList_madeCells_one]
          exact Blk.new _ _ _, by obtain ⟨v, hq, _⟩ := h.ql.ex; have := hq.lt; omega, h.below.alloc hsz _⟩
      go_wp2_with (fail)
      rw [← hg0]
      go_loopw [62] (fun i wr => ∃ (k2 : Nat) (js : List Wt) (bs : List Bool), k2 ≤ n2 ∧ i = .int .i64 k2 ∧ DropR w1 wr g0 k js bs) (fun i _ => n2 - (intOf i).toNat)
      case atStart => exact ⟨0, js, _, by omega, rfl, hD0⟩
      case round =>
        clear hD0 h hg0 hmb hsz
        obtain ⟨k2, js, bs, hk2, rfl, h⟩ := hrel
        have hsz := h.below.size
        by_cases hlt2 : k2 < n2
        · have e3 : decide ((k2 : Int) < n2) = true := by simp; omega
          obtain ⟨ad, z, rfl, hz, hz0, hz1⟩ := ((r2.below hb1).below (h.below.mono hb1.size)).at_ hlt2
          have e4 : ((k : Int) + 2 == 0) = false := by rw [beq_eq_false_iff_ne]; omega
          have hmz := mod_bounds z k
          obtain ⟨t, ht⟩ : ∃ t : Nat, z % ((k : Int) + 2) = t := ⟨(z % ((k : Int) + 2)).toNat, by omega⟩
          rw [ht] at hmz
          have htk : t ≤ k + 1 := by omega
          have H := Lib.hid h
          by_cases h0 : t < 1
          · have e5 : decide ((t : Int) ≥ 1) = false := by simp; omega
            clear h
            go_wp2_with (fail)
            refine (drop_any wr w1.heap.size w1.heap.size js k t H.out.ql H.out.small (by have := H.out.cnt; omega)).mono ?_
            rintro e w3 (⟨rfl, hno, hk3, hq3⟩ | ⟨i, rfl, hi, hti, hd⟩)
            rotate_left
            · have := H.out.op.pos _ (tk_mem hi); omega
            go_wp2_with (fail)
            go_roundw
            case rel => exact ⟨k2 + 1, js, bs, by omega, by go_num, H.out.same hk3 hq3⟩
            case measure => simp [intOf]; omega
          · have e5 : decide ((t : Int) ≥ 1) = true := by simp; omega
            by_cases h1 : t ≤ k
            rotate_left
            · have e6 : decide ((t : Int) ≤ k) = false := by simp; omega
              clear h
              go_wp2_with (fail)
              refine (drop_any wr w1.heap.size w1.heap.size js k t H.out.ql H.out.small (by have := H.out.cnt; omega)).mono ?_
              rintro e w3 (⟨rfl, hno, hk3, hq3⟩ | ⟨i, rfl, hi, hti, hd⟩)
              rotate_left
              · have := H.out.op.pos _ (tk_mem hi); omega
              go_wp2_with (fail)
              go_roundw
              case rel => exact ⟨k2 + 1, js, bs, by omega, by go_num, H.out.same hk3 hq3⟩
              case measure => simp [intOf]; omega
            have e6 : decide ((t : Int) ≤ k) = true := by simp; omega
            have hg : ∃ b, bs[t]? = some b ∧ wr.cell? ⟨g0, t, none⟩ = some (.bool b) := by
              have hl := h.op.len
              refine ⟨bs[t], List.getElem?_eq_getElem (by omega), ?_⟩
              rw [h.gone.cell t]
              simp [show t < bs.length by omega]
            obtain ⟨b, hb, hc⟩ := hg
            have hm := h.op.mem t (by omega) h1
            rw [hb] at hm
            clear h
            go_wp2_with (fail)
            refine (drop_any wr w1.heap.size w1.heap.size js k t H.out.ql H.out.small (by have := H.out.cnt; omega)).mono ?_
            rintro e w3 (⟨rfl, hno, hk3, hq3⟩ | ⟨i, rfl, hi, hti, hd⟩)
            · obtain rfl : b = true := by
                cases b with
                | true => rfl
                | false =>
                  obtain ⟨x, hx, hxt⟩ := List.mem_map.1 (hm.2 rfl)
                  exact absurd hxt (hno x hx)
              go_wp2_with (fail)
              go_roundw
              case rel => exact ⟨k2 + 1, js, bs, by omega, by go_num, H.out.same hk3 hq3⟩
              case measure => simp [intOf]; omega
            · obtain rfl : b = false := Option.some.inj (hm.1 (hti ▸ tk_mem hi))
              have hc3 := (kept_blk H.out.gone (by decide) (by have := H.out.low; omega) hd.kept).cell t
              have hf3 := (kept_blk H.out.gone (by decide) (by have := H.out.low; omega) hd.kept).frozen t
              go_wp2_with (fail)
              go_roundw
              case rel => exact ⟨k2 + 1, _, _, by omega, by go_num, H.out.drop hi hti hd⟩
              case measure => simp [intOf]; omega
        · obtain rfl : k2 = n2 := by omega
          have e3 : decide ((k2 : Int) < k2) = false := by simp
          have H := Lib.hid h
          clear h hlt2 hk2
          go_wp2_with (fail)
          refine (qlen_any wr w1.heap.size w1.heap.size js k H.out.ql).mono ?_
          rintro e w5 ⟨rfl, rfl⟩
          go_wp2_with (fail)
          refine (run_any wr w1.heap.size w1.heap.size js k (fun _ => 15) H.out.ql (by have := H.out.cnt; omega) H.out.small hsz (fun x hx W _ => ver_sum x (H.out.plain x hx).1 (by rw [(H.out.plain x hx).2]; omega) (by rw [(H.out.plain x hx).2]; omega) W trivial)).mono ?_
          rintro e w6 ⟨v, rfl, hown, hk6, hq6⟩
          obtain ⟨RA, rc, rfl⟩ := own_form hown
          have hp := runL_perm js.length js rfl
          have hlen : js.length = (runL js).length := hp.length_eq.symm
          have HL := Lib.hid hlen
          have hrl : (runL js).length ≤ k := by have := H.out.cnt; omega
          rw [hlen] at hown
          have h0 : ResR w1 w6 g0 k wr.heap.size RA rc (runL js) 0 bs := ⟨by rw [List.drop_zero]; exact H.out.op.perm hp, hown, kept_blk H.out.gone (by decide) (by have := H.out.low; omega) hk6, H.out.low, below_kept H.out.below H.out.below.size (Nat.le_refl _) hk6⟩
          clear hown hlen hp hk6 hq6
          rw [HL.out]
          clear HL H
          generalize runL js = rl at *
          obtain ⟨B0, hB0⟩ : ∃ B0, B0 = wr.heap.size := ⟨_, rfl⟩
          rw [← hB0] at h0
          clear hB0
          go_wp2_with (fail)
          go_loopw [15, 99] (fun l i wr => ∃ (k3 : Nat) (bs : List Bool), k3 ≤ rl.length ∧ l = .int .i64 ((rl.length : Int) - k3) ∧ i = .int .i64 k3 ∧ ResR w1 wr g0 k B0 RA rc rl k3 bs) (fun _ i _ => rl.length - (intOf i).toNat)
          case atStart => exact ⟨0, bs, by omega, by simp, rfl, h0⟩
          case round =>
            clear h0
            obtain ⟨k3, bs, hk3, rfl, rfl, h⟩ := hrel
            have hsz3 := h.below.size
            by_cases hlt3 : k3 < rl.length
            · have e5 : decide ((k3 : Int) < rl.length) = true := by simp; omega
              obtain ⟨g, t, rfl, htk, ht1, htn, hbt, hgl, hc0, hc1⟩ := h.at_ hlt3
              have e6 : decide ((t : Int) < 1) = false := by simp; omega
              have e7 : decide ((t : Int) > k) = false := by simp; omega
              have e8 : ((15 : Int) != 15) = false := by decide
              have hg := (h.gone.alloc (.cells #[.int .i64 t, .int .i64 15] 40)).cell t
              have hf := (h.gone.alloc (.cells #[.int .i64 t, .int .i64 15] 40)).frozen t
              rw [show (bs.map Value.bool).toArray[t]? = some (.bool false) by simp [hbt]] at hg
              have H := Lib.hid h
              clear h
              go_wp2_with (fail)
              go_roundw
              case rel => exact ⟨k3 + 1, _, by omega, by go_num, by go_num, H.out.step hlt3 htk _⟩
              case measure => simp [intOf]; omega
            · obtain rfl : k3 = rl.length := by omega
              have e5 : decide ((rl.length : Int) < rl.length) = false := by simp
              have hop := h.op
              rw [List.drop_length] at hop
              have hall := hop.all
              have hG : Blk wr g0 4 (bs.map Value.bool).toArray := h.gone
              have hbel := h.below
              have hb := below_then hb1 hb1.size hbel
              clear h hlt3 hop
              go_wp2_with (fail)
              go_loopw [18] (fun i wr => ∃ (t : Nat), 1 ≤ t ∧ t ≤ k + 1 ∧ i = .int .i64 t ∧ Blk wr g0 4 (bs.map Value.bool).toArray ∧ Below w.heap.size w wr) (fun i _ => k + 1 - (intOf i).toNat)
              case atStart => exact ⟨1, by omega, by omega, rfl, hG, hb⟩
              case round =>
                clear hb hG hbel
                obtain ⟨t, ht1, htk, rfl, hG, hb⟩ := hrel
                by_cases hlt4 : t ≤ k
                · have e6 : decide ((t : Int) ≤ k) = true := by simp; omega
                  have hc := hG.cell t
                  rw [show (bs.map Value.bool).toArray[t]? = some (.bool true) by simp [hall t ht1 hlt4]] at hc
                  go_wp2_with (fail)
                  go_roundw
                  case rel => exact ⟨t + 1, by omega, by omega, by go_num, hG, hb⟩
                  case measure => simp [intOf]; omega
                · have e6 : decide ((t : Int) ≤ k) = false := by simp; omega
                  have e7 : ((rl.length : Int) - rl.length == 0) = true := by simp
                  go_wp2_with (fail)
                  go_ret
                  exact ⟨rfl, hb⟩
end Go.Proofs.YtblljhdebfnmoaaGreatDoor
