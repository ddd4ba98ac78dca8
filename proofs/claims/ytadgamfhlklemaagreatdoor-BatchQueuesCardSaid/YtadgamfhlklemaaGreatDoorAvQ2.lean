/- BatchQueues: what holds between two acts; how an argument of acts lies. -/
import Derived.Test.YtadgamfhlklemaaGreatDoorAvP5
import Derived.Test.YtadgamfhlklemaaGreatDoorAvI0
import Derived.Test.YtadgamfhlklemaaGreatDoorAvH2
import Derived.Test.YtadgamfhlklemaaGreatDoorAvH6
import Derived.Test.YtadgamfhlklemaaGreatDoorAvH8
import Derived.Test.YtadgamfhlklemaaGreatDoorAvK2
import Derived.Test.YtadgamfhlklemaaGreatDoorAvQ1
import Derived.Test.YtadgamfhlklemaaGreatDoorAvD1
import Derived.Laws.StructEq
namespace Go.Proofs.YtadgamfhlklemaaGreatDoor
open Go.RowKit
/-- An act as it lies: nine cells. -/
structure ActD where
  act : Int
  n : Int
  k : Int
  b : Int
  s : Sl
  m : Sl
  p : Sl
  r : Int
  d : Int
  deriving Inhabited
abbrev ActD.cells (x : ActD) : List Value := [.int .i64 x.act, .int .i64 x.n, .int .i64 x.k, .int .i64 x.b, x.s.v, x.m.v, x.p.v, .int .i64 x.r, .int .i64 x.d]
def BytesIn (w : World) (s : Sl) : Prop := ∃ zs, InB w w.heap.size s.a s.n zs
structure InA (w : World) (A : Option Addr) (n : Nat) (xs : List ActD) : Prop where
  len : xs.length = n
  at_ : ∀ i (h : i < xs.length), ∃ ad : Addr, A = some ad ∧ ad.block < w.heap.size ∧ (∀ j u, xs[i].cells[j]? = some u → w.cell? (ad.add (i * 9 + j)) = some u) ∧ BytesIn w xs[i].s ∧ BytesIn w xs[i].m ∧ BytesIn w xs[i].p
theorem BytesIn.below {w w' : World} {s : Sl} (h : BytesIn w s) (hb : Below w.heap.size w w') : BytesIn w' s := by
  obtain ⟨zs, h⟩ := h
  exact ⟨zs, (h.rd.below hb).more hb.size, h.ok⟩
theorem InA.below {w w' : World} {A : Option Addr} {n : Nat} {xs : List ActD} (h : InA w A n xs) (hb : Below w.heap.size w w') : InA w' A n xs :=
  ⟨h.len, fun i hi => by
    obtain ⟨ad, hA, hlt, hc, h1, h2, h3⟩ := h.at_ i hi
    refine ⟨ad, hA, Nat.lt_of_lt_of_le hlt hb.size, fun j u hu => ?_, h1.below hb, h2.below hb, h3.below hb⟩
    rw [hb.cell (by rw [block_of_add]; exact hlt)]
    exact hc j u hu⟩
/-- The two queues as they lie. -/
structure QS (w wr : World) (A : Option Addr) (c : Nat) (js ms : List Wt) (lq lm : Int) : Prop where
  ql : QL wr w.heap.size w.heap.size js lq
  mb : Blk wr (w.heap.size + 1) 30 #[.slice A ms.length c, .int .i64 lm]
  own : wr.ownsRow w.heap.size 53 8 (.slice A ms.length c) ms.length (flat ms)
  below : Below w.heap.size w wr
section
variable {w wr w' : World} {A : Option Addr} {c : Nat} {js ms : List Wt} {lq lm : Int}
theorem QS.down (h : QS w wr A c js ms lq lm) (hb : Below wr.heap.size wr w') : QS w w' A c js ms lq lm :=
  ⟨h.ql.below hb, h.mb.below hb h.mb.lt, own_below h.own hb, below_then h.below h.below.size hb⟩
theorem QS.kept {js' : List Wt} {lq' : Int} (h : QS w wr A c js ms lq lm) (hk : Kept w.heap.size w.heap.size wr w') (hq : QL w' w.heap.size w.heap.size js' lq') : QS w w' A c js' ms lq' lm :=
  ⟨hq, kept_blk h.mb (by decide) (by omega) hk, Kept.ownE (by decide) (by decide) h.own hk h.ql, below_kept h.below h.below.size (Nat.le_refl _) hk⟩
theorem QS.other {g : Nat} {t : TypeId} {cs : Array Value} (h : QS w wr A c js ms lq lm) (hb : Blk wr g t cs) (hg : w.heap.size ≤ g) (h1 : t ≠ 27) (h2 : t ≠ 65) (h3 : t ≠ 30) (h4 : t ≠ 53) (o : Nat) (u : Value) : QS w (wr.setCell ⟨g, o, none⟩ u) A c js ms lq lm :=
  ⟨h.ql.setOther hb h1 h2 o u, h.mb.far (p := ⟨g, o, none⟩) (h.mb.ne_ hb (Ne.symm h3)) u, own_setCell h.own hb (Ne.symm h4) u, h.below.setCell hg u⟩
theorem QS.store {A' : Option Addr} {c' : Nat} {ms' : List Wt} {lm' : Int} (h : QS w wr A c js ms lq lm) (ho : wr.ownsRow w.heap.size 53 8 (.slice A' ms'.length c') ms'.length (flat ms')) :
    QS w ((wr.setCell ⟨w.heap.size + 1, 0, none⟩ (.slice A' ms'.length c')).setCell ⟨w.heap.size + 1, 1, none⟩ (.int .i64 lm')) A' c' js ms' lq lm' := by
  have hb1 := h.mb.set_ 0 (.slice A' ms'.length c')
  refine ⟨(h.ql.setOther h.mb (by decide) (by decide) _ _).setOther hb1 (by decide) (by decide) _ _, ?_, own_setCell (own_setCell ho h.mb (by decide) _) hb1 (by decide) _, (h.below.setCell (p := ⟨w.heap.size + 1, 0, none⟩) (by show _ ≤ w.heap.size + 1; omega) _).setCell (p := ⟨w.heap.size + 1, 1, none⟩) (by show _ ≤ w.heap.size + 1; omega) _⟩
  exact hb1.set_ 1 (.int .i64 lm')
end
/-- What holds between two acts. -/
structure QR (w wr : World) (A : Option Addr) (c : Nat) (js ms : List Wt) (last : Int) (k : Nat) : Prop where
  qm : QM js ms last
  qs : QS w wr A c js ms last last
  wf : ∀ x ∈ js, WfS x.pf
  l0 : 0 ≤ last
  l1 : last ≤ k
  len : ms.length ≤ k
section
variable {w wr w' : World} {A : Option Addr} {c : Nat} {js ms : List Wt} {last : Int} {k : Nat}
theorem QR.down (h : QR w wr A c js ms last k) (hb : Below wr.heap.size wr w') : QR w w' A c js ms last k := ⟨h.qm, h.qs.down hb, h.wf, h.l0, h.l1, h.len⟩
theorem QR.more (h : QR w wr A c js ms last k) : QR w wr A c js ms last (k + 1) := ⟨h.qm, h.qs, h.wf, h.l0, by have := h.l1; omega, by have := h.len; omega⟩
theorem QR.code (h : QR w wr A c js ms last k) (hj : 0 < js.length) : VerIs (fun _ => True) (gt js 0) (codeC (gt js 0).kind (gt js 0).backend (gt js 0).rounds (gt js 0).degree) := by
  have ho := h.qm.okj (gt_mem hj)
  exact ver_cheap _ ho.k1 ho.k3 (by unfold cheapC; exact ho.cheap) (h.wf _ (gt_mem hj))
end
theorem WfS.of_own {w : World} {base n c : Nat} {A : Option Addr} {xs : List Value} {e : TypeId} (h : w.ownsRow base e 1 (.slice A n c) n xs) : WfS ⟨A, n, c⟩ := by
  rcases h.2 with ⟨h1, _⟩ | ⟨g, cap, cur, h1, _, _, h2, _⟩
  · injection h1 with h1 h2 h3
    subst h1 h2 h3
    exact ⟨Nat.le_refl _, fun h => absurd rfl h⟩
  · injection h1 with h1 _ h3
    subst h1 h3
    exact ⟨h2, fun _ => ⟨_, rfl⟩⟩
theorem qstart (w : World) : QS w ((w.alloc (.cells #[.slice none 0 0, .int .i64 0] 27)).alloc (.cells #[.slice none 0 0, .int .i64 0] 30)) none 0 [] [] 0 0 := by
  refine ⟨(ql_new w).below ((Below.refl _ _).alloc (Nat.le_refl _) _), ?_, World.ownsRow_nil _ _ _ _, ((Below.refl _ _).alloc (Nat.le_refl _) _).alloc (by simp) _⟩
  have := Blk.new (w.alloc (.cells #[.slice none 0 0, .int .i64 0] 27)) 30 #[.slice none 0 0, .int .i64 0]
  simpa using this
/-- The act's nine cells. -/
theorem act_cell {W : World} {g : Nat} {t0 : TypeId} {x : ActD} (hb : Blk W g t0 #[.int .i64 x.act, .int .i64 x.n, .int .i64 x.k, .int .i64 x.b, x.s.v, x.m.v, x.p.v, .int .i64 x.r, .int .i64 x.d]) :
    W.cell? ⟨g, 0, none⟩ = some (.int .i64 x.act) ∧ W.cell? ⟨g, 1, none⟩ = some (.int .i64 x.n) ∧ W.cell? ⟨g, 2, none⟩ = some (.int .i64 x.k) ∧ W.cell? ⟨g, 3, none⟩ = some (.int .i64 x.b) ∧ W.cell? ⟨g, 4, none⟩ = some x.s.v ∧ W.cell? ⟨g, 5, none⟩ = some x.m.v ∧ W.cell? ⟨g, 6, none⟩ = some x.p.v ∧ W.cell? ⟨g, 7, none⟩ = some (.int .i64 x.r) ∧ W.cell? ⟨g, 8, none⟩ = some (.int .i64 x.d) :=
  ⟨hb.cell 0, hb.cell 1, hb.cell 2, hb.cell 3, hb.cell 4, hb.cell 5, hb.cell 6, hb.cell 7, hb.cell 8⟩
theorem add_next (ad : Addr) (m j : Nat) (hj : 0 < j) : ad.add (m + j) = ⟨(ad.add m).block, (ad.add m).off + j, none⟩ := by
  unfold Addr.add
  by_cases hm : m = 0
  · subst hm
    rw [if_neg (by omega), if_pos rfl, Nat.zero_add]
  · rw [if_neg (by omega), if_neg hm, Nat.add_assoc]
theorem arg_cell {W : World} {ad : Addr} {x : ActD} {i : Nat} (hc : ∀ j u, x.cells[j]? = some u → W.cell? (ad.add (i * 9 + j)) = some u) :
    W.cell? (ad.add (i * 9)) = some (.int .i64 x.act) ∧ W.cell? ⟨(ad.add (i * 9)).block, (ad.add (i * 9)).off + 1, none⟩ = some (.int .i64 x.n) ∧ W.cell? ⟨(ad.add (i * 9)).block, (ad.add (i * 9)).off + 2, none⟩ = some (.int .i64 x.k) ∧ W.cell? ⟨(ad.add (i * 9)).block, (ad.add (i * 9)).off + 3, none⟩ = some (.int .i64 x.b) ∧ W.cell? ⟨(ad.add (i * 9)).block, (ad.add (i * 9)).off + 4, none⟩ = some (x.s.v) ∧ W.cell? ⟨(ad.add (i * 9)).block, (ad.add (i * 9)).off + 5, none⟩ = some (x.m.v) ∧ W.cell? ⟨(ad.add (i * 9)).block, (ad.add (i * 9)).off + 6, none⟩ = some (x.p.v) ∧ W.cell? ⟨(ad.add (i * 9)).block, (ad.add (i * 9)).off + 7, none⟩ = some (.int .i64 x.r) ∧ W.cell? ⟨(ad.add (i * 9)).block, (ad.add (i * 9)).off + 8, none⟩ = some (.int .i64 x.d) :=
  ⟨hc 0 _ rfl, by rw [← add_next ad (i * 9) 1 (by omega)]; exact hc 1 _ rfl, by rw [← add_next ad (i * 9) 2 (by omega)]; exact hc 2 _ rfl, by rw [← add_next ad (i * 9) 3 (by omega)]; exact hc 3 _ rfl, by rw [← add_next ad (i * 9) 4 (by omega)]; exact hc 4 _ rfl, by rw [← add_next ad (i * 9) 5 (by omega)]; exact hc 5 _ rfl, by rw [← add_next ad (i * 9) 6 (by omega)]; exact hc 6 _ rfl, by rw [← add_next ad (i * 9) 7 (by omega)]; exact hc 7 _ rfl, by rw [← add_next ad (i * 9) 8 (by omega)]; exact hc 8 _ rfl⟩
theorem quiet_left {P : Program} {f : FuncId} {args : Array Value} {w : World} {n : Nat} {v : Value}
    (h : Calls P f args (w.drewN n) fun e w' => e = .returned v ∧ w.drewN n = w') : Calls P f args (w.drewN n) fun e w' => e = .returned v ∧ ∃ m, w' = w.drewN m :=
  h.mono fun _ _ ⟨he, hm⟩ => ⟨he, n, hm.symm⟩
theorem QL.drewN {w : World} {base q : Nat} {js : List Wt} {last : Int} (h : QL w base q js last) (n : Nat) : QL (w.drewN n) base q js last := h.below (below_drewN (Below.refl _ _) n)
theorem QR.drewN {w wr : World} {A : Option Addr} {c : Nat} {js ms : List Wt} {last : Int} {k : Nat} (h : QR w wr A c js ms last k) (n : Nat) : QR w (wr.drewN n) A c js ms last k := h.down (below_drewN (Below.refl _ _) n)
theorem QS.store' {w wr : World} {A A' : Option Addr} {c c' n : Nat} {js ms ms' : List Wt} {lq lm lm' : Int} (h : QS w wr A c js ms lq lm) (hn : n = ms'.length) (ho : wr.ownsRow w.heap.size 53 8 (.slice A' n c') n (flat ms')) :
    QS w ((wr.setCell ⟨w.heap.size + 1, 0, none⟩ (.slice A' n c')).setCell ⟨w.heap.size + 1, 1, none⟩ (.int .i64 lm')) A' c' js ms' lq lm' := by
  subst hn
  exact h.store ho
theorem cut_length (ms : List Wt) (i : Nat) (hi : i < ms.length) : (ms.take i ++ ms.drop (i + 1)).length = ms.length - 1 := by
  rw [List.length_append, List.length_take, List.length_drop]; omega
/-- A job was taken from both. -/
theorem QR.taken {w wr w3 w5 : World} {A A' : Option Addr} {c c' k i j : Nat} {js ms : List Wt} {last : Int} (h : QR w wr A c js ms last k) (hi : i < js.length) (hj : j < ms.length) (e : KeyE (gt js i) ms[j])
    (hs : QS w w3 A c ((takeM js i (js.length - 1)).take (js.length - 1)) ms last last) (hb : Below w3.heap.size w3 w5) (ho : w5.ownsRow w3.heap.size 53 8 (.slice A' (ms.length - 1) c') (ms.length - 1) (flat (ms.take j ++ ms.drop (j + 1)))) :
    QR w ((w5.setCell ⟨w.heap.size + 1, 0, none⟩ (.slice A' (ms.length - 1) c')).setCell ⟨w.heap.size + 1, 1, none⟩ (.int .i64 last)) A' c' ((takeM js i (js.length - 1)).take (js.length - 1)) (ms.take j ++ ms.drop (j + 1)) last k :=
  ⟨h.qm.take hi hj e, (hs.down hb).store' (cut_length ms j hj).symm (own_base_le ho hs.below.size), fun x hx => h.wf x (left_sub js i (js.length - 1) (by omega) hi x hx), h.l0, h.l1, by rw [cut_length ms j hj]; have := h.len; omega⟩
set_option maxRecDepth 100000 in
theorem neq_res (t c : Int) (W : World) : (binOp .neq 49 (.agg #[.int .i64 t, .int .i64 c]) (.agg #[.int .i64 t, .int .i64 c])).run Tryz.prog W = .ok (.bool false) W := by
  rw [run_neq_struct, run_equalIn_agg W 9999 _ _ _ (by kernel_rfl) (by kernel_rfl)]
  simp only [Program.fieldsOf, Tryz.underlying49]
  simp [go_sem, part]
set_option maxRecDepth 100000 in
theorem neqg_res (x y : Operand) (a b : Array Value) (W : World) : (eqGuard .neq 49 x y (.agg a) (.agg b)).run Tryz.prog W = .ok () W := by kernel_rfl
theorem res_cell {W : World} {g : Nat} {t : TypeId} {a b : Value} (h : Blk W g t #[a, b]) : W.cell? ⟨g, 0, none⟩ = some a ∧ W.cell? ⟨g, 1, none⟩ = some b := ⟨h.cell 0, h.cell 1⟩
/-- What verifying a job comes to. -/
def wcode (x : Wt) : Int := codeC x.kind x.backend x.rounds x.degree
theorem KeyE.code {x y : Wt} (h : KeyE x y) : wcode x = wcode y := by simp only [wcode, h.kind, h.backend, h.rounds, h.degree]
theorem keep_next {W W' : World} {gb gm gr i : Nat} {T C : Int} {tb tm : TypeId} {v l : Value} {x : Wt} (hr : Blk W gb tb #[.int .i64 T, .int .i64 C]) (hm : Blk W gm tm #[v, l]) (ha : At W gr (i * 8) x) (hb : Below W.heap.size W W') :
    Below W.heap.size W W' ∧ (W'.cell? ⟨gb, 0, none⟩ = some (.int .i64 T) ∧ W'.cell? ⟨gb, 1, none⟩ = some (.int .i64 C)) ∧ W'.cell? ⟨gm, 0, none⟩ = some v ∧ W'.cell? ⟨gr, i * 8, none⟩ = some (.int .i64 x.kind) ∧ W'.cell? ⟨gr, i * 8 + 1, none⟩ = some (.int .i64 x.backend) ∧ W'.cell? ⟨gr, i * 8 + 2, none⟩ = some x.st.v ∧ W'.cell? ⟨gr, i * 8 + 3, none⟩ = some x.ms.v ∧ W'.cell? ⟨gr, i * 8 + 4, none⟩ = some x.pf.v ∧ W'.cell? ⟨gr, i * 8 + 5, none⟩ = some (.int .i64 x.rounds) ∧ W'.cell? ⟨gr, i * 8 + 6, none⟩ = some (.int .i64 x.degree) ∧ W'.cell? ⟨gr, i * 8 + 7, none⟩ = some (.int .i64 x.ticket) := by
  have hlt := World.block_lt_of_cell? _ _ ha.c0
  have ha' := ha.cell_same (hb.block gr hlt)
  exact ⟨hb, res_cell (hr.below hb hr.lt), (hm.below hb hm.lt).cell 0, ha'.c0, ha'.c1, ha'.c2, ha'.c3, ha'.c4, ha'.c5, ha'.c6, ha'.c7⟩
theorem rver_w (w : World) (y : Wt) (h : OKj y) : Calls Tryz.prog 14 #[.agg #[.int .i64 y.kind, .int .i64 y.backend, y.st.v, y.ms.v, y.pf.v, .int .i64 y.rounds, .int .i64 y.degree]] w fun e w' => e = .returned (.int .i64 (wcode y)) ∧ Below w.heap.size w w' :=
  rver_any w y.kind y.backend y.rounds y.degree y.st y.ms y.pf h.k1 h.k3 h.cheap
theorem first_pick {js ms : List Wt} {last r : Int} (hf : rfirstP ms ms.length r) (hq : QM js ms last) (hj : 0 < js.length) : ∃ i : Nat, r = i ∧ ∃ h : i < ms.length, KeyE (gt js 0) ms[i] := by
  rcases hf with ⟨_, h⟩ | ⟨i, hr, hi, _, h1, h2⟩
  · have := hq.len; omega
  · exact ⟨i, hr, hi, hq.first hi h1 h2⟩
theorem QS.two {w wr : World} {A : Option Addr} {c : Nat} {js ms : List Wt} {lq lm : Int} (h : QS w wr A c js ms lq lm) : wr.cell? ⟨w.heap.size + 1, 0, none⟩ = some (.slice A ms.length c) ∧ wr.cell? ⟨w.heap.size + 1, 1, none⟩ = some (.int .i64 lm) ∧ wr.frozen? ⟨w.heap.size + 1, 0, none⟩ = false ∧ wr.frozen? ⟨w.heap.size + 1, 1, none⟩ = false :=
  ⟨h.mb.cell 0, h.mb.cell 1, h.mb.frozen 0, h.mb.frozen 1⟩
/-- A job was taken from both, whatever came between. -/
theorem QR.taken' {w wr w6 w7 w8 : World} {A A' : Option Addr} {c c' k j : Nat} {js ms : List Wt} {last : Int} (h : QR w wr A c js ms last k) (hi : 0 < js.length) (hj : j < ms.length) (e : KeyE (gt js 0) ms[j])
    (hs : QS w w6 A c ((takeM js 0 (js.length - 1)).take (js.length - 1)) ms last last) (hb7 : Below w6.heap.size w6 w7) (hb8 : Below w7.heap.size w7 w8) (ho : w8.ownsRow w7.heap.size 53 8 (.slice A' (ms.length - 1) c') (ms.length - 1) (flat (ms.take j ++ ms.drop (j + 1)))) :
    QR w ((w8.setCell ⟨w.heap.size + 1, 0, none⟩ (.slice A' (ms.length - 1) c')).setCell ⟨w.heap.size + 1, 1, none⟩ (.int .i64 last)) A' c' ((takeM js 0 (js.length - 1)).take (js.length - 1)) (ms.take j ++ ms.drop (j + 1)) last k :=
  h.taken hi hj e (hs.down hb7) hb8 ho
end Go.Proofs.YtadgamfhlklemaaGreatDoor
