/- BatchQueues: both Adds, whatever the kind; the bytes that are changed behind them. -/
import Derived.Test.YtadgamfhlklemaaGreatDoorAvQ2
namespace Go.Proofs.YtadgamfhlklemaaGreatDoor
open Go.RowKit
def valid (k : Int) : Bool := decide (1 ≤ k) && decide (k ≤ 3)
def tkI (k last : Int) : Int := bif valid k then last + 1 else 0
def erI (k : Int) : Int := bif valid k then 0 else 5
def lsI (k last : Int) : Int := bif valid k then last + 1 else last
def growM (k : Int) (ms : List Wt) (y : Wt) : List Wt := bif valid k then ms ++ [y] else ms
def growJ (k : Int) (js : List Wt) (x : Wt) : List Wt := bif valid k then pushM js x else js
theorem valid_yes {k : Int} (h : valid k = true) : 1 ≤ k ∧ k ≤ 3 := by simpa [valid] using h
theorem valid_no {k : Int} (h : valid k = false) : k < 1 ∨ 3 < k := by simp [valid] at h; omega
theorem valid_vf (k : Int) : vfIs k = valid k := by
  rw [Bool.eq_iff_iff]
  simp [vfIs, valid]
  omega
theorem radd_w (w1 W : World) (A : Option Addr) (c : Nat) (ms : List Wt) (last k b r d : Int) (s m p : Sl) (hB : w1.heap.size ≤ W.heap.size) (hown : W.ownsRow w1.heap.size 53 8 (.slice A ms.length c) ms.length (flat ms)) (hn : ms.length < 1000) (hl0 : 0 ≤ last) (hl1 : last ≤ 1000) :
    Calls Tryz.prog 7 #[.agg #[.slice A ms.length c, .int .i64 last], .agg #[.int .i64 k, .int .i64 b, s.v, m.v, p.v, .int .i64 r, .int .i64 d]] W fun e w' => ∃ A' c' n', e = .returned (.tuple #[.agg #[.slice A' n' c', .int .i64 (lsI k last)], .int .i64 (tkI k last), .int .i64 (erI k)]) ∧ n' = (growM k ms ⟨k, b, s, m, p, r, d, last + 1⟩).length ∧ w'.ownsRow w1.heap.size 53 8 (.slice A' n' c') n' (flat (growM k ms ⟨k, b, s, m, p, r, d, last + 1⟩)) ∧ Below W.heap.size W w' := by
  cases hv : valid k
  · refine (radd_kind W (.slice A ms.length c) last k b r d s m p (valid_no hv) A ms.length c rfl).mono ?_
    rintro e w' ⟨rfl, hb⟩
    simp only [lsI, tkI, erI, growM, hv, cond_false]
    exact ⟨A, c, _, rfl, rfl, own_below hown hb, hb⟩
  · obtain ⟨h1, h3⟩ := valid_yes hv
    refine (radd_ok W w1.heap.size (.slice A ms.length c) ms last k b r d s m p h1 h3 hown hn hl0 (by omega)).mono ?_
    rintro e w' ⟨v', rfl, ho, hb⟩
    obtain ⟨A', c', rfl⟩ := own_form ho
    simp only [lsI, tkI, erI, growM, hv, cond_true]
    exact ⟨A', c', _, rfl, by simp, own_base_le ho hB, hb⟩
structure QAdd (W w' : World) (base : Nat) (js : List Wt) (last k b : Int) (s m p : Sl) (r d : Int) (x : Wt) : Prop where
  e : KeyE x ⟨k, b, s, m, p, r, d, last + 1⟩
  wf : WfS x.pf
  kept : Kept base base W w'
  ql : QL w' base base (growJ k js x) (lsI k last)
theorem ql_grow {W : World} {base : Nat} {js : List Wt} {last k : Int} {x : Wt} (hv : valid k = false) (h : QL W base base js last) : QL W base base (growJ k js x) (lsI k last) := by
  simp only [growJ, lsI, hv, cond_false]; exact h
theorem qadd_w (W : World) (base : Nat) (js : List Wt) (last k b : Int) (s m p : Sl) (r d : Int) (xs ys zs : List Value) (hl : QL W base base js last) (hbase : base ≤ W.heap.size) (hn : js.length < 1000) (hs : AllSmall js) (hlast : 0 ≤ last ∧ last ≤ 1000)
    (h1 : s.n ≤ 2000) (h2 : m.n ≤ 2000) (h3 : p.n ≤ 2000) (hwf : WfS p)
    (r1 : Reads W W.heap.size 1 s.a s.n xs) (r2 : Reads W W.heap.size 1 m.a m.n ys) (r3 : Reads W W.heap.size 1 p.a p.n zs) (l1 : One xs) (l2 : One ys) (l3 : One zs) :
    Calls Tryz.prog 8 #[.pointer (some ⟨base, 0, none⟩), .agg #[.int .i64 k, .int .i64 b, s.v, m.v, p.v, .int .i64 r, .int .i64 d]] W fun e w' => e = .returned (.tuple #[.int .i64 (tkI k last), .int .i64 (erI k)]) ∧ ∃ x, QAdd W w' base js last k b s m p r d x := by
  cases hv : valid k
  · refine (add_kind W base k b s m p r d (by rw [valid_vf, hv])).mono ?_
    rintro e w' ⟨rfl, hb⟩
    refine ⟨by simp only [tkI, erI, hv, cond_false], ⟨k, b, s, m, p, r, d, last + 1⟩, ⟨rfl, rfl, rfl, rfl, rfl, rfl, rfl, rfl⟩, hwf, Kept.of_below hb, ql_grow hv (hl.below hb)⟩
  · refine (add_ok W base base js last k b s m p r d xs ys zs (by rw [valid_vf, hv]) hl hbase hn hs ⟨hlast.1, by omega⟩ (by omega) (by omega) (by omega) r1 r2 r3 l1 l2 l3).mono ?_
    rintro e w' ⟨rfl, s', m', p', ha⟩
    refine ⟨by simp only [tkI, erI, hv, cond_true], ⟨k, b, s', m', p', r, d, last + 1⟩, ⟨rfl, rfl, ha.n1, ha.n2, ha.n3, rfl, rfl, rfl⟩, WfS.of_own ha.o3, ha.kept, ?_⟩
    simp only [growJ, lsI, hv, cond_true]
    exact ha.ql
theorem QR.grow {w wr w' : World} {A A' : Option Addr} {c c' k : Nat} {js ms : List Wt} {last : Int} {kd b r d : Int} {s m p : Sl} {x : Wt} (h : QR w wr A c js ms last k) (hc : cheapB kd b s m p = true) (e : KeyE x ⟨kd, b, s, m, p, r, d, last + 1⟩) (hw : WfS x.pf)
    (hq : QS w w' A' c' (growJ kd js x) (growM kd ms ⟨kd, b, s, m, p, r, d, last + 1⟩) (lsI kd last) (lsI kd last)) :
    QR w w' A' c' (growJ kd js x) (growM kd ms ⟨kd, b, s, m, p, r, d, last + 1⟩) (lsI kd last) (k + 1) := by
  have hl0 := h.l0
  have hl1 := h.l1
  have hln := h.len
  cases hv : valid kd
  · simp only [growJ, growM, lsI, hv, cond_false] at hq ⊢
    exact (QR.mk h.qm hq h.wf hl0 hl1 hln).more
  · simp only [growJ, growM, lsI, hv, cond_true] at hq ⊢
    obtain ⟨h1, h3⟩ := valid_yes hv
    have hch := cheapC_of hc h1 h3
    simp only [cheapB, smallB, Bool.and_eq_true, decide_eq_true_eq] at hc
    refine ⟨h.qm.push e rfl hl0 ⟨h1, h3, hch, by dsimp only; omega, by dsimp only; omega, by dsimp only; omega⟩, hq, fun z hz => ?_, by omega, by omega, by simp; omega⟩
    have hz' := (pushM_perm js x).mem_iff.1 hz
    rcases List.mem_append.1 hz' with hz' | hz'
    · exact h.wf z hz'
    · rw [List.mem_singleton.1 hz']; exact hw
/-- What holds while the caller's bytes are changed. -/
structure QB (w wr : World) (A : Option Addr) (c : Nat) (js ms : List Wt) (last : Int) (k : Nat) (gj : Nat) (cs : Array Value) (P : Sl) : Prop where
  qr : QR w wr A c js ms last k
  job : Blk wr gj 37 cs
  byt : 0 < P.n → ∃ (g : Nat) (bs : Array Value), P.a = some ⟨g, 0, none⟩ ∧ w.heap.size ≤ g ∧ Blk wr g 5 bs ∧ ∀ j, j < P.n → ∃ z : Int, bs[j]? = some (.int .u8 z)
theorem bytes_blk {w : World} {base n c : Nat} {A : Option Addr} {zs : List Int} (h : w.ownsRow base 5 1 (.slice A n c) n (zs.map fun z => .int .u8 z)) (hn : 0 < n) :
    ∃ (g : Nat) (bs : Array Value), A = some ⟨g, 0, none⟩ ∧ base ≤ g ∧ Blk w g 5 bs ∧ ∀ j, j < n → ∃ z : Int, bs[j]? = some (.int .u8 z) := by
  have hr := Reads.of_own h
  rcases h.2 with ⟨_, h0⟩ | ⟨g, cap, cur, hv, hb, hh, _⟩
  · omega
  · have hA : A = some ⟨g, 0, none⟩ := by injection hv
    refine ⟨g, cur, hA, hb, hh, fun j hj => ?_⟩
    obtain ⟨ad, u, hA', _, hu, hc⟩ := hr.at_ hj
    rw [hA] at hA'
    obtain rfl : (⟨g, 0, none⟩ : Addr) = ad := Option.some.inj hA'
    rw [Go.WideShapes.add_plain, Nat.zero_add] at hc
    have hbk : Blk w g 5 cur := hh
    rw [hbk.cell j] at hc
    rw [List.getElem?_map] at hu
    obtain ⟨z, _, rfl⟩ := Option.map_eq_some_iff.1 hu
    exact ⟨z, hc⟩
theorem QB.step {w wr : World} {A : Option Addr} {c : Nat} {js ms : List Wt} {last : Int} {k gj j g : Nat} {cs bs : Array Value} {P : Sl} (h : QB w wr A c js ms last k gj cs P) (hA : P.a = some ⟨g, 0, none⟩) (hg : w.heap.size ≤ g) (hb : Blk wr g 5 bs) (hz : ∀ j, j < P.n → ∃ z : Int, bs[j]? = some (.int .u8 z)) (z : Int) :
    QB w (wr.setCell ⟨g, j, none⟩ (.int .u8 z)) A c js ms last k gj cs P := by
  refine ⟨⟨h.qr.qm, h.qr.qs.other hb hg (by decide) (by decide) (by decide) (by decide) j _, h.qr.wf, h.qr.l0, h.qr.l1, h.qr.len⟩, h.job.far (p := ⟨g, j, none⟩) (h.job.ne_ hb (by decide)) _, fun _ => ⟨g, _, hA, hg, hb.set_ j (.int .u8 z), fun i hi => ?_⟩⟩
  obtain ⟨z0, h0⟩ := hz i hi
  by_cases e : j = i
  · subst e
    have hlt : j < bs.size := by
      rcases Nat.lt_or_ge j bs.size with h1 | h1
      · exact h1
      · rw [Array.getElem?_eq_none h1] at h0; cases h0
    exact ⟨z, by simp [hlt]⟩
  · exact ⟨z0, by rw [Array.getElem?_setIfInBounds_ne e]; exact h0⟩
theorem InB.one {w : World} {B n : Nat} {A : Option Addr} {zs : List Int} (_h : InB w B A n zs) : One (zs.map fun z => .int .u8 z) := fun u hu => by
  obtain ⟨z, _, rfl⟩ := List.mem_map.1 hu
  rfl
end Go.Proofs.YtadgamfhlklemaaGreatDoor
