/- The line's Pop, and the heap's Push, Pop and Remove over it. -/
import Derived.Test.YtadgamfhlklemaaGreatDoorAvB6
import Derived.Test.YtadgamfhlklemaaGreatDoorAvP2
namespace Go.Proofs.YtadgamfhlklemaaGreatDoor
open Go.RowKit
/-- The queue's variable at q: the jobs js wait, the last ticket was last. -/
structure QL (w : World) (base q : Nat) (js : List Wt) (last : Int) : Prop where
  ex : ∃ v, Blk w q 27 #[v, .int .i64 last] ∧ Ln w base v js
theorem QL.row {w : World} {base q : Nat} {js : List Wt} {last : Int} (h : QL w base q js last) (hne : 0 < js.length) : ∃ g cap, Blk w q 27 #[.slice (some ⟨g, 0, none⟩) js.length cap, .int .i64 last] ∧ base ≤ g ∧ Row w g cap js ∧ q ≠ g := by
  obtain ⟨v, hq, hl⟩ := h.ex
  rcases hl.or_ with ⟨rfl, rfl⟩ | ⟨g, cap, rfl, hb, hr⟩
  · simp at hne
  · refine ⟨g, cap, hq, hb, hr, ?_⟩
    obtain ⟨cur, hc, _⟩ := hr.blk
    exact Blk.ne_ hq hc (by decide)
theorem QL.of_row {w : World} {base q g cap n : Nat} {js : List Wt} {last : Int} (hn : n = js.length) (hq : Blk w q 27 #[.slice (some ⟨g, 0, none⟩) n cap, .int .i64 last]) (hb : base ≤ g) (hr : Row w g cap js) : QL w base q js last := by
  subst hn
  exact ⟨_, hq, ⟨.inr ⟨g, cap, rfl, hb, hr⟩⟩⟩
theorem kept_only {w w' : World} {base q g cap : Nat} {js : List Wt} (hb : base ≤ g) (hr : Row w g cap js) (ho : Only w w' g) : Kept base q w w' :=
  Kept.of_grown ho fun g' hg' => by
    injection hg' with hg'
    subst hg'
    obtain ⟨cur, hc, _⟩ := hr.blk
    exact ⟨hb, _, _, hc⟩
theorem Row.take {w : World} {g cap : Nat} {js : List Wt} (h : Row w g cap js) (n : Nat) : Row w g cap (js.take n) :=
  ⟨h.blk, Nat.le_trans (by simp; omega) h.le, h.max, fun i hi => by rw [List.getElem_take]; exact h.at_ i (by simp at hi; omega)⟩

set_option maxHeartbeats 1000000 in
set_option maxRecDepth 100000 in
theorem lpop_any (w : World) (q g cap n : Nat) (last : Int) (js : List Wt) (hn : js.length = n + 1) (hn1 : n ≤ 1000000) (hq : Blk w q 27 #[.slice (some ⟨g, 0, none⟩) (n + 1) cap, .int .i64 last]) (hr : Row w g cap js) (hqg : q ≠ g) :
    Calls Tryz.prog 327 #[.pointer (some ⟨q, 0, none⟩)] w fun e w' => e = .returned (.iface 65 (.agg (gt js n).cells.toArray)) ∧ Blk w' q 27 #[.slice (some ⟨g, 0, none⟩) n cap, .int .i64 last] ∧ Row w' g cap (js.take n) ∧ w.grownBy w' (some q) := by
  have hc : w.cell? ⟨q, 0, none⟩ = some (.slice (some ⟨g, 0, none⟩) (n + 1) cap) := hq.cell 0
  have hf := hq.frozen 0
  have hle := hr.le
  have h0 := hr.at_ n (by omega)
  rw [← gt_eq js n (by omega)] at h0
  generalize gt js n = x at *
  obtain ⟨x0,x1,x2,x3,x4,x5,x6,x7⟩ := h0
  have hlt : (n : Int) < (n : Int) + 1 := by omega
  have hcap : n + 1 ≤ cap := by omega
  have hc2 : ∀ o, (w.alloc o).cell? ⟨q, 0, none⟩ = some (.slice (some ⟨g, 0, none⟩) (n + 1) cap) := fun o => (hq.alloc o).cell 0
  have hf2 : ∀ o, (w.alloc o).frozen? ⟨q, 0, none⟩ = false := fun o => (hq.alloc o).frozen 0
  have hqs : q ≠ w.heap.size := Nat.ne_of_lt hq.lt
  have hqs2 : w.heap.size ≠ q := Ne.symm hqs
  go_enter Tryz.func327, Tryz.ntmps327
  go_wp2
  go_ret
  have hw : ∀ o u, w.grownBy ((w.alloc o).setCell ⟨q, 0, none⟩ u) (some q) := fun o u => only_trans (only_of_below ((Below.refl _ _).alloc (Nat.le_refl _) _) q) (only_setCells (w.alloc o) q 0 [u])
  exact ⟨rfl, (hq.alloc _).set_ 0 _, (hr.same ((hw _ _).block g hr.lt (by simpa using Ne.symm hqg))).take n, hw _ _⟩

theorem kept_q {w w' : World} {base q : Nat} (ho : w.grownBy w' (some q)) : Kept base q w w' :=
  ⟨ho.os, ho.tape, ho.output, ho.size, fun i hi hn _ => ho.block i hi (by simpa using hn)⟩
abbrev hv (q : Nat) : Value := .iface 63 (.pointer (some ⟨q, 0, none⟩))
abbrev wv (x : Wt) : Value := .iface 65 (.agg #[.int .i64 x.kind, .int .i64 x.backend, x.st.v, x.ms.v, x.pf.v, .int .i64 x.rounds, .int .i64 x.degree, .int .i64 x.ticket])

set_option maxHeartbeats 1000000 in
set_option maxRecDepth 100000 in
theorem push_any (w : World) (base q : Nat) (last : Int) (js : List Wt) (x : Wt) (hn1 : js.length ≤ 999999) (hbase : base ≤ w.heap.size) (hl : QL w base q js last) (hs : AllSmall js) (hx : x.Small) :
    Calls Tryz.prog 21 #[.iface 63 (.pointer (some ⟨q, 0, none⟩)), .iface 65 (.agg #[.int .i64 x.kind, .int .i64 x.backend, x.st.v, x.ms.v, x.pf.v, .int .i64 x.rounds, .int .i64 x.degree, .int .i64 x.ticket])] w fun e w' => e = .returned (.tuple #[]) ∧ Kept base q w w' ∧ QL w' base q (pushM js x) last := by
  obtain ⟨v, hq, hln⟩ := hl.ex
  have hm := fun W => meth_push q W
  have hlen : (js ++ [x]).length = js.length + 1 := by simp
  have HL := Lib.hid hlen
  clear hlen
  go_enter Tryz.func21, Tryz.ntmps21
  go_wp2_with (fail)
  refine (lpush_any w base q v last js x (by omega) hbase hq hln).mono ?_
  rintro e w1 ⟨rfl, hk1, hex⟩
  obtain ⟨g, cap, hq1, hb, hr, hqg⟩ := QL.row ⟨hex⟩ (by rw [HL.out]; omega)
  rw [HL.out] at hq1
  have hml := meth_len (hq1.cell 0)
  clear hm hex
  go_wp2_with (go_at_call 19; refine (len_any _ _ _ _).mono ?_; rintro e w2 ⟨rfl, rfl⟩)
  refine (up_any w1 q g cap (js.length + 1) js.length _ (by omega) last (js ++ [x]) HL.out (by omega) (by omega) hq1 hqg hr ?_).mono ?_
  · intro y hy
    rcases List.mem_append.1 hy with hy | hy
    · exact hs y hy
    · rw [List.mem_singleton.1 hy]; exact hx
  rintro e w3 ⟨rfl, hr3, ho3⟩
  go_wp2
  go_end0
  refine ⟨rfl, hk1.trans (kept_only hb hr ho3), QL.of_row ?_ (hq1.grown ho3 (by simpa using hqg)) hb hr3⟩
  exact (pushM_length js x).symm
end Go.Proofs.YtadgamfhlklemaaGreatDoor
