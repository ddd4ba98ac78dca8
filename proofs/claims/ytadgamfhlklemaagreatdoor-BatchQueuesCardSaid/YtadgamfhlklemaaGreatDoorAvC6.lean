/- Queue.Drop. -/
import Derived.Test.YtadgamfhlklemaaGreatDoorAvC5
namespace Go.Proofs.YtadgamfhlklemaaGreatDoor
open Go.RowKit
def Finds (js : List Wt) (t : Int) (r : Int) : Prop := (r = -1 ∧ ∀ x ∈ js, x.ticket ≠ t) ∨ ∃ i : Nat, r = i ∧ i < js.length ∧ (gt js i).ticket = t
def IdxPost (w : World) (js : List Wt) (t : Int) (e : Ending) (w' : World) : Prop := ∃ r : Int, e = .returned (.int .i64 r) ∧ Finds js t r ∧ Below w.heap.size w w'
theorem none_before (js : List Wt) (t : Int) (h : ∀ i : Nat, i < js.length → ((gt js i).ticket == t) = false) : ∀ x ∈ js, x.ticket ≠ t := by
  intro x hx
  obtain ⟨i, hi, rfl⟩ := List.mem_iff_getElem.1 hx
  have := h i hi
  rw [gt_eq js i hi] at this
  exact beq_eq_false_iff_ne.1 this
set_option maxHeartbeats 1000000 in
set_option maxRecDepth 100000 in
theorem index_any (w : World) (base b : Nat) (v : Value) (js : List Wt) (t : Int) (hln : Ln w base v js) (hb : w.cell? ⟨b, 0, none⟩ = some (.int .i64 t)) (hn1 : js.length ≤ 1000000) :
    Calls Tryz.prog 22 #[v, .func (.func 23) #[] #[.pointer (some ⟨b, 0, none⟩)]] w (IdxPost w js t) := by
  obtain ⟨A, c, rfl⟩ := own_form hln.own
  go_enter Tryz.func22, Tryz.ntmps22
  go_wp2
  go_loopw [8] (fun i wr => ∃ k : Nat, k ≤ js.length ∧ i = .int .i64 k ∧ (∀ j : Nat, j < k → ((gt js j).ticket == t) = false) ∧ Below w.heap.size w wr) (fun i _ => js.length - (intOf i).toNat)
  case atStart => exact ⟨0, Nat.zero_le _, rfl, fun j h => by omega, Below.refl _ _⟩
  case round =>
    obtain ⟨k, hk, rfl, hno, hB⟩ := hrel
    have HNO := Lib.hid hno
    clear hno
    by_cases hlt : k < js.length
    · obtain ⟨g, cap, he, hbg, hr⟩ : ∃ g cap, (.slice A js.length c : Value) = .slice (some ⟨g, 0, none⟩) js.length cap ∧ base ≤ g ∧ Row w g cap js := by
        rcases hln.or_ with ⟨_, h2⟩ | h
        · rw [h2] at hlt; simp at hlt
        · exact h
      injection he with he1 _ he2
      subst he1 he2
      have hg := hr.lt
      have h0 := (hr.at_ k hlt)
      rw [← gt_eq js k hlt] at h0
      obtain ⟨x0,x1,x2,x3,x4,x5,x6,x7⟩ := h0.cell_same (hB.block g hg)
      have hbc : wr.cell? ⟨b, 0, none⟩ = some (.int .i64 t) := by rw [hB.cell (p := ⟨b, 0, none⟩) (World.block_lt_of_cell? _ _ hb)]; exact hb
      have hz : (k : Int) < (js.length : Int) := by omega
      cases hm : ((gt js k).ticket == t) with
      | true =>
        have HM := Lib.hid hm
        clear hm
        go_wp2_with (fail)
        refine (same_ticket wr b t (gt js k) hbc).mono ?_
        rintro e w1 ⟨rfl, hb1⟩
        rw [HM.out]
        go_wp2_with (fail)
        go_ret
        exact ⟨k, by simp, .inr ⟨k, rfl, hlt, beq_iff_eq.1 HM.out⟩, below_then hB hB.size hb1⟩
      | false =>
        have HM := Lib.hid hm
        clear hm
        go_wp2_with (fail)
        refine (same_ticket wr b t (gt js k) hbc).mono ?_
        rintro e w1 ⟨rfl, hb1⟩
        rw [HM.out]
        go_wp2_with (fail)
        go_roundw
        case rel => exact ⟨k + 1, by omega, by go_num, fun j hj => by
          by_cases e : j = k
          · subst e; exact HM.out
          · exact HNO.out j (by omega), below_then hB hB.size hb1⟩
        case measure => simp [intOf]; omega
    · have hz : ¬ (k : Int) < (js.length : Int) := by omega
      go_wp2
      go_ret
      exact ⟨-1, rfl, .inl ⟨rfl, none_before js t fun i hi => HNO.out i (by omega)⟩, hB⟩

/-- What Drop leaves: nothing, or the list without a job of that ticket. -/
structure Dropped (w w' : World) (base q : Nat) (js : List Wt) (last : Int) (i : Nat) : Prop where
  kept : Kept base q w w'
  ql : QL w' base q ((takeM js i (js.length - 1)).take (js.length - 1)) last
def DropPost (w : World) (base q : Nat) (js : List Wt) (last t : Int) (e : Ending) (w' : World) : Prop :=
  (e = .returned (.bool false) ∧ (∀ x ∈ js, x.ticket ≠ t) ∧ Kept base q w w' ∧ QL w' base q js last) ∨
  (∃ i : Nat, e = .returned (.bool true) ∧ i < js.length ∧ (gt js i).ticket = t ∧ Dropped w w' base q js last i)
theorem QL.below {w w' : World} {base q : Nat} {js : List Wt} {last : Int} (h : QL w base q js last) (hb : Below w.heap.size w w') : QL w' base q js last := by
  obtain ⟨v, hq, hln⟩ := h.ex
  exact ⟨v, hq.below hb hq.lt, Ln.of_own rfl (own_below hln.own hb)⟩
set_option maxHeartbeats 1000000 in
set_option maxRecDepth 100000 in
theorem drop_any (w : World) (base q : Nat) (js : List Wt) (last t : Int) (hl : QL w base q js last) (hs : AllSmall js) (hn1 : js.length ≤ 1000000) :
    Calls Tryz.prog 10 #[.pointer (some ⟨q, 0, none⟩), .int .i64 t] w (DropPost w base q js last t) := by
  obtain ⟨v, hq, hln⟩ := hl.ex
  obtain ⟨A, c, rfl⟩ := own_form hln.own
  have hb0 : ∀ o, Below w.heap.size w (w.alloc o) := fun o => (Below.refl _ _).alloc (Nat.le_refl _) _
  have c0 : ∀ o, (w.alloc o).cell? ⟨q, 0, none⟩ = some (.slice A js.length c) := fun o => (hq.alloc o).cell 0
  have hln0 : ∀ o, Ln (w.alloc o) base (.slice A js.length c) js := fun o => Ln.of_own rfl (own_below hln.own (hb0 o))
  have hbt : (w.alloc (.cells #[.int .i64 t] 3)).cell? ⟨w.heap.size, 0, none⟩ = some (.int .i64 t) := (Blk.new w 3 #[.int .i64 t]).cell 0
  go_enter Tryz.func10, Tryz.ntmps10
  go_wp2_with (fail)
  refine (index_any _ base w.heap.size _ js t (hln0 _) hbt hn1).mono ?_
  rintro e w1 ⟨r, rfl, hf, hb1⟩
  have hB : Below w.heap.size w w1 := below_then (hb0 _) (by simp) hb1
  have hl1 := hl.below hB
  clear c0 hln0 hbt
  rcases hf with ⟨rfl, hno⟩ | ⟨i, rfl, hi, ht⟩
  · have HNO := Lib.hid hno
    clear hno
    go_wp2_with (fail)
    go_ret
    exact .inl ⟨rfl, HNO.out, Kept.of_below hB, hl1⟩
  · have HT := Lib.hid ht
    clear ht
    have d1 : decide ((0 : Int) ≤ (i : Int)) = true := by simp
    go_wp2_with (fail)
    refine (remove_any w1 base q (js.length - 1) i _ rfl last js (by omega) (by omega) (by omega) hl1 hs).mono ?_
    rintro e w2 ⟨rfl, hk2, hl2⟩
    go_wp2_with (fail)
    go_ret
    exact .inr ⟨i, by simp, hi, HT.out, (Kept.of_below hB).trans hk2, hl2⟩
end Go.Proofs.YtadgamfhlklemaaGreatDoor
