/- limb: at, Compare, Cmp. -/
import Derived.Test.YtadgamfhlklemaaGreatDoorAvL0
import Derived.Test.YtadgamfhlklemaaGreatDoorAvB1
import Derived.Test.YtadgamfhlklemaaGreatDoorAvR
namespace Go.Proofs.YtadgamfhlklemaaGreatDoor
open Go.RowKit
abbrev u64s (xs : List Int) : List Value := xs.map fun z => .int .u64 z
/-- A slice of words. -/
structure Ws (w : World) (B : Nat) (A : Option Addr) (n : Nat) (xs : List Int) : Prop where
  rd : Reads w B 1 A n (u64s xs)
  wd : Wd xs
theorem Ws.len {w : World} {B n : Nat} {A : Option Addr} {xs : List Int} (h : Ws w B A n xs) : xs.length = n := by
  have := h.rd.1; simpa using this
theorem Ws.at_ {w : World} {B n k : Nat} {A : Option Addr} {xs : List Int} (h : Ws w B A n xs) (hk : k < n) : ∃ ad, A = some ad ∧ w.cell? (ad.add k) = some (.int .u64 (dg xs k)) := by
  obtain ⟨ad, u, hA, _, hu, hc⟩ := h.rd.at_ hk
  have hl := h.len
  rw [List.getElem?_map, List.getElem?_eq_getElem (by omega)] at hu
  injection hu with hu
  rw [← hu, ← dg_of_lt] at hc
  exact ⟨ad, hA, hc⟩
theorem Ws.below {w w' : World} {B n : Nat} {A : Option Addr} {xs : List Int} (h : Ws w B A n xs) (hb : Below B w w') : Ws w' B A n xs := ⟨h.rd.below hb, h.wd⟩
set_option maxHeartbeats 1000000 in
set_option maxRecDepth 100000 in
theorem at_any (w : World) (A : Option Addr) (n c B k : Nat) (K : Int) (xs : List Int) (hK : K = k) (h : Ws w B A n xs) :
    Calls Tryz.prog 247 #[.slice A n c, .int .i64 K] w fun e w' => e = .returned (.int .u64 (dg xs k)) ∧ w = w' := by
  subst hK
  by_cases hk : k < n
  · have d1 : decide ((k : Int) < n) = true := by simp; omega
    obtain ⟨ad, rfl, hc⟩ := h.at_ hk
    go_enter Tryz.func247, Tryz.ntmps247
    go_wp2_with (fail)
    go_ret
    exact ⟨rfl, rfl⟩
  · have d1 : decide ((k : Int) < n) = false := by simp; omega
    rw [dg_of_ge (by rw [h.len]; omega)]
    go_enter Tryz.func247, Tryz.ntmps247
    go_wp2_with (fail)
    go_ret
    exact ⟨rfl, rfl⟩
set_option maxHeartbeats 1000000 in
set_option maxRecDepth 100000 in
theorem nan_any (w : World) (x : Int) : Calls Tryz.prog 277 #[.int .u64 x] w fun e w' => e = .returned (.bool false) ∧ w = w' := by
  have d1 : (x != x) = false := by simp
  go_enter Tryz.func277, Tryz.ntmps277
  go_wp2_with (fail)
  go_ret
  exact ⟨rfl, rfl⟩
set_option maxHeartbeats 1000000 in
set_option maxRecDepth 100000 in
theorem compare_any (w : World) (x y : Int) : Calls Tryz.prog 246 #[.int .u64 x, .int .u64 y] w fun e w' => e = .returned (.int .i64 (cmpI x y)) ∧ w = w' := by
  rcases Int.lt_trichotomy x y with h | h | h
  · have d1 : decide (x < y) = true := by simp [h]
    rw [cmpI_lt h]
    go_enter Tryz.func246, Tryz.ntmps246
    go_wp2_with (go_at_call 277; refine (nan_any _ _).mono ?_; rintro e w1 ⟨rfl, rfl⟩)
    go_ret
    exact ⟨rfl, rfl⟩
  · subst h
    have d1 : decide (x < x) = false := by simp
    have d2 : decide (x > x) = false := by simp
    rw [cmpI_eq rfl]
    go_enter Tryz.func246, Tryz.ntmps246
    go_wp2_with (go_at_call 277; refine (nan_any _ _).mono ?_; rintro e w1 ⟨rfl, rfl⟩)
    go_ret
    exact ⟨rfl, rfl⟩
  · have d1 : decide (x < y) = false := by simp; omega
    have d2 : decide (x > y) = true := by simp; omega
    rw [cmpI_gt h]
    go_enter Tryz.func246, Tryz.ntmps246
    go_wp2_with (go_at_call 277; refine (nan_any _ _).mono ?_; rintro e w1 ⟨rfl, rfl⟩)
    go_ret
    exact ⟨rfl, rfl⟩
set_option maxHeartbeats 4000000 in
set_option maxRecDepth 100000 in
theorem cmp_any (w : World) (A A' : Option Addr) (n c n' c' B : Nat) (xs ys : List Int) (hn : n ≤ 1000000) (hn' : n' ≤ 1000000) (h : Ws w B A n xs) (h' : Ws w B A' n' ys) :
    Calls Tryz.prog 198 #[.slice A n c, .slice A' n' c'] w fun e w' => e = .returned (.int .i64 (cmpI (val xs) (val ys))) ∧ w = w' := by
  have hl := h.len
  have hl' := h'.len
  obtain ⟨L, hL⟩ : ∃ L : Nat, max n n' = L := ⟨_, rfl⟩
  have hxL : xs.length ≤ L := by omega
  have hyL : ys.length ≤ L := by omega
  have hL9 : L ≤ 1000000 := by omega
  rw [← vL_ge (xs := xs) (L := L) hxL, ← vL_ge (xs := ys) (L := L) hyL]
  go_enter Tryz.func198, Tryz.ntmps198
  by_cases hnn : n < n'
  · obtain rfl : n' = L := by omega
    clear hL
    go_wp2_with (fail)
    go_loopw [5] (fun v wr => ∃ k : Nat, k ≤ n' ∧ v = .int .i64 ((k : Int) - 1) ∧ (∀ j, k ≤ j → j < n' → dg xs j = dg ys j) ∧ w = wr) (fun v _ => (intOf v + 1).toNat)
    case atStart => exact ⟨n', Nat.le_refl _, rfl, fun j h1 h2 => by omega, rfl⟩
    case round =>
      obtain ⟨k, hk, rfl, he, rfl⟩ := hrel
      cases k with
      | zero =>
        have d1 : decide (((0 : Nat) : Int) - 1 ≥ 0) = false := by decide
        have hv : vL xs n' = vL ys n' := vL_congr n' (fun j hj => he j (by omega) hj)
        go_wp2_with (fail)
        go_ret
        exact ⟨by rw [cmpI_eq hv]; rfl, rfl⟩
      | succ m =>
        rw [show ((m + 1 : Nat) : Int) - 1 = m by omega]
        have d1 : decide ((m : Int) ≥ 0) = true := by simp
        go_wp2_with (fail)
        refine (at_any w A n c B m m xs rfl h).mono ?_
        rintro e w1 ⟨rfl, rfl⟩
        go_wp2_with (fail)
        refine (at_any w A' n' c' B m m ys rfl h').mono ?_
        rintro e w1 ⟨rfl, rfl⟩
        go_wp2_with (fail)
        refine (compare_any w _ _).mono ?_
        rintro e w1 ⟨rfl, rfl⟩
        rcases Int.lt_trichotomy (dg xs m) (dg ys m) with hlt | heq | hgt
        · have hv := vL_lt h.wd h'.wd hlt n' (by omega) (fun j h1 h2 => he j (by omega) h2)
          rw [cmpI_lt hlt]
          go_wp2_with (fail)
          go_ret
          exact ⟨by rw [cmpI_lt hv]; rfl, rfl⟩
        · rw [cmpI_eq heq]
          go_wp2_with (fail)
          go_roundw
          case rel => exact ⟨m, by omega, by go_num, fun j h1 h2 => by
            rcases Nat.lt_or_ge m j with h3 | h3
            · exact he j (by omega) h2
            · obtain rfl : j = m := by omega
              exact heq, trivial⟩
          case measure => simp [intOf]
        · have hv := vL_lt h'.wd h.wd hgt n' (by omega) (fun j h1 h2 => (he j (by omega) h2).symm)
          rw [cmpI_gt hgt]
          go_wp2_with (fail)
          go_ret
          exact ⟨by rw [cmpI_gt hv]; rfl, rfl⟩
  · obtain rfl : n = L := by omega
    clear hL
    go_wp2_with (fail)
    go_loopw [5] (fun v wr => ∃ k : Nat, k ≤ n ∧ v = .int .i64 ((k : Int) - 1) ∧ (∀ j, k ≤ j → j < n → dg xs j = dg ys j) ∧ w = wr) (fun v _ => (intOf v + 1).toNat)
    case atStart => exact ⟨n, Nat.le_refl _, rfl, fun j h1 h2 => by omega, rfl⟩
    case round =>
      obtain ⟨k, hk, rfl, he, rfl⟩ := hrel
      cases k with
      | zero =>
        have d1 : decide (((0 : Nat) : Int) - 1 ≥ 0) = false := by decide
        have hv : vL xs n = vL ys n := vL_congr n (fun j hj => he j (by omega) hj)
        go_wp2_with (fail)
        go_ret
        exact ⟨by rw [cmpI_eq hv]; rfl, rfl⟩
      | succ m =>
        rw [show ((m + 1 : Nat) : Int) - 1 = m by omega]
        have d1 : decide ((m : Int) ≥ 0) = true := by simp
        go_wp2_with (fail)
        refine (at_any w A n c B m m xs rfl h).mono ?_
        rintro e w1 ⟨rfl, rfl⟩
        go_wp2_with (fail)
        refine (at_any w A' n' c' B m m ys rfl h').mono ?_
        rintro e w1 ⟨rfl, rfl⟩
        go_wp2_with (fail)
        refine (compare_any w _ _).mono ?_
        rintro e w1 ⟨rfl, rfl⟩
        rcases Int.lt_trichotomy (dg xs m) (dg ys m) with hlt | heq | hgt
        · have hv := vL_lt h.wd h'.wd hlt n (by omega) (fun j h1 h2 => he j (by omega) h2)
          rw [cmpI_lt hlt]
          go_wp2_with (fail)
          go_ret
          exact ⟨by rw [cmpI_lt hv]; rfl, rfl⟩
        · rw [cmpI_eq heq]
          go_wp2_with (fail)
          go_roundw
          case rel => exact ⟨m, by omega, by go_num, fun j h1 h2 => by
            rcases Nat.lt_or_ge m j with h3 | h3
            · exact he j (by omega) h2
            · obtain rfl : j = m := by omega
              exact heq, trivial⟩
          case measure => simp [intOf]
        · have hv := vL_lt h'.wd h.wd hgt n (by omega) (fun j h1 h2 => (he j (by omega) h2).symm)
          rw [cmpI_gt hgt]
          go_wp2_with (fail)
          go_ret
          exact ⟨by rw [cmpI_gt hv]; rfl, rfl⟩
end Go.Proofs.YtadgamfhlklemaaGreatDoor
