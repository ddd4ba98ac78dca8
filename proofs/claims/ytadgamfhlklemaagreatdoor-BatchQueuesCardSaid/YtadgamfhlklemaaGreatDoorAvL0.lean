/- Numbers as rows of 64-bit words, the least first. No program in sight. -/
import GoSem.Core.Program
namespace Go.Proofs.YtadgamfhlklemaaGreatDoor
def pw (k : Nat) : Int := 18446744073709551616 ^ k
def dg (xs : List Int) (j : Nat) : Int := xs.getD j 0
def vL (xs : List Int) : Nat → Int
  | 0 => 0
  | k + 1 => vL xs k + dg xs k * pw k
def Wd (xs : List Int) : Prop := ∀ x ∈ xs, 0 ≤ x ∧ x < 18446744073709551616
def val (xs : List Int) : Int := vL xs xs.length
def cmpI (a b : Int) : Int := if a < b then -1 else if b < a then 1 else 0
theorem pw_pos (k : Nat) : 0 < pw k := Int.pow_pos (by omega)
theorem pw_succ (k : Nat) : pw (k + 1) = 18446744073709551616 * pw k := by unfold pw; rw [Int.pow_succ, Int.mul_comm]
theorem dg_of_lt {xs : List Int} {j : Nat} (h : j < xs.length) : dg xs j = xs[j] := by simp [dg, h]
theorem dg_of_ge {xs : List Int} {j : Nat} (h : xs.length ≤ j) : dg xs j = 0 := by simp [dg, List.getD, List.getElem?_eq_none h]
theorem Wd.dgB {xs : List Int} (h : Wd xs) (j : Nat) : 0 ≤ dg xs j ∧ dg xs j < 18446744073709551616 := by
  rcases Nat.lt_or_ge j xs.length with hj | hj
  · rw [dg_of_lt hj]; exact h _ (List.getElem_mem hj)
  · rw [dg_of_ge hj]; omega
theorem mul_step {v d p : Int} (h : v < p) (hd : d + 1 ≤ 18446744073709551616) (hp : 0 < p) : v + d * p < 18446744073709551616 * p := by
  have := Int.mul_le_mul_of_nonneg_right hd (Int.le_of_lt hp)
  rw [Int.add_mul, Int.one_mul] at this
  omega
theorem Wd.vLB {xs : List Int} (h : Wd xs) : ∀ k, 0 ≤ vL xs k ∧ vL xs k < pw k
  | 0 => by simp [vL, pw]
  | k + 1 => by
    obtain ⟨h1, h2⟩ := Wd.vLB h k
    obtain ⟨d1, d2⟩ := h.dgB k
    have hp := pw_pos k
    have hm := Int.mul_nonneg d1 (Int.le_of_lt hp)
    have := mul_step h2 (by omega : dg xs k + 1 ≤ _) hp
    rw [pw_succ]
    simp only [vL]
    omega
theorem vL_congr {xs ys : List Int} : ∀ L, (∀ j, j < L → dg xs j = dg ys j) → vL xs L = vL ys L
  | 0, _ => rfl
  | L + 1, h => by
    simp only [vL]
    rw [vL_congr L (fun j hj => h j (by omega)), h L (by omega)]
theorem vL_lt {xs ys : List Int} (hx : Wd xs) (hy : Wd ys) {i : Nat} (hlt : dg xs i < dg ys i) : ∀ L, i < L → (∀ j, i < j → j < L → dg xs j = dg ys j) → vL xs L < vL ys L
  | 0, h, _ => by omega
  | L + 1, h, he => by
    simp only [vL]
    rcases Nat.lt_or_ge i L with hi | hi
    · have := vL_lt hx hy hlt L hi (fun j h1 h2 => he j h1 (by omega))
      rw [he L hi (by omega)]
      omega
    · obtain rfl : i = L := by omega
      have h1 := hx.vLB i
      have h2 := hy.vLB i
      have hp := pw_pos i
      have := Int.mul_le_mul_of_nonneg_right (show dg xs i + 1 ≤ dg ys i by omega) (Int.le_of_lt hp)
      rw [Int.add_mul, Int.one_mul] at this
      omega
theorem vL_more {xs : List Int} : ∀ d, vL xs (xs.length + d) = val xs
  | 0 => rfl
  | d + 1 => by
    rw [show xs.length + (d + 1) = (xs.length + d) + 1 by omega]
    simp only [vL]
    rw [vL_more d, dg_of_ge (by omega)]
    omega
theorem vL_ge {xs : List Int} {L : Nat} (h : xs.length ≤ L) : vL xs L = val xs := by
  obtain ⟨d, rfl⟩ : ∃ d, L = xs.length + d := ⟨L - xs.length, by omega⟩
  exact vL_more d
theorem Wd.valB {xs : List Int} (h : Wd xs) : 0 ≤ val xs ∧ val xs < pw xs.length := h.vLB _
theorem cmpI_lt {a b : Int} (h : a < b) : cmpI a b = -1 := by simp [cmpI, h]
theorem cmpI_gt {a b : Int} (h : b < a) : cmpI a b = 1 := by unfold cmpI; rw [if_neg (by omega), if_pos h]
theorem cmpI_eq {a b : Int} (h : a = b) : cmpI a b = 0 := by subst h; simp [cmpI]
end Go.Proofs.YtadgamfhlklemaaGreatDoor
