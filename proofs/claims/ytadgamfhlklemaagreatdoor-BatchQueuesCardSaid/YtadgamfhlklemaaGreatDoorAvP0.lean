/- The queue's jobs as plain data, and what the heap does to a list of them. No program in sight. -/
import GoSem.Core.Program
namespace Go.Proofs.YtadgamfhlklemaaGreatDoor
/-! ### A slice's value; a waiting job's eight cells -/
structure Sl where
  a : Option Addr
  n : Nat
  c : Nat
  deriving Inhabited, DecidableEq
abbrev Sl.v (s : Sl) : Value := .slice s.a s.n s.c
structure Wt where
  kind : Int
  backend : Int
  st : Sl
  ms : Sl
  pf : Sl
  rounds : Int
  degree : Int
  ticket : Int
  deriving Inhabited, DecidableEq
def Wt.cost (x : Wt) : Nat := x.st.n + x.ms.n + x.pf.n
structure Wt.Small (x : Wt) : Prop where
  h1 : x.st.n ≤ 1000000000000000
  h2 : x.ms.n ≤ 1000000000000000
  h3 : x.pf.n ≤ 1000000000000000
def Wt.cells (x : Wt) : List Value := [.int .i64 x.kind, .int .i64 x.backend, x.st.v, x.ms.v, x.pf.v, .int .i64 x.rounds, .int .i64 x.degree, .int .i64 x.ticket]
/-- Whose turn is earlier. -/
def lessB (x y : Wt) : Bool := decide (x.cost < y.cost) || (decide (x.cost = y.cost) && decide (x.ticket < y.ticket))

def gt (js : List Wt) (i : Nat) : Wt := js.getD i default
def swapM (js : List Wt) (i j : Nat) : List Wt := (js.set i (gt js j)).set j (gt js i)
theorem swapM_length (js : List Wt) (i j : Nat) : (swapM js i j).length = js.length := by simp [swapM]
theorem gt_eq (js : List Wt) (i : Nat) (h : i < js.length) : gt js i = js[i] := by simp [gt, h]
def upL (js : List Wt) (j : Nat) : List Wt :=
  if j = 0 then js else if lessB (gt js j) (gt js ((j - 1) / 2)) then upL (swapM js ((j - 1) / 2) j) ((j - 1) / 2) else js
termination_by j
decreasing_by omega
theorem upL_zero (js : List Wt) : upL js 0 = js := by rw [upL]; simp
theorem upL_yes (js : List Wt) (k : Nat) (h : lessB (gt js (k + 1)) (gt js (k / 2)) = true) : upL js (k + 1) = upL (swapM js (k / 2) (k + 1)) (k / 2) := by rw [upL]; simp [h]
theorem upL_no (js : List Wt) (k : Nat) (h : lessB (gt js (k + 1)) (gt js (k / 2)) = false) : upL js (k + 1) = js := by rw [upL]; simp [h]
def AllSmall (js : List Wt) : Prop := ∀ x ∈ js, x.Small
theorem AllSmall.gt_ {js : List Wt} (h : AllSmall js) {i : Nat} (hi : i < js.length) : (gt js i).Small := by rw [gt_eq js i hi]; exact h _ (List.getElem_mem hi)
theorem AllSmall.swap {js : List Wt} (h : AllSmall js) {i j : Nat} (hi : i < js.length) (hj : j < js.length) : AllSmall (swapM js i j) := by
  intro x hx
  unfold swapM at hx
  rcases List.mem_or_eq_of_mem_set hx with hx | rfl
  · rcases List.mem_or_eq_of_mem_set hx with hx | rfl
    · exact h x hx
    · exact h.gt_ hj
  · exact h.gt_ hi
def childM (n : Nat) (js : List Wt) (i : Nat) : Nat := if 2 * i + 2 < n ∧ lessB (gt js (2 * i + 2)) (gt js (2 * i + 1)) = true then 2 * i + 2 else 2 * i + 1
theorem childM_le (n : Nat) (js : List Wt) (i : Nat) (h : 2 * i + 1 < n) : i < childM n js i ∧ childM n js i < n := by unfold childM; split <;> omega
def downL (n : Nat) (js : List Wt) (i : Nat) : List Wt × Nat :=
  if h : n ≤ 2 * i + 1 then (js, i) else
    if lessB (gt js (childM n js i)) (gt js i) then
      have := childM_le n js i (by omega)
      downL n (swapM js i (childM n js i)) (childM n js i) else (js, i)
termination_by n - i
decreasing_by omega
theorem downL_end (n : Nat) (js : List Wt) (i : Nat) (h : n ≤ 2 * i + 1) : downL n js i = (js, i) := by rw [downL]; simp [h]
theorem downL_no (n : Nat) (js : List Wt) (i j : Nat) (hj : childM n js i = j) (h : lessB (gt js j) (gt js i) = false) : downL n js i = (js, i) := by
  subst hj; rw [downL]; simp [h]
theorem downL_yes (n : Nat) (js : List Wt) (i j : Nat) (hn : 2 * i + 1 < n) (hj : childM n js i = j) (h : lessB (gt js j) (gt js i) = true) : downL n js i = downL n (swapM js i j) j := by
  subst hj; rw [downL, dif_neg (by omega), if_pos h]
end Go.Proofs.YtadgamfhlklemaaGreatDoor
