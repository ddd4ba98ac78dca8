/- The document's queue: Find, First, Without. -/
import Derived.Test.YtadgamfhlklemaaGreatDoorAvH1
import Derived.Test.YtadgamfhlklemaaGreatDoorAvB2
namespace Go.Proofs.YtadgamfhlklemaaGreatDoor
open Go.RowKit
/-- The document's list as it lies: n elements of eight cells. -/
structure RL (w : World) (A : Option Addr) (ms : List Wt) : Prop where
  at_ : ∀ i (h : i < ms.length), ∃ g, A = some ⟨g, 0, none⟩ ∧ At w g (i * 8) ms[i]
theorem RL.of_own {w : World} {base c : Nat} {A : Option Addr} {ms : List Wt} (h : w.ownsRow base 53 8 (.slice A ms.length c) ms.length (flat ms)) : RL w A ms := ⟨fun i hi => by
  have hr := Reads.of_own h
  obtain ⟨g, cap, hv, _, hlt⟩ := h.form (by omega)
  have hA : A = some ⟨g, 0, none⟩ := by injection hv
  subst hA
  obtain ⟨ad, e, _, hc⟩ := hr.2 (by omega)
  obtain rfl : (⟨g, 0, none⟩ : Addr) = ad := Option.some.inj e
  refine ⟨g, rfl, At.of _ _ _ _ fun k hk => ?_⟩
  have h1 := flat_at ms i hi k hk
  obtain ⟨u, hu⟩ : ∃ u, ms[i].cells[k]? = some u := ⟨_, List.getElem?_eq_getElem (by rw [(ms[i]).cells_length]; exact hk)⟩
  rw [hu] at h1 ⊢
  have h2 := hc _ _ h1
  rw [Go.WideShapes.add_plain, Nat.zero_add] at h2
  exact h2⟩
theorem RL.below {w w' : World} {A : Option Addr} {ms : List Wt} (h : RL w A ms) (hb : Below w.heap.size w w') : RL w' A ms := ⟨fun i hi => by
  obtain ⟨g, hA, ha⟩ := h.at_ i hi
  have hlt := World.block_lt_of_cell? _ _ ha.c0
  exact ⟨g, hA, ha.cell_same (hb.block g hlt)⟩⟩
def rfind (ms : List Wt) (t : Int) (r : Int) : Prop := (r = -1 ∧ ∀ x ∈ ms, x.ticket ≠ t) ∨ ∃ i : Nat, r = i ∧ ∃ h : i < ms.length, ms[i].ticket = t
set_option maxHeartbeats 1000000 in
set_option maxRecDepth 100000 in
theorem rfind_any (w : World) (base : Nat) (A : Option Addr) (c : Nat) (ms : List Wt) (last t : Int) (hn : ms.length ≤ 1000000) (hown : w.ownsRow base 53 8 (.slice A ms.length c) ms.length (flat ms)) :
    Calls Tryz.prog 9 #[.agg #[.slice A ms.length c, .int .i64 last], .int .i64 t] w fun e w' => ∃ r : Int, e = .returned (.int .i64 r) ∧ rfind ms t r ∧ Below w.heap.size w w' := by
  have hb0 : ∀ o, Below w.heap.size w (w.alloc o) := fun o => (Below.refl _ _).alloc (Nat.le_refl _) _
  have hB := Blk.new w 30 #[.slice A ms.length c, .int .i64 last]
  have hR := (RL.of_own hown).below (hb0 (.cells #[.slice A ms.length c, .int .i64 last] 30))
  go_enter Tryz.func9, Tryz.ntmps9
  go_wp2_with (fail)
  go_loopw [5] (fun i wr => ∃ k : Nat, k ≤ ms.length ∧ i = .int .i64 k ∧ (∀ j (h : j < ms.length), j < k → ms[j].ticket ≠ t) ∧ wr = w.alloc (.cells #[.slice A ms.length c, .int .i64 last] 30)) (fun i _ => ms.length - (intOf i).toNat)
  case atStart => exact ⟨0, by omega, rfl, fun j _ h => absurd h (by omega), rfl⟩
  case round =>
    obtain ⟨k, hk, rfl, hno, rfl⟩ := hrel
    have c0 := hB.cell 0
    simp only [List.getElem?_toArray, List.getElem?_cons_zero] at c0
    by_cases hlt : k < ms.length
    · have d1 : decide ((k : Int) < ms.length) = true := by simp; omega
      obtain ⟨g, rfl, ha⟩ := hR.at_ k hlt
      have c7 := ha.c7
      by_cases ht : ms[k].ticket = t
      · have d2 : (ms[k].ticket == t) = true := by simp [ht]
        go_wp2_with (fail)
        go_ret
        exact ⟨_, rfl, .inr ⟨k, rfl, hlt, ht⟩, hb0 _⟩
      · have d2 : (ms[k].ticket == t) = false := by simp [ht]
        go_wp2_with (fail)
        go_roundw
        case rel => exact ⟨k + 1, by omega, by go_num, fun j h hj => by
          rcases Nat.lt_or_ge j k with h1 | h1
          · exact hno j h h1
          · obtain rfl : j = k := by omega
            exact ht, trivial⟩
        case measure => simp [intOf]; omega
    · have d1 : decide ((k : Int) < ms.length) = false := by simp; omega
      go_wp2_with (fail)
      go_ret
      exact ⟨_, rfl, .inl ⟨rfl, fun x hx => by
        obtain ⟨j, hj, rfl⟩ := List.mem_iff_getElem.1 hx
        exact hno j hj (by omega)⟩, hb0 _⟩
def rfirstP (ms : List Wt) (k : Nat) (r : Int) : Prop := (r = -1 ∧ k = 0) ∨ ∃ i : Nat, r = i ∧ ∃ h : i < ms.length, i < k ∧ (∀ j (hj : j < ms.length), j < i → ms[i].cost < ms[j].cost) ∧ ∀ j (hj : j < ms.length), j < k → ms[i].cost ≤ ms[j].cost
theorem rcost_any (k b : Int) (s m p : Sl) (r d : Int) (w : World) (h1 : s.n ≤ 1000000000000000) (h2 : m.n ≤ 1000000000000000) (h3 : p.n ≤ 1000000000000000) (c : Nat) (hc : c = s.n + m.n + p.n) :
   Calls Tryz.prog 25 #[.agg #[.int .i64 k, .int .i64 b, s.v, m.v, p.v, .int .i64 r, .int .i64 d]] w fun e w' => e = .returned (.int .i64 c) ∧ Below w.heap.size w w' := by
  subst hc
  go_enter Tryz.func25, Tryz.ntmps25
  go_wp2
  go_ret
  exact ⟨by simp, (Below.refl _ _).alloc (Nat.le_refl _) _⟩
theorem le_one (ms : List Wt) (h : 0 < ms.length) : ∀ j (hj : j < ms.length), j < 1 → ms[0].cost ≤ ms[j].cost := fun j hj h1 => by
  obtain rfl : j = 0 := by omega
  exact Nat.le_refl _
theorem keep_first {w w' : World} {q g i j : Nat} {x y : Wt} {v l : Value} (S0 : C7 w g (i*8) x ∧ C7 w g (j*8) y) (hq : Blk w q 30 #[v, l]) (hb : Below w.heap.size w w') :
  Below w.heap.size w w' ∧ w'.cell? ⟨q, 0, none⟩ = some v ∧ C7 w' g (i*8) x ∧ C7 w' g (j*8) y :=
  have hg : g < w.heap.size := World.block_lt_of_cell? _ _ S0.1.1
  ⟨hb, (hq.below hb hq.lt).cell 0, S0.1.below hb hg, S0.2.below hb hg⟩
set_option maxHeartbeats 4000000 in
set_option maxRecDepth 100000 in
theorem rfirst_any (w : World) (base : Nat) (A : Option Addr) (c : Nat) (ms : List Wt) (last : Int) (hn : ms.length ≤ 1000000) (hs : AllSmall ms) (hown : w.ownsRow base 53 8 (.slice A ms.length c) ms.length (flat ms)) :
    Calls Tryz.prog 12 #[.agg #[.slice A ms.length c, .int .i64 last]] w fun e w' => ∃ r : Int, e = .returned (.int .i64 r) ∧ rfirstP ms ms.length r ∧ Below w.heap.size w w' := by
  have hb0 : ∀ o, Below w.heap.size w (w.alloc o) := fun o => (Below.refl _ _).alloc (Nat.le_refl _) _
  have hB0 := Blk.new w 30 #[.slice A ms.length c, .int .i64 last]
  have hR0 := RL.of_own hown
  go_enter Tryz.func12, Tryz.ntmps12
  go_wp2_with (fail)
  go_loopw [3, 4] (fun b i wr => ∃ (k : Nat) (r : Int), k ≤ ms.length ∧ b = .int .i64 r ∧ i = .int .i64 k ∧ rfirstP ms k r ∧ Blk wr w.heap.size 30 #[.slice A ms.length c, .int .i64 last] ∧ Below w.heap.size w wr) (fun _ i _ => ms.length - (intOf i).toNat)
  case atStart => exact ⟨0, -1, by omega, rfl, rfl, .inl ⟨rfl, rfl⟩, hB0, hb0 _⟩
  case round =>
    clear hB0
    obtain ⟨k, r, hk, rfl, rfl, hf, hB, hb⟩ := hrel
    have c0 := hB.cell 0
    simp only [List.getElem?_toArray, List.getElem?_cons_zero] at c0
    by_cases hlt : k < ms.length
    · have d1 : decide ((k : Int) < ms.length) = true := by simp; omega
      rcases hf with ⟨rfl, rfl⟩ | ⟨i, rfl, hi, hik, hlt1, hle1⟩
      · have d2 : decide ((-1 : Int) < 0) = true := by decide
        go_wp2_with (fail)
        go_quiet (fail)
        go_wp2_with (fail)
        go_roundw
        case rel => exact ⟨1, 0, by omega, by go_num, by go_num, .inr ⟨0, rfl, hlt, by omega, fun j _ h => absurd h (by omega), le_one ms hlt⟩, hB.drewN _, below_drewN hb _⟩
        case measure => simp [intOf]; omega
      · have d2 : decide ((i : Int) < 0) = false := by simp
        have hR := hR0.below hb
        obtain ⟨g, rfl, hk1⟩ := hR.at_ k hlt
        obtain ⟨g', e, hi1⟩ := hR.at_ i hi
        obtain rfl : g = g' := by injection e with e; injection e
        clear e
        have sx := hs _ (List.getElem_mem hlt)
        have sy := hs _ (List.getElem_mem hi)
        have hii : (i : Int) < ms.length := by omega
        obtain ⟨x, hx⟩ : ∃ x, x = ms[k] := ⟨_, rfl⟩
        obtain ⟨y, hy⟩ : ∃ y, y = ms[i] := ⟨_, rfl⟩
        rw [← hx] at sx hk1
        rw [← hy] at sy hi1
        obtain ⟨s1, s2, s3⟩ := sx
        obtain ⟨s4, s5, s6⟩ := sy
        have S0 : C7 wr g (k*8) x ∧ C7 wr g (i*8) y := ⟨⟨hk1.c0, hk1.c1, hk1.c2, hk1.c3, hk1.c4, hk1.c5, hk1.c6⟩, ⟨hi1.c0, hi1.c1, hi1.c2, hi1.c3, hi1.c4, hi1.c5, hi1.c6⟩⟩
        have HX := Lib.hid hx
        have HY := Lib.hid hy
        clear hx hy hk1 hi1
        go_wp2_with (fail)
        go_region_held3 (fun w' => Below wr.heap.size wr w' ∧ w'.cell? ⟨w.heap.size, 0, none⟩ = some (.slice (some ⟨g, 0, none⟩) ms.length c) ∧ (w'.cell? ⟨g, k*8, none⟩ = some (.int .i64 x.kind) ∧ w'.cell? ⟨g, k*8+1, none⟩ = some (.int .i64 x.backend) ∧ w'.cell? ⟨g, k*8+2, none⟩ = some (x.st.v) ∧ w'.cell? ⟨g, k*8+3, none⟩ = some (x.ms.v) ∧ w'.cell? ⟨g, k*8+4, none⟩ = some (x.pf.v) ∧ w'.cell? ⟨g, k*8+5, none⟩ = some (.int .i64 x.rounds) ∧ w'.cell? ⟨g, k*8+6, none⟩ = some (.int .i64 x.degree)) ∧ (w'.cell? ⟨g, i*8, none⟩ = some (.int .i64 y.kind) ∧ w'.cell? ⟨g, i*8+1, none⟩ = some (.int .i64 y.backend) ∧ w'.cell? ⟨g, i*8+2, none⟩ = some (y.st.v) ∧ w'.cell? ⟨g, i*8+3, none⟩ = some (y.ms.v) ∧ w'.cell? ⟨g, i*8+4, none⟩ = some (y.pf.v) ∧ w'.cell? ⟨g, i*8+5, none⟩ = some (.int .i64 y.rounds) ∧ w'.cell? ⟨g, i*8+6, none⟩ = some (.int .i64 y.degree)))
          ((refine keep_first S0 hB ?_; first | exact below_drew (Below.refl _ _) | exact below_via (by assumption) hb'))
          (first | (go_at_call_of 25 (x.kind); refine (rcost_any _ _ _ _ _ _ _ _ s1 s2 s3 x.cost rfl).mono ?_; rintro e w' ⟨rfl, hb'⟩) | (go_at_call_of 25 (y.kind); refine (rcost_any _ _ _ _ _ _ _ _ s4 s5 s6 y.cost rfl).mono ?_; rintro e w' ⟨rfl, hb'⟩))
        obtain ⟨hB', _⟩ := ‹Below wr.heap.size wr w' ∧ _›
        have hBq := hB.below hB' hB.lt
        have hbw := below_then hb hb.size hB'
        by_cases hxy : x.cost < y.cost
        · have d3 : decide (x.cost < y.cost) = true := by simp [hxy]
          go_wp2_with (fail)
          go_roundw
          case rel => exact ⟨k + 1, k, by omega, rfl, by go_num, .inr ⟨k, rfl, hlt, by omega, fun j hj hjk => by
            have := hle1 j hj hjk
            rw [← HX.out]; rw [← HY.out] at this; omega, fun j hj hjk => by
            rcases Nat.lt_or_ge j k with h1 | h1
            · have := hle1 j hj h1
              rw [← HX.out]; rw [← HY.out] at this; omega
            · obtain rfl : j = k := by omega
              exact Nat.le_refl _⟩, hBq, hbw⟩
          case measure => simp [intOf]; omega
        · have d3 : decide (x.cost < y.cost) = false := by simp; omega
          go_wp2_with (fail)
          go_roundw
          case rel => exact ⟨k + 1, i, by omega, rfl, by go_num, .inr ⟨i, rfl, hi, by omega, hlt1, fun j hj hjk => by
            rcases Nat.lt_or_ge j k with h1 | h1
            · exact hle1 j hj h1
            · obtain rfl : j = k := by omega
              rw [← HX.out, ← HY.out]; omega⟩, hBq, hbw⟩
          case measure => simp [intOf]; omega
    · obtain rfl : k = ms.length := by omega
      have d1 : decide ((ms.length : Int) < ms.length) = false := by simp
      have HF := Lib.hid hf
      clear hf
      go_wp2_with (fail)
      go_ret
      exact ⟨r, rfl, HF.out, hb⟩
end Go.Proofs.YtadgamfhlklemaaGreatDoor
