/- batch.Verify of a sum without such a backend; Queue.Next and Run over whatever verifying answers. -/
import Derived.Test.YtadgamfhlklemaaGreatDoorAvC6
namespace Go.Proofs.YtadgamfhlklemaaGreatDoor
open Go.RowKit
def zeroEnd : Value := .agg #[.slice none 0 0, .int .u64 0, .int .u64 0, .int .u64 0, .int .u64 0]
set_option maxHeartbeats 1000000 in
set_option maxRecDepth 100000 in
theorem sumVerify_backend (w : World) (b r d : Int) (c p : Sl) (hb1 : b ≠ 1) (hb2 : b ≠ 2) :
    Calls Tryz.prog 55 #[.int .i64 b, .int .i64 r, .int .i64 d, c.v, p.v] w fun e w' => e = .returned (.tuple #[zeroEnd, .int .i64 15]) ∧ Below w.heap.size w w' := by
  have d1 : (b == 1) = false := by simpa using hb1
  have d2 : (b == 2) = false := by simpa using hb2
  have d3 : (b != 1) = true := by simpa using hb1
  have d4 : (b != 2) = true := by simpa using hb2
  clear hb1 hb2
  go_enter Tryz.func55, Tryz.ntmps55
  go_wp2_with (fail)
  refine bodyPost_ret (v := .tuple #[zeroEnd, .int .i64 15]) (by simp [results, Tryz.results55, go_sem, zeroEnd]) rfl ⟨rfl, ?_⟩
  exact (Below.refl _ _).alloc (Nat.le_refl _) _

set_option maxHeartbeats 1000000 in
set_option maxRecDepth 100000 in
theorem jobsum_backend (w : World) (k b r d : Int) (s m p : Sl) (hb1 : b ≠ 1) (hb2 : b ≠ 2) :
    Calls Tryz.prog 33 #[jv k b s m p r d] w fun e w' => e = .returned (.int .i64 15) ∧ Below w.heap.size w w' := by
  have hb0 : ∀ o, Below w.heap.size w (w.alloc o) := fun o => (Below.refl _ _).alloc (Nat.le_refl _) _
  have H1 := Lib.hid hb1
  have H2 := Lib.hid hb2
  clear hb1 hb2
  go_enter Tryz.func33, Tryz.ntmps33
  go_wp2_with (fail)
  refine (sumVerify_backend _ b r d s p H1.out H2.out).mono ?_
  rintro e w1 ⟨rfl, hb⟩
  have hB : Below w.heap.size w w1 := below_then (hb0 _) (by simp) hb
  unfold zeroEnd
  go_wp2_with (fail)
  go_ret
  exact ⟨rfl, hB.alloc hB.size _⟩
/-- What verifying a job answers, in every world that W stands for. -/
def VerIs (P : World → Prop) (x : Wt) (code : Int) : Prop :=
  ∀ W, P W → Calls Tryz.prog 27 #[jv x.kind x.backend x.st x.ms x.pf x.rounds x.degree] W fun e w' => e = .returned (.int .i64 code) ∧ Below W.heap.size W w'
set_option maxHeartbeats 1000000 in
set_option maxRecDepth 100000 in
theorem ver_sum (x : Wt) (hk : x.kind = 3) (hb1 : x.backend ≠ 1) (hb2 : x.backend ≠ 2) : VerIs (fun _ => True) x 15 := by
  intro w _
  obtain ⟨k, b, s, m, p, r, d, t⟩ := x
  dsimp only at hk hb1 hb2 ⊢
  subst hk
  have H1 := Lib.hid hb1
  have H2 := Lib.hid hb2
  clear hb1 hb2
  have hE := fun W => eq_vf 3 W
  have hG := fun W x y => eqg_vf 3 W x y
  have hv : vfOf 3 = .func (.func 33) #[] #[] := rfl
  have hi : vfIs 3 = true := rfl
  rw [hi] at hE
  rw [hv] at hE hG
  clear hi
  have hb0 : ∀ o, Below w.heap.size w (w.alloc o) := fun o => (Below.refl _ _).alloc (Nat.le_refl _) _
  have hbx : Blk (w.alloc (.cells #[.int .i64 3, .int .i64 b, s.v, m.v, p.v, .int .i64 r, .int .i64 d] 37)) w.heap.size 37 #[.int .i64 3, .int .i64 b, s.v, m.v, p.v, .int .i64 r, .int .i64 d] := Blk.new w _ _
  have HV := Lib.hid hv
  clear hv
  go_enter Tryz.func27, Tryz.ntmps27
  go_wp2_with (fail)
  refine (verifier_any 3 _).mono ?_
  rintro e w1 ⟨rfl, hb⟩
  rw [HV.out]
  have hB : Below w.heap.size w w1 := below_then (hb0 _) (by simp) hb
  have hx1 := hbx.below hb (by simp)
  have b0 := hx1.cell 0
  have b1 := hx1.cell 1
  have b2 := hx1.cell 2
  have b3 := hx1.cell 3
  have b4 := hx1.cell 4
  have b5 := hx1.cell 5
  have b6 := hx1.cell 6
  simp only [List.getElem?_toArray, List.getElem?_cons_succ, List.getElem?_cons_zero] at b0 b1 b2 b3 b4 b5 b6
  clear hbx hx1 hb
  go_wp2_with (fail)
  refine (jobsum_backend w1 3 b r d s m p H1.out H2.out).mono ?_
  rintro e w2 ⟨rfl, hb2⟩
  go_wp2_with (fail)
  go_ret
  exact ⟨rfl, below_then hB hB.size hb2⟩
end Go.Proofs.YtadgamfhlklemaaGreatDoor
