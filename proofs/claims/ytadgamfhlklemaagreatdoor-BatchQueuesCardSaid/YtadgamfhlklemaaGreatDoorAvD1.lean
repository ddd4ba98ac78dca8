/- Layer 25's example: two jobs, the smaller one first. -/
import Derived.Test.YtadgamfhlklemaaGreatDoorAvC8
import Derived.Test.YtadgamfhlklemaaGreatDoorAvC4
namespace Go.Proofs.YtadgamfhlklemaaGreatDoor
open Go.RowKit
structure Added1 (w w' : World) (base q : Nat) (js : List Wt) (l1 k b r d : Int) (x : Wt) (s m p : Sl) : Prop where
  k1 : x.kind = k
  k2 : x.backend = b
  k3 : x.rounds = r
  k4 : x.degree = d
  k5 : x.ticket = l1
  n1 : x.st.n = s.n
  n2 : x.ms.n = m.n
  n3 : x.pf.n = p.n
  kept : Kept base q w w'
  ql : QL w' base q (pushM js x) l1
/-- Add, told by the job that waits then. -/
def AddPost1 (w : World) (base q : Nat) (js : List Wt) (l1 k b : Int) (s m p : Sl) (r d : Int) (e : Ending) (w' : World) : Prop :=
  e = .returned (.tuple #[.int .i64 l1, .int .i64 0]) ∧ ∃ x : Wt, Added1 w w' base q js l1 k b r d x s m p
theorem add_ok1 (w : World) (base q : Nat) (js : List Wt) (last l1 k b : Int) (s m p : Sl) (r d : Int) (xs ys zs : List Value) (hl1 : l1 = last + 1) (hk : vfIs k = true) (hl : QL w base q js last) (hbase : base ≤ w.heap.size) (hn : js.length < 1000) (hs : AllSmall js) (hlast : 0 ≤ last ∧ last ≤ 1000000000)
    (h1 : s.n ≤ 1000000000000) (h2 : m.n ≤ 1000000000000) (h3 : p.n ≤ 1000000000000)
    (r1 : Reads w w.heap.size 1 s.a s.n xs) (r2 : Reads w w.heap.size 1 m.a m.n ys) (r3 : Reads w w.heap.size 1 p.a p.n zs) (o1 : One xs) (o2 : One ys) (o3 : One zs) :
    Calls Tryz.prog 8 #[.pointer (some ⟨q, 0, none⟩), jv k b s m p r d] w (AddPost1 w base q js l1 k b s m p r d) := by
  subst hl1
  refine (add_ok w base q js last k b s m p r d xs ys zs hk hl hbase hn hs hlast h1 h2 h3 r1 r2 r3 o1 o2 o3).mono ?_
  rintro e w' ⟨rfl, s', m', p', h⟩
  exact ⟨rfl, ⟨k, b, s', m', p', r, d, last + 1⟩, rfl, rfl, rfl, rfl, rfl, h.n1, h.n2, h.n3, h.kept, h.ql⟩
theorem below_of_kept {B q : Nat} {w w' : World} (hB : B = w.heap.size) (hq : B ≤ q) (h : Kept B q w w') : Below w.heap.size w w' :=
  ⟨h.os, h.tape, h.output, h.size, fun i hi => h.block i hi (by omega) (.inl (by omega))⟩
theorem below_kept {B q : Nat} {w w1 w2 : World} (h : Below B w w1) (hB : B ≤ w1.heap.size) (hq : B ≤ q) (k : Kept B q w1 w2) : Below B w w2 :=
  h.trans ⟨k.os, k.tape, k.output, k.size, fun i hi => k.block i (Nat.lt_of_lt_of_le hi hB) (by omega) (.inl hi)⟩
theorem pushM_nil (x : Wt) : pushM [] x = [x] := by unfold pushM; exact upL_zero _
theorem push2 (x y : Wt) (h : lessB y x = true) : gt (pushM (pushM [] x) y) 0 = y := by
  rw [pushM_nil]
  unfold pushM
  show gt (upL [x, y] (0 + 1)) 0 = y
  rw [upL_yes [x, y] 0 h, upL_zero]
  rfl
theorem one_u8 (n : Int) : One [.int .u8 n] := by intro u hu; simp only [List.mem_cons, List.not_mem_nil, or_false] at hu; subst hu; rfl
theorem One.nil : One [] := by intro u hu; simp at hu
theorem eq_res (_t _c : Int) (W : World) : (binOp .eql 49 (.agg #[.int .i64 2, .int .i64 15]) (.agg #[.int .i64 2, .int .i64 15])).run Tryz.prog W = .ok (.bool true) W := by kernel_rfl
theorem eqg_res (x y : Operand) (a b : Array Value) (W : World) : (eqGuard .eql 49 x y (.agg a) (.agg b)).run Tryz.prog W = .ok () W := by kernel_rfl
theorem ql_new (w : World) : QL (w.alloc (.cells #[.slice none 0 0, .int .i64 0] 27)) w.heap.size w.heap.size [] 0 :=
  ⟨_, Blk.new w _ _, ⟨.inl ⟨rfl, rfl⟩⟩⟩
theorem reads_new (w : World) (xs : Array Value) (B n : Nat) (hn : xs.size = n) (hB : w.heap.size < B) : Reads (w.alloc (.cells xs 5)) B 1 (some ⟨w.heap.size, 0, none⟩) n xs.toList :=
  Reads.cells_at (Blk.new w 5 xs) hB (by omega)
set_option maxHeartbeats 4000000 in
set_option maxRecDepth 100000 in
theorem speaks25 (w : World) : Calls Tryz.prog 4 #[] w fun e w' => e = .returned (.bool true) ∧ Below w.heap.size w w' := by
  have hb0 : ∀ o, Below w.heap.size w (w.alloc o) := fun o => (Below.refl _ _).alloc (Nat.le_refl _) _
  have hb2 : ∀ o1 o2, Below w.heap.size w ((w.alloc o1).alloc o2) := fun o1 o2 => (hb0 _).alloc (by simp) _
  go_enter Tryz.func4, Tryz.ntmps4
  go_wp2_with (fail)
  have hl0 := (ql_new w).below (((Below.refl _ _).alloc (Nat.le_refl _) (.cells #[.int .u8 1, .int .u8 2] 5)))
  have hr0 := reads_new (w.alloc (.cells #[.slice none 0 0, .int .i64 0] 27)) #[.int .u8 1, .int .u8 2] (w.heap.size + 1 + 1) 2 rfl (by simp)
  simp only [World.size_alloc] at hr0
  refine (add_ok1 _ w.heap.size w.heap.size [] 0 1 3 9 ⟨none, 0, 0⟩ ⟨none, 0, 0⟩ ⟨some ⟨w.heap.size + 1, 0, none⟩, 2, 2⟩ 0 0 [] [] _ rfl rfl hl0 (by simp; omega) (by simp) (fun x hx => by simp at hx) (by omega) (by simp) (by simp) (by simp) Reads.none_ Reads.none_ (by simpa using hr0) One.nil One.nil (by intro u hu; simp at hu; rcases hu with rfl | rfl <;> rfl)).mono ?_
  rintro e w1 ⟨rfl, x1, a1⟩
  have hB1 := below_kept (hb2 _ _) (by simp; omega) (Nat.le_refl _) a1.kept
  have hs1 : x1.Small := ⟨by rw [a1.n1]; simp, by rw [a1.n2]; simp, by rw [a1.n3]; simp⟩
  have hl1 := a1.ql.below ((Below.refl _ _).alloc (Nat.le_refl _) (.cells #[.int .u8 1] 5))
  have hr1 := reads_new w1 #[.int .u8 1] (w1.heap.size + 1) 1 rfl (by simp)
  have hlen1 := pushM_length [] x1
  have HL1 := Lib.hid hlen1
  have hp1 : AllSmall (pushM [] x1) := fun x hx => by
    rw [pushM_nil] at hx
    rw [List.mem_singleton.1 hx]; exact hs1
  clear hl0 hr0 hlen1
  go_wp2_with (fail)
  refine (add_ok1 _ w.heap.size w.heap.size (pushM [] x1) 1 2 3 9 ⟨none, 0, 0⟩ ⟨none, 0, 0⟩ ⟨some ⟨w1.heap.size, 0, none⟩, 1, 1⟩ 0 0 [] [] _ rfl rfl hl1 (by have := hB1.size; simp; omega) (by rw [HL1.out]; simp) hp1 (by omega) (by simp) (by simp) (by simp) Reads.none_ Reads.none_ (by simpa using hr1) One.nil One.nil (one_u8 1)).mono ?_
  rintro e w2 ⟨rfl, x2, a2⟩
  have hs2 : x2.Small := ⟨by rw [a2.n1]; simp, by rw [a2.n2]; simp, by rw [a2.n3]; simp⟩
  have hB2 := below_kept (hB1.alloc hB1.size _) (by have := hB1.size; simp; omega) (Nat.le_refl _) a2.kept
  have hless : lessB x2 x1 = true := by
    have c1 : x1.cost = 2 := by unfold Wt.cost; rw [a1.n1, a1.n2, a1.n3]; rfl
    have c2 : x2.cost = 1 := by unfold Wt.cost; rw [a2.n1, a2.n2, a2.n3]; rfl
    simp [lessB, c1, c2]
  have hg := push2 x1 x2 hless
  have hlen2 := pushM_length (pushM [] x1) x2
  have HL2 := Lib.hid hlen2
  have hp2 : AllSmall (pushM (pushM [] x1) x2) := AllSmall.perm (fun x hx => by
    rcases List.mem_append.1 hx with hx | hx
    · exact hp1 x hx
    · rw [List.mem_singleton.1 hx]; exact hs2) (pushM_perm (pushM [] x1) x2)
  have hv : VerIs (fun W => Kept w.heap.size w.heap.size w2 W) (gt (pushM (pushM [] x1) x2) 0) 15 := by
    rw [hg]
    exact fun W _ => ver_sum x2 a2.k1 (by rw [a2.k2]; omega) (by rw [a2.k2]; omega) W trivial
  have htk : (gt (pushM (pushM [] x1) x2) 0).ticket = 2 := by rw [hg]; exact a2.k5
  have HTK := Lib.hid htk
  clear hl1 hr1 hlen2 hless hg htk
  go_wp2_with (fail)
  refine (next_some w2 w.heap.size w.heap.size 1 _ 2 15 a2.ql (by rw [HL2.out, HL1.out]; rfl) (by omega) hp2 hB2.size hv).mono ?_
  rintro e w3 ⟨rfl, hp3⟩
  rw [HTK.out]
  have hB3 := below_kept hB2 hB2.size (Nat.le_refl _) hp3.kept
  have q1 := fun W => eq_res 0 0 W
  have q2 := fun x y W => eqg_res x y #[.int .i64 2, .int .i64 15] #[.int .i64 2, .int .i64 15] W
  go_wp2_with (fail)
  go_ret
  exact ⟨rfl, hB3.alloc hB3.size _⟩
end Go.Proofs.YtadgamfhlklemaaGreatDoor
