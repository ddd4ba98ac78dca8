/- Queue.Run. -/
import Derived.Test.YtblljhdebfnmoaaGreatDoorAvC8
namespace Go.Proofs.YtblljhdebfnmoaaGreatDoor
open Go.RowKit
/-- In which order all that wait are taken. -/
def runL (js : List Wt) : List Wt := match _h : js.length with
  | 0 => []
  | n + 1 => gt js 0 :: runL ((takeM js 0 n).take n)
termination_by js.length
decreasing_by simp [List.length_take]; omega
theorem runL_nil (js : List Wt) (h : js.length = 0) : runL js = [] := by rw [runL]; split <;> simp_all
theorem runL_cons (js : List Wt) (n : Nat) (h : js.length = n + 1) : runL js = gt js 0 :: runL ((takeM js 0 n).take n) := by
  rw [runL]
  split
  · omega
  · rename_i m hm
    have : m = n := by omega
    subst this; rfl
def resCells (vc : Wt → Int) (l : List Wt) : List Value := l.flatMap fun x => [.int .i64 x.ticket, .int .i64 (vc x)]
theorem resCells_length (vc : Wt → Int) (l : List Wt) : (resCells vc l).length = l.length * 2 := by
  induction l with
  | nil => rfl
  | cons x r ih => simp only [resCells, List.flatMap_cons, List.length_append, List.length_cons, List.length_nil] at ih ⊢; omega
theorem Kept.ownE {W w3 : World} {base q B n size : Nat} {e : TypeId} {v : Value} {xs : List Value} {js : List Wt} {last : Int} (he1 : e ≠ 51) (he2 : e ≠ 26) (h : W.ownsRow B e size v n xs) (hk : Kept base q W w3) (hq : QL W base q js last) : w3.ownsRow B e size v n xs := by
  obtain ⟨v0, hq0, _⟩ := hq.ex
  refine ⟨h.1, ?_⟩
  have hne := own_blk_ne h hq0 he2
  rcases h.2 with h1 | ⟨g, cap, cur, rfl, h2, h3, h4⟩
  · exact .inl h1
  · exact .inr ⟨g, cap, cur, rfl, h2, kept_blk (t := e) h3 he1 (by simpa [Value.ownBlock] using hne) hk, h4⟩
theorem QL.grownE {w w' : World} {base q B n size : Nat} {js : List Wt} {last : Int} {e : TypeId} {v : Value} {xs : List Value} (h : QL w base q js last) (hg : w.grownBy w' v.ownBlock) (ho : w.ownsRow B e size v n xs) (h1 : e ≠ 26) (h2 : e ≠ 51) : QL w' base q js last := by
  obtain ⟨v0, hq, hln⟩ := h.ex
  refine ⟨v0, hq.grown hg (Ne.symm (own_blk_ne ho hq h1)), Ln.of_own rfl (hln.own.kept hg ?_)⟩
  rcases hln.or_ with ⟨rfl, _⟩ | ⟨g, cap, rfl, _, hr⟩
  · exact .inl rfl
  · obtain ⟨cur, hc, _⟩ := hr.blk
    exact .inr (fun e => own_blk_ne ho hc h2 e.symm)
theorem Kept.grownNew {B q : Nat} {a w w' : World} {row : Option Nat} (h : Kept B q a w) (hg : w.grownBy w' row) (hr : ∀ k, row = some k → a.heap.size ≤ k) : Kept B q a w' :=
  ⟨hg.os.trans h.os, hg.tape.trans h.tape, hg.output.trans h.output, Nat.le_trans h.size hg.size, fun i hi hn ho => (hg.block i (Nat.lt_of_lt_of_le hi h.size) (fun e => by have := hr i e.symm; omega)).trans (h.block i hi hn ho)⟩
structure RunR (w wr : World) (base q : Nat) (js : List Wt) (last : Int) (vc : Wt → Int) (v : Value) (left done : List Wt) : Prop where
  own : wr.ownsRow w.heap.size 40 2 v done.length (resCells vc done)
  ql : QL wr base q left last
  kept : Kept base q w wr
  eq : done ++ runL left = runL js
  sub : ∀ x ∈ left, x ∈ js
  le : left.length + done.length = js.length
def RunPost (w : World) (base q : Nat) (js : List Wt) (last : Int) (vc : Wt → Int) (e : Ending) (w' : World) : Prop :=
  ∃ v, e = .returned v ∧ w'.ownsRow w.heap.size 40 2 v js.length (resCells vc (runL js)) ∧ Kept base q w w' ∧ QL w' base q [] last
theorem infoRes : (Tryz.prog.info? 40).map (fun i => (i.zero, i.size, i.bytes)) = some (some (.agg #[.int .i64 0, .int .i64 0]), 2, 16) := by kernel_rfl
set_option maxHeartbeats 4000000 in
set_option maxRecDepth 100000 in
theorem run_any (w : World) (base q : Nat) (js : List Wt) (last : Int) (vc : Wt → Int) (hl : QL w base q js last) (hn1 : js.length ≤ 999999) (hs : AllSmall js) (hbase : base ≤ w.heap.size)
    (hver : ∀ x ∈ js, VerIs (fun W => Kept base q w W) x (vc x)) :
    Calls Tryz.prog 9 #[.pointer (some ⟨q, 0, none⟩)] w (RunPost w base q js last vc) := by
  obtain ⟨i0, hi0, hz0, hz1, hz2⟩ := info_parts infoRes
  go_enter Tryz.func9, Tryz.ntmps9
  go_wp2
  go_loopg [3] js.length (fun g v wr => ∃ left done : List Wt, g = left.length ∧ RunR w wr base q js last vc v left done)
  case atStart => exact ⟨js, [], rfl, World.ownsRow_nil _ _ _ _, hl, Kept.refl _ _ _, rfl, fun x hx => hx, by simp⟩
  case round =>
    obtain ⟨left, done, rfl, h⟩ := hrel
    have hsm : AllSmall left := fun x hx => hs x (h.sub x hx)
    have hle := h.le
    obtain ⟨A, c, rfl⟩ := own_form h.own
    by_cases h0 : left.length = 0
    · have H0 := Lib.hid h0
      clear h0
      go_wp2_with (fail)
      refine (next_none wr base q left last h.ql H0.out).mono ?_
      rintro e w1 ⟨rfl, hb1⟩
      go_wp2_with (fail)
      go_ret
      have hl0 : left = [] := List.eq_nil_of_length_eq_zero H0.out
      have he := h.eq
      rw [runL_nil left H0.out, List.append_nil] at he
      have hb2 := below_alloc hb1 (Nat.le_refl _) (.cells #[.int .i64 0, .int .i64 0] 40)
      refine ⟨.slice A done.length c, rfl, ?_, h.kept.trans (Kept.of_below hb2), ?_⟩
      · have e2 : done.length = js.length := by rw [H0.out] at hle; omega
        rw [← he, ← e2]
        exact own_below h.own hb2
      · have := h.ql.below hb2
        rw [hl0] at this
        exact this
    · obtain ⟨n, hn⟩ : ∃ n, left.length = n + 1 := ⟨left.length - 1, by omega⟩
      have HN := Lib.hid hn
      have hspec := takeM_spec left 0 n hn (by omega)
      have hx : gt left 0 ∈ left := by rw [gt_eq left 0 (by omega)]; exact List.getElem_mem _
      have hvx : VerIs (fun W => Kept base q wr W) (gt left 0) (vc (gt left 0)) := fun W hW => hver _ (h.sub _ hx) W (h.kept.trans hW)
      have hbw := h.kept.size
      clear h0 hn
      go_wp2_with (fail)
      refine (next_some wr base q n left last _ h.ql HN.out (by have := HN.out; omega) hsm (by omega) hvx).mono ?_
      rintro e w1 ⟨rfl, hp⟩
      have hR : Reads ((w1.alloc (.cells #[.int .i64 (gt left 0).ticket, .int .i64 (vc (gt left 0))] 40)).alloc (.cells #[.int .i64 (gt left 0).ticket, .int .i64 (vc (gt left 0))] 40)) (w1.heap.size + 2) 2 (some ⟨w1.heap.size + 1, 0, none⟩) 1 [.int .i64 (gt left 0).ticket, .int .i64 (vc (gt left 0))] := by
        have h1 := Blk.new (w1.alloc (.cells #[.int .i64 (gt left 0).ticket, .int .i64 (vc (gt left 0))] 40)) 40 #[.int .i64 (gt left 0).ticket, .int .i64 (vc (gt left 0))]
        simp only [World.size_alloc] at h1
        exact Reads.cells_at (n := 1) (size := 2) h1 (by omega) rfl
      have hb2 : ∀ o1 o2, Below w1.heap.size w1 ((w1.alloc o1).alloc o2) := fun o1 o2 => ((Below.refl _ _).alloc (Nat.le_refl _) _).alloc (by simp) _
      have hO1 := Kept.ownE (by decide) (by decide) h.own hp.kept h.ql
      have hO2 := fun o1 o2 => own_below hO1 (hb2 o1 o2)
      have hone : ∀ u ∈ ([.int .i64 (gt left 0).ticket, .int .i64 (vc (gt left 0))] : List Value), u.oneCell' = true := by
        intro u hu
        simp only [List.mem_cons, List.not_mem_nil, or_false] at hu
        rcases hu with rfl | rfl <;> rfl
      have h63 : done.length + 1 ≤ maxLen := by simp only [maxLen]; omega
      have hby : (done.length + 1) * 16 ≤ 140737488355328 := by omega
      have hba : ∀ o1 o2, w.heap.size ≤ ((w1.alloc o1).alloc o2).heap.size := fun o1 o2 => by have := hp.kept.size; simp; omega
      go_wp2_with (at_builtin; refine wpList_append_any _ rfl (.tmp 14) (.tmp 16) 37 rfl w.heap.size 40 i0 _ 2 16 Tryz.underlying37 hi0 hz0 hz1 hz2 rfl (by decide) (.slice A done.length c) done.length (resCells vc done) rfl (hO2 _ _) (w1.heap.size + 2) (some ⟨w1.heap.size + 1, 0, none⟩) 1 1 _ rfl hR hone h63 hby (hba _ _) ?_; intro v' w2 hown2 hg2 hat2)
      have hB2 := hb2 (.cells #[.int .i64 (gt left 0).ticket, .int .i64 (vc (gt left 0))] 40) (.cells #[.int .i64 (gt left 0).ticket, .int .i64 (vc (gt left 0))] 40)
      have hO := hO2 (.cells #[.int .i64 (gt left 0).ticket, .int .i64 (vc (gt left 0))] 40) (.cells #[.int .i64 (gt left 0).ticket, .int .i64 (vc (gt left 0))] 40)
      go_roundg n
      case rel =>
        refine ⟨(takeM left 0 n).take n, done ++ [gt left 0], ?_, ?_⟩
        · rw [List.length_take, hspec.1, HN.out]; omega
        · refine ⟨?_, (hp.ql.below hB2).grownE hg2 hO (by decide) (by decide), ((h.kept.trans hp.kept).trans (Kept.of_below hB2)).grownNew hg2 (fun k hk => (hO.lt k hk).1), ?_, fun x hx => ?_, ?_⟩
          · have e1 : (done ++ [gt left 0]).length = done.length + 1 := by simp
            have e2 : resCells vc (done ++ [gt left 0]) = resCells vc done ++ [.int .i64 (gt left 0).ticket, .int .i64 (vc (gt left 0))] := by simp [resCells]
            rw [e1, e2]
            exact hown2
          · rw [List.append_assoc, ← h.eq, runL_cons left n HN.out]
            rfl
          · exact h.sub x ((hspec.2.1.mem_iff).1 (List.mem_of_mem_take hx))
          · rw [List.length_take, hspec.1, HN.out]; simp; have := HN.out; omega
      case measure => have := HN.out; simp; omega
end Go.Proofs.YtblljhdebfnmoaaGreatDoor
