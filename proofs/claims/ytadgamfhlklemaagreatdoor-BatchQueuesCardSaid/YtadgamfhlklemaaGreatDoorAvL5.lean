/- slices.Clone of words; the group's modulus as it is laid. -/
import Derived.Test.YtadgamfhlklemaaGreatDoorAvL4
import Derived.Test.YtadgamfhlklemaaGreatDoorAvC1
namespace Go.Proofs.YtadgamfhlklemaaGreatDoor
open Go.RowKit
set_option maxHeartbeats 1000000 in
set_option maxRecDepth 100000 in
theorem clone64_any (A : Option Addr) (n c B : Nat) (xs : List Value) (w : World) (hn : n ≤ 1000000000000) (hr : Reads w B 1 A n xs) (h1 : One xs) :
    Calls Tryz.prog 248 #[.slice A n c] w fun e w' => ∃ A' c', e = .returned (.slice A' n c') ∧ w'.ownsRow w.heap.size 115 1 (.slice A' n c') n xs ∧ Below w.heap.size w w' := by
  obtain ⟨i0, hi0, hz0, hz1, hz2⟩ := info_parts infoU64
  have qT : ∀ (w : World) (a : Option Addr) (n c n' c' : Nat), (binOp .eql 73 (.slice a n c) (.slice none n' c')).run Tryz.prog w = .ok (.bool a.isNone) w := fun w a n c n' c' => Lib.run_eql_slice_nil w _ _ a n c n' c' Tryz.underlying73
  cases A with
  | none =>
    have h0 : n = 0 := by
      rcases Nat.eq_zero_or_pos n with h | h
      · exact h
      · obtain ⟨ad, h2, _⟩ := hr.2 h; cases h2
    subst h0
    have hx : xs = [] := List.eq_nil_of_length_eq_zero (by simpa using hr.1)
    subst hx
    go_enter Tryz.func248, Tryz.ntmps248
    go_wp2
    go_ret
    exact ⟨none, 0, rfl, World.ownsRow_nil _ _ _ _, Below.refl _ _⟩
  | some ad =>
    have hown : (w.alloc (.cells #[] 115)).ownsRow w.heap.size 115 1 (.slice (some ⟨w.heap.size, 0, none⟩) 0 0) 0 [] := World.ownsRow_made w #[] 0 (Nat.le_refl _) (by simp [maxLen]) rfl
    have hra : ∀ o, Reads (w.alloc o) B 1 (some ad) n xs := fun o => ⟨hr.1, fun h => by
      obtain ⟨ad', h2, h3, h4⟩ := hr.2 h
      exact ⟨ad', h2, h3, fun j u hu => by rw [World.cell?_alloc_lt _ _ _ (World.block_lt_of_cell? _ _ (h4 j u hu))]; exact h4 j u hu⟩⟩
    have h63 : 0 + n ≤ maxLen := by simp only [maxLen]; omega
    have hby : (0 + n) * 8 ≤ 140737488355328 := by omega
    have hba : w.heap.size ≤ (w.alloc (.cells #[] 115)).heap.size := by simp
    go_enter Tryz.func248, Tryz.ntmps248
    go_wp2_with (at_builtin; refine wpList_append_any _ rfl (.tmp 5) (.tmp 6) 73 rfl w.heap.size 115 i0 _ 1 8 Tryz.underlying73 hi0 hz0 hz1 hz2 rfl (by decide) (.slice (some ⟨w.heap.size, 0, none⟩) 0 0) 0 [] rfl hown B (some ad) n c xs rfl (hra _) h1 h63 hby hba ?_; intro v' w1 hown1 hg1 hat1)
    go_ret
    obtain ⟨A', c', rfl⟩ := own_form hown1
    rw [Nat.zero_add, List.nil_append] at hown1
    refine ⟨A', c', by simp, hown1, ?_⟩
    exact ((Below.refl _ _).alloc (Nat.le_refl _) _).grown hg1 (by simp) (fun k hk => by simp [Value.ownBlock] at hk; omega)
theorem one_u64s (xs : List Int) : One (u64s xs) := fun u hu => by
  obtain ⟨z, _, rfl⟩ := List.mem_map.1 hu
  rfl
def primeL : List Int := [18446744073709551615, 17603518614768072224, 16466767132611215046, 5755940542857986629, 3470879405153129527, 17263733006627652379, 5857503583518590173, 147421033984662306, 2955010104097229940, 14179128828124470481, 14488038916154245684, 18446744073709551615]
set_option maxHeartbeats 1000000 in
set_option maxRecDepth 100000 in
theorem prime_any (w : World) : Calls Tryz.prog 196 #[] w fun e w' => e = .returned (.agg (u64s primeL).toArray) ∧ Below w.heap.size w w' := by
  go_enter Tryz.func196, Tryz.ntmps196
  go_wp2_with (fail)
  have hz := Blk.new w 152 (u64s primeL).toArray
  have x0 := hz.cell 0
  have x1 := hz.cell 1
  have x2 := hz.cell 2
  have x3 := hz.cell 3
  have x4 := hz.cell 4
  have x5 := hz.cell 5
  have x6 := hz.cell 6
  have x7 := hz.cell 7
  have x8 := hz.cell 8
  have x9 := hz.cell 9
  have x10 := hz.cell 10
  have x11 := hz.cell 11
  simp only [u64s, primeL, List.map_cons, List.map_nil, List.getElem?_toArray, List.getElem?_cons_succ, List.getElem?_cons_zero] at x0 x1 x2 x3 x4 x5 x6 x7 x8 x9 x10 x11
  refine bodyPost_ret (v := .agg (u64s primeL).toArray) (by simp [results, Tryz.results196, go_sem, u64s, primeL, x0, x1, x2, x3, x4, x5, x6, x7, x8, x9, x10, x11]) rfl ⟨rfl, (Below.refl _ _).alloc (Nat.le_refl _) _⟩
end Go.Proofs.YtadgamfhlklemaaGreatDoor
