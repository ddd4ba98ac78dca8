/- slices.Clone of bytes; the table of verifiers. -/
import Derived.Test.YtadgamfhlklemaaGreatDoorAvB1
import Derived.Test.YtadgamfhlklemaaGreatDoorAvR
namespace Go.Proofs.YtadgamfhlklemaaGreatDoor
open Go.RowKit
theorem infoByte : (Tryz.prog.info? 5).map (fun i => (i.zero, i.size, i.bytes)) = some (some (.int .u8 0), 1, 1) := by kernel_rfl
def One (xs : List Value) : Prop := ∀ u ∈ xs, u.oneCell' = true
set_option maxHeartbeats 1000000 in
set_option maxRecDepth 100000 in
theorem clone_any (A : Option Addr) (n c B : Nat) (xs : List Value) (w : World) (hn : n ≤ 1000000000000) (hr : Reads w B 1 A n xs) (h1 : One xs) :
    Calls Tryz.prog 20 #[.slice A n c] w fun e w' => ∃ A' c', e = .returned (.slice A' n c') ∧ w'.ownsRow w.heap.size 5 1 (.slice A' n c') n xs ∧ Below w.heap.size w w' := by
  obtain ⟨i0, hi0, hz0, hz1, hz2⟩ := info_parts infoByte
  have qT : ∀ (w : World) (a : Option Addr) (n c n' c' : Nat), (binOp .eql 31 (.slice a n c) (.slice none n' c')).run Tryz.prog w = .ok (.bool a.isNone) w := fun w a n c n' c' => Lib.run_eql_slice_nil w _ _ a n c n' c' Tryz.underlying31
  cases A with
  | none =>
    have h0 : n = 0 := by
      rcases Nat.eq_zero_or_pos n with h | h
      · exact h
      · obtain ⟨ad, h2, _⟩ := hr.2 h; cases h2
    subst h0
    have hx : xs = [] := List.eq_nil_of_length_eq_zero (by simpa using hr.1)
    subst hx
    go_enter Tryz.func20, Tryz.ntmps20
    go_wp2
    go_ret
    exact ⟨none, 0, rfl, World.ownsRow_nil _ _ _ _, Below.refl _ _⟩
  | some ad =>
    have hown : (w.alloc (.cells #[] 5)).ownsRow w.heap.size 5 1 (.slice (some ⟨w.heap.size, 0, none⟩) 0 0) 0 [] := World.ownsRow_made w #[] 0 (Nat.le_refl _) (by simp [maxLen]) rfl
    have hra : ∀ o, Reads (w.alloc o) B 1 (some ad) n xs := fun o => ⟨hr.1, fun h => by
      obtain ⟨ad', h2, h3, h4⟩ := hr.2 h
      exact ⟨ad', h2, h3, fun j u hu => by rw [World.cell?_alloc_lt _ _ _ (World.block_lt_of_cell? _ _ (h4 j u hu))]; exact h4 j u hu⟩⟩
    have h63 : 0 + n ≤ maxLen := by simp only [maxLen]; omega
    have hby : (0 + n) * 1 ≤ 140737488355328 := by omega
    have hba : w.heap.size ≤ (w.alloc (.cells #[] 5)).heap.size := by simp
    go_enter Tryz.func20, Tryz.ntmps20
    go_wp2_with (at_builtin; refine wpList_append_any _ rfl (.tmp 5) (.tmp 6) 31 rfl w.heap.size 5 i0 _ 1 1 Tryz.underlying31 hi0 hz0 hz1 hz2 rfl (by decide) (.slice (some ⟨w.heap.size, 0, none⟩) 0 0) 0 [] rfl hown B (some ad) n c xs rfl (hra _) h1 h63 hby hba ?_; intro v' w1 hown1 hg1 hat1)
    go_ret
    obtain ⟨A', c', rfl⟩ := own_form hown1
    rw [Nat.zero_add, List.nil_append] at hown1
    refine ⟨A', c', by simp, hown1, ?_⟩
    exact ((Below.refl _ _).alloc (Nat.le_refl _) _).grown hg1 (by simp) (fun k hk => by simp [Value.ownBlock] at hk; omega)
end Go.Proofs.YtadgamfhlklemaaGreatDoor
