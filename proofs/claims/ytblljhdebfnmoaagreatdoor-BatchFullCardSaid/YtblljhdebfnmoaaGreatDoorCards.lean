/-
  DERIVED. GIVEN WITH THE SEED: THE CARDS: each row of YtblljhdebfnmoaaGreatDoorRows.lean that lists a variable, with what it lists TIED to the program's text (the seventh form; the later family's looks); each row that meets fmt, with fmt's text TOLD by the authors' own Lean function (tested against real Go, not proved from fmt's source: count such statements apart). THE CARD IS WHAT COUNTS. Prove the row's statement (the work); the ties are given (YtblljhdebfnmoaaGreatDoorTie.lean); close each card by the builder's one call (the guide's Derived/Test/ToyasCard.lean, 'card_holds'). Laid BY PROGRAM, IN A SANDBOX (cutbox-door.mjs). By AI agents, Wed Nov 11 2026. No macro, syntax, notation, axiom, sorry.
-/
import Derived.Test.YtblljhdebfnmoaaGreatDoorRows
import GoSem.ClaimSeven
namespace Go.Proofs.YtblljhdebfnmoaaGreatDoor
namespace Rows

/-- THE TIED CARD OF 'avouchlaw25.BatchFull'. -/
def batchFullCard : Claim7 := { stood := { row := batchFullRow, standIns := [], harness := (true, "d8cef221a6400a43ece7eed980ed8281344476e8a9a353473c4bbce17e5e4081"), looks := true }, kinds := [], alts := [], laidByText := true, laidKinds := [.data], laidTests := true, laidLooks := .later }
def BatchFullCardSaid : Prop := Claim7.holds Tryz.pinned (.plain (OpenSpec.ofChange batchFullSpec)) batchFullCard

/-- THE TIED CARD OF 'avouchlaw25.BatchDrops'. -/
def batchDropsCard : Claim7 := { stood := { row := batchDropsRow, standIns := [], harness := (true, "d8cef221a6400a43ece7eed980ed8281344476e8a9a353473c4bbce17e5e4081"), looks := true }, kinds := [], alts := [], laidByText := true, laidKinds := [.data], laidTests := true, laidLooks := .later }
def BatchDropsCardSaid : Prop := Claim7.holds Tryz.pinned (.plain (OpenSpec.ofChange batchDropsSpec)) batchDropsCard

/-- THE SECOND FORM's CARD OF 'avouchlaw25.BatchFull'. -/
def batchFullUptoCard : Claim7 := { stood := { row := batchFullUptoRow, standIns := [], harness := (true, "d8cef221a6400a43ece7eed980ed8281344476e8a9a353473c4bbce17e5e4081"), looks := true }, kinds := [], alts := [], laidByText := true, laidKinds := [.data], laidTests := true, laidLooks := .later }
def BatchFullUptoCardSaid : Prop := Claim7.holds Tryz.pinned (.plain (OpenSpec.upto batchFullSpec)) batchFullUptoCard

/-- THE SECOND FORM's CARD OF 'avouchlaw25.BatchDrops'. -/
def batchDropsUptoCard : Claim7 := { stood := { row := batchDropsUptoRow, standIns := [], harness := (true, "d8cef221a6400a43ece7eed980ed8281344476e8a9a353473c4bbce17e5e4081"), looks := true }, kinds := [], alts := [], laidByText := true, laidKinds := [.data], laidTests := true, laidLooks := .later }
def BatchDropsUptoCardSaid : Prop := Claim7.holds Tryz.pinned (.plain (OpenSpec.upto batchDropsSpec)) batchDropsUptoCard
end Rows
end Go.Proofs.YtblljhdebfnmoaaGreatDoor
