/-
  DERIVED. GIVEN WITH THE SEED: THE CARDS: each row of YtadgamfhlklemaaGreatDoorRows.lean that lists a variable, with what it lists TIED to the program's text (the seventh form; the later family's looks); each row that meets fmt, with fmt's text TOLD by the authors' own Lean function (tested against real Go, not proved from fmt's source: count such statements apart). THE CARD IS WHAT COUNTS. Prove the row's statement (the work); the ties are given (YtadgamfhlklemaaGreatDoorTie.lean); close each card by the builder's one call (the guide's Derived/Test/ToyasCard.lean, 'card_holds'). Laid BY PROGRAM, IN A SANDBOX (cutbox-door.mjs). By AI agents, Wed Nov 11 2026. No macro, syntax, notation, axiom, sorry.
-/
import Derived.Test.YtadgamfhlklemaaGreatDoorRows
import GoSem.ClaimSeven
namespace Go.Proofs.YtadgamfhlklemaaGreatDoor
namespace Rows

/-- THE TIED CARD OF 'avouchlaw25.BatchQueues'. -/
def batchQueuesCard : Claim7 := { stood := { row := batchQueuesRow, standIns := [], harness := (true, "1c6003c2f88f5972b445698826ea98f5308796c069f401a87bc6adb92ff424fd"), looks := true }, kinds := [], alts := [], laidByText := true, laidKinds := [.data], laidTests := true, laidLooks := .later }
def BatchQueuesCardSaid : Prop := Claim7.holds Tryz.pinned (.plain (OpenSpec.ofChange batchQueuesSpec)) batchQueuesCard

/-- THE SECOND FORM's CARD OF 'avouchlaw25.BatchQueues'. -/
def batchQueuesUptoCard : Claim7 := { stood := { row := batchQueuesUptoRow, standIns := [], harness := (true, "1c6003c2f88f5972b445698826ea98f5308796c069f401a87bc6adb92ff424fd"), looks := true }, kinds := [], alts := [], laidByText := true, laidKinds := [.data], laidTests := true, laidLooks := .later }
def BatchQueuesUptoCardSaid : Prop := Claim7.holds Tryz.pinned (.plain (OpenSpec.upto batchQueuesSpec)) batchQueuesUptoCard
end Rows
end Go.Proofs.YtadgamfhlklemaaGreatDoor
