/-
  DERIVED. GIVEN WITH THE SEED: THE CARDS: each row of YteglopjljejjkabDoorRows.lean that lists a variable, with what it lists TIED to the program's text (the seventh form; the later family's looks); each row that meets fmt, with fmt's text TOLD by the authors' own Lean function (tested against real Go, not proved from fmt's source: count such statements apart). THE CARD IS WHAT COUNTS. Prove the row's statement (the work); the ties are given (YteglopjljejjkabDoorTie.lean); close each card by the builder's one call (the guide's Derived/Test/ToyasCard.lean, 'card_holds'). Laid BY PROGRAM, IN A SANDBOX (cutbox-door.mjs). By AI agents, Wed Nov 11 2026. No macro, syntax, notation, axiom, sorry.
-/
import Derived.Test.YteglopjljejjkabDoorRows
import GoSem.ClaimSeven
namespace Go.Proofs.YteglopjljejjkabDoor
namespace Rows

/-- THE TIED CARD OF 'surcinglelaw06.BatchTells'. -/
def batchTellsCard : Claim7 := { stood := { row := batchTellsRow, standIns := [], harness := (true, "46cb8f82963bd7304a28237c607ccaa0e8f462f699facf061c35fe07b72ea409"), looks := true }, kinds := [], alts := [], laidByText := true, laidKinds := [.data, .pinned], laidTests := true, laidLooks := .later }
def BatchTellsCardSaid : Prop := Claim7.holds Tryd.pinned (.plain (OpenSpec.ofChange batchTellsSpec)) batchTellsCard

/-- THE TIED CARD OF 'surcinglelaw06.BatchBack'. -/
def batchBackCard : Claim7 := { stood := { row := batchBackRow, standIns := [], harness := (true, "46cb8f82963bd7304a28237c607ccaa0e8f462f699facf061c35fe07b72ea409"), looks := true }, kinds := [], alts := [], laidByText := true, laidKinds := [.data, .pinned], laidTests := true, laidLooks := .later }
def BatchBackCardSaid : Prop := Claim7.holds Tryd.pinned (.plain (OpenSpec.ofChange batchBackSpec)) batchBackCard

/-- THE SECOND FORM's CARD OF 'surcinglelaw06.BatchTells'. -/
def batchTellsUptoCard : Claim7 := { stood := { row := batchTellsUptoRow, standIns := [], harness := (true, "46cb8f82963bd7304a28237c607ccaa0e8f462f699facf061c35fe07b72ea409"), looks := true }, kinds := [], alts := [], laidByText := true, laidKinds := [.data, .pinned], laidTests := true, laidLooks := .later }
def BatchTellsUptoCardSaid : Prop := Claim7.holds Tryd.pinned (.plain (OpenSpec.upto batchTellsSpec)) batchTellsUptoCard

/-- THE SECOND FORM's CARD OF 'surcinglelaw06.BatchBack'. -/
def batchBackUptoCard : Claim7 := { stood := { row := batchBackUptoRow, standIns := [], harness := (true, "46cb8f82963bd7304a28237c607ccaa0e8f462f699facf061c35fe07b72ea409"), looks := true }, kinds := [], alts := [], laidByText := true, laidKinds := [.data, .pinned], laidTests := true, laidLooks := .later }
def BatchBackUptoCardSaid : Prop := Claim7.holds Tryd.pinned (.plain (OpenSpec.upto batchBackSpec)) batchBackUptoCard
end Rows
end Go.Proofs.YteglopjljejjkabDoor
