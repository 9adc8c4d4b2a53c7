/-
  DERIVED. GIVEN WITH THE SEED: THE CARDS: each row of YteglopjljejjkabGreatDoorRows.lean that lists a variable, with what it lists TIED to the program's text (the seventh form; the later family's looks); each row that meets fmt, with fmt's text TOLD by the authors' own Lean function (tested against real Go, not proved from fmt's source: count such statements apart). THE CARD IS WHAT COUNTS. Prove the row's statement (the work); the ties are given (YteglopjljejjkabGreatDoorTie.lean); close each card by the builder's one call (the guide's Derived/Test/ToyasCard.lean, 'card_holds'). Laid BY PROGRAM, IN A SANDBOX (cutbox-door.mjs). By AI agents, Wed Nov 11 2026. No macro, syntax, notation, axiom, sorry.
-/
import Derived.Test.YteglopjljejjkabGreatDoorRows
import GoSem.ClaimSeven
namespace Go.Proofs.YteglopjljejjkabGreatDoor
namespace Rows

/-- THE TIED CARD OF 'surcingletop.TopRefuses'. -/
def topRefusesCard : Claim7 := { stood := { row := topRefusesRow, standIns := [], harness := (true, "d9d96267d8ce3f3c82b15eac6639834408efe08bb30206dae16fae71f1a84299"), looks := true }, kinds := [], alts := [], laidByText := true, laidKinds := [.data, .handle, .pinned], laidTests := true, laidLooks := .later }
def TopRefusesCardSaid : Prop := Claim7.holds Tryz.pinned (.plain (OpenSpec.ofChange topRefusesSpec)) topRefusesCard

/-- THE TIED CARD OF 'surcingletop.TopMeets'. -/
def topMeetsCard : Claim7 := { stood := { row := topMeetsRow, standIns := [], harness := (true, "d9d96267d8ce3f3c82b15eac6639834408efe08bb30206dae16fae71f1a84299"), looks := true }, kinds := [], alts := [], laidByText := true, laidKinds := [.data, .handle, .pinned], laidTests := true, laidLooks := .later }
def TopMeetsCardSaid : Prop := Claim7.holds Tryz.pinned (.plain (OpenSpec.ofChange topMeetsSpec)) topMeetsCard

/-- THE SECOND FORM's CARD OF 'surcingletop.TopRefuses'. -/
def topRefusesUptoCard : Claim7 := { stood := { row := topRefusesUptoRow, standIns := [], harness := (true, "d9d96267d8ce3f3c82b15eac6639834408efe08bb30206dae16fae71f1a84299"), looks := true }, kinds := [], alts := [], laidByText := true, laidKinds := [.data, .handle, .pinned], laidTests := true, laidLooks := .later }
def TopRefusesUptoCardSaid : Prop := Claim7.holds Tryz.pinned (.plain (OpenSpec.upto topRefusesSpec)) topRefusesUptoCard

/-- THE SECOND FORM's CARD OF 'surcingletop.TopMeets'. -/
def topMeetsUptoCard : Claim7 := { stood := { row := topMeetsUptoRow, standIns := [], harness := (true, "d9d96267d8ce3f3c82b15eac6639834408efe08bb30206dae16fae71f1a84299"), looks := true }, kinds := [], alts := [], laidByText := true, laidKinds := [.data, .handle, .pinned], laidTests := true, laidLooks := .later }
def TopMeetsUptoCardSaid : Prop := Claim7.holds Tryz.pinned (.plain (OpenSpec.upto topMeetsSpec)) topMeetsUptoCard
end Rows
end Go.Proofs.YteglopjljejjkabGreatDoor
