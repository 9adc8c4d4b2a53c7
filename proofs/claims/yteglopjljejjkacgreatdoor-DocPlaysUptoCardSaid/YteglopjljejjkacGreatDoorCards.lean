/-
  DERIVED. GIVEN WITH THE SEED: THE CARDS: each row of YteglopjljejjkacGreatDoorRows.lean that lists a variable, with what it lists TIED to the program's text (the seventh form; the later family's looks); each row that meets fmt, with fmt's text TOLD by the authors' own Lean function (tested against real Go, not proved from fmt's source: count such statements apart). THE CARD IS WHAT COUNTS. Prove the row's statement (the work); the ties are given (YteglopjljejjkacGreatDoorTie.lean); close each card by the builder's one call (the guide's Derived/Test/ToyasCard.lean, 'card_holds'). Laid BY PROGRAM, IN A SANDBOX (cutbox-door.mjs). By AI agents, Wed Nov 11 2026. No macro, syntax, notation, axiom, sorry.
-/
import Derived.Test.YteglopjljejjkacGreatDoorRows
import GoSem.ClaimSeven
namespace Go.Proofs.YteglopjljejjkacGreatDoor
namespace Rows

/-- THE TIED CARD OF 'surcinglelaw11.DocPlays'. -/
def docPlaysCard : Claim7 := { stood := { row := docPlaysRow, standIns := [], harness := (true, "8d91eeb5fee22ae08e6a920fb00fc63a3c6a1f0c5a14ae6069a947d89c60380e"), looks := true }, kinds := [], alts := [], laidByText := true, laidKinds := [.data, .handle, .pinned], laidTests := true, laidLooks := .later }
def DocPlaysCardSaid : Prop := Claim7.holds Tryz.pinned (.plain (OpenSpec.ofChange docPlaysSpec)) docPlaysCard

/-- THE TIED CARD OF 'surcinglelaw14.LiveFollows'. -/
def liveFollowsCard : Claim7 := { stood := { row := liveFollowsRow, standIns := [], harness := (true, "8d91eeb5fee22ae08e6a920fb00fc63a3c6a1f0c5a14ae6069a947d89c60380e"), looks := true }, kinds := [], alts := [], laidByText := true, laidKinds := [.data, .handle, .pinned], laidTests := true, laidLooks := .later }
def LiveFollowsCardSaid : Prop := Claim7.holds Tryz.pinned (.plain (OpenSpec.ofChange liveFollowsSpec)) liveFollowsCard

/-- THE TIED CARD OF 'surcinglelaw14.LivePlays'. -/
def livePlaysCard : Claim7 := { stood := { row := livePlaysRow, standIns := [], harness := (true, "8d91eeb5fee22ae08e6a920fb00fc63a3c6a1f0c5a14ae6069a947d89c60380e"), looks := true }, kinds := [], alts := [], laidByText := true, laidKinds := [.data, .handle, .pinned], laidTests := true, laidLooks := .later }
def LivePlaysCardSaid : Prop := Claim7.holds Tryz.pinned (.plain (OpenSpec.ofChange livePlaysSpec)) livePlaysCard

/-- THE TIED CARD OF 'surcinglelaw15.ShareRuns'. -/
def shareRunsCard : Claim7 := { stood := { row := shareRunsRow, standIns := [], harness := (true, "8d91eeb5fee22ae08e6a920fb00fc63a3c6a1f0c5a14ae6069a947d89c60380e"), looks := true }, kinds := [], alts := [], laidByText := true, laidKinds := [.data, .handle, .pinned], laidTests := true, laidLooks := .later }
def ShareRunsCardSaid : Prop := Claim7.holds Tryz.pinned (.plain (OpenSpec.ofChange shareRunsSpec)) shareRunsCard

/-- THE TIED CARD OF 'surcinglelaw15.ShareLine'. -/
def shareLineCard : Claim7 := { stood := { row := shareLineRow, standIns := [], harness := (true, "8d91eeb5fee22ae08e6a920fb00fc63a3c6a1f0c5a14ae6069a947d89c60380e"), looks := true }, kinds := [], alts := [], laidByText := true, laidKinds := [.data, .handle, .pinned], laidTests := true, laidLooks := .later }
def ShareLineCardSaid : Prop := Claim7.holds Tryz.pinned (.plain (OpenSpec.ofChange shareLineSpec)) shareLineCard

/-- THE TIED CARD OF 'surcingletop.TopLine'. -/
def topLineCard : Claim7 := { stood := { row := topLineRow, standIns := [], harness := (true, "8d91eeb5fee22ae08e6a920fb00fc63a3c6a1f0c5a14ae6069a947d89c60380e"), looks := true }, kinds := [], alts := [], laidByText := true, laidKinds := [.data, .handle, .pinned], laidTests := true, laidLooks := .later }
def TopLineCardSaid : Prop := Claim7.holds Tryz.pinned (.plain (OpenSpec.ofChange topLineSpec)) topLineCard

/-- THE TIED CARD OF 'surcingletop.TopFollows'. -/
def topFollowsCard : Claim7 := { stood := { row := topFollowsRow, standIns := [], harness := (true, "8d91eeb5fee22ae08e6a920fb00fc63a3c6a1f0c5a14ae6069a947d89c60380e"), looks := true }, kinds := [], alts := [], laidByText := true, laidKinds := [.data, .handle, .pinned], laidTests := true, laidLooks := .later }
def TopFollowsCardSaid : Prop := Claim7.holds Tryz.pinned (.plain (OpenSpec.ofChange topFollowsSpec)) topFollowsCard

/-- THE SECOND FORM's CARD OF 'surcinglelaw11.DocPlays'. -/
def docPlaysUptoCard : Claim7 := { stood := { row := docPlaysUptoRow, standIns := [], harness := (true, "8d91eeb5fee22ae08e6a920fb00fc63a3c6a1f0c5a14ae6069a947d89c60380e"), looks := true }, kinds := [], alts := [], laidByText := true, laidKinds := [.data, .handle, .pinned], laidTests := true, laidLooks := .later }
def DocPlaysUptoCardSaid : Prop := Claim7.holds Tryz.pinned (.plain (OpenSpec.upto docPlaysSpec)) docPlaysUptoCard

/-- THE SECOND FORM's CARD OF 'surcinglelaw14.LiveFollows'. -/
def liveFollowsUptoCard : Claim7 := { stood := { row := liveFollowsUptoRow, standIns := [], harness := (true, "8d91eeb5fee22ae08e6a920fb00fc63a3c6a1f0c5a14ae6069a947d89c60380e"), looks := true }, kinds := [], alts := [], laidByText := true, laidKinds := [.data, .handle, .pinned], laidTests := true, laidLooks := .later }
def LiveFollowsUptoCardSaid : Prop := Claim7.holds Tryz.pinned (.plain (OpenSpec.upto liveFollowsSpec)) liveFollowsUptoCard

/-- THE SECOND FORM's CARD OF 'surcinglelaw14.LivePlays'. -/
def livePlaysUptoCard : Claim7 := { stood := { row := livePlaysUptoRow, standIns := [], harness := (true, "8d91eeb5fee22ae08e6a920fb00fc63a3c6a1f0c5a14ae6069a947d89c60380e"), looks := true }, kinds := [], alts := [], laidByText := true, laidKinds := [.data, .handle, .pinned], laidTests := true, laidLooks := .later }
def LivePlaysUptoCardSaid : Prop := Claim7.holds Tryz.pinned (.plain (OpenSpec.upto livePlaysSpec)) livePlaysUptoCard

/-- THE SECOND FORM's CARD OF 'surcinglelaw15.ShareRuns'. -/
def shareRunsUptoCard : Claim7 := { stood := { row := shareRunsUptoRow, standIns := [], harness := (true, "8d91eeb5fee22ae08e6a920fb00fc63a3c6a1f0c5a14ae6069a947d89c60380e"), looks := true }, kinds := [], alts := [], laidByText := true, laidKinds := [.data, .handle, .pinned], laidTests := true, laidLooks := .later }
def ShareRunsUptoCardSaid : Prop := Claim7.holds Tryz.pinned (.plain (OpenSpec.upto shareRunsSpec)) shareRunsUptoCard

/-- THE SECOND FORM's CARD OF 'surcinglelaw15.ShareLine'. -/
def shareLineUptoCard : Claim7 := { stood := { row := shareLineUptoRow, standIns := [], harness := (true, "8d91eeb5fee22ae08e6a920fb00fc63a3c6a1f0c5a14ae6069a947d89c60380e"), looks := true }, kinds := [], alts := [], laidByText := true, laidKinds := [.data, .handle, .pinned], laidTests := true, laidLooks := .later }
def ShareLineUptoCardSaid : Prop := Claim7.holds Tryz.pinned (.plain (OpenSpec.upto shareLineSpec)) shareLineUptoCard

/-- THE SECOND FORM's CARD OF 'surcingletop.TopLine'. -/
def topLineUptoCard : Claim7 := { stood := { row := topLineUptoRow, standIns := [], harness := (true, "8d91eeb5fee22ae08e6a920fb00fc63a3c6a1f0c5a14ae6069a947d89c60380e"), looks := true }, kinds := [], alts := [], laidByText := true, laidKinds := [.data, .handle, .pinned], laidTests := true, laidLooks := .later }
def TopLineUptoCardSaid : Prop := Claim7.holds Tryz.pinned (.plain (OpenSpec.upto topLineSpec)) topLineUptoCard

/-- THE SECOND FORM's CARD OF 'surcingletop.TopFollows'. -/
def topFollowsUptoCard : Claim7 := { stood := { row := topFollowsUptoRow, standIns := [], harness := (true, "8d91eeb5fee22ae08e6a920fb00fc63a3c6a1f0c5a14ae6069a947d89c60380e"), looks := true }, kinds := [], alts := [], laidByText := true, laidKinds := [.data, .handle, .pinned], laidTests := true, laidLooks := .later }
def TopFollowsUptoCardSaid : Prop := Claim7.holds Tryz.pinned (.plain (OpenSpec.upto topFollowsSpec)) topFollowsUptoCard
end Rows
end Go.Proofs.YteglopjljejjkacGreatDoor
