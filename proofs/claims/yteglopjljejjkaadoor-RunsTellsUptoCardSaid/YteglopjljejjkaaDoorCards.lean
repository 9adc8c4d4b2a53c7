/-
  DERIVED. GIVEN WITH THE SEED: THE CARDS: each row of YteglopjljejjkaaDoorRows.lean that lists a variable, with what it lists TIED to the program's text (the seventh form; the later family's looks); each row that meets fmt, with fmt's text TOLD by the authors' own Lean function (tested against real Go, not proved from fmt's source: count such statements apart). THE CARD IS WHAT COUNTS. Prove the row's statement (the work); the ties are given (YteglopjljejjkaaDoorTie.lean); close each card by the builder's one call (the guide's Derived/Test/ToyasCard.lean, 'card_holds'). Laid BY PROGRAM, IN A SANDBOX (cutbox-door.mjs). By AI agents, Wed Nov 11 2026. No macro, syntax, notation, axiom, sorry.
-/
import Derived.Test.YteglopjljejjkaaDoorRows
import GoSem.ClaimSeven
namespace Go.Proofs.YteglopjljejjkaaDoor
namespace Rows

/-- THE TIED CARD OF 'surcinglelaw04.WireTells'. -/
def wireTellsCard : Claim7 := { stood := { row := wireTellsRow, standIns := [], harness := (true, "dfcaf0931a2136e7c5e671d85a6018231e473407e73a020b1c3fc3a9191ea5a7"), looks := true }, kinds := [], alts := [], laidByText := true, laidKinds := [.data, .pinned], laidTests := true, laidLooks := .later }
def WireTellsCardSaid : Prop := Claim7.holds Tryd.pinned (.plain (OpenSpec.ofChange wireTellsSpec)) wireTellsCard

/-- THE TIED CARD OF 'surcinglelaw04.WireBack'. -/
def wireBackCard : Claim7 := { stood := { row := wireBackRow, standIns := [], harness := (true, "dfcaf0931a2136e7c5e671d85a6018231e473407e73a020b1c3fc3a9191ea5a7"), looks := true }, kinds := [], alts := [], laidByText := true, laidKinds := [.data, .pinned], laidTests := true, laidLooks := .later }
def WireBackCardSaid : Prop := Claim7.holds Tryd.pinned (.plain (OpenSpec.ofChange wireBackSpec)) wireBackCard

/-- THE TIED CARD OF 'surcinglelaw05.RunsTells'. -/
def runsTellsCard : Claim7 := { stood := { row := runsTellsRow, standIns := [], harness := (true, "dfcaf0931a2136e7c5e671d85a6018231e473407e73a020b1c3fc3a9191ea5a7"), looks := true }, kinds := [], alts := [], laidByText := true, laidKinds := [.data, .pinned], laidTests := true, laidLooks := .later }
def RunsTellsCardSaid : Prop := Claim7.holds Tryd.pinned (.plain (OpenSpec.ofChange runsTellsSpec)) runsTellsCard

/-- THE TIED CARD OF 'surcinglelaw05.RunsBack'. -/
def runsBackCard : Claim7 := { stood := { row := runsBackRow, standIns := [], harness := (true, "dfcaf0931a2136e7c5e671d85a6018231e473407e73a020b1c3fc3a9191ea5a7"), looks := true }, kinds := [], alts := [], laidByText := true, laidKinds := [.data, .pinned], laidTests := true, laidLooks := .later }
def RunsBackCardSaid : Prop := Claim7.holds Tryd.pinned (.plain (OpenSpec.ofChange runsBackSpec)) runsBackCard

/-- THE SECOND FORM's CARD OF 'surcinglelaw04.WireTells'. -/
def wireTellsUptoCard : Claim7 := { stood := { row := wireTellsUptoRow, standIns := [], harness := (true, "dfcaf0931a2136e7c5e671d85a6018231e473407e73a020b1c3fc3a9191ea5a7"), looks := true }, kinds := [], alts := [], laidByText := true, laidKinds := [.data, .pinned], laidTests := true, laidLooks := .later }
def WireTellsUptoCardSaid : Prop := Claim7.holds Tryd.pinned (.plain (OpenSpec.upto wireTellsSpec)) wireTellsUptoCard

/-- THE SECOND FORM's CARD OF 'surcinglelaw04.WireBack'. -/
def wireBackUptoCard : Claim7 := { stood := { row := wireBackUptoRow, standIns := [], harness := (true, "dfcaf0931a2136e7c5e671d85a6018231e473407e73a020b1c3fc3a9191ea5a7"), looks := true }, kinds := [], alts := [], laidByText := true, laidKinds := [.data, .pinned], laidTests := true, laidLooks := .later }
def WireBackUptoCardSaid : Prop := Claim7.holds Tryd.pinned (.plain (OpenSpec.upto wireBackSpec)) wireBackUptoCard

/-- THE SECOND FORM's CARD OF 'surcinglelaw05.RunsTells'. -/
def runsTellsUptoCard : Claim7 := { stood := { row := runsTellsUptoRow, standIns := [], harness := (true, "dfcaf0931a2136e7c5e671d85a6018231e473407e73a020b1c3fc3a9191ea5a7"), looks := true }, kinds := [], alts := [], laidByText := true, laidKinds := [.data, .pinned], laidTests := true, laidLooks := .later }
def RunsTellsUptoCardSaid : Prop := Claim7.holds Tryd.pinned (.plain (OpenSpec.upto runsTellsSpec)) runsTellsUptoCard

/-- THE SECOND FORM's CARD OF 'surcinglelaw05.RunsBack'. -/
def runsBackUptoCard : Claim7 := { stood := { row := runsBackUptoRow, standIns := [], harness := (true, "dfcaf0931a2136e7c5e671d85a6018231e473407e73a020b1c3fc3a9191ea5a7"), looks := true }, kinds := [], alts := [], laidByText := true, laidKinds := [.data, .pinned], laidTests := true, laidLooks := .later }
def RunsBackUptoCardSaid : Prop := Claim7.holds Tryd.pinned (.plain (OpenSpec.upto runsBackSpec)) runsBackUptoCard
end Rows
end Go.Proofs.YteglopjljejjkaaDoor
