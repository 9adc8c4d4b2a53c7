/-
  NARROWER THAN 'FOR EVERY INPUT', by the rows' own cells (each row's printed sentence says how): DocPlays: laid · LiveFollows: laid · LivePlays: laid · ShareRuns: laid · ShareLine: laid · TopLine: laid · TopFollows: laid.
  DERIVED. THE GIVEN ROWS OF THIS SEAT. 7 by the template 'for every input the law returns true; each argument reads behind the call as it read before'; 0 by the template 'total and deterministic' (their statements: YteglopjljejjkacGreatDoorTotals.lean).
  GIVEN WITH THE SEED: the statements are not yours to turn. If you find one false, say at which input.
  Laid BY PROGRAM, IN A SANDBOX (cutbox-rows.mjs): the forced cells as the released guide's own fill.sh prints them over the translation e26e84c197a7c5bf… (all of the seat's roots in one cut). By AI agents, Wed Nov 11 2026. No macro, syntax, notation, axiom, sorry.
-/
import Derived.Test.YteglopjljejjkacGreatDoorChecked
import GoSem.PinnedTables
import GoSem.Claim
import GoSem.ClaimJoined
import GoSem.ClaimMapViews
import Derived.JoinedTies
import Derived.KernelRfl
namespace Go.Proofs.YteglopjljejjkacGreatDoor
/- THE CELL 'sum', in the pinned program and in every row, IS THE sha256 OF THE DUMP (.gsa) THAT YteglopjljejjkacGreatDoorProg.lean LOADS. Nothing in Lean hashes anything: it is a label: what it is worth is what the hold of that sum in a sandbox is worth. -/
noncomputable def Tryz.pinned : Pinned := { name := "yteglopjljejjkacgreatdoor", sum := "e26e84c197a7c5bffb9de4b0137e3161d3be06569f6c71a62ee2010b1f30e94b", checked := Tryz.checked }
namespace Rows
def none {H : Type} : Left H := { results := [], args := [] }

/- WHAT THE LISTED PACKAGE-LEVEL VARIABLES READ AS WHEN THE CALL BEGINS. Each datum BY PROGRAM (the guide's laid-datum.mjs) off the statement by which the dump's own 'gosem.cut.vars' lays the variable. In a bare row this is a premise. The card (YteglopjljejjkacGreatDoorCards.lean) ties it to the program's text. -/
def laid_unicode_utf8_acceptRanges {H : Type} : DataW H := .agg [.agg [.lit (.int .u8 128), .lit (.int .u8 191)], .agg [.lit (.int .u8 160), .lit (.int .u8 191)], .agg [.lit (.int .u8 128), .lit (.int .u8 159)], .agg [.lit (.int .u8 144), .lit (.int .u8 191)], .agg [.lit (.int .u8 128), .lit (.int .u8 143)], .agg [.lit (.int .u8 0), .lit (.int .u8 0)], .agg [.lit (.int .u8 0), .lit (.int .u8 0)], .agg [.lit (.int .u8 0), .lit (.int .u8 0)], .agg [.lit (.int .u8 0), .lit (.int .u8 0)], .agg [.lit (.int .u8 0), .lit (.int .u8 0)], .agg [.lit (.int .u8 0), .lit (.int .u8 0)], .agg [.lit (.int .u8 0), .lit (.int .u8 0)], .agg [.lit (.int .u8 0), .lit (.int .u8 0)], .agg [.lit (.int .u8 0), .lit (.int .u8 0)], .agg [.lit (.int .u8 0), .lit (.int .u8 0)], .agg [.lit (.int .u8 0), .lit (.int .u8 0)]]
def laid_errors_errorType {H : Type} : DataW H := .iface "internal/reflectlite.rtype" (.agg [.ptr (.lit (.string [101, 114, 114, 111, 114]))])
/-- One of Go's own tables, pinned by name: the form's constant. -/
def laid_unicode_utf8_first : DataW Unit := Go.Pinned.utf8First

/-- 'surcinglelaw11.DocPlays': WHATEVER THE INPUT: true; the input reads as it did. -/
def docPlaysSpec : ChangeSpec := { name := "docPlays", fn := fun _ => fun
  | [d1, d2, d3, d4] => { results := [.lit (.bool true)], args := [d1, d2, d3, d4] }
  | _ => none }
def docPlaysRow : OpenClaim := { program := "yteglopjljejjkacgreatdoor", sum := "e26e84c197a7c5bffb9de4b0137e3161d3be06569f6c71a62ee2010b1f30e94b", func := "surcingle/surcinglelaw11.DocPlays", spec := "docPlays", inPlace := ["internal/reflectlite.ValueOf", "(internal/reflectlite.Value).Type", "(internal/reflectlite.Value).IsNil", "internal/reflectlite.TypeOf", "(internal/reflectlite.Value).Elem", "(internal/reflectlite.Value).Set", "slices.overlaps[surcingle/api.Entry]", "slices.overlaps[surcingle/index.chunk]", "slices.overlaps[surcingle/list.node]", "slices.overlaps[surcingle/api.Clock]"], unfollowed := true, recurses := true, named := ["errors.errorType", "unicode/utf8.first", "unicode/utf8.acceptRanges"], apart := false, laid := [("unicode/utf8.acceptRanges", laid_unicode_utf8_acceptRanges), ("errors.errorType", laid_errors_errorType), ("unicode/utf8.first", laid_unicode_utf8_first)] }
def DocPlaysSaid : Prop := docPlaysRow.holds Tryz.pinned (OpenSpec.ofChange docPlaysSpec)

/-- ITS FALSE NEIGHBOUR: 'it returns false'. Refute it at one input. -/
def docPlaysWrong : ChangeSpec := { name := "docPlays", fn := fun _ => fun
  | [d1, d2, d3, d4] => { results := [.lit (.bool false)], args := [d1, d2, d3, d4] }
  | _ => none }
def DocPlaysWrongFalsely : Prop := docPlaysRow.holds Tryz.pinned (OpenSpec.ofChange docPlaysWrong)

/-- 'surcinglelaw14.LiveFollows': WHATEVER THE INPUT: true; the input reads as it did. -/
def liveFollowsSpec : ChangeSpec := { name := "liveFollows", fn := fun _ => fun
  | [d1, d2, d3] => { results := [.lit (.bool true)], args := [d1, d2, d3] }
  | _ => none }
def liveFollowsRow : OpenClaim := { program := "yteglopjljejjkacgreatdoor", sum := "e26e84c197a7c5bffb9de4b0137e3161d3be06569f6c71a62ee2010b1f30e94b", func := "surcingle/surcinglelaw14.LiveFollows", spec := "liveFollows", inPlace := ["internal/reflectlite.ValueOf", "(internal/reflectlite.Value).Type", "(internal/reflectlite.Value).IsNil", "internal/reflectlite.TypeOf", "(internal/reflectlite.Value).Elem", "(internal/reflectlite.Value).Set", "(*internal/sync.Mutex).Lock", "internal/race.Disable", "sync/atomic.CompareAndSwapInt32", "internal/race.Enable", "internal/race.Acquire", "(*internal/sync.Mutex).lockSlow", "internal/sync.runtime_canSpin", "internal/sync.runtime_doSpin", "internal/sync.throw", "internal/sync.runtime_nanotime", "internal/sync.runtime_SemacquireMutex", "sync/atomic.AddInt32", "(*internal/sync.Mutex).Unlock", "internal/race.ReleaseMerge", "(*internal/sync.Mutex).unlockSlow", "internal/sync.fatal", "internal/sync.runtime_Semrelease", "slices.overlaps[surcingle/api.Entry]", "slices.overlaps[surcingle/index.chunk]", "slices.overlaps[surcingle/list.node]", "slices.overlaps[surcingle/api.Clock]"], unfollowed := true, recurses := true, named := ["errors.errorType", "unicode/utf8.first", "unicode/utf8.acceptRanges"], apart := false, laid := [("unicode/utf8.acceptRanges", laid_unicode_utf8_acceptRanges), ("errors.errorType", laid_errors_errorType), ("unicode/utf8.first", laid_unicode_utf8_first)] }
def LiveFollowsSaid : Prop := liveFollowsRow.holds Tryz.pinned (OpenSpec.ofChange liveFollowsSpec)

/-- ITS FALSE NEIGHBOUR: 'it returns false'. Refute it at one input. -/
def liveFollowsWrong : ChangeSpec := { name := "liveFollows", fn := fun _ => fun
  | [d1, d2, d3] => { results := [.lit (.bool false)], args := [d1, d2, d3] }
  | _ => none }
def LiveFollowsWrongFalsely : Prop := liveFollowsRow.holds Tryz.pinned (OpenSpec.ofChange liveFollowsWrong)

/-- 'surcinglelaw14.LivePlays': WHATEVER THE INPUT: true; the input reads as it did. -/
def livePlaysSpec : ChangeSpec := { name := "livePlays", fn := fun _ => fun
  | [d1, d2, d3, d4, d5] => { results := [.lit (.bool true)], args := [d1, d2, d3, d4, d5] }
  | _ => none }
def livePlaysRow : OpenClaim := { program := "yteglopjljejjkacgreatdoor", sum := "e26e84c197a7c5bffb9de4b0137e3161d3be06569f6c71a62ee2010b1f30e94b", func := "surcingle/surcinglelaw14.LivePlays", spec := "livePlays", inPlace := ["internal/reflectlite.ValueOf", "(internal/reflectlite.Value).Type", "(internal/reflectlite.Value).IsNil", "internal/reflectlite.TypeOf", "(internal/reflectlite.Value).Elem", "(internal/reflectlite.Value).Set", "(*internal/sync.Mutex).Lock", "internal/race.Disable", "sync/atomic.CompareAndSwapInt32", "internal/race.Enable", "internal/race.Acquire", "(*internal/sync.Mutex).lockSlow", "internal/sync.runtime_canSpin", "internal/sync.runtime_doSpin", "internal/sync.throw", "internal/sync.runtime_nanotime", "internal/sync.runtime_SemacquireMutex", "sync/atomic.AddInt32", "(*internal/sync.Mutex).Unlock", "internal/race.ReleaseMerge", "(*internal/sync.Mutex).unlockSlow", "internal/sync.fatal", "internal/sync.runtime_Semrelease", "slices.overlaps[surcingle/api.Entry]", "slices.overlaps[surcingle/index.chunk]", "slices.overlaps[surcingle/list.node]", "slices.overlaps[surcingle/api.Clock]"], unfollowed := true, recurses := true, named := ["errors.errorType", "unicode/utf8.first", "unicode/utf8.acceptRanges"], apart := false, laid := [("unicode/utf8.acceptRanges", laid_unicode_utf8_acceptRanges), ("errors.errorType", laid_errors_errorType), ("unicode/utf8.first", laid_unicode_utf8_first)] }
def LivePlaysSaid : Prop := livePlaysRow.holds Tryz.pinned (OpenSpec.ofChange livePlaysSpec)

/-- ITS FALSE NEIGHBOUR: 'it returns false'. Refute it at one input. -/
def livePlaysWrong : ChangeSpec := { name := "livePlays", fn := fun _ => fun
  | [d1, d2, d3, d4, d5] => { results := [.lit (.bool false)], args := [d1, d2, d3, d4, d5] }
  | _ => none }
def LivePlaysWrongFalsely : Prop := livePlaysRow.holds Tryz.pinned (OpenSpec.ofChange livePlaysWrong)

/-- 'surcinglelaw15.ShareRuns': WHATEVER THE INPUT: true; the input reads as it did. -/
def shareRunsSpec : ChangeSpec := { name := "shareRuns", fn := fun _ => fun
  | [d1, d2, d3, d4, d5] => { results := [.lit (.bool true)], args := [d1, d2, d3, d4, d5] }
  | _ => none }
def shareRunsRow : OpenClaim := { program := "yteglopjljejjkacgreatdoor", sum := "e26e84c197a7c5bffb9de4b0137e3161d3be06569f6c71a62ee2010b1f30e94b", func := "surcingle/surcinglelaw15.ShareRuns", spec := "shareRuns", inPlace := ["internal/reflectlite.ValueOf", "(internal/reflectlite.Value).Type", "(internal/reflectlite.Value).IsNil", "internal/reflectlite.TypeOf", "(internal/reflectlite.Value).Elem", "(internal/reflectlite.Value).Set", "(*internal/sync.Mutex).Lock", "internal/race.Disable", "sync/atomic.CompareAndSwapInt32", "internal/race.Enable", "internal/race.Acquire", "(*internal/sync.Mutex).lockSlow", "internal/sync.runtime_canSpin", "internal/sync.runtime_doSpin", "internal/sync.throw", "internal/sync.runtime_nanotime", "internal/sync.runtime_SemacquireMutex", "sync/atomic.AddInt32", "(*internal/sync.Mutex).Unlock", "internal/race.ReleaseMerge", "(*internal/sync.Mutex).unlockSlow", "internal/sync.fatal", "internal/sync.runtime_Semrelease", "slices.overlaps[surcingle/api.Entry]", "slices.overlaps[surcingle/index.chunk]", "slices.overlaps[surcingle/list.node]", "slices.overlaps[surcingle/api.Clock]"], unfollowed := true, recurses := true, named := ["errors.errorType", "unicode/utf8.first", "unicode/utf8.acceptRanges"], apart := false, laid := [("unicode/utf8.acceptRanges", laid_unicode_utf8_acceptRanges), ("errors.errorType", laid_errors_errorType), ("unicode/utf8.first", laid_unicode_utf8_first)] }
def ShareRunsSaid : Prop := shareRunsRow.holds Tryz.pinned (OpenSpec.ofChange shareRunsSpec)

/-- ITS FALSE NEIGHBOUR: 'it returns false'. Refute it at one input. -/
def shareRunsWrong : ChangeSpec := { name := "shareRuns", fn := fun _ => fun
  | [d1, d2, d3, d4, d5] => { results := [.lit (.bool false)], args := [d1, d2, d3, d4, d5] }
  | _ => none }
def ShareRunsWrongFalsely : Prop := shareRunsRow.holds Tryz.pinned (OpenSpec.ofChange shareRunsWrong)

/-- 'surcinglelaw15.ShareLine': WHATEVER THE INPUT: true; the input reads as it did. -/
def shareLineSpec : ChangeSpec := { name := "shareLine", fn := fun _ => fun
  | [d1, d2, d3] => { results := [.lit (.bool true)], args := [d1, d2, d3] }
  | _ => none }
def shareLineRow : OpenClaim := { program := "yteglopjljejjkacgreatdoor", sum := "e26e84c197a7c5bffb9de4b0137e3161d3be06569f6c71a62ee2010b1f30e94b", func := "surcingle/surcinglelaw15.ShareLine", spec := "shareLine", inPlace := ["internal/reflectlite.ValueOf", "(internal/reflectlite.Value).Type", "(internal/reflectlite.Value).IsNil", "internal/reflectlite.TypeOf", "(internal/reflectlite.Value).Elem", "(internal/reflectlite.Value).Set", "(*internal/sync.Mutex).Lock", "internal/race.Disable", "sync/atomic.CompareAndSwapInt32", "internal/race.Enable", "internal/race.Acquire", "(*internal/sync.Mutex).lockSlow", "internal/sync.runtime_canSpin", "internal/sync.runtime_doSpin", "internal/sync.throw", "internal/sync.runtime_nanotime", "internal/sync.runtime_SemacquireMutex", "sync/atomic.AddInt32", "(*internal/sync.Mutex).Unlock", "internal/race.ReleaseMerge", "(*internal/sync.Mutex).unlockSlow", "internal/sync.fatal", "internal/sync.runtime_Semrelease", "slices.overlaps[surcingle/api.Entry]", "slices.overlaps[surcingle/index.chunk]", "slices.overlaps[surcingle/list.node]", "slices.overlaps[surcingle/api.Clock]"], unfollowed := true, recurses := true, named := ["errors.errorType", "unicode/utf8.first", "unicode/utf8.acceptRanges"], apart := false, laid := [("unicode/utf8.acceptRanges", laid_unicode_utf8_acceptRanges), ("errors.errorType", laid_errors_errorType), ("unicode/utf8.first", laid_unicode_utf8_first)] }
def ShareLineSaid : Prop := shareLineRow.holds Tryz.pinned (OpenSpec.ofChange shareLineSpec)

/-- ITS FALSE NEIGHBOUR: 'it returns false'. Refute it at one input. -/
def shareLineWrong : ChangeSpec := { name := "shareLine", fn := fun _ => fun
  | [d1, d2, d3] => { results := [.lit (.bool false)], args := [d1, d2, d3] }
  | _ => none }
def ShareLineWrongFalsely : Prop := shareLineRow.holds Tryz.pinned (OpenSpec.ofChange shareLineWrong)

/-- 'surcingletop.TopLine': WHATEVER THE INPUT: true; the input reads as it did. -/
def topLineSpec : ChangeSpec := { name := "topLine", fn := fun _ => fun
  | [d1, d2, d3, d4] => { results := [.lit (.bool true)], args := [d1, d2, d3, d4] }
  | _ => none }
def topLineRow : OpenClaim := { program := "yteglopjljejjkacgreatdoor", sum := "e26e84c197a7c5bffb9de4b0137e3161d3be06569f6c71a62ee2010b1f30e94b", func := "surcingle/surcingletop.TopLine", spec := "topLine", inPlace := ["internal/reflectlite.ValueOf", "(internal/reflectlite.Value).Type", "(internal/reflectlite.Value).IsNil", "internal/reflectlite.TypeOf", "(internal/reflectlite.Value).Elem", "(internal/reflectlite.Value).Set", "slices.overlaps[surcingle/api.Entry]", "slices.overlaps[surcingle/index.chunk]", "slices.overlaps[surcingle/list.node]", "slices.overlaps[surcingle/api.Clock]", "(*internal/sync.Mutex).Lock", "internal/race.Disable", "sync/atomic.CompareAndSwapInt32", "internal/race.Enable", "internal/race.Acquire", "(*internal/sync.Mutex).lockSlow", "internal/sync.runtime_canSpin", "internal/sync.runtime_doSpin", "internal/sync.throw", "internal/sync.runtime_nanotime", "internal/sync.runtime_SemacquireMutex", "sync/atomic.AddInt32", "(*internal/sync.Mutex).Unlock", "internal/race.ReleaseMerge", "(*internal/sync.Mutex).unlockSlow", "internal/sync.fatal", "internal/sync.runtime_Semrelease"], unfollowed := true, recurses := true, named := ["errors.errorType", "unicode/utf8.first", "unicode/utf8.acceptRanges"], apart := false, laid := [("unicode/utf8.acceptRanges", laid_unicode_utf8_acceptRanges), ("errors.errorType", laid_errors_errorType), ("unicode/utf8.first", laid_unicode_utf8_first)] }
def TopLineSaid : Prop := topLineRow.holds Tryz.pinned (OpenSpec.ofChange topLineSpec)

/-- ITS FALSE NEIGHBOUR: 'it returns false'. Refute it at one input. -/
def topLineWrong : ChangeSpec := { name := "topLine", fn := fun _ => fun
  | [d1, d2, d3, d4] => { results := [.lit (.bool false)], args := [d1, d2, d3, d4] }
  | _ => none }
def TopLineWrongFalsely : Prop := topLineRow.holds Tryz.pinned (OpenSpec.ofChange topLineWrong)

/-- 'surcingletop.TopFollows': WHATEVER THE INPUT: true; the input reads as it did. -/
def topFollowsSpec : ChangeSpec := { name := "topFollows", fn := fun _ => fun
  | [d1, d2, d3] => { results := [.lit (.bool true)], args := [d1, d2, d3] }
  | _ => none }
def topFollowsRow : OpenClaim := { program := "yteglopjljejjkacgreatdoor", sum := "e26e84c197a7c5bffb9de4b0137e3161d3be06569f6c71a62ee2010b1f30e94b", func := "surcingle/surcingletop.TopFollows", spec := "topFollows", inPlace := ["internal/reflectlite.ValueOf", "(internal/reflectlite.Value).Type", "(internal/reflectlite.Value).IsNil", "internal/reflectlite.TypeOf", "(internal/reflectlite.Value).Elem", "(internal/reflectlite.Value).Set", "slices.overlaps[surcingle/api.Entry]", "slices.overlaps[surcingle/index.chunk]", "slices.overlaps[surcingle/list.node]", "slices.overlaps[surcingle/api.Clock]", "(*internal/sync.Mutex).Lock", "internal/race.Disable", "sync/atomic.CompareAndSwapInt32", "internal/race.Enable", "internal/race.Acquire", "(*internal/sync.Mutex).lockSlow", "internal/sync.runtime_canSpin", "internal/sync.runtime_doSpin", "internal/sync.throw", "internal/sync.runtime_nanotime", "internal/sync.runtime_SemacquireMutex", "sync/atomic.AddInt32", "(*internal/sync.Mutex).Unlock", "internal/race.ReleaseMerge", "(*internal/sync.Mutex).unlockSlow", "internal/sync.fatal", "internal/sync.runtime_Semrelease"], unfollowed := true, recurses := true, named := ["errors.errorType", "unicode/utf8.first", "unicode/utf8.acceptRanges"], apart := false, laid := [("unicode/utf8.acceptRanges", laid_unicode_utf8_acceptRanges), ("errors.errorType", laid_errors_errorType), ("unicode/utf8.first", laid_unicode_utf8_first)] }
def TopFollowsSaid : Prop := topFollowsRow.holds Tryz.pinned (OpenSpec.ofChange topFollowsSpec)

/-- ITS FALSE NEIGHBOUR: 'it returns false'. Refute it at one input. -/
def topFollowsWrong : ChangeSpec := { name := "topFollows", fn := fun _ => fun
  | [d1, d2, d3] => { results := [.lit (.bool false)], args := [d1, d2, d3] }
  | _ => none }
def TopFollowsWrongFalsely : Prop := topFollowsRow.holds Tryz.pinned (OpenSpec.ofChange topFollowsWrong)

/- THE SECOND FORM. 'bulk': how many values and letters a reading holds, each counted each time it is reached (what is shared counts as often as it is met; a slice's spare places count too). A statement '..UptoSaid' is the law's where the arguments, and the package variables that the reading takes, are together of bulk at most 1048576: NARROWER than '..Said'. Prove '..Said' where nothing that the law and all that it calls make is longer than what came in: it says more and counts as full. Else prove '..UptoSaid'. A law counts once. -/
mutual
def uptoBulk {H : Type} : DataW H → Nat
  | .lit (.string bytes) => bytes.length + 1
  | .lit _ => 1
  | .nil => 1
  | .ptr d => uptoBulk d + 1
  | .slice elems spare => uptoBulkAll elems + uptoBulkAll spare + 1
  | .agg parts => uptoBulkAll parts + 1
  | .iface _ d => uptoBulk d + 1
  | .map entries => uptoBulkEntries entries + 1
  | .held _ => 1
def uptoBulkAll {H : Type} : List (DataW H) → Nat
  | [] => 0
  | d :: r => uptoBulk d + uptoBulkAll r
def uptoBulkEntries {H : Type} : List (Lit × DataW H) → Nat
  | [] => 0
  | x :: r => uptoBulkEntry x + uptoBulkEntries r
def uptoBulkEntry {H : Type} : Lit × DataW H → Nat
  | (.string bytes, d) => bytes.length + uptoBulk d + 1
  | (_, d) => uptoBulk d + 1
 end
def uptoSmall : (H : Type) → List (DataW H) → Bool := fun _ ds => decide (uptoBulkAll ds ≤ 1048576)
def OpenSpec.upto (s : _root_.Go.ChangeSpec) : _root_.Go.OpenSpec := { _root_.Go.OpenSpec.ofChange s with cond := some uptoSmall }

/-- 'surcinglelaw11.DocPlays', WHERE WHAT IT READS IS OF BULK AT MOST 1048576: true; the input reads as it did. -/
def docPlaysUptoRow : OpenClaim := { program := "yteglopjljejjkacgreatdoor", sum := "e26e84c197a7c5bffb9de4b0137e3161d3be06569f6c71a62ee2010b1f30e94b", func := "surcingle/surcinglelaw11.DocPlays", spec := "docPlays", inPlace := ["internal/reflectlite.ValueOf", "(internal/reflectlite.Value).Type", "(internal/reflectlite.Value).IsNil", "internal/reflectlite.TypeOf", "(internal/reflectlite.Value).Elem", "(internal/reflectlite.Value).Set", "slices.overlaps[surcingle/api.Entry]", "slices.overlaps[surcingle/index.chunk]", "slices.overlaps[surcingle/list.node]", "slices.overlaps[surcingle/api.Clock]"], unfollowed := true, recurses := true, named := ["errors.errorType", "unicode/utf8.first", "unicode/utf8.acceptRanges"], apart := false, laid := [("unicode/utf8.acceptRanges", laid_unicode_utf8_acceptRanges), ("errors.errorType", laid_errors_errorType), ("unicode/utf8.first", laid_unicode_utf8_first)], narrowed := true }
def DocPlaysUptoSaid : Prop := docPlaysUptoRow.holds Tryz.pinned (OpenSpec.upto docPlaysSpec)

/-- 'surcinglelaw14.LiveFollows', WHERE WHAT IT READS IS OF BULK AT MOST 1048576: true; the input reads as it did. -/
def liveFollowsUptoRow : OpenClaim := { program := "yteglopjljejjkacgreatdoor", sum := "e26e84c197a7c5bffb9de4b0137e3161d3be06569f6c71a62ee2010b1f30e94b", func := "surcingle/surcinglelaw14.LiveFollows", spec := "liveFollows", inPlace := ["internal/reflectlite.ValueOf", "(internal/reflectlite.Value).Type", "(internal/reflectlite.Value).IsNil", "internal/reflectlite.TypeOf", "(internal/reflectlite.Value).Elem", "(internal/reflectlite.Value).Set", "(*internal/sync.Mutex).Lock", "internal/race.Disable", "sync/atomic.CompareAndSwapInt32", "internal/race.Enable", "internal/race.Acquire", "(*internal/sync.Mutex).lockSlow", "internal/sync.runtime_canSpin", "internal/sync.runtime_doSpin", "internal/sync.throw", "internal/sync.runtime_nanotime", "internal/sync.runtime_SemacquireMutex", "sync/atomic.AddInt32", "(*internal/sync.Mutex).Unlock", "internal/race.ReleaseMerge", "(*internal/sync.Mutex).unlockSlow", "internal/sync.fatal", "internal/sync.runtime_Semrelease", "slices.overlaps[surcingle/api.Entry]", "slices.overlaps[surcingle/index.chunk]", "slices.overlaps[surcingle/list.node]", "slices.overlaps[surcingle/api.Clock]"], unfollowed := true, recurses := true, named := ["errors.errorType", "unicode/utf8.first", "unicode/utf8.acceptRanges"], apart := false, laid := [("unicode/utf8.acceptRanges", laid_unicode_utf8_acceptRanges), ("errors.errorType", laid_errors_errorType), ("unicode/utf8.first", laid_unicode_utf8_first)], narrowed := true }
def LiveFollowsUptoSaid : Prop := liveFollowsUptoRow.holds Tryz.pinned (OpenSpec.upto liveFollowsSpec)

/-- 'surcinglelaw14.LivePlays', WHERE WHAT IT READS IS OF BULK AT MOST 1048576: true; the input reads as it did. -/
def livePlaysUptoRow : OpenClaim := { program := "yteglopjljejjkacgreatdoor", sum := "e26e84c197a7c5bffb9de4b0137e3161d3be06569f6c71a62ee2010b1f30e94b", func := "surcingle/surcinglelaw14.LivePlays", spec := "livePlays", inPlace := ["internal/reflectlite.ValueOf", "(internal/reflectlite.Value).Type", "(internal/reflectlite.Value).IsNil", "internal/reflectlite.TypeOf", "(internal/reflectlite.Value).Elem", "(internal/reflectlite.Value).Set", "(*internal/sync.Mutex).Lock", "internal/race.Disable", "sync/atomic.CompareAndSwapInt32", "internal/race.Enable", "internal/race.Acquire", "(*internal/sync.Mutex).lockSlow", "internal/sync.runtime_canSpin", "internal/sync.runtime_doSpin", "internal/sync.throw", "internal/sync.runtime_nanotime", "internal/sync.runtime_SemacquireMutex", "sync/atomic.AddInt32", "(*internal/sync.Mutex).Unlock", "internal/race.ReleaseMerge", "(*internal/sync.Mutex).unlockSlow", "internal/sync.fatal", "internal/sync.runtime_Semrelease", "slices.overlaps[surcingle/api.Entry]", "slices.overlaps[surcingle/index.chunk]", "slices.overlaps[surcingle/list.node]", "slices.overlaps[surcingle/api.Clock]"], unfollowed := true, recurses := true, named := ["errors.errorType", "unicode/utf8.first", "unicode/utf8.acceptRanges"], apart := false, laid := [("unicode/utf8.acceptRanges", laid_unicode_utf8_acceptRanges), ("errors.errorType", laid_errors_errorType), ("unicode/utf8.first", laid_unicode_utf8_first)], narrowed := true }
def LivePlaysUptoSaid : Prop := livePlaysUptoRow.holds Tryz.pinned (OpenSpec.upto livePlaysSpec)

/-- 'surcinglelaw15.ShareRuns', WHERE WHAT IT READS IS OF BULK AT MOST 1048576: true; the input reads as it did. -/
def shareRunsUptoRow : OpenClaim := { program := "yteglopjljejjkacgreatdoor", sum := "e26e84c197a7c5bffb9de4b0137e3161d3be06569f6c71a62ee2010b1f30e94b", func := "surcingle/surcinglelaw15.ShareRuns", spec := "shareRuns", inPlace := ["internal/reflectlite.ValueOf", "(internal/reflectlite.Value).Type", "(internal/reflectlite.Value).IsNil", "internal/reflectlite.TypeOf", "(internal/reflectlite.Value).Elem", "(internal/reflectlite.Value).Set", "(*internal/sync.Mutex).Lock", "internal/race.Disable", "sync/atomic.CompareAndSwapInt32", "internal/race.Enable", "internal/race.Acquire", "(*internal/sync.Mutex).lockSlow", "internal/sync.runtime_canSpin", "internal/sync.runtime_doSpin", "internal/sync.throw", "internal/sync.runtime_nanotime", "internal/sync.runtime_SemacquireMutex", "sync/atomic.AddInt32", "(*internal/sync.Mutex).Unlock", "internal/race.ReleaseMerge", "(*internal/sync.Mutex).unlockSlow", "internal/sync.fatal", "internal/sync.runtime_Semrelease", "slices.overlaps[surcingle/api.Entry]", "slices.overlaps[surcingle/index.chunk]", "slices.overlaps[surcingle/list.node]", "slices.overlaps[surcingle/api.Clock]"], unfollowed := true, recurses := true, named := ["errors.errorType", "unicode/utf8.first", "unicode/utf8.acceptRanges"], apart := false, laid := [("unicode/utf8.acceptRanges", laid_unicode_utf8_acceptRanges), ("errors.errorType", laid_errors_errorType), ("unicode/utf8.first", laid_unicode_utf8_first)], narrowed := true }
def ShareRunsUptoSaid : Prop := shareRunsUptoRow.holds Tryz.pinned (OpenSpec.upto shareRunsSpec)

/-- 'surcinglelaw15.ShareLine', WHERE WHAT IT READS IS OF BULK AT MOST 1048576: true; the input reads as it did. -/
def shareLineUptoRow : OpenClaim := { program := "yteglopjljejjkacgreatdoor", sum := "e26e84c197a7c5bffb9de4b0137e3161d3be06569f6c71a62ee2010b1f30e94b", func := "surcingle/surcinglelaw15.ShareLine", spec := "shareLine", inPlace := ["internal/reflectlite.ValueOf", "(internal/reflectlite.Value).Type", "(internal/reflectlite.Value).IsNil", "internal/reflectlite.TypeOf", "(internal/reflectlite.Value).Elem", "(internal/reflectlite.Value).Set", "(*internal/sync.Mutex).Lock", "internal/race.Disable", "sync/atomic.CompareAndSwapInt32", "internal/race.Enable", "internal/race.Acquire", "(*internal/sync.Mutex).lockSlow", "internal/sync.runtime_canSpin", "internal/sync.runtime_doSpin", "internal/sync.throw", "internal/sync.runtime_nanotime", "internal/sync.runtime_SemacquireMutex", "sync/atomic.AddInt32", "(*internal/sync.Mutex).Unlock", "internal/race.ReleaseMerge", "(*internal/sync.Mutex).unlockSlow", "internal/sync.fatal", "internal/sync.runtime_Semrelease", "slices.overlaps[surcingle/api.Entry]", "slices.overlaps[surcingle/index.chunk]", "slices.overlaps[surcingle/list.node]", "slices.overlaps[surcingle/api.Clock]"], unfollowed := true, recurses := true, named := ["errors.errorType", "unicode/utf8.first", "unicode/utf8.acceptRanges"], apart := false, laid := [("unicode/utf8.acceptRanges", laid_unicode_utf8_acceptRanges), ("errors.errorType", laid_errors_errorType), ("unicode/utf8.first", laid_unicode_utf8_first)], narrowed := true }
def ShareLineUptoSaid : Prop := shareLineUptoRow.holds Tryz.pinned (OpenSpec.upto shareLineSpec)

/-- 'surcingletop.TopLine', WHERE WHAT IT READS IS OF BULK AT MOST 1048576: true; the input reads as it did. -/
def topLineUptoRow : OpenClaim := { program := "yteglopjljejjkacgreatdoor", sum := "e26e84c197a7c5bffb9de4b0137e3161d3be06569f6c71a62ee2010b1f30e94b", func := "surcingle/surcingletop.TopLine", spec := "topLine", inPlace := ["internal/reflectlite.ValueOf", "(internal/reflectlite.Value).Type", "(internal/reflectlite.Value).IsNil", "internal/reflectlite.TypeOf", "(internal/reflectlite.Value).Elem", "(internal/reflectlite.Value).Set", "slices.overlaps[surcingle/api.Entry]", "slices.overlaps[surcingle/index.chunk]", "slices.overlaps[surcingle/list.node]", "slices.overlaps[surcingle/api.Clock]", "(*internal/sync.Mutex).Lock", "internal/race.Disable", "sync/atomic.CompareAndSwapInt32", "internal/race.Enable", "internal/race.Acquire", "(*internal/sync.Mutex).lockSlow", "internal/sync.runtime_canSpin", "internal/sync.runtime_doSpin", "internal/sync.throw", "internal/sync.runtime_nanotime", "internal/sync.runtime_SemacquireMutex", "sync/atomic.AddInt32", "(*internal/sync.Mutex).Unlock", "internal/race.ReleaseMerge", "(*internal/sync.Mutex).unlockSlow", "internal/sync.fatal", "internal/sync.runtime_Semrelease"], unfollowed := true, recurses := true, named := ["errors.errorType", "unicode/utf8.first", "unicode/utf8.acceptRanges"], apart := false, laid := [("unicode/utf8.acceptRanges", laid_unicode_utf8_acceptRanges), ("errors.errorType", laid_errors_errorType), ("unicode/utf8.first", laid_unicode_utf8_first)], narrowed := true }
def TopLineUptoSaid : Prop := topLineUptoRow.holds Tryz.pinned (OpenSpec.upto topLineSpec)

/-- 'surcingletop.TopFollows', WHERE WHAT IT READS IS OF BULK AT MOST 1048576: true; the input reads as it did. -/
def topFollowsUptoRow : OpenClaim := { program := "yteglopjljejjkacgreatdoor", sum := "e26e84c197a7c5bffb9de4b0137e3161d3be06569f6c71a62ee2010b1f30e94b", func := "surcingle/surcingletop.TopFollows", spec := "topFollows", inPlace := ["internal/reflectlite.ValueOf", "(internal/reflectlite.Value).Type", "(internal/reflectlite.Value).IsNil", "internal/reflectlite.TypeOf", "(internal/reflectlite.Value).Elem", "(internal/reflectlite.Value).Set", "slices.overlaps[surcingle/api.Entry]", "slices.overlaps[surcingle/index.chunk]", "slices.overlaps[surcingle/list.node]", "slices.overlaps[surcingle/api.Clock]", "(*internal/sync.Mutex).Lock", "internal/race.Disable", "sync/atomic.CompareAndSwapInt32", "internal/race.Enable", "internal/race.Acquire", "(*internal/sync.Mutex).lockSlow", "internal/sync.runtime_canSpin", "internal/sync.runtime_doSpin", "internal/sync.throw", "internal/sync.runtime_nanotime", "internal/sync.runtime_SemacquireMutex", "sync/atomic.AddInt32", "(*internal/sync.Mutex).Unlock", "internal/race.ReleaseMerge", "(*internal/sync.Mutex).unlockSlow", "internal/sync.fatal", "internal/sync.runtime_Semrelease"], unfollowed := true, recurses := true, named := ["errors.errorType", "unicode/utf8.first", "unicode/utf8.acceptRanges"], apart := false, laid := [("unicode/utf8.acceptRanges", laid_unicode_utf8_acceptRanges), ("errors.errorType", laid_errors_errorType), ("unicode/utf8.first", laid_unicode_utf8_first)], narrowed := true }
def TopFollowsUptoSaid : Prop := topFollowsUptoRow.holds Tryz.pinned (OpenSpec.upto topFollowsSpec)

end Rows
end Go.Proofs.YteglopjljejjkacGreatDoor
