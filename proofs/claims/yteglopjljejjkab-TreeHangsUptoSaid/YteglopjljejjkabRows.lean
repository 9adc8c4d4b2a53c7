/-
  No cell of these rows narrows 'for every input' (looked for: loops, veiled, ifaces, maps, wideKeys, modest, calm, conditions, laid).
  DERIVED. THE GIVEN ROWS OF THIS SEAT. 8 by the template 'for every input the law returns true; each argument reads behind the call as it read before'; 0 by the template 'total and deterministic' (their statements: YteglopjljejjkabTotals.lean).
  GIVEN WITH THE SEED: the statements are not yours to turn. If you find one false, say at which input.
  Laid BY PROGRAM, IN A SANDBOX (cutbox-rows.mjs): the forced cells as the released guide's own fill.sh prints them over the translation 9f308e35d6dbcc2b… (all of the seat's roots in one cut). By AI agents, Wed Nov 11 2026. No macro, syntax, notation, axiom, sorry.
-/
import Derived.Test.YteglopjljejjkabChecked
import GoSem.Claim
import GoSem.ClaimJoined
import GoSem.ClaimMapViews
import Derived.JoinedTies
import Derived.KernelRfl
namespace Go.Proofs.Yteglopjljejjkab
/- THE CELL 'sum', in the pinned program and in every row, IS THE sha256 OF THE DUMP (.gsa) THAT YteglopjljejjkabProg.lean LOADS. Nothing in Lean hashes anything: it is a label: what it is worth is what the hold of that sum in a sandbox is worth. -/
noncomputable def Try.pinned : Pinned := { name := "yteglopjljejjkab", sum := "9f308e35d6dbcc2bb97f14599d55c5c76d1f6e920ad0258102119ad65c687e9b", checked := Try.checked }
namespace Rows
def none {H : Type} : Left H := { results := [], args := [] }

/-- 'surcinglelaw02.VectorMerge': WHATEVER THE INPUT: true; the input reads as it did. -/
def vectorMergeSpec : ChangeSpec := { name := "vectorMerge", fn := fun _ => fun
  | [d1, d2, d3] => { results := [.lit (.bool true)], args := [d1, d2, d3] }
  | _ => none }
def vectorMergeRow : OpenClaim := { program := "yteglopjljejjkab", sum := "9f308e35d6dbcc2bb97f14599d55c5c76d1f6e920ad0258102119ad65c687e9b", func := "surcingle/surcinglelaw02.VectorMerge", spec := "vectorMerge", inPlace := ["slices.overlaps[surcingle/api.Clock]"], unfollowed := true, recurses := true, plainKeys := false, apart := false }
def VectorMergeSaid : Prop := vectorMergeRow.holds Try.pinned (OpenSpec.ofChange vectorMergeSpec)

/-- ITS FALSE NEIGHBOUR: 'it returns false'. Refute it at one input. -/
def vectorMergeWrong : ChangeSpec := { name := "vectorMerge", fn := fun _ => fun
  | [d1, d2, d3] => { results := [.lit (.bool false)], args := [d1, d2, d3] }
  | _ => none }
def VectorMergeWrongFalsely : Prop := vectorMergeRow.holds Try.pinned (OpenSpec.ofChange vectorMergeWrong)

/-- 'surcinglelaw07.IndexKeeps': WHATEVER THE INPUT: true; the input reads as it did. -/
def indexKeepsSpec : ChangeSpec := { name := "indexKeeps", fn := fun _ => fun
  | [d1, d2] => { results := [.lit (.bool true)], args := [d1, d2] }
  | _ => none }
def indexKeepsRow : OpenClaim := { program := "yteglopjljejjkab", sum := "9f308e35d6dbcc2bb97f14599d55c5c76d1f6e920ad0258102119ad65c687e9b", func := "surcingle/surcinglelaw07.IndexKeeps", spec := "indexKeeps", inPlace := ["slices.overlaps[surcingle/api.Entry]", "slices.overlaps[surcingle/index.chunk]"], unfollowed := true, recurses := true, plainKeys := false, apart := false }
def IndexKeepsSaid : Prop := indexKeepsRow.holds Try.pinned (OpenSpec.ofChange indexKeepsSpec)

/-- ITS FALSE NEIGHBOUR: 'it returns false'. Refute it at one input. -/
def indexKeepsWrong : ChangeSpec := { name := "indexKeeps", fn := fun _ => fun
  | [d1, d2] => { results := [.lit (.bool false)], args := [d1, d2] }
  | _ => none }
def IndexKeepsWrongFalsely : Prop := indexKeepsRow.holds Try.pinned (OpenSpec.ofChange indexKeepsWrong)

/-- 'surcinglelaw07.IndexPlays': WHATEVER THE INPUT: true; the input reads as it did. -/
def indexPlaysSpec : ChangeSpec := { name := "indexPlays", fn := fun _ => fun
  | [d1, d2] => { results := [.lit (.bool true)], args := [d1, d2] }
  | _ => none }
def indexPlaysRow : OpenClaim := { program := "yteglopjljejjkab", sum := "9f308e35d6dbcc2bb97f14599d55c5c76d1f6e920ad0258102119ad65c687e9b", func := "surcingle/surcinglelaw07.IndexPlays", spec := "indexPlays", inPlace := ["slices.overlaps[surcingle/api.Entry]", "slices.overlaps[surcingle/index.chunk]"], unfollowed := true, recurses := true, plainKeys := false, apart := false }
def IndexPlaysSaid : Prop := indexPlaysRow.holds Try.pinned (OpenSpec.ofChange indexPlaysSpec)

/-- ITS FALSE NEIGHBOUR: 'it returns false'. Refute it at one input. -/
def indexPlaysWrong : ChangeSpec := { name := "indexPlays", fn := fun _ => fun
  | [d1, d2] => { results := [.lit (.bool false)], args := [d1, d2] }
  | _ => none }
def IndexPlaysWrongFalsely : Prop := indexPlaysRow.holds Try.pinned (OpenSpec.ofChange indexPlaysWrong)

/-- 'surcinglelaw08.TreeHangs': WHATEVER THE INPUT: true; the input reads as it did. -/
def treeHangsSpec : ChangeSpec := { name := "treeHangs", fn := fun _ => fun
  | [d1, d2, d3] => { results := [.lit (.bool true)], args := [d1, d2, d3] }
  | _ => none }
def treeHangsRow : OpenClaim := { program := "yteglopjljejjkab", sum := "9f308e35d6dbcc2bb97f14599d55c5c76d1f6e920ad0258102119ad65c687e9b", func := "surcingle/surcinglelaw08.TreeHangs", spec := "treeHangs", unfollowed := true, recurses := true, plainKeys := false, apart := false }
def TreeHangsSaid : Prop := treeHangsRow.holds Try.pinned (OpenSpec.ofChange treeHangsSpec)

/-- ITS FALSE NEIGHBOUR: 'it returns false'. Refute it at one input. -/
def treeHangsWrong : ChangeSpec := { name := "treeHangs", fn := fun _ => fun
  | [d1, d2, d3] => { results := [.lit (.bool false)], args := [d1, d2, d3] }
  | _ => none }
def TreeHangsWrongFalsely : Prop := treeHangsRow.holds Try.pinned (OpenSpec.ofChange treeHangsWrong)

/-- 'surcinglelaw08.TreeBetween': WHATEVER THE INPUT: true; the input reads as it did. -/
def treeBetweenSpec : ChangeSpec := { name := "treeBetween", fn := fun _ => fun
  | [d1, d2, d3] => { results := [.lit (.bool true)], args := [d1, d2, d3] }
  | _ => none }
def treeBetweenRow : OpenClaim := { program := "yteglopjljejjkab", sum := "9f308e35d6dbcc2bb97f14599d55c5c76d1f6e920ad0258102119ad65c687e9b", func := "surcingle/surcinglelaw08.TreeBetween", spec := "treeBetween", unfollowed := true, recurses := true, plainKeys := false, apart := false }
def TreeBetweenSaid : Prop := treeBetweenRow.holds Try.pinned (OpenSpec.ofChange treeBetweenSpec)

/-- ITS FALSE NEIGHBOUR: 'it returns false'. Refute it at one input. -/
def treeBetweenWrong : ChangeSpec := { name := "treeBetween", fn := fun _ => fun
  | [d1, d2, d3] => { results := [.lit (.bool false)], args := [d1, d2, d3] }
  | _ => none }
def TreeBetweenWrongFalsely : Prop := treeBetweenRow.holds Try.pinned (OpenSpec.ofChange treeBetweenWrong)

/-- 'surcinglelaw08.TreeTells': WHATEVER THE INPUT: true; the input reads as it did. -/
def treeTellsSpec : ChangeSpec := { name := "treeTells", fn := fun _ => fun
  | [d1, d2] => { results := [.lit (.bool true)], args := [d1, d2] }
  | _ => none }
def treeTellsRow : OpenClaim := { program := "yteglopjljejjkab", sum := "9f308e35d6dbcc2bb97f14599d55c5c76d1f6e920ad0258102119ad65c687e9b", func := "surcingle/surcinglelaw08.TreeTells", spec := "treeTells", unfollowed := true, recurses := true, plainKeys := false, apart := false }
def TreeTellsSaid : Prop := treeTellsRow.holds Try.pinned (OpenSpec.ofChange treeTellsSpec)

/-- ITS FALSE NEIGHBOUR: 'it returns false'. Refute it at one input. -/
def treeTellsWrong : ChangeSpec := { name := "treeTells", fn := fun _ => fun
  | [d1, d2] => { results := [.lit (.bool false)], args := [d1, d2] }
  | _ => none }
def TreeTellsWrongFalsely : Prop := treeTellsRow.holds Try.pinned (OpenSpec.ofChange treeTellsWrong)

/-- 'surcinglelaw03.RangesTells': WHATEVER THE INPUT: true; the input reads as it did. -/
def rangesTellsSpec : ChangeSpec := { name := "rangesTells", fn := fun _ => fun
  | [d1, d2, d3] => { results := [.lit (.bool true)], args := [d1, d2, d3] }
  | _ => none }
def rangesTellsRow : OpenClaim := { program := "yteglopjljejjkab", sum := "9f308e35d6dbcc2bb97f14599d55c5c76d1f6e920ad0258102119ad65c687e9b", func := "surcingle/surcinglelaw03.RangesTells", spec := "rangesTells", unfollowed := true, recurses := true, plainKeys := false, apart := false }
def RangesTellsSaid : Prop := rangesTellsRow.holds Try.pinned (OpenSpec.ofChange rangesTellsSpec)

/-- ITS FALSE NEIGHBOUR: 'it returns false'. Refute it at one input. -/
def rangesTellsWrong : ChangeSpec := { name := "rangesTells", fn := fun _ => fun
  | [d1, d2, d3] => { results := [.lit (.bool false)], args := [d1, d2, d3] }
  | _ => none }
def RangesTellsWrongFalsely : Prop := rangesTellsRow.holds Try.pinned (OpenSpec.ofChange rangesTellsWrong)

/-- 'surcinglelaw03.RangesSame': WHATEVER THE INPUT: true; the input reads as it did. -/
def rangesSameSpec : ChangeSpec := { name := "rangesSame", fn := fun _ => fun
  | [d1, d2, d3] => { results := [.lit (.bool true)], args := [d1, d2, d3] }
  | _ => none }
def rangesSameRow : OpenClaim := { program := "yteglopjljejjkab", sum := "9f308e35d6dbcc2bb97f14599d55c5c76d1f6e920ad0258102119ad65c687e9b", func := "surcingle/surcinglelaw03.RangesSame", spec := "rangesSame", unfollowed := true, recurses := true, plainKeys := false, apart := false }
def RangesSameSaid : Prop := rangesSameRow.holds Try.pinned (OpenSpec.ofChange rangesSameSpec)

/-- ITS FALSE NEIGHBOUR: 'it returns false'. Refute it at one input. -/
def rangesSameWrong : ChangeSpec := { name := "rangesSame", fn := fun _ => fun
  | [d1, d2, d3] => { results := [.lit (.bool false)], args := [d1, d2, d3] }
  | _ => none }
def RangesSameWrongFalsely : Prop := rangesSameRow.holds Try.pinned (OpenSpec.ofChange rangesSameWrong)

/- THE SECOND FORM. 'bulk': how many values and letters a reading holds, each counted each time it is reached (what is shared counts as often as it is met; a slice's spare places count too). A statement '..UptoSaid' is the law's where the arguments, and the package variables that the reading takes, are together of bulk at most 1048576: NARROWER than '..Said'. Prove '..Said' where nothing that the law and all that it calls make is longer than what came in: it says more and counts as full. Else prove '..UptoSaid'. A law counts once. -/
mutual
def uptoBulk {H : Type} : DataW H → Nat
  | .lit (.string bytes) => bytes.length + 1
  | .lit _ => 1
  | .nil => 1
  | .ptr d => uptoBulk d + 1
  | .slice elems spare => uptoBulkAll elems + uptoBulkAll spare + 1
  | .agg parts => uptoBulkAll parts + 1
  | .iface _ d => uptoBulk d + 1
  | .map entries => uptoBulkEntries entries + 1
  | .held _ => 1
def uptoBulkAll {H : Type} : List (DataW H) → Nat
  | [] => 0
  | d :: r => uptoBulk d + uptoBulkAll r
def uptoBulkEntries {H : Type} : List (Lit × DataW H) → Nat
  | [] => 0
  | x :: r => uptoBulkEntry x + uptoBulkEntries r
def uptoBulkEntry {H : Type} : Lit × DataW H → Nat
  | (.string bytes, d) => bytes.length + uptoBulk d + 1
  | (_, d) => uptoBulk d + 1
 end
def uptoSmall : (H : Type) → List (DataW H) → Bool := fun _ ds => decide (uptoBulkAll ds ≤ 1048576)
def OpenSpec.upto (s : _root_.Go.ChangeSpec) : _root_.Go.OpenSpec := { _root_.Go.OpenSpec.ofChange s with cond := some uptoSmall }

/-- 'surcinglelaw02.VectorMerge', WHERE WHAT IT READS IS OF BULK AT MOST 1048576: true; the input reads as it did. -/
def vectorMergeUptoRow : OpenClaim := { program := "yteglopjljejjkab", sum := "9f308e35d6dbcc2bb97f14599d55c5c76d1f6e920ad0258102119ad65c687e9b", func := "surcingle/surcinglelaw02.VectorMerge", spec := "vectorMerge", inPlace := ["slices.overlaps[surcingle/api.Clock]"], unfollowed := true, recurses := true, plainKeys := false, apart := false, narrowed := true }
def VectorMergeUptoSaid : Prop := vectorMergeUptoRow.holds Try.pinned (OpenSpec.upto vectorMergeSpec)

/-- 'surcinglelaw07.IndexKeeps', WHERE WHAT IT READS IS OF BULK AT MOST 1048576: true; the input reads as it did. -/
def indexKeepsUptoRow : OpenClaim := { program := "yteglopjljejjkab", sum := "9f308e35d6dbcc2bb97f14599d55c5c76d1f6e920ad0258102119ad65c687e9b", func := "surcingle/surcinglelaw07.IndexKeeps", spec := "indexKeeps", inPlace := ["slices.overlaps[surcingle/api.Entry]", "slices.overlaps[surcingle/index.chunk]"], unfollowed := true, recurses := true, plainKeys := false, apart := false, narrowed := true }
def IndexKeepsUptoSaid : Prop := indexKeepsUptoRow.holds Try.pinned (OpenSpec.upto indexKeepsSpec)

/-- 'surcinglelaw07.IndexPlays', WHERE WHAT IT READS IS OF BULK AT MOST 1048576: true; the input reads as it did. -/
def indexPlaysUptoRow : OpenClaim := { program := "yteglopjljejjkab", sum := "9f308e35d6dbcc2bb97f14599d55c5c76d1f6e920ad0258102119ad65c687e9b", func := "surcingle/surcinglelaw07.IndexPlays", spec := "indexPlays", inPlace := ["slices.overlaps[surcingle/api.Entry]", "slices.overlaps[surcingle/index.chunk]"], unfollowed := true, recurses := true, plainKeys := false, apart := false, narrowed := true }
def IndexPlaysUptoSaid : Prop := indexPlaysUptoRow.holds Try.pinned (OpenSpec.upto indexPlaysSpec)

/-- 'surcinglelaw08.TreeHangs', WHERE WHAT IT READS IS OF BULK AT MOST 1048576: true; the input reads as it did. -/
def treeHangsUptoRow : OpenClaim := { program := "yteglopjljejjkab", sum := "9f308e35d6dbcc2bb97f14599d55c5c76d1f6e920ad0258102119ad65c687e9b", func := "surcingle/surcinglelaw08.TreeHangs", spec := "treeHangs", unfollowed := true, recurses := true, plainKeys := false, apart := false, narrowed := true }
def TreeHangsUptoSaid : Prop := treeHangsUptoRow.holds Try.pinned (OpenSpec.upto treeHangsSpec)

/-- 'surcinglelaw08.TreeBetween', WHERE WHAT IT READS IS OF BULK AT MOST 1048576: true; the input reads as it did. -/
def treeBetweenUptoRow : OpenClaim := { program := "yteglopjljejjkab", sum := "9f308e35d6dbcc2bb97f14599d55c5c76d1f6e920ad0258102119ad65c687e9b", func := "surcingle/surcinglelaw08.TreeBetween", spec := "treeBetween", unfollowed := true, recurses := true, plainKeys := false, apart := false, narrowed := true }
def TreeBetweenUptoSaid : Prop := treeBetweenUptoRow.holds Try.pinned (OpenSpec.upto treeBetweenSpec)

/-- 'surcinglelaw08.TreeTells', WHERE WHAT IT READS IS OF BULK AT MOST 1048576: true; the input reads as it did. -/
def treeTellsUptoRow : OpenClaim := { program := "yteglopjljejjkab", sum := "9f308e35d6dbcc2bb97f14599d55c5c76d1f6e920ad0258102119ad65c687e9b", func := "surcingle/surcinglelaw08.TreeTells", spec := "treeTells", unfollowed := true, recurses := true, plainKeys := false, apart := false, narrowed := true }
def TreeTellsUptoSaid : Prop := treeTellsUptoRow.holds Try.pinned (OpenSpec.upto treeTellsSpec)

/-- 'surcinglelaw03.RangesTells', WHERE WHAT IT READS IS OF BULK AT MOST 1048576: true; the input reads as it did. -/
def rangesTellsUptoRow : OpenClaim := { program := "yteglopjljejjkab", sum := "9f308e35d6dbcc2bb97f14599d55c5c76d1f6e920ad0258102119ad65c687e9b", func := "surcingle/surcinglelaw03.RangesTells", spec := "rangesTells", unfollowed := true, recurses := true, plainKeys := false, apart := false, narrowed := true }
def RangesTellsUptoSaid : Prop := rangesTellsUptoRow.holds Try.pinned (OpenSpec.upto rangesTellsSpec)

/-- 'surcinglelaw03.RangesSame', WHERE WHAT IT READS IS OF BULK AT MOST 1048576: true; the input reads as it did. -/
def rangesSameUptoRow : OpenClaim := { program := "yteglopjljejjkab", sum := "9f308e35d6dbcc2bb97f14599d55c5c76d1f6e920ad0258102119ad65c687e9b", func := "surcingle/surcinglelaw03.RangesSame", spec := "rangesSame", unfollowed := true, recurses := true, plainKeys := false, apart := false, narrowed := true }
def RangesSameUptoSaid : Prop := rangesSameUptoRow.holds Try.pinned (OpenSpec.upto rangesSameSpec)

end Rows
end Go.Proofs.Yteglopjljejjkab
