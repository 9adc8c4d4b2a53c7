/-
  No cell of these rows narrows 'for every input' (looked for: loops, veiled, ifaces, maps, wideKeys, modest, calm, conditions, laid).
  DERIVED. THE GIVEN ROWS OF THIS SEAT. 7 by the template 'for every input the law returns true; each argument reads behind the call as it read before'; 0 by the template 'total and deterministic' (their statements: YteglopjljejjkaaTotals.lean).
  GIVEN WITH THE SEED: the statements are not yours to turn. If you find one false, say at which input.
  Laid BY PROGRAM, IN A SANDBOX (cutbox-rows.mjs): the forced cells as the released guide's own fill.sh prints them over the translation 7ab609c294ff51b2… (all of the seat's roots in one cut). By AI agents, Wed Nov 11 2026. No macro, syntax, notation, axiom, sorry.
-/
import Derived.Test.YteglopjljejjkaaChecked
import GoSem.Claim
import GoSem.ClaimJoined
import GoSem.ClaimMapViews
import Derived.JoinedTies
import Derived.KernelRfl
namespace Go.Proofs.Yteglopjljejjkaa
/- THE CELL 'sum', in the pinned program and in every row, IS THE sha256 OF THE DUMP (.gsa) THAT YteglopjljejjkaaProg.lean LOADS. Nothing in Lean hashes anything: it is a label: what it is worth is what the hold of that sum in a sandbox is worth. -/
noncomputable def Try.pinned : Pinned := { name := "yteglopjljejjkaa", sum := "7ab609c294ff51b258ed3889c4e0e40e9f42c4db81c06a897ee4a5f9686760b8", checked := Try.checked }
namespace Rows
def none {H : Type} : Left H := { results := [], args := [] }

/-- 'surcinglelaw12.DiffTells': WHATEVER THE INPUT: true; the input reads as it did. -/
def diffTellsSpec : ChangeSpec := { name := "diffTells", fn := fun _ => fun
  | [d1, d2, d3, d4, d5] => { results := [.lit (.bool true)], args := [d1, d2, d3, d4, d5] }
  | _ => none }
def diffTellsRow : OpenClaim := { program := "yteglopjljejjkaa", sum := "7ab609c294ff51b258ed3889c4e0e40e9f42c4db81c06a897ee4a5f9686760b8", func := "surcingle/surcinglelaw12.DiffTells", spec := "diffTells", apart := false }
def DiffTellsSaid : Prop := diffTellsRow.holds Try.pinned (OpenSpec.ofChange diffTellsSpec)

/-- ITS FALSE NEIGHBOUR: 'it returns false'. Refute it at one input. -/
def diffTellsWrong : ChangeSpec := { name := "diffTells", fn := fun _ => fun
  | [d1, d2, d3, d4, d5] => { results := [.lit (.bool false)], args := [d1, d2, d3, d4, d5] }
  | _ => none }
def DiffTellsWrongFalsely : Prop := diffTellsRow.holds Try.pinned (OpenSpec.ofChange diffTellsWrong)

/-- 'surcinglelaw12.DiffDone': WHATEVER THE INPUT: true; the input reads as it did. -/
def diffDoneSpec : ChangeSpec := { name := "diffDone", fn := fun _ => fun
  | [d1, d2, d3, d4, d5] => { results := [.lit (.bool true)], args := [d1, d2, d3, d4, d5] }
  | _ => none }
def diffDoneRow : OpenClaim := { program := "yteglopjljejjkaa", sum := "7ab609c294ff51b258ed3889c4e0e40e9f42c4db81c06a897ee4a5f9686760b8", func := "surcingle/surcinglelaw12.DiffDone", spec := "diffDone", apart := false }
def DiffDoneSaid : Prop := diffDoneRow.holds Try.pinned (OpenSpec.ofChange diffDoneSpec)

/-- ITS FALSE NEIGHBOUR: 'it returns false'. Refute it at one input. -/
def diffDoneWrong : ChangeSpec := { name := "diffDone", fn := fun _ => fun
  | [d1, d2, d3, d4, d5] => { results := [.lit (.bool false)], args := [d1, d2, d3, d4, d5] }
  | _ => none }
def DiffDoneWrongFalsely : Prop := diffDoneRow.holds Try.pinned (OpenSpec.ofChange diffDoneWrong)

/-- 'surcinglelaw13.SubsPlays': WHATEVER THE INPUT: true; the input reads as it did. -/
def subsPlaysSpec : ChangeSpec := { name := "subsPlays", fn := fun _ => fun
  | [d1, d2] => { results := [.lit (.bool true)], args := [d1, d2] }
  | _ => none }
def subsPlaysRow : OpenClaim := { program := "yteglopjljejjkaa", sum := "7ab609c294ff51b258ed3889c4e0e40e9f42c4db81c06a897ee4a5f9686760b8", func := "surcingle/surcinglelaw13.SubsPlays", spec := "subsPlays", apart := false }
def SubsPlaysSaid : Prop := subsPlaysRow.holds Try.pinned (OpenSpec.ofChange subsPlaysSpec)

/-- ITS FALSE NEIGHBOUR: 'it returns false'. Refute it at one input. -/
def subsPlaysWrong : ChangeSpec := { name := "subsPlays", fn := fun _ => fun
  | [d1, d2] => { results := [.lit (.bool false)], args := [d1, d2] }
  | _ => none }
def SubsPlaysWrongFalsely : Prop := subsPlaysRow.holds Try.pinned (OpenSpec.ofChange subsPlaysWrong)

/-- 'surcinglelaw13.SubsOnce': WHATEVER THE INPUT: true; the input reads as it did. -/
def subsOnceSpec : ChangeSpec := { name := "subsOnce", fn := fun _ => fun
  | [d1, d2, d3] => { results := [.lit (.bool true)], args := [d1, d2, d3] }
  | _ => none }
def subsOnceRow : OpenClaim := { program := "yteglopjljejjkaa", sum := "7ab609c294ff51b258ed3889c4e0e40e9f42c4db81c06a897ee4a5f9686760b8", func := "surcingle/surcinglelaw13.SubsOnce", spec := "subsOnce", apart := false }
def SubsOnceSaid : Prop := subsOnceRow.holds Try.pinned (OpenSpec.ofChange subsOnceSpec)

/-- ITS FALSE NEIGHBOUR: 'it returns false'. Refute it at one input. -/
def subsOnceWrong : ChangeSpec := { name := "subsOnce", fn := fun _ => fun
  | [d1, d2, d3] => { results := [.lit (.bool false)], args := [d1, d2, d3] }
  | _ => none }
def SubsOnceWrongFalsely : Prop := subsOnceRow.holds Try.pinned (OpenSpec.ofChange subsOnceWrong)

/-- 'surcinglelaw01.IdsTells': WHATEVER THE INPUT: true; the input reads as it did. -/
def idsTellsSpec : ChangeSpec := { name := "idsTells", fn := fun _ => fun
  | [d1, d2, d3, d4] => { results := [.lit (.bool true)], args := [d1, d2, d3, d4] }
  | _ => none }
def idsTellsRow : OpenClaim := { program := "yteglopjljejjkaa", sum := "7ab609c294ff51b258ed3889c4e0e40e9f42c4db81c06a897ee4a5f9686760b8", func := "surcingle/surcinglelaw01.IdsTells", spec := "idsTells", apart := false }
def IdsTellsSaid : Prop := idsTellsRow.holds Try.pinned (OpenSpec.ofChange idsTellsSpec)

/-- ITS FALSE NEIGHBOUR: 'it returns false'. Refute it at one input. -/
def idsTellsWrong : ChangeSpec := { name := "idsTells", fn := fun _ => fun
  | [d1, d2, d3, d4] => { results := [.lit (.bool false)], args := [d1, d2, d3, d4] }
  | _ => none }
def IdsTellsWrongFalsely : Prop := idsTellsRow.holds Try.pinned (OpenSpec.ofChange idsTellsWrong)

/-- 'surcinglelaw01.IdsOrder': WHATEVER THE INPUT: true; the input reads as it did. -/
def idsOrderSpec : ChangeSpec := { name := "idsOrder", fn := fun _ => fun
  | [d1, d2, d3, d4, d5, d6] => { results := [.lit (.bool true)], args := [d1, d2, d3, d4, d5, d6] }
  | _ => none }
def idsOrderRow : OpenClaim := { program := "yteglopjljejjkaa", sum := "7ab609c294ff51b258ed3889c4e0e40e9f42c4db81c06a897ee4a5f9686760b8", func := "surcingle/surcinglelaw01.IdsOrder", spec := "idsOrder", apart := false }
def IdsOrderSaid : Prop := idsOrderRow.holds Try.pinned (OpenSpec.ofChange idsOrderSpec)

/-- ITS FALSE NEIGHBOUR: 'it returns false'. Refute it at one input. -/
def idsOrderWrong : ChangeSpec := { name := "idsOrder", fn := fun _ => fun
  | [d1, d2, d3, d4, d5, d6] => { results := [.lit (.bool false)], args := [d1, d2, d3, d4, d5, d6] }
  | _ => none }
def IdsOrderWrongFalsely : Prop := idsOrderRow.holds Try.pinned (OpenSpec.ofChange idsOrderWrong)

/-- 'surcinglelaw02.VectorTells': WHATEVER THE INPUT: true; the input reads as it did. -/
def vectorTellsSpec : ChangeSpec := { name := "vectorTells", fn := fun _ => fun
  | [d1, d2, d3, d4] => { results := [.lit (.bool true)], args := [d1, d2, d3, d4] }
  | _ => none }
def vectorTellsRow : OpenClaim := { program := "yteglopjljejjkaa", sum := "7ab609c294ff51b258ed3889c4e0e40e9f42c4db81c06a897ee4a5f9686760b8", func := "surcingle/surcinglelaw02.VectorTells", spec := "vectorTells", inPlace := ["slices.overlaps[surcingle/api.Clock]"], unfollowed := true, recurses := true, apart := false }
def VectorTellsSaid : Prop := vectorTellsRow.holds Try.pinned (OpenSpec.ofChange vectorTellsSpec)

/-- ITS FALSE NEIGHBOUR: 'it returns false'. Refute it at one input. -/
def vectorTellsWrong : ChangeSpec := { name := "vectorTells", fn := fun _ => fun
  | [d1, d2, d3, d4] => { results := [.lit (.bool false)], args := [d1, d2, d3, d4] }
  | _ => none }
def VectorTellsWrongFalsely : Prop := vectorTellsRow.holds Try.pinned (OpenSpec.ofChange vectorTellsWrong)

/- THE SECOND FORM. 'bulk': how many values and letters a reading holds, each counted each time it is reached (what is shared counts as often as it is met; a slice's spare places count too). A statement '..UptoSaid' is the law's where the arguments, and the package variables that the reading takes, are together of bulk at most 1048576: NARROWER than '..Said'. Prove '..Said' where nothing that the law and all that it calls make is longer than what came in: it says more and counts as full. Else prove '..UptoSaid'. A law counts once. -/
mutual
def uptoBulk {H : Type} : DataW H → Nat
  | .lit (.string bytes) => bytes.length + 1
  | .lit _ => 1
  | .nil => 1
  | .ptr d => uptoBulk d + 1
  | .slice elems spare => uptoBulkAll elems + uptoBulkAll spare + 1
  | .agg parts => uptoBulkAll parts + 1
  | .iface _ d => uptoBulk d + 1
  | .map entries => uptoBulkEntries entries + 1
  | .held _ => 1
def uptoBulkAll {H : Type} : List (DataW H) → Nat
  | [] => 0
  | d :: r => uptoBulk d + uptoBulkAll r
def uptoBulkEntries {H : Type} : List (Lit × DataW H) → Nat
  | [] => 0
  | x :: r => uptoBulkEntry x + uptoBulkEntries r
def uptoBulkEntry {H : Type} : Lit × DataW H → Nat
  | (.string bytes, d) => bytes.length + uptoBulk d + 1
  | (_, d) => uptoBulk d + 1
 end
def uptoSmall : (H : Type) → List (DataW H) → Bool := fun _ ds => decide (uptoBulkAll ds ≤ 1048576)
def OpenSpec.upto (s : _root_.Go.ChangeSpec) : _root_.Go.OpenSpec := { _root_.Go.OpenSpec.ofChange s with cond := some uptoSmall }

/-- 'surcinglelaw12.DiffTells', WHERE WHAT IT READS IS OF BULK AT MOST 1048576: true; the input reads as it did. -/
def diffTellsUptoRow : OpenClaim := { program := "yteglopjljejjkaa", sum := "7ab609c294ff51b258ed3889c4e0e40e9f42c4db81c06a897ee4a5f9686760b8", func := "surcingle/surcinglelaw12.DiffTells", spec := "diffTells", apart := false, narrowed := true }
def DiffTellsUptoSaid : Prop := diffTellsUptoRow.holds Try.pinned (OpenSpec.upto diffTellsSpec)

/-- 'surcinglelaw12.DiffDone', WHERE WHAT IT READS IS OF BULK AT MOST 1048576: true; the input reads as it did. -/
def diffDoneUptoRow : OpenClaim := { program := "yteglopjljejjkaa", sum := "7ab609c294ff51b258ed3889c4e0e40e9f42c4db81c06a897ee4a5f9686760b8", func := "surcingle/surcinglelaw12.DiffDone", spec := "diffDone", apart := false, narrowed := true }
def DiffDoneUptoSaid : Prop := diffDoneUptoRow.holds Try.pinned (OpenSpec.upto diffDoneSpec)

/-- 'surcinglelaw13.SubsPlays', WHERE WHAT IT READS IS OF BULK AT MOST 1048576: true; the input reads as it did. -/
def subsPlaysUptoRow : OpenClaim := { program := "yteglopjljejjkaa", sum := "7ab609c294ff51b258ed3889c4e0e40e9f42c4db81c06a897ee4a5f9686760b8", func := "surcingle/surcinglelaw13.SubsPlays", spec := "subsPlays", apart := false, narrowed := true }
def SubsPlaysUptoSaid : Prop := subsPlaysUptoRow.holds Try.pinned (OpenSpec.upto subsPlaysSpec)

/-- 'surcinglelaw13.SubsOnce', WHERE WHAT IT READS IS OF BULK AT MOST 1048576: true; the input reads as it did. -/
def subsOnceUptoRow : OpenClaim := { program := "yteglopjljejjkaa", sum := "7ab609c294ff51b258ed3889c4e0e40e9f42c4db81c06a897ee4a5f9686760b8", func := "surcingle/surcinglelaw13.SubsOnce", spec := "subsOnce", apart := false, narrowed := true }
def SubsOnceUptoSaid : Prop := subsOnceUptoRow.holds Try.pinned (OpenSpec.upto subsOnceSpec)

/-- 'surcinglelaw01.IdsTells', WHERE WHAT IT READS IS OF BULK AT MOST 1048576: true; the input reads as it did. -/
def idsTellsUptoRow : OpenClaim := { program := "yteglopjljejjkaa", sum := "7ab609c294ff51b258ed3889c4e0e40e9f42c4db81c06a897ee4a5f9686760b8", func := "surcingle/surcinglelaw01.IdsTells", spec := "idsTells", apart := false, narrowed := true }
def IdsTellsUptoSaid : Prop := idsTellsUptoRow.holds Try.pinned (OpenSpec.upto idsTellsSpec)

/-- 'surcinglelaw01.IdsOrder', WHERE WHAT IT READS IS OF BULK AT MOST 1048576: true; the input reads as it did. -/
def idsOrderUptoRow : OpenClaim := { program := "yteglopjljejjkaa", sum := "7ab609c294ff51b258ed3889c4e0e40e9f42c4db81c06a897ee4a5f9686760b8", func := "surcingle/surcinglelaw01.IdsOrder", spec := "idsOrder", apart := false, narrowed := true }
def IdsOrderUptoSaid : Prop := idsOrderUptoRow.holds Try.pinned (OpenSpec.upto idsOrderSpec)

/-- 'surcinglelaw02.VectorTells', WHERE WHAT IT READS IS OF BULK AT MOST 1048576: true; the input reads as it did. -/
def vectorTellsUptoRow : OpenClaim := { program := "yteglopjljejjkaa", sum := "7ab609c294ff51b258ed3889c4e0e40e9f42c4db81c06a897ee4a5f9686760b8", func := "surcingle/surcinglelaw02.VectorTells", spec := "vectorTells", inPlace := ["slices.overlaps[surcingle/api.Clock]"], unfollowed := true, recurses := true, apart := false, narrowed := true }
def VectorTellsUptoSaid : Prop := vectorTellsUptoRow.holds Try.pinned (OpenSpec.upto vectorTellsSpec)

end Rows
end Go.Proofs.Yteglopjljejjkaa
