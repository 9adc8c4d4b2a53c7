/- Closed facts of the program that the row of the law TopRefuses asks. -/
import Derived.Test.YteglopjljejjkabGreatDoorRows
import Derived.JoinedCond
import Derived.KernelRfl
import Derived.ProofKit
set_option linter.unusedVariables false
set_option linter.unusedSimpArgs false
namespace Go.Proofs.YteglopjljejjkabGreatDoor.topRefuses
open Go Go.ChangeShapes Go.WideShapes Go.ChangeAt
theorem own : ownKnob Tryz.prog.godebug = none := by kernel_rfl
theorem laidOut : laidOutB Tryz.prog = true := by kernel_rfl
theorem band {a b : Bool} (h : a = true) (k : b = true) : (a && b) = true := by rw [h, k]; rfl
theorem joined_mk {P : Program} {f : FuncId} {fn : Func} {s : ChangeSpec} {c : OpenClaim} (h1 : c.wf (OpenSpec.ofChange s) = true) (h2 : laidOutB P = true) (h3 : mapsRowed P = true)
    (h4 : fn.params.all (P.readableRec ·) = true) (h5 : namedTie P c.named s.vars = true) (h6 : (c.stops == []) = true) (h7 : (P.stops == []) = true) (h8 : (c.knobs == []) = true) (h9 : (P.stopKnobs == []) = true)
    (h10 : (c.inPlace == P.inPlace f) = true) (h11 : (c.unfollowed == P.unfollowed f) = true) (h12 : (c.recurses == P.recurses f) = true) (h13 : (c.named == P.varsNamed f) = true)
    (h14 : (c.maps == (fn.params.toList ++ s.plain.varTypes P).any (P.mapsRec ·)) = true) (h15 : (c.ifaces == (fn.params.toList ++ s.plain.varTypes P).any (P.ifacesRec ·)) = true) (h16 : (c.mapsOut == P.mapsAmong fn.resultTypes.toList) = true)
    (h17 : (c.loops == (fn.params.toList ++ s.plain.varTypes P).any (P.loopsFrom ·)) = true) (h18 : (c.wideKeys == (fn.params.toList ++ s.plain.varTypes P ++ fn.resultTypes.toList).any (P.wideKeysFrom ·)) = true)
    (h19 : s.vars.all (P.varReadable ·) = true) (h20 : fn.resultTypes.all (fun t => P.readableRec t && decide (t < P.types.size)) = true) (h21 : (c.ifacesOut == fn.resultTypes.toList.any (P.ifacesRec ·)) = true) (h22 : (c.loopsOut == fn.resultTypes.toList.any (P.loopsFrom ·)) = true)
    (h23 : (c.plainKeys == P.plainKeys) = true) (h24 : c.shortTexts.isNone = true) (h25 : P.stopsHeard = true) (h28 : P.mayEnter = true) (h29 : (c.lifted == P.liftsFinal) = true) (h30 : (P.make == some c.make) = true)
    (h31 : (c.kinds == (if c.domain.isEmpty then [] else fn.params.toList.map fun t => match P.underlying t with | some (.int k) => some k | _ => none)) = true) (h32 : (c.pinned == c.pinnedBy) = true)
    (h26 : (c.veiled == (fn.params.toList ++ s.plain.varTypes P ++ fn.resultTypes.toList).any (P.veiledRec ·)) = true) (h27 : c.veiledFits P fn.params.toList (fn.params.toList ++ s.plain.varTypes P ++ fn.resultTypes.toList) = true) : joinedFacts P f fn s c = true := by
  exact (band (band (band (band (band (band (band (band (band (band (band (band (band (band (band (band (band (band (band (band (band (band (band (band (band (band (band (band (band (band (band h1 h2) h3) h4) h5) h6) h7) h8) h9) h10) h11) h12) h13) h14) h15) h16) h17) h18) h19) h20) h21) h22) h23) h24) h25) h28) h29) h30) h31) h32) h26) h27)
theorem j3 : mapsRowed Tryz.prog = true := by kernel_rfl
theorem j10 : (Rows.topRefusesUptoRow.inPlace == Tryz.prog.inPlace 3) = true := by kernel_rfl
theorem j11 : (Rows.topRefusesUptoRow.unfollowed == Tryz.prog.unfollowed 3) = true := by kernel_rfl
theorem j12 : (Rows.topRefusesUptoRow.recurses == Tryz.prog.recurses 3) = true := by kernel_rfl
theorem j13 : (Rows.topRefusesUptoRow.named == Tryz.prog.varsNamed 3) = true := by kernel_rfl
theorem j23 : (Rows.topRefusesUptoRow.plainKeys == Tryz.prog.plainKeys) = true := by kernel_rfl
theorem j25 : Tryz.prog.stopsHeard = true := by kernel_rfl
theorem j28 : Tryz.prog.mayEnter = true := by kernel_rfl
theorem jn : Tryz.prog.funcNamed Rows.topRefusesUptoRow.func = some 3 := by kernel_rfl
set_option maxRecDepth 100000 in
theorem closed : joinedFacts Tryz.prog 3 Tryz.f3 (Rows.OpenSpec.upto Rows.topRefusesSpec).bare Rows.topRefusesUptoRow = true :=
  joined_mk (by kernel_rfl) laidOut j3 (by kernel_rfl) (by kernel_rfl) (by kernel_rfl) (by kernel_rfl) (by kernel_rfl) (by kernel_rfl) j10 j11 j12 j13 (by kernel_rfl) (by kernel_rfl) (by kernel_rfl) (by kernel_rfl) (by kernel_rfl) (by kernel_rfl) (by kernel_rfl) (by kernel_rfl) (by kernel_rfl) j23 (by kernel_rfl) j25 j28 (by kernel_rfl) (by kernel_rfl) (by kernel_rfl) (by kernel_rfl) (by kernel_rfl) (by kernel_rfl)
theorem jwr : Tryz.f3.isWrapper Tryz.prog Rows.topRefusesUptoRow.wrapper Rows.topRefusesUptoRow.mainSum := by unfold Func.isWrapper; first | (rw [if_pos (by decide +kernel)]; kernel_rfl) | (rw [if_neg (by decide +kernel)]; exact ⟨rfl, rfl⟩)
end Go.Proofs.YteglopjljejjkabGreatDoor.topRefuses
