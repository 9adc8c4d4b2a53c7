/- The row of the law TopRefuses in its second form: where what comes in is not too big, the call returns true and leaves its input as it was. -/
import Derived.Test.YteglopjljejjkabGreatDoorGBDcSTBTpB
import Derived.Test.YteglopjljejjkabGreatDoorLawTopRefusesJ
import Derived.Test.YteglopjljejjkabGreatDoorCards
import Derived.Test.YteglopjljejjkabGreatDoorTie
import Derived.Lib.LaidIn
import Derived.Lib.LaidU8T
import Derived.PinnedBridge
import Derived.Deep.DeepHandedRow
import Derived.Deep.DeepWitnessRowRef
import Derived.SevenTiedAt
import Derived.KernelRfl
import Derived.WalkKit
import Derived.ProofKit
import Derived.OpenShut
import Derived.ShutString
import Derived.JoinedCond
import Derived.ChangeOld
import Derived.Below
import Derived.SizedLaws
import Derived.Carry
import Derived.LaidHandle
import Derived.Lib.SmallJoins
set_option linter.unusedVariables false
set_option linter.unusedSimpArgs false
namespace Go.Proofs.YteglopjljejjkabGreatDoor.topRefuses
open Go.ChangeShapes Go.WideShapes Go.ChangeAt Go.RowKit Go.Joins Go.Eng Go.Lib Go.Shelf
theorem bulk_mem {H : Type} : ∀ {es : List (DataW H)} {e : DataW H}, e ∈ es → Rows.uptoBulk e ≤ Rows.uptoBulkAll es
  | x :: r, e, h => by
    rw [Rows.uptoBulkAll]
    rcases List.mem_cons.1 h with rfl | h
    · omega
    · have := bulk_mem h; omega
theorem bulk_one {H : Type} : ∀ (e : DataW H), 1 ≤ Rows.uptoBulk e := fun e => by
  cases e with
  | lit l => cases l <;> simp [Rows.uptoBulk]
  | _ => simp [Rows.uptoBulk]
theorem bulk_len {H : Type} : ∀ (es : List (DataW H)), es.length ≤ Rows.uptoBulkAll es
  | [] => Nat.zero_le _
  | x :: r => by
    rw [Rows.uptoBulkAll, List.length_cons]
    have := bulk_len r
    have := bulk_one x
    omega
theorem bulkOk {H : Type} : b8t H Rows.uptoBulk := ⟨fun l => by simp [Rows.uptoBulk], fun es sp => by rw [Rows.uptoBulk]; have := bulk_len es; omega, fun es sp e h => by rw [Rows.uptoBulk]; have := bulk_mem h; omega, fun es e h => by rw [Rows.uptoBulk]; have := bulk_mem h; omega⟩
set_option maxRecDepth 100000 in
theorem first_eq : Rows.laid_unicode_utf8_first = firstData := Pinned.utf8First_eq
set_option maxRecDepth 100000 in
theorem accept_eq : (Rows.laid_unicode_utf8_acceptRanges : DataW Unit) = acceptData := by kernel_rfl
theorem hnd_et : Tryz.prog.globalNamed "errors.errorType" = some 0 := by kernel_rfl
theorem hnd_rt : (Tryz.prog.cutTypes.find? (·.1 == "internal/reflectlite.rtype")).map (·.2) = some 237 := by kernel_rfl
set_option maxRecDepth 100000 in
theorem hnd_one : ((List.range 343).filter fun t => Tryz.prog.rowNamed t [101, 114, 114, 111, 114]) = [31] := by kernel_rfl
theorem hnd_size : Tryz.prog.types.size = 343 := by kernel_rfl
/-- What the condition tells of the variable of package errors: its one cell. -/
theorem handle_of_laid {W : World} (h : laidMetH Tryz.prog Rows.topRefusesUptoRow.laid W) : W.cell? ⟨0, 0, none⟩ = some (.iface 237 (.agg #[.pointer (some ⟨3, 31, none⟩)])) := by
  have h' : laidMet Tryz.prog [("unicode/utf8.acceptRanges", Rows.laid_unicode_utf8_acceptRanges), ("unicode/utf8.first", Rows.laid_unicode_utf8_first)] W ∧ handlesMet Tryz.prog [("errors.errorType", Rows.laid_errors_errorType)] W := h
  obtain ⟨name, u, ty, e1, e2, e3, e4, e5⟩ := h'.2 _ (List.mem_singleton.2 rfl)
  have en : name = [101, 114, 114, 111, 114] := (Option.some.inj e1).symm
  subst en
  obtain rfl := Option.some.inj (hnd_rt.symm.trans e2)
  have hm : ty ∈ (List.range 343).filter fun t => Tryz.prog.rowNamed t [101, 114, 114, 111, 114] := List.mem_filter.2 ⟨List.mem_range.2 (by rw [← hnd_size]; exact e3), e4⟩
  rw [hnd_one] at hm
  obtain rfl := List.mem_singleton.1 hm
  have hh : typeHandle Tryz.prog 31 = .pointer (some ⟨3, 31, none⟩) := by kernel_rfl
  rw [hh] at e5
  simpa using World.var?_cell hnd_et e5 0
set_option maxRecDepth 100000 in
theorem contract (H : Type) (enc : TypeId × Value → H) (W : World) (base : Nat) (args : Array Value) (ds gs : List (DataW H)) (before : List MemPlace)
    (hval : ∀ (j : Nat) t v, Tryz.f3.params[j]? = some t → args[j]? = some v → Value.okWide Tryz.prog W .any base t v)
    (hW : DataW.Whole enc Tryz.prog Tryz.f3.params.toList Rows.topRefusesSpec.vars false W args.toList ds gs before) (hk : Rows.uptoSmall H (ds ++ gs) = true) (hL : laidMetH Tryz.prog Rows.topRefusesUptoRow.laid W) :
    Calls Tryz.prog 3 args W fun e W' => ∃ v, e = .returned v ∧ Rows.topRefusesSpec.post enc Tryz.prog Tryz.f3 false true false false W args v W' := by
  have hL2 : laidMet Tryz.prog [("unicode/utf8.acceptRanges", Rows.laid_unicode_utf8_acceptRanges), ("unicode/utf8.first", Rows.laid_unicode_utf8_first)] W ∧ handlesMet Tryz.prog [("errors.errorType", Rows.laid_errors_errorType)] W := hL
  have herr := handle_of_laid hL
  have htab : Lib.Utf8Tabs 1 2 W := utf8Tabs_of_readsT (U8Types.of196 Tryz.laysValid) ⟨by kernel_rfl, by kernel_rfl, by kernel_rfl, by kernel_rfl, by kernel_rfl, by kernel_rfl, by kernel_rfl⟩ (first_eq ▸ Lib.laidMet.reads hL2.1 (.tail _ (.head _))) (accept_eq ▸ Lib.laidMet.reads hL2.1 (.head _))
  have hW' := hW
  obtain ⟨p, q, hA0, hV, rfl, hfz, hnd⟩ := hW
  have hA : DataW.TrodAll enc Tryz.prog W 0 (fun _ => true) true Tryz.f3.params.toList args.toList ds p := hA0
  rw [show Tryz.f3.params = #[22, 23, 26, 4] from rfl] at hA hval
  obtain ⟨v0, vs0, d0, ds0, p0, q0, hargs, rfl, rfl, h0, r0⟩ := trodAll_cons hA
  obtain ⟨v1, vs1, d1, ds1, p1, q1, rfl, rfl, rfl, h1, r1⟩ := trodAll_cons r0
  obtain ⟨v2, vs2, d2, ds2, p2, q2, rfl, rfl, rfl, h2, r2⟩ := trodAll_cons r1
  obtain ⟨v3, vs3, d3, ds3, p3, q3, rfl, rfl, rfl, h3, r3⟩ := trodAll_cons r2
  obtain ⟨rfl, rfl, rfl⟩ := trodAll_nil r3
  obtain rfl : args = #[v0, v1, v2, v3] := by cases args; simp_all
  obtain ⟨rfl, rfl⟩ := trodVars_none hV
  have lt0 : ∀ x ∈ p0, x.block < W.heap.size := by obtain ⟨m, hm⟩ := h0; exact DataW.trod_lt m _ _ _ hm
  have lt1 : ∀ x ∈ p1, x.block < W.heap.size := by obtain ⟨m, hm⟩ := h1; exact DataW.trod_lt m _ _ _ hm
  have lt2 : ∀ x ∈ p2, x.block < W.heap.size := by obtain ⟨m, hm⟩ := h2; exact DataW.trod_lt m _ _ _ hm
  have lt3 : ∀ x ∈ p3, x.block < W.heap.size := by obtain ⟨m, hm⟩ := h3; exact DataW.trod_lt m _ _ _ hm
  have hb : Rows.uptoBulkAll [d0, d1, d2, d3] ≤ 1048576 := of_decide_eq_true hk
  simp only [Rows.uptoBulkAll] at hb
  obtain ⟨a0, k0, m0⟩ := c4h (B := 1048576) (d := 30) (L := fun _ => undef) ttok bulkOk (hval 0 22 v0 rfl rfl) h0 (by decide +kernel) (by omega)
  obtain ⟨a1, k1, m1⟩ := c4h (B := 1048576) (d := 30) (L := fun _ => undef) ttok bulkOk (hval 1 23 v1 rfl rfl) h1 (by decide +kernel) (by omega)
  obtain ⟨a2, k2, m2⟩ := c4h (B := 1048576) (d := 30) (L := fun _ => undef) ttok bulkOk (hval 2 26 v2 rfl rfl) h2 (by decide +kernel) (by omega)
  obtain ⟨a3, k3, m3⟩ := c4h (B := 1048576) (d := 30) (L := fun _ => undef) ttok bulkOk (hval 3 4 v3 rfl rfl) h3 (by decide +kernel) (by omega)
  refine (c0v (vs := [v0, v1, v2, v3]) (topRefuses_law [a0, a1, a2, a3] ⟨a0, _, m0, ⟨a1, _, m1, ⟨a2, _, m2, ⟨a3, _, m3, rfl, rfl⟩, rfl⟩, rfl⟩, rfl⟩) (fun k => W.heap[k]?) ⟨c1J htab, c2K herr⟩ W (fun k o hk => hk) (b3j k0 (b3j k1 (b3j k2 (b3j k3 c2u))))).mono ?_
  rintro e W' ⟨r, v, L, h', rfl, hr, bel, _, _, rfl⟩
  cases hr
  exact ⟨_, rfl, _, _, _, [], _, [], hW', trodAll_mk1 (shut_bool Tryz.underlying4 _), (trodAll_cons_mk (Below.trod laidOut (by kernel_rfl) (of_decide_eq_true (by kernel_rfl)) h0 bel lt0) (trodAll_cons_mk (Below.trod laidOut (by kernel_rfl) (of_decide_eq_true (by kernel_rfl)) h1 bel lt1) (trodAll_cons_mk (Below.trod laidOut (by kernel_rfl) (of_decide_eq_true (by kernel_rfl)) h2 bel lt2) (trodAll_cons_mk (Below.trod laidOut (by kernel_rfl) (of_decide_eq_true (by kernel_rfl)) h3 bel lt3) trodAll_mk0)))), rfl, bel.frame _, fun h => by cases h⟩
/-- A world for the witness: the tables lie where their initialisers lay them. -/
noncomputable def laidWorld (os : Os) : World :=
  let w0 := World.holding Tryz.prog os ⟨#[], #[], []⟩
  let put (h : Array Obj) (g : Nat) (cs : Array Value) : Array Obj := h.modify g fun
    | .cells _ t frozen => .cells cs t frozen
    | o => o
  let h1 := put (put w0.heap 0 #[.iface 237 (.agg #[.pointer (some ⟨3, 31, none⟩)])]) 1 (Lib.firstTab.map fun z => Value.int .u8 z).toArray
  let h2 := put h1 2 ((List.range 16).flatMap fun i => [Value.int .u8 (Lib.accLo i), Value.int .u8 (Lib.accHi i)]).toArray
  { w0 with heap := h2 }
set_option maxRecDepth 100000 in
theorem laid_met (os : Os) (args : Array Value) : laidMetH Tryz.prog Rows.topRefusesUptoRow.laid ((laidWorld os).forCall (fun _ _ => 0) ⟨#[], args, []⟩).memory :=
  laidMetH_of_parts (LaidIn.of_run (l := [("unicode/utf8.acceptRanges", Rows.laid_unicode_utf8_acceptRanges), ("unicode/utf8.first", Rows.laid_unicode_utf8_first)]) [2, 1] 8 (by kernel_rfl) (by kernel_rfl) (by kernel_rfl) (by kernel_rfl)).met (by kernel_rfl)
set_option maxRecDepth 100000 in
theorem witness_row (os : Os) {H : Type} (enc : TypeId × Value → H) :
    (Rows.OpenSpec.upto Rows.topRefusesSpec).preRow enc Tryz.prog Tryz.f3 Rows.topRefusesUptoRow.domain false Rows.topRefusesUptoRow.laid ((laidWorld os).forCall (fun _ _ => 0) ⟨#[], #[.int .u32 0, .slice none 0 0, .agg #[.int .i64 0, .int .i64 0, .int .i64 0, .string .empty, .slice none 0 0], .bool false], []⟩).memory #[.int .u32 0, .slice none 0 0, .agg #[.int .i64 0, .int .i64 0, .int .i64 0, .string .empty, .slice none 0 0], .bool false] := by
  have hw : (DataW.whole enc Tryz.prog ((laidWorld os).forCall (fun _ _ => 0) ⟨#[], #[.int .u32 0, .slice none 0 0, .agg #[.int .i64 0, .int .i64 0, .int .i64 0, .string .empty, .slice none 0 0], .bool false], []⟩).memory Tryz.f3.params.toList (Rows.OpenSpec.upto Rows.topRefusesSpec).vars false (#[.int .u32 0, .slice none 0 0, .agg #[.int .i64 0, .int .i64 0, .int .i64 0, .string .empty, .slice none 0 0], .bool false] : Array Value).toList 8).map (fun x => (x.1, x.2.1)) =
      some ([.lit (.int .u32 0), .nil, .agg [.lit (.int .i64 0), .lit (.int .i64 0), .lit (.int .i64 0), .lit (.string []), .nil], .lit (.bool false)], []) := by kernel_rfl
  obtain ⟨⟨x1, x2, x3⟩, hx, hx1⟩ := Option.map_eq_some_iff.1 hw
  simp only [Prod.mk.injEq] at hx1
  obtain ⟨rfl, rfl⟩ := hx1
  exact OpenSpec.preRow_of_cond 8 hx (by kernel_rfl) (fun k hk => by cases hk; kernel_rfl) (by kernel_rfl) (laid_met os _)
set_option maxRecDepth 100000 in
theorem lifted (os : Os) (started : os.Started) (H : Type) (enc : TypeId × Value → H) (F : Stop.Interp) :
    ReturnsInHanded {} Tryz.checked os 3 .any ((Rows.OpenSpec.upto Rows.topRefusesSpec).preRow enc Tryz.prog Tryz.f3 Rows.topRefusesUptoRow.domain false Rows.topRefusesUptoRow.laid) (((Rows.OpenSpec.upto Rows.topRefusesSpec).at F).post enc Tryz.prog Tryz.f3 false true false false) := by
  refine returnsInHanded_of_row (C := Tryz.checked) (s := Rows.OpenSpec.upto Rows.topRefusesSpec) own started (by kernel_rfl) Tryz.func3
    (witness_row_atRef (enc := enc) (C := Tryz.checked) false (laidWorld os) #[.int .u32 0, .slice none 0 0, .agg #[.int .i64 0, .int .i64 0, .int .i64 0, .string .empty, .slice none 0 0], .bool false] rfl (by kernel_rfl) (by kernel_rfl) (by kernel_rfl) (witness_row os enc)) ?_
  intro W base args ds gs before hval hW _ hcond _ hL _ _
  exact contract H enc W base args ds gs before hval hW (hcond _ rfl) hL
set_option maxRecDepth 100000 in
theorem over : Rows.TopRefusesUptoSaid :=
  OpenClaim.holds_of_cond 3 Tryz.f3 rfl rfl rfl rfl rfl rfl rfl ⟨rfl, rfl, rfl, rfl, rfl⟩ rfl rfl rfl rfl rfl jn Tryz.func3 closed
    (of_decide_eq_true (by kernel_rfl)) jwr
    (fun os started H enc _ F => by rw [OpenClaim.pre_eq_preRow]; exact lifted os started H enc F)
theorem noStand : ([22, 23, 26, 4] : List Nat).all (fun t => !Tryz.prog.wantsStandIn t) = true := by kernel_rfl
theorem plain (f : FuncId) (fn : Func) (hf : Tryz.pinned.checked.prog.funcNamed Rows.topRefusesUptoRow.func = some f) (hfn : Tryz.pinned.checked.prog.funcs[f]? = some fn) :
    true = Tryz.pinned.checked.prog.looks [] ∧ ∀ (j : Nat) t, fn.params[j]? = some t → Tryz.pinned.checked.prog.wantsStandIn t = false := by
  obtain rfl : f = 3 := Option.some.inj (jn.symm.trans hf) |>.symm
  obtain rfl : fn = Tryz.f3 := (Option.some.inj (Tryz.func3.symm.trans hfn)).symm
  refine ⟨by kernel_rfl, fun j t ht => ?_⟩
  rw [show Tryz.f3.params = #[22, 23, 26, 4] from rfl] at ht
  have hm := Array.mem_of_getElem? ht
  have := List.all_eq_true.1 noStand t (by simpa using hm)
  show Tryz.prog.wantsStandIn t = false
  simpa using this
theorem proved : Rows.TopRefusesUptoCardSaid :=
  Claim7.holds_tied_plain_at .later [] _ _ _ _ over (fun _ h => by cases h) (by kernel_rfl) (fun _ h => by cases h) topRefusesUpto_row_tie rfl ⟨rfl, rfl⟩ (by kernel_rfl) rfl plain (by kernel_rfl)
end Go.Proofs.YteglopjljejjkabGreatDoor.topRefuses
