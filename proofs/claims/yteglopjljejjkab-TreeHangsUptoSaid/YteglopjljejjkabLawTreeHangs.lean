/- The row of the law TreeHangs in its second form: where what comes in is not too big, the call returns true and leaves its input as it was. -/
import Derived.Test.YteglopjljejjkabGBTr3TBTr4
import Derived.Test.YteglopjljejjkabRows
import Derived.WalkKit
import Derived.ProofKit
import Derived.OpenShut
import Derived.ShutString
import Derived.JoinedCond
import Derived.ChangeOld
import Derived.Below
import Derived.SizedLaws
import Derived.Carry
import Derived.Lib.SmallJoins
set_option linter.unusedVariables false
set_option linter.unusedSimpArgs false
namespace Go.Proofs.Yteglopjljejjkab.treeHangs
open Go.ChangeShapes Go.WideShapes Go.ChangeAt Go.RowKit Go.Joins Go.Eng
theorem own : ownKnob Try.prog.godebug = none := by kernel_rfl
theorem laidOut : laidOutB Try.prog = true := by kernel_rfl
theorem bulk_mem {H : Type} : ∀ {es : List (DataW H)} {e : DataW H}, e ∈ es → Rows.uptoBulk e ≤ Rows.uptoBulkAll es
  | x :: r, e, h => by
    rw [Rows.uptoBulkAll]
    rcases List.mem_cons.1 h with rfl | h
    · omega
    · have := bulk_mem h; omega
theorem bulk_one {H : Type} : ∀ (e : DataW H), 1 ≤ Rows.uptoBulk e := fun e => by
  cases e with
  | lit l => cases l <;> simp [Rows.uptoBulk]
  | _ => simp [Rows.uptoBulk]
theorem bulk_len {H : Type} : ∀ (es : List (DataW H)), es.length ≤ Rows.uptoBulkAll es
  | [] => Nat.zero_le _
  | x :: r => by
    rw [Rows.uptoBulkAll, List.length_cons]
    have := bulk_len r
    have := bulk_one x
    omega
theorem bulkOk {H : Type} : BulkOk H Rows.uptoBulk := ⟨fun l => by simp [Rows.uptoBulk], fun es sp => by rw [Rows.uptoBulk]; have := bulk_len es; omega, fun es sp e h => by rw [Rows.uptoBulk]; have := bulk_mem h; omega, fun es e h => by rw [Rows.uptoBulk]; have := bulk_mem h; omega⟩
set_option maxRecDepth 100000 in
theorem contract (H : Type) (enc : TypeId × Value → H) (W : World) (base : Nat) (args : Array Value) (ds gs : List (DataW H)) (before : List MemPlace)
    (hval : ∀ (j : Nat) t v, Try.f6.params[j]? = some t → args[j]? = some v → Value.okWide Try.prog W .any base t v)
    (hW : DataW.Whole enc Try.prog Try.f6.params.toList Rows.treeHangsSpec.vars false W args.toList ds gs before) (hk : Rows.uptoSmall H (ds ++ gs) = true) :
    Calls Try.prog 6 args W fun e W' => ∃ v, e = .returned v ∧ Rows.treeHangsSpec.post enc Try.prog Try.f6 false true false false W args v W' := by
  have hW' := hW
  obtain ⟨p, q, hA0, hV, rfl, hfz, hnd⟩ := hW
  have hA : DataW.TrodAll enc Try.prog W 0 (fun _ => true) true Try.f6.params.toList args.toList ds p := hA0
  rw [show Try.f6.params = #[60, 61, 3] from rfl] at hA hval
  obtain ⟨v0, vs0, d0, ds0, p0, q0, hargs, rfl, rfl, h0, r0⟩ := trodAll_cons hA
  obtain ⟨v1, vs1, d1, ds1, p1, q1, rfl, rfl, rfl, h1, r1⟩ := trodAll_cons r0
  obtain ⟨v2, vs2, d2, ds2, p2, q2, rfl, rfl, rfl, h2, r2⟩ := trodAll_cons r1
  obtain ⟨rfl, rfl, rfl⟩ := trodAll_nil r2
  obtain rfl : args = #[v0, v1, v2] := by cases args; simp_all
  obtain ⟨rfl, rfl⟩ := trodVars_none hV
  have lt0 : ∀ x ∈ p0, x.block < W.heap.size := by obtain ⟨m, hm⟩ := h0; exact DataW.trod_lt m _ _ _ hm
  have lt1 : ∀ x ∈ p1, x.block < W.heap.size := by obtain ⟨m, hm⟩ := h1; exact DataW.trod_lt m _ _ _ hm
  have lt2 : ∀ x ∈ p2, x.block < W.heap.size := by obtain ⟨m, hm⟩ := h2; exact DataW.trod_lt m _ _ _ hm
  have hb : Rows.uptoBulkAll [d0, d1, d2] ≤ 1048576 := of_decide_eq_true hk
  simp only [Rows.uptoBulkAll] at hb
  obtain ⟨a0, k0, m0⟩ := arg_ok (B := 1048576) (d := 30) (L := fun _ => undef) ttok bulkOk (hval 0 60 v0 rfl rfl) h0 (by decide +kernel) (by omega)
  obtain ⟨a1, k1, m1⟩ := arg_ok (B := 1048576) (d := 30) (L := fun _ => undef) ttok bulkOk (hval 1 61 v1 rfl rfl) h1 (by decide +kernel) (by omega)
  obtain ⟨a2, k2, m2⟩ := arg_ok (B := 1048576) (d := 30) (L := fun _ => undef) ttok bulkOk (hval 2 3 v2 rfl rfl) h2 (by decide +kernel) (by omega)
  refine (pure_calls (vs := [v0, v1, v2]) (treeHangs_law [a0, a1, a2] ⟨a0, _, m0, ⟨a1, _, m1, ⟨a2, _, m2, rfl, rfl⟩, rfl⟩, rfl⟩) (fun k => W.heap[k]?) trivial W (fun k o hk => hk) (denAs_cons k0 (denAs_cons k1 (denAs_cons k2 denAs_nil)))).mono ?_
  rintro e W' ⟨r, v, L, h', rfl, hr, bel, _, _, rfl⟩
  cases hr
  exact ⟨_, rfl, _, _, _, [], _, [], hW', trodAll_mk1 (shut_bool Try.underlying4 _), (trodAll_cons_mk (Below.trod laidOut (by kernel_rfl) (of_decide_eq_true (by kernel_rfl)) h0 bel lt0) (trodAll_cons_mk (Below.trod laidOut (by kernel_rfl) (of_decide_eq_true (by kernel_rfl)) h1 bel lt1) (trodAll_cons_mk (Below.trod laidOut (by kernel_rfl) (of_decide_eq_true (by kernel_rfl)) h2 bel lt2) trodAll_mk0))), rfl, bel.frame _, fun h => by cases h⟩
set_option maxRecDepth 100000 in
theorem lifted (os : Os) (started : os.Started) (H : Type) (enc : TypeId × Value → H) (F : Stop.Interp) :
    ReturnsInHanded {} Try.checked os 6 .any ((Rows.OpenSpec.upto Rows.treeHangsSpec).pre6 enc Try.prog Try.f6 Rows.treeHangsUptoRow.domain false) (((Rows.OpenSpec.upto Rows.treeHangsSpec).at F).post enc Try.prog Try.f6 false true false false) := by
  refine returnsInHanded_of_cond (C := Try.checked) (s := Rows.OpenSpec.upto Rows.treeHangsSpec) (k := Rows.uptoSmall) rfl own started (by kernel_rfl) Try.func6
    (OpenSpec.witness (enc := enc) (C := Try.checked) (s := Rows.OpenSpec.upto Rows.treeHangsSpec) (k := Rows.uptoSmall) rfl false ⟨#[], #[.slice none 0 0, .slice none 0 0, .int .i64 0], []⟩ 8 (by kernel_rfl) (by kernel_rfl) (by kernel_rfl)
      (x := ([.nil, .nil, .lit (.int .i64 0)], [], [])) (by kernel_rfl) rfl (by kernel_rfl)) ?_
  intro W base args ds gs before hval hW _ hk _
  exact contract H enc W base args ds gs before hval hW hk
theorem over : Rows.treeHangsUptoRow.holds Try.pinned (Rows.OpenSpec.upto Rows.treeHangsSpec) :=
  OpenClaim.holds_of_cond 6 Try.f6 rfl rfl rfl rfl rfl rfl rfl ⟨rfl, rfl, rfl, rfl, rfl⟩ rfl rfl rfl rfl rfl (by kernel_rfl) Try.func6 (by kernel_rfl)
    (of_decide_eq_true (by kernel_rfl)) (by unfold Func.isWrapper; first | (rw [if_pos (by decide +kernel)]; kernel_rfl) | (rw [if_neg (by decide +kernel)]; exact ⟨rfl, rfl⟩))
    (fun os started H enc _ F => lifted os started H enc F)
theorem proved : Rows.TreeHangsUptoSaid := over
end Go.Proofs.Yteglopjljejjkab.treeHangs
