/- The row of the law DiffDone in its second form: where what comes in is not too big, the call returns true and leaves its input as it was. -/
import Derived.Test.YteglopjljejjkaaBDd2
import Derived.Test.YteglopjljejjkaaA17
import Derived.Test.YteglopjljejjkaaRows
import Derived.WalkKit
import Derived.ProofKit
import Derived.OpenShut
import Derived.ShutString
import Derived.JoinedCond
import Derived.ChangeOld
import Derived.Below
import Derived.SizedLaws
import Derived.Carry
import Derived.Lib.SmallJoins
set_option linter.unusedVariables false
set_option linter.unusedSimpArgs false
namespace Go.Proofs.Yteglopjljejjkaa.diffDone
open Go.ChangeShapes Go.WideShapes Go.ChangeAt Go.RowKit Go.Joins Go.Eng
open Go.ChangeMaps (open_string shut_string)
theorem own : ownKnob Try.prog.godebug = none := by kernel_rfl
theorem laidOut : laidOutB Try.prog = true := by kernel_rfl
set_option maxRecDepth 100000 in
theorem contract (H : Type) (enc : TypeId × Value → H) (W : World) (base : Nat) (args : Array Value) (ds gs : List (DataW H)) (before : List MemPlace)
    (hval : ∀ (j : Nat) t v, Try.f4.params[j]? = some t → args[j]? = some v → Value.okWide Try.prog W .any base t v)
    (hW : DataW.Whole enc Try.prog Try.f4.params.toList Rows.diffDoneSpec.vars false W args.toList ds gs before) (hk : Rows.uptoSmall H (ds ++ gs) = true) :
    Calls Try.prog 4 args W fun e W' => ∃ v, e = .returned v ∧ Rows.diffDoneSpec.post enc Try.prog Try.f4 false true false false W args v W' := by
  have hW' := hW
  obtain ⟨p, q, hA0, hV, rfl, hfz, hnd⟩ := hW
  have hA : DataW.TrodAll enc Try.prog W 0 (fun _ => true) true Try.f4.params.toList args.toList ds p := hA0
  rw [show Try.f4.params = #[9, 9, 3, 3, 9] from rfl] at hA hval
  obtain ⟨v0, vs0, d0, ds0, p0, q0, hargs, rfl, rfl, h0, r0⟩ := trodAll_cons hA
  obtain ⟨v1, vs1, d1, ds1, p1, q1, rfl, rfl, rfl, h1, r1⟩ := trodAll_cons r0
  obtain ⟨v2, vs2, d2, ds2, p2, q2, rfl, rfl, rfl, h2, r2⟩ := trodAll_cons r1
  obtain ⟨v3, vs3, d3, ds3, p3, q3, rfl, rfl, rfl, h3, r3⟩ := trodAll_cons r2
  obtain ⟨v4, vs4, d4, ds4, p4, q4, rfl, rfl, rfl, h4, r4⟩ := trodAll_cons r3
  obtain ⟨rfl, rfl, rfl⟩ := trodAll_nil r4
  obtain rfl : args = #[v0, v1, v2, v3, v4] := by cases args; simp_all
  obtain ⟨rfl, rfl⟩ := trodVars_none hV
  have lt0 : ∀ x ∈ p0, x.block < W.heap.size := by obtain ⟨m, hm⟩ := h0; exact DataW.trod_lt m _ _ _ hm
  have lt1 : ∀ x ∈ p1, x.block < W.heap.size := by obtain ⟨m, hm⟩ := h1; exact DataW.trod_lt m _ _ _ hm
  have lt2 : ∀ x ∈ p2, x.block < W.heap.size := by obtain ⟨m, hm⟩ := h2; exact DataW.trod_lt m _ _ _ hm
  have lt3 : ∀ x ∈ p3, x.block < W.heap.size := by obtain ⟨m, hm⟩ := h3; exact DataW.trod_lt m _ _ _ hm
  have lt4 : ∀ x ∈ p4, x.block < W.heap.size := by obtain ⟨m, hm⟩ := h4; exact DataW.trod_lt m _ _ _ hm
  have hb : Rows.uptoBulkAll [d0, d1, d2, d3, d4] ≤ 1048576 := of_decide_eq_true hk
  simp only [Rows.uptoBulkAll] at hb
  obtain ⟨s0, g0, z0⟩ : ∃ s, v0 = .string s ∧ s.size ≤ 1048576 := by
    obtain ⟨s, e1, e2, _, _⟩ := open_string Try.underlying9 (hval 0 9 v0 rfl rfl) h0
    refine ⟨s, e1, ?_⟩
    rw [e2] at hb
    simp only [Rows.uptoBulk] at hb
    have := ba_len s
    omega
  subst g0
  obtain ⟨s1, g1, z1⟩ : ∃ s, v1 = .string s ∧ s.size ≤ 1048576 := by
    obtain ⟨s, e1, e2, _, _⟩ := open_string Try.underlying9 (hval 1 9 v1 rfl rfl) h1
    refine ⟨s, e1, ?_⟩
    rw [e2] at hb
    simp only [Rows.uptoBulk] at hb
    have := ba_len s
    omega
  subst g1
  obtain ⟨a2, g2, w2⟩ : ∃ a, v2 = .int .i64 a ∧ (Lit.int .i64 a).wf = true := by
    obtain ⟨x, rfl, _, _, wx⟩ := open_int Try.underlying3 (hval 2 3 v2 rfl rfl) h2
    exact ⟨x, rfl, wx⟩
  subst g2
  have w2 := wf_i64 w2
  obtain ⟨a3, g3, w3⟩ : ∃ a, v3 = .int .i64 a ∧ (Lit.int .i64 a).wf = true := by
    obtain ⟨x, rfl, _, _, wx⟩ := open_int Try.underlying3 (hval 3 3 v3 rfl rfl) h3
    exact ⟨x, rfl, wx⟩
  subst g3
  have w3 := wf_i64 w3
  obtain ⟨s4, g4, z4⟩ : ∃ s, v4 = .string s ∧ s.size ≤ 1048576 := by
    obtain ⟨s, e1, e2, _, _⟩ := open_string Try.underlying9 (hval 4 9 v4 rfl rfl) h4
    refine ⟨s, e1, ?_⟩
    rw [e2] at hb
    simp only [Rows.uptoBulk] at hb
    have := ba_len s
    omega
  subst g4
  clear hA0 hval hb
  refine (pure_calls (vs := [.string s0, .string s1, .int .i64 a2, .int .i64 a3, .string s4]) (diffdone_c s0 s1 s4 a2 a3 (by omega) (by omega) (by omega) w2.1 w2.2 w3.1 w3.2) (fun _ => none) W (fun k o hk => by cases hk) (denAs_cons (denA_v rfl) (denAs_cons (denA_v rfl) (denAs_cons (denA_v rfl) (denAs_cons (denA_v rfl) (denAs_cons (denA_v rfl) denAs_nil)))))).mono ?_
  rintro e W' ⟨r, v, L, h', rfl, hr, bel, _, _, rfl⟩
  cases hr
  exact ⟨_, rfl, _, _, _, [], _, [], hW', trodAll_mk1 (shut_bool Try.underlying4 _), (trodAll_cons_mk (Below.trod laidOut (by kernel_rfl) (of_decide_eq_true (by kernel_rfl)) h0 bel lt0) (trodAll_cons_mk (Below.trod laidOut (by kernel_rfl) (of_decide_eq_true (by kernel_rfl)) h1 bel lt1) (trodAll_cons_mk (Below.trod laidOut (by kernel_rfl) (of_decide_eq_true (by kernel_rfl)) h2 bel lt2) (trodAll_cons_mk (Below.trod laidOut (by kernel_rfl) (of_decide_eq_true (by kernel_rfl)) h3 bel lt3) (trodAll_cons_mk (Below.trod laidOut (by kernel_rfl) (of_decide_eq_true (by kernel_rfl)) h4 bel lt4) trodAll_mk0))))), rfl, bel.frame _, fun h => by cases h⟩
set_option maxRecDepth 100000 in
theorem lifted (os : Os) (started : os.Started) (H : Type) (enc : TypeId × Value → H) (F : Stop.Interp) :
    ReturnsInHanded {} Try.checked os 4 .any ((Rows.OpenSpec.upto Rows.diffDoneSpec).pre6 enc Try.prog Try.f4 Rows.diffDoneUptoRow.domain false) (((Rows.OpenSpec.upto Rows.diffDoneSpec).at F).post enc Try.prog Try.f4 false true false false) := by
  refine returnsInHanded_of_cond (C := Try.checked) (s := Rows.OpenSpec.upto Rows.diffDoneSpec) (k := Rows.uptoSmall) rfl own started (by kernel_rfl) Try.func4
    (OpenSpec.witness (enc := enc) (C := Try.checked) (s := Rows.OpenSpec.upto Rows.diffDoneSpec) (k := Rows.uptoSmall) rfl false ⟨#[], #[.string .empty, .string .empty, .int .i64 0, .int .i64 0, .string .empty], []⟩ 8 (by kernel_rfl) (by kernel_rfl) (by kernel_rfl)
      (x := ([.lit (.string []), .lit (.string []), .lit (.int .i64 0), .lit (.int .i64 0), .lit (.string [])], [], [])) (by kernel_rfl) rfl (by kernel_rfl)) ?_
  intro W base args ds gs before hval hW _ hk _
  exact contract H enc W base args ds gs before hval hW hk
theorem over : Rows.diffDoneUptoRow.holds Try.pinned (Rows.OpenSpec.upto Rows.diffDoneSpec) :=
  OpenClaim.holds_of_cond 4 Try.f4 rfl rfl rfl rfl rfl rfl rfl ⟨rfl, rfl, rfl, rfl, rfl⟩ rfl rfl rfl rfl rfl (by kernel_rfl) Try.func4 (by kernel_rfl)
    (of_decide_eq_true (by kernel_rfl)) (by unfold Func.isWrapper; first | (rw [if_pos (by decide +kernel)]; kernel_rfl) | (rw [if_neg (by decide +kernel)]; exact ⟨rfl, rfl⟩))
    (fun os started H enc _ F => lifted os started H enc F)
theorem proved : Rows.DiffDoneUptoSaid := over
end Go.Proofs.Yteglopjljejjkaa.diffDone
