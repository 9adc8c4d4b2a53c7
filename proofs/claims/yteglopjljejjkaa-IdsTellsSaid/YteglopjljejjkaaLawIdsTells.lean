/- The row of the law IdsTells: whatever the input, the call returns true and leaves its input as it was. -/
import Derived.Test.YteglopjljejjkaaIds1
import Derived.Test.YteglopjljejjkaaRows
import Derived.WalkKit
import Derived.ProofKit
import Derived.OpenShut
import Derived.ShutString
import Derived.ChangeOld
import Derived.Below
import Derived.SizedLaws
import Derived.Carry
import Derived.Lib.SmallJoins
set_option linter.unusedVariables false
set_option linter.unusedSimpArgs false
namespace Go.Proofs.Yteglopjljejjkaa.idsTells
open Go.ChangeShapes Go.WideShapes Go.ChangeAt Go.RowKit Go.Joins Go.Eng
theorem own : ownKnob Try.prog.godebug = none := by kernel_rfl
theorem laidOut : laidOutB Try.prog = true := by kernel_rfl
theorem cellsI : Try.prog.cellsOf 59 = 2 := by kernel_rfl
set_option maxRecDepth 100000 in
theorem lifted (os : Os) (started : os.Started) (H : Type) (enc : TypeId × Value → H) :
    ReturnsInHanded {} Try.checked os 7 .any (Rows.idsTellsSpec.pre6 enc Try.prog Try.f7 Rows.idsTellsRow.domain false) (Rows.idsTellsSpec.post enc Try.prog Try.f7 false true false false) := by
  refine returnsInHanded_of_change_sized (C := Try.checked) own started (by kernel_rfl) Try.func7
    (ChangeSpec.witness6 (enc := enc) (C := Try.checked) false ⟨#[], #[.agg #[.int .u32 0, .int .u32 0], .agg #[.int .u32 0, .int .u32 0], .int .i64 0, .int .u32 0], []⟩ 8 (by kernel_rfl) (by kernel_rfl) (by kernel_rfl) (by kernel_rfl)) ?_
  intro W base args ds gs before hval0 hW hcnd hsz0 _
  have hval : ∀ (j : Nat) t v, Try.f7.params[j]? = some t → args[j]? = some v → Value.okWide Try.prog W .any base t v := hval0
  have hW' := hW
  obtain ⟨p, q, hA0, hV, rfl, hfz, hnd⟩ := hW
  have hA : DataW.TrodAll enc Try.prog W 0 (fun _ => true) true Try.f7.params.toList args.toList ds p := hA0
  rw [show Try.f7.params = #[59, 59, 3, 57] from rfl] at hA hval
  obtain ⟨v0, vs0, d0, ds0, p0, q0, hargs, rfl, rfl, h0, r0⟩ := trodAll_cons hA
  obtain ⟨v1, vs1, d1, ds1, p1, q1, rfl, rfl, rfl, h1, r1⟩ := trodAll_cons r0
  obtain ⟨v2, vs2, d2, ds2, p2, q2, rfl, rfl, rfl, h2, r2⟩ := trodAll_cons r1
  obtain ⟨v3, vs3, d3, ds3, p3, q3, rfl, rfl, rfl, h3, r3⟩ := trodAll_cons r2
  obtain ⟨rfl, rfl, rfl⟩ := trodAll_nil r3
  obtain rfl : args = #[v0, v1, v2, v3] := by cases args; simp_all
  obtain ⟨rfl, rfl⟩ := trodVars_none hV
  have lt0 : ∀ x ∈ p0, x.block < W.heap.size := by obtain ⟨m, hm⟩ := h0; exact DataW.trod_lt m _ _ _ hm
  have lt1 : ∀ x ∈ p1, x.block < W.heap.size := by obtain ⟨m, hm⟩ := h1; exact DataW.trod_lt m _ _ _ hm
  have lt2 : ∀ x ∈ p2, x.block < W.heap.size := by obtain ⟨m, hm⟩ := h2; exact DataW.trod_lt m _ _ _ hm
  have lt3 : ∀ x ∈ p3, x.block < W.heap.size := by obtain ⟨m, hm⟩ := h3; exact DataW.trod_lt m _ _ _ hm
  obtain ⟨c0, e0, g0, w0⟩ : ∃ c k, v0 = .agg #[.int .u32 c, .int .u32 k] ∧ (0 ≤ k ∧ k ≤ 4294967295) := by
    obtain ⟨c0, c1, y0, y1, m, rfl, _, _, hy0, hy1⟩ := open_agg2 Try.underlying59 (by kernel_rfl) cellsI (hval 0 59 v0 rfl rfl) h0
    obtain ⟨a, ea, _, wa⟩ := DataW.trod_int Try.underlying57 hy0
    obtain ⟨b, eb, _, wb⟩ := DataW.trod_int Try.underlying57 hy1
    simp at ea eb
    subst ea eb
    exact ⟨a, b, rfl, wf_u32 wb⟩
  subst g0
  obtain ⟨c1, e1, g1, w1⟩ : ∃ c k, v1 = .agg #[.int .u32 c, .int .u32 k] ∧ (0 ≤ k ∧ k ≤ 4294967295) := by
    obtain ⟨c0, c1, y0, y1, m, rfl, _, _, hy0, hy1⟩ := open_agg2 Try.underlying59 (by kernel_rfl) cellsI (hval 1 59 v1 rfl rfl) h1
    obtain ⟨a, ea, _, wa⟩ := DataW.trod_int Try.underlying57 hy0
    obtain ⟨b, eb, _, wb⟩ := DataW.trod_int Try.underlying57 hy1
    simp at ea eb
    subst ea eb
    exact ⟨a, b, rfl, wf_u32 wb⟩
  subst g1
  obtain ⟨a2, g2, w2⟩ : ∃ a, v2 = .int .i64 a ∧ (Lit.int .i64 a).wf = true := by
    obtain ⟨x, rfl, _, _, wx⟩ := open_int Try.underlying3 (hval 2 3 v2 rfl rfl) h2
    exact ⟨x, rfl, wx⟩
  subst g2
  have w2 := wf_i64 w2
  obtain ⟨a3, g3, w3⟩ : ∃ a, v3 = .int .u32 a ∧ (Lit.int .u32 a).wf = true := by
    obtain ⟨x, rfl, _, _, wx⟩ := open_int Try.underlying57 (hval 3 57 v3 rfl rfl) h3
    exact ⟨x, rfl, wx⟩
  subst g3
  have w3 := wf_u32 w3
  clear hA0 hval0 hsz0
  refine (pure_calls (tells_c c0 e0 c1 e1 a2 a3 w0 w3 w2) ⟨fun _ => none, 0⟩ W (fun k o hk => by cases hk) (fun a ha => ?_)).mono ?_
  · simp only [List.mem_cons, List.not_mem_nil, or_false] at ha
    rcases ha with rfl | rfl | rfl | rfl
    · intro x hx
      simp only [List.mem_cons, List.not_mem_nil, or_false] at hx
      rcases hx with rfl | rfl <;> exact .v _ rfl
    · intro x hx
      simp only [List.mem_cons, List.not_mem_nil, or_false] at hx
      rcases hx with rfl | rfl <;> exact .v _ rfl
    · exact .v _ rfl
    · exact .v _ rfl
  rintro e W' ⟨r, L, h', rfl, bel, _, _, _, rfl⟩
  exact ⟨_, rfl, _, _, _, [], _, [], hW', trodAll_mk1 (shut_bool Try.underlying4 _), (trodAll_cons_mk (Below.trod laidOut (by kernel_rfl) (of_decide_eq_true (by kernel_rfl)) h0 bel lt0) (trodAll_cons_mk (Below.trod laidOut (by kernel_rfl) (of_decide_eq_true (by kernel_rfl)) h1 bel lt1) (trodAll_cons_mk (Below.trod laidOut (by kernel_rfl) (of_decide_eq_true (by kernel_rfl)) h2 bel lt2) (trodAll_cons_mk (Below.trod laidOut (by kernel_rfl) (of_decide_eq_true (by kernel_rfl)) h3 bel lt3) trodAll_mk0)))), rfl, bel.frame _, fun h => by cases h⟩
theorem over : Rows.idsTellsRow.holds Try.pinned (OpenSpec.ofChange Rows.idsTellsSpec) :=
  OpenClaim.holds_of_wide 7 Try.f7 rfl rfl rfl rfl rfl rfl rfl ⟨rfl, rfl, rfl, rfl, rfl⟩ rfl rfl rfl rfl rfl (by kernel_rfl) Try.func7 (by kernel_rfl)
    (of_decide_eq_true (by kernel_rfl)) (by unfold Func.isWrapper; first | (rw [if_pos (by decide +kernel)]; kernel_rfl) | (rw [if_neg (by decide +kernel)]; exact ⟨rfl, rfl⟩))
    (fun os started H enc _ => lifted os started H enc)
theorem proved : Rows.IdsTellsSaid := over
end Go.Proofs.Yteglopjljejjkaa.idsTells
