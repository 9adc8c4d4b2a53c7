/- Two vectors, whether they are the same. -/
import Derived.Test.YteglopjljejjkabBVec
set_option linter.unusedVariables false
set_option linter.unusedSimpArgs false
set_option maxRecDepth 100000
set_option maxHeartbeats 4000000
namespace Go.Eng
open Go Go.RowKit Go.Proofs
theorem i64_succ {k : Nat} (h : k < 9223372036854775807) : IntKind.i64.wrap ((k : Int) + 1) = ((k + 1 : Nat) : Int) := by rw [w_i64 (by omega) (by omega)]; omega
theorem ck_ext {x y : CV} (hl : x.length = y.length) (h : ∀ j, j < x.length → x.getD j (0, 0) = y.getD j (0, 0)) : x = y := by
  refine List.ext_getElem hl (fun i h1 h2 => ?_)
  have := h i h1
  rw [List.getD_eq_getElem?_getD, List.getD_eq_getElem?_getD, List.getElem?_eq_getElem h1, List.getElem?_eq_getElem h2] at this
  exact this
def smI (x y : CV) (m : Nat) (st : St) : Prop := ∃ k : Nat, m = x.length - k ∧ k ≤ x.length ∧ (∀ j, j < k → x.getD j (0, 0) = y.getD j (0, 0)) ∧ st = ⟨26, 0, [(0, ckS x), (1, ckS y), (5, vci .i64 (k : Int))], []⟩
theorem same_c (x y : CV) (hx : x.length ≤ 1000000000) (hy : y.length ≤ 1000000000) : CallV Try.prog 14 [ckS x, ckS y] [] (fun r own' => own' = [] ∧ r = vcb (decide (x = y))) := by
  refine callV_pure Try.func14 rfl ttok ftok rfl rfl rfl (Nat.le_of_ble_eq_true rfl) ?_
  conv => whnf
  refine onB_intro (fun h => ?_) (fun h => ?_)
  · conv => whnf
    rw [show decide (x = y) = false from decide_eq_false (fun e => by rw [e] at h; simp at h)]
  · have hlen : x.length = y.length := by
      have h : ((x.length : Int) != y.length) = false := h
      simp at h
      omega
    conv => whnf
    refine loopV ttok ftok (smI x y) (norm_weak [0, 1, 5] [] rfl rfl) ⟨0, rfl, Nat.zero_le _, fun j hj => by omega, rfl⟩ ?_
    rintro m st ⟨k, rfl, hk, hj, rfl⟩
    conv => whnf
    refine onB_intro (fun h => ?_) (fun h => ?_)
    · have h := of_decide_eq_true h
      conv => whnf
      refine drawV_join mixed (by kernel_rfl) ttok ?_
      conv => whnf
      refine ⟨⟨by omega, by omega⟩, ?_⟩
      conv => whnf
      refine ⟨⟨by omega, by omega⟩, ?_⟩
      conv => whnf
      refine onB_intro (fun h2 => ?_) (fun h2 => ?_)
      · have h2 : (!((x.getD k (0, 0)).1 == (y.getD k (0, 0)).1 && ((x.getD k (0, 0)).2 == (y.getD k (0, 0)).2 && true))) = true := h2
        conv => whnf
        rw [show decide (x = y) = false from decide_eq_false (fun e => by rw [e] at h2; simp at h2)]
      · have h2 : (!((x.getD k (0, 0)).1 == (y.getD k (0, 0)).1 && ((x.getD k (0, 0)).2 == (y.getD k (0, 0)).2 && true))) = false := h2
        have h3 : x.getD k (0, 0) = y.getD k (0, 0) := by
          simp only [Bool.not_eq_false', Bool.and_true, Bool.and_eq_true, beq_iff_eq] at h2
          exact Prod.ext h2.1 h2.2
        conv => whnf
        refine ⟨x.length - (k + 1), _, by omega, norm_weak [0, 1, 5] [] rfl rfl, k + 1, rfl, by omega, fun j hj2 => ?_, ?_⟩
        · rcases Nat.lt_succ_iff_lt_or_eq.1 hj2 with h4 | rfl
          · exact hj j h4
          · exact h3
        rw [← i64_succ (by omega)]
        all_goals rfl
    · have h := of_decide_eq_false h
      conv => whnf
      rw [show decide (x = y) = true from decide_eq_true (ck_ext hlen (fun j hj2 => hj j (by omega)))]
end Go.Eng
