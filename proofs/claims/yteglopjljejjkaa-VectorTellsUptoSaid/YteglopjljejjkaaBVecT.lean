/- The law VectorTells. -/
import Derived.Test.YteglopjljejjkaaBVecU
set_option linter.unusedVariables false
set_option linter.unusedSimpArgs false
set_option maxRecDepth 100000
set_option maxHeartbeats 4000000
namespace Go.Eng
open Go Go.RowKit Go.Proofs
theorem vtells_c (a b : CV) (hla : a.length ≤ 100000000) (hlb : b.length ≤ 100000000) (hna : ∀ x ∈ a, 0 ≤ x.1 ∧ 0 ≤ x.2) (hnb : ∀ x ∈ b, 0 ≤ x.1 ∧ 0 ≤ x.2) (t n : Int) (ht : 0 ≤ t) (hn : 0 ≤ n) :
    CallV Try.prog 9 [ckS a, ckS b, vci .u32 t, vci .u32 n] [] (fun r own' => own' = [] ∧ r = vcb true) := by
  refine callV_pure Try.func9 rfl ttok ftok rfl rfl rfl (Nat.le_of_ble_eq_true rfl) ?_
  conv => whnf
  refine call_pure (up_c) rfl ?_
  rintro _ rfl
  conv => whnf
  refine onB_intro (fun h => ?_) (fun h => ?_)
  · conv => whnf
    all_goals first | rfl | exact ⟨rfl, rfl⟩
  simp only [pickB, isLit, Bool.or_eq_false_iff, decide_eq_false_iff_not] at h
  have ha1 : a.length ≤ 100 := by omega
  have hb1 : b.length ≤ 100 := by omega
  conv => whnf
  refine call_pure (rmay_c a (by omega) hna) rfl ?_
  rintro _ ⟨b1, h1, rfl⟩
  conv => whnf
  refine call_pure (rmay_c b (by omega) hnb) rfl ?_
  rintro _ ⟨b2, h2, rfl⟩
  conv => whnf
  refine call_pure (may_c a (by omega) hna) rfl ?_
  rintro _ ⟨b3, h3, rfl⟩
  obtain rfl : b3 = b1 := by rw [Bool.eq_iff_iff, h1, h3]
  cases b3 with
  | false =>
    conv => whnf
    all_goals first | rfl | exact ⟨rfl, rfl⟩
  | true =>
    cases b2 with
    | false =>
      conv => whnf
      all_goals first | rfl | exact ⟨rfl, rfl⟩
    | true =>
      have hma := h1.1 rfl
      have hmb := h2.1 rfl
      conv => whnf
      refine call_pure (set_c a (by omega) hma.1 t n ht hn) rfl ?_
      rintro _ rfl
      conv => whnf
      refine call_pure (rset_c a (by omega) t n) rfl ?_
      rintro _ rfl
      have hsl := setR_len a t n
      conv => whnf
      refine call_pure (same_c _ _ (by omega) (by omega)) rfl ?_
      rintro _ rfl
      rw [show decide (setR a t n = setR a t n) = true from decide_eq_true rfl]
      conv => whnf
      refine call_pure (merge_c a b hma hmb (by omega) (by omega)) rfl ?_
      rintro _ rfl
      conv => whnf
      refine call_pure (rmerge_c a b (by omega) (by omega)) rfl ?_
      rintro _ rfl
      have hml := mergeR_len b a
      conv => whnf
      refine call_pure (same_c _ _ (by omega) (by omega)) rfl ?_
      rintro _ rfl
      rw [show decide (mergeR a b = mergeR a b) = true from decide_eq_true rfl]
      conv => whnf
      refine call_pure (next_c a (by omega) hma.1 t) rfl ?_
      rintro _ rfl
      conv => whnf
      refine call_pure (rnext_c a (by omega) t) rfl ?_
      rintro _ rfl
      conv => whnf
      rw [show (nxt a t == nxt a t) = true from beq_self_eq_true _]
      conv => whnf
      refine call_pure (covers_c a b hma.1 (by omega) (by omega)) rfl ?_
      rintro _ rfl
      conv => whnf
      refine call_pure (rcov_c a b (by omega) (by omega)) rfl ?_
      rintro _ rfl
      conv => whnf
      rw [show (coversR a b == coversR a b) = true from beq_self_eq_true _]
      all_goals first | rfl | exact ⟨rfl, rfl⟩
theorem vectorTells_law : ∀ avs, RdArgs tt 1048576 30 [69, 69, 57, 57] avs → CallV Try.prog 9 avs [] (fun r own' => own' = [] ∧ r = vcb true) := by
  rintro avs ⟨a0, r0, h0, ⟨a1, r1, h1, ⟨a2, r2, ⟨c2, ⟨t, wt, e2⟩, rfl⟩, ⟨a3, r3, ⟨c3, ⟨n, wn, e3⟩, rfl⟩, rfl, rfl⟩, rfl⟩, rfl⟩, rfl⟩
  cases e2
  cases e3
  obtain ⟨a, hna, hla, hda⟩ := rd_clks (T := tt) h0
  obtain ⟨b, hnb, hlb, hdb⟩ := rd_clks (T := tt) h1
  refine callV_args (argsLe_cons hda (argsLe_cons hdb (argsLe_refl _))) ?_
  exact vtells_c a b (by omega) (by omega) hna hnb t n (wf_u32 wt).1 (wf_u32 wn).1
end Go.Eng
