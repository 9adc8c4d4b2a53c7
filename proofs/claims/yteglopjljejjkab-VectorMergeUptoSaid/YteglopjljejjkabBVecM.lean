/- The law VectorMerge. -/
import Derived.Test.YteglopjljejjkabBVecU
set_option linter.unusedVariables false
set_option linter.unusedSimpArgs false
set_option maxRecDepth 100000
set_option maxHeartbeats 4000000
namespace Go.Eng
open Go Go.RowKit Go.Proofs
theorem merge_may {a b : CV} (ha : mayV a) (hb : mayV b) : mayV (mergeR a b) := merge_inv a ha b hb.2
theorem merge_comm {a b : CV} (ha : mayV a) (hb : mayV b) : mergeR a b = mergeR b a := by
  refine may_ext (merge_may ha hb) (merge_may hb ha) (fun c => ?_)
  rw [nxt_merge b a ha hb, nxt_merge a b hb ha]
  omega
theorem merge_covers {a b : CV} (ha : mayV a) (hb : mayV b) : coversR (mergeR a b) a = true ∧ coversR (mergeR a b) b = true := by
  have hm := merge_may ha hb
  refine ⟨(covers_iff hm ha).2 (fun c => ?_), (covers_iff hm hb).2 (fun c => ?_)⟩
  · rw [nxt_merge b a ha hb]; omega
  · rw [nxt_merge b a ha hb]; omega
theorem merge_least {a b c : CV} (ha : mayV a) (hb : mayV b) (hc : mayV c) (h1 : coversR c a = true) (h2 : coversR c b = true) : coversR c (mergeR a b) = true := by
  refine (covers_iff hc (merge_may ha hb)).2 (fun d => ?_)
  have k1 := (covers_iff hc ha).1 h1 d
  have k2 := (covers_iff hc hb).1 h2 d
  rw [nxt_merge b a ha hb]
  omega
theorem vmerge_c (a b c : CV) (hla : a.length ≤ 100000000) (hlb : b.length ≤ 100000000) (hlc : c.length ≤ 100000000) (hna : ∀ x ∈ a, 0 ≤ x.1 ∧ 0 ≤ x.2) (hnb : ∀ x ∈ b, 0 ≤ x.1 ∧ 0 ≤ x.2) (hnc : ∀ x ∈ c, 0 ≤ x.1 ∧ 0 ≤ x.2) :
    CallV Try.prog 3 [ckS a, ckS b, ckS c] [] (fun r own' => own' = [] ∧ r = vcb true) := by
  refine callV_pure Try.func3 rfl ttok ftok rfl rfl rfl (Nat.le_of_ble_eq_true rfl) ?_
  conv => whnf
  refine call_pure (up_c) rfl ?_
  rintro _ rfl
  conv => whnf
  by_cases la : a.length ≤ 100
  rotate_left
  · rw [show decide ((a.length : Int) > 100) = true from decide_eq_true (by omega)]
    conv => whnf
    all_goals first | rfl | exact ⟨rfl, rfl⟩
  rw [show decide ((a.length : Int) > 100) = false from decide_eq_false (by omega)]
  conv => whnf
  by_cases lb : b.length ≤ 100
  rotate_left
  · rw [show decide ((b.length : Int) > 100) = true from decide_eq_true (by omega)]
    conv => whnf
    all_goals first | rfl | exact ⟨rfl, rfl⟩
  rw [show decide ((b.length : Int) > 100) = false from decide_eq_false (by omega)]
  conv => whnf
  by_cases lc : c.length ≤ 100
  rotate_left
  · rw [show decide ((c.length : Int) > 100) = true from decide_eq_true (by omega)]
    conv => whnf
    all_goals first | rfl | exact ⟨rfl, rfl⟩
  rw [show decide ((c.length : Int) > 100) = false from decide_eq_false (by omega)]
  conv => whnf
  refine call_pure (may_c a (by omega) hna) rfl ?_
  rintro _ ⟨qa, hqa, rfl⟩
  cases qa with
  | false =>
    conv => whnf
    all_goals first | rfl | exact ⟨rfl, rfl⟩
  | true =>
  have hma := hqa.1 rfl
  conv => whnf
  refine call_pure (may_c b (by omega) hnb) rfl ?_
  rintro _ ⟨qb, hqb, rfl⟩
  cases qb with
  | false =>
    conv => whnf
    all_goals first | rfl | exact ⟨rfl, rfl⟩
  | true =>
  have hmb := hqb.1 rfl
  conv => whnf
  refine call_pure (may_c c (by omega) hnc) rfl ?_
  rintro _ ⟨qc, hqc, rfl⟩
  cases qc with
  | false =>
    conv => whnf
    all_goals first | rfl | exact ⟨rfl, rfl⟩
  | true =>
  have hmc := hqc.1 rfl
  conv => whnf
  have hl1 := mergeR_len b a
  have hl2 := mergeR_len a b
  refine call_pure (merge_c a b hma hmb (by omega) (by omega)) rfl ?_
  rintro _ rfl
  conv => whnf
  refine call_pure (merge_c b a hmb hma (by omega) (by omega)) rfl ?_
  rintro _ rfl
  conv => whnf
  refine call_pure (same_c _ _ (by omega) (by omega)) rfl ?_
  rintro _ rfl
  rw [show decide (mergeR a b = mergeR b a) = true from decide_eq_true (merge_comm hma hmb)]
  have hmm := merge_may hma hmb
  conv => whnf
  refine call_pure (may_c (mergeR a b) (by omega) (fun x hx => by have := hmm.2 x hx; omega)) rfl ?_
  rintro _ ⟨q, hq, rfl⟩
  obtain rfl : q = true := hq.2 hmm
  conv => whnf
  refine call_pure (covers_c _ a hmm.1 (by omega) (by omega)) rfl ?_
  rintro _ rfl
  rw [(merge_covers hma hmb).1]
  conv => whnf
  refine call_pure (covers_c _ b hmm.1 (by omega) (by omega)) rfl ?_
  rintro _ rfl
  rw [(merge_covers hma hmb).2]
  conv => whnf
  refine call_pure (covers_c c a hmc.1 (by omega) (by omega)) rfl ?_
  rintro _ rfl
  cases h1 : coversR c a with
  | false =>
    conv => whnf
    all_goals first | rfl | exact ⟨rfl, rfl⟩
  | true =>
  conv => whnf
  refine call_pure (covers_c c b hmc.1 (by omega) (by omega)) rfl ?_
  rintro _ rfl
  cases h2 : coversR c b with
  | false =>
    conv => whnf
    all_goals first | rfl | exact ⟨rfl, rfl⟩
  | true =>
  conv => whnf
  refine call_pure (covers_c c _ hmc.1 (by omega) (by omega)) rfl ?_
  rintro _ rfl
  rw [merge_least hma hmb hmc h1 h2]
  conv => whnf
  all_goals first | rfl | exact ⟨rfl, rfl⟩
theorem vectorMerge_law : ∀ avs, RdArgs tt 1048576 30 [22, 22, 22] avs → CallV Try.prog 3 avs [] (fun r own' => own' = [] ∧ r = vcb true) := by
  rintro avs ⟨a0, r0, h0, ⟨a1, r1, h1, ⟨a2, r2, h2, rfl, rfl⟩, rfl⟩, rfl⟩
  obtain ⟨a, hna, hla, hda⟩ := rd_clks (T := tt) h0
  obtain ⟨b, hnb, hlb, hdb⟩ := rd_clks (T := tt) h1
  obtain ⟨c, hnc, hlc, hdc⟩ := rd_clks (T := tt) h2
  refine callV_args (argsLe_cons hda (argsLe_cons hdb (argsLe_cons hdc (argsLe_refl _)))) ?_
  exact vmerge_c a b c (by omega) (by omega) (by omega) hna hnb hnc
end Go.Eng
