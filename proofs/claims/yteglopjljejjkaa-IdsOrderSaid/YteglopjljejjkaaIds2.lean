/- A part of the proof: what the functions of the program come to, told by a small reckoner of states. -/
import Derived.Test.YteglopjljejjkaaIds1
set_option linter.unusedVariables false
set_option linter.unusedSimpArgs false
namespace Go.Eng
open Go Go.RowKit Go.Proofs
theorem cmpq_three (c k d j : Int) : (cmpq c k d j = -1 ∧ (c < d ∨ (c = d ∧ k < j))) ∨ (cmpq c k d j = 0 ∧ c = d ∧ k = j) ∨ (cmpq c k d j = 1 ∧ (d < c ∨ (c = d ∧ j < k))) := by
  unfold cmpq cmpI
  repeat (first | split | omega)
theorem cmpq_neg (c k d j : Int) : (cmpq c k d j != IntKind.i64.wrap (0 - cmpq d j c k)) = false := by
  have h1 := cmpq_three c k d j
  have h2 := cmpq_three d j c k
  have e : IntKind.i64.wrap (0 - cmpq d j c k) = 0 - cmpq d j c k := w_i64 (by omega) (by omega)
  rw [e]
  simp only [bne_eq_false_iff_eq]
  omega
theorem cmpq_zero (c k d j : Int) : (!((cmpq c k d j == 0) == ((c == d) && ((k == j) && true)))) = false := by
  have h1 := cmpq_three c k d j
  have : (cmpq c k d j == 0) = ((c == d) && ((k == j) && true)) := by
    rw [Bool.eq_iff_iff]
    simp only [Bool.and_eq_true, beq_iff_eq, Bool.and_true]
    omega
  rw [this]
  simp
theorem cmpq_trans {c k d j e l : Int} (h1 : cmpq c k d j < 0) (h2 : cmpq d j e l < 0) : decide (0 ≤ cmpq c k e l) = false := by
  have g1 := cmpq_three c k d j
  have g2 := cmpq_three d j e l
  have g3 := cmpq_three c k e l
  simp only [decide_eq_false_iff_not]
  omega
theorem two_w {c k m n u : Int} (hk : 0 ≤ k ∧ k ≤ 4294967295) (hm : 0 ≤ m ∧ m ≤ 65535) (hn : 0 ≤ n ∧ n ≤ 65535) (hu : 0 ≤ u ∧ u ≤ 4294967295) :
    (bad1 c (IntKind.i64.wrap m) → bad1 c (IntKind.i64.wrap (IntKind.i64.wrap m + IntKind.i64.wrap n))) ∧ (bad4 k (IntKind.i64.wrap m) u → bad4 k (IntKind.i64.wrap (IntKind.i64.wrap m + IntKind.i64.wrap n)) u) ∧
    (¬ bad1 c (IntKind.i64.wrap m) → ¬ bad1 c (IntKind.i64.wrap (IntKind.i64.wrap m + IntKind.i64.wrap n)) ∧ ¬ bad1 c (IntKind.i64.wrap n)) ∧
    (¬ bad4 k (IntKind.i64.wrap m) u → ((bad4 k (IntKind.i64.wrap (IntKind.i64.wrap m + IntKind.i64.wrap n)) u ↔ bad4 (IntKind.u32.wrap (k + IntKind.u32.wrap (IntKind.i64.wrap m))) (IntKind.i64.wrap n) u) ∧
      (¬ bad4 k (IntKind.i64.wrap (IntKind.i64.wrap m + IntKind.i64.wrap n)) u → IntKind.u32.wrap (IntKind.u32.wrap (k + IntKind.u32.wrap (IntKind.i64.wrap m)) + IntKind.u32.wrap (IntKind.i64.wrap n)) = IntKind.u32.wrap (k + IntKind.u32.wrap (IntKind.i64.wrap (IntKind.i64.wrap m + IntKind.i64.wrap n))) ∧
        (n = 0 ∨ IntKind.u32.wrap (k + IntKind.u32.wrap (IntKind.i64.wrap m)) < IntKind.u32.wrap (IntKind.u32.wrap (k + IntKind.u32.wrap (IntKind.i64.wrap m)) + IntKind.u32.wrap (IntKind.i64.wrap n)))))) := by
  have e1 : IntKind.i64.wrap m = m := w_i64 (by omega) (by omega)
  have e2 : IntKind.i64.wrap n = n := w_i64 (by omega) (by omega)
  have e3 : IntKind.i64.wrap (m + n) = m + n := w_i64 (by omega) (by omega)
  rw [e1, e2, e3]
  unfold bad1 bad4
  simp only [w_u64, w_u32]
  refine ⟨by omega, by omega, by omega, fun h => ⟨by omega, fun h2 => ⟨by omega, by omega⟩⟩⟩
set_option maxRecDepth 100000 in
theorem order_c (c k d j e l m n u : Int) (hk : 0 ≤ k ∧ k ≤ 4294967295) (hm : 0 ≤ m ∧ m ≤ 65535) (hn : 0 ≤ n ∧ n ≤ 65535) (hu : 0 ≤ u ∧ u ≤ 4294967295) : CallV Try.prog 8 [idv c k, idv d j, idv e l, ci .u16 m, ci .u16 n, ci .u32 u] [] (fun r own' => own' = [] ∧ r = cb true) := by
  obtain ⟨t1, t2, t3, t4⟩ := two_w (c := c) hk hm hn hu
  refine callV_pure Try.func8 rfl ttok ftok rfl rfl rfl (Nat.le_of_ble_eq_true rfl) ?_
  conv => whnf
  refine call_pure up_c rfl ?_
  rintro r rfl
  conv => whnf
  refine drawV_quiet mixed (by kernel_rfl) ttok ftok ?_
  conv => whnf
  refine callQ (cmp_c _ _ _ _) rfl ?_
  conv => whnf
  refine callQ (cmp_c _ _ _ _) rfl ?_
  conv => whnf
  rw [cmpq_neg c k d j]
  conv => whnf
  refine callQ (cmp_c _ _ _ _) rfl ?_
  conv => whnf
  rw [cmpq_zero c k d j]
  conv => whnf
  refine callQ (cmp_c _ _ _ _) rfl ?_
  conv => whnf
  cases h4 : decide (cmpq c k d j < 0)
  · skip
    conv => whnf
    refine after_w (fun h1 => ?_) (fun h1 h2 => ?_) (fun h1 h2 => ?_)
    · conv => whnf
      refine after_w (fun _ => ?_) (fun h => absurd (t1 h1) h) (fun h => absurd (t1 h1) h)
      conv => whnf
      rfl
    · conv => whnf
      refine after_w (fun h => absurd h (t3 h1).1) (fun _ _ => ?_) (fun _ h => absurd (t2 h2) h)
      conv => whnf
      rfl
    · obtain ⟨t5, t6⟩ := t4 h2
      obtain ⟨t7, t8⟩ := t3 h1
      conv => whnf
      refine after_w (fun h => absurd h t7) (fun _ h3 => ?_) (fun _ h3 => ?_)
      · conv => whnf
        refine after_w (fun h => absurd h t8) (fun _ _ => ?_) (fun _ h => absurd (t5.1 h3) h)
        conv => whnf
        refine drawV_quiet mixed (by kernel_rfl) ttok ftok ?_
        conv => whnf
      · obtain ⟨t9, t10⟩ := t6 h3
        conv => whnf
        refine after_w (fun h => absurd h t8) (fun _ h => absurd (t5.2 h) h3) (fun _ _ => ?_)
        conv => whnf
        refine drawV_quiet mixed (by kernel_rfl) ttok ftok ?_
        conv => whnf
        rw [show ((c == c) && ((IntKind.u32.wrap (IntKind.u32.wrap (k + IntKind.u32.wrap (IntKind.i64.wrap m)) + IntKind.u32.wrap (IntKind.i64.wrap n)) == IntKind.u32.wrap (k + IntKind.u32.wrap (IntKind.i64.wrap (IntKind.i64.wrap m + IntKind.i64.wrap n)))) && true)) = true from by rw [t9]; simp]
        conv => whnf
        cases h6 : (n == 0)
        · conv => whnf
          refine callQ (cmp_c _ _ _ _) rfl ?_
          conv => whnf
          have h6 : n ≠ 0 := by simpa using h6
          have h7 := cmpq_three c (IntKind.u32.wrap (k + IntKind.u32.wrap (IntKind.i64.wrap m))) c (IntKind.u32.wrap (IntKind.u32.wrap (k + IntKind.u32.wrap (IntKind.i64.wrap m)) + IntKind.u32.wrap (IntKind.i64.wrap n)))
          have h8 : decide (cmpq c (IntKind.u32.wrap (k + IntKind.u32.wrap (IntKind.i64.wrap m))) c (IntKind.u32.wrap (IntKind.u32.wrap (k + IntKind.u32.wrap (IntKind.i64.wrap m)) + IntKind.u32.wrap (IntKind.i64.wrap n))) < 0) = true := by
            simp only [decide_eq_true_eq]
            omega
          rw [h8]
        · conv => whnf
  · have h4 := of_decide_eq_true h4
    conv => whnf
    refine callQ (cmp_c _ _ _ _) rfl ?_
    conv => whnf
    cases h5 : decide (cmpq d j e l < 0)
    · skip
      conv => whnf
      refine after_w (fun h1 => ?_) (fun h1 h2 => ?_) (fun h1 h2 => ?_)
      · conv => whnf
        refine after_w (fun _ => ?_) (fun h => absurd (t1 h1) h) (fun h => absurd (t1 h1) h)
        conv => whnf
        rfl
      · conv => whnf
        refine after_w (fun h => absurd h (t3 h1).1) (fun _ _ => ?_) (fun _ h => absurd (t2 h2) h)
        conv => whnf
        rfl
      · obtain ⟨t5, t6⟩ := t4 h2
        obtain ⟨t7, t8⟩ := t3 h1
        conv => whnf
        refine after_w (fun h => absurd h t7) (fun _ h3 => ?_) (fun _ h3 => ?_)
        · conv => whnf
          refine after_w (fun h => absurd h t8) (fun _ _ => ?_) (fun _ h => absurd (t5.1 h3) h)
          conv => whnf
          refine drawV_quiet mixed (by kernel_rfl) ttok ftok ?_
          conv => whnf
        · obtain ⟨t9, t10⟩ := t6 h3
          conv => whnf
          refine after_w (fun h => absurd h t8) (fun _ h => absurd (t5.2 h) h3) (fun _ _ => ?_)
          conv => whnf
          refine drawV_quiet mixed (by kernel_rfl) ttok ftok ?_
          conv => whnf
          rw [show ((c == c) && ((IntKind.u32.wrap (IntKind.u32.wrap (k + IntKind.u32.wrap (IntKind.i64.wrap m)) + IntKind.u32.wrap (IntKind.i64.wrap n)) == IntKind.u32.wrap (k + IntKind.u32.wrap (IntKind.i64.wrap (IntKind.i64.wrap m + IntKind.i64.wrap n)))) && true)) = true from by rw [t9]; simp]
          conv => whnf
          cases h6 : (n == 0)
          · conv => whnf
            refine callQ (cmp_c _ _ _ _) rfl ?_
            conv => whnf
            have h6 : n ≠ 0 := by simpa using h6
            have h7 := cmpq_three c (IntKind.u32.wrap (k + IntKind.u32.wrap (IntKind.i64.wrap m))) c (IntKind.u32.wrap (IntKind.u32.wrap (k + IntKind.u32.wrap (IntKind.i64.wrap m)) + IntKind.u32.wrap (IntKind.i64.wrap n)))
            have h8 : decide (cmpq c (IntKind.u32.wrap (k + IntKind.u32.wrap (IntKind.i64.wrap m))) c (IntKind.u32.wrap (IntKind.u32.wrap (k + IntKind.u32.wrap (IntKind.i64.wrap m)) + IntKind.u32.wrap (IntKind.i64.wrap n))) < 0) = true := by
              simp only [decide_eq_true_eq]
              omega
            rw [h8]
          · conv => whnf
    · have h5 := of_decide_eq_true h5
      conv => whnf
      refine callQ (cmp_c _ _ _ _) rfl ?_
      conv => whnf
      rw [cmpq_trans h4 h5]
      conv => whnf
      refine after_w (fun h1 => ?_) (fun h1 h2 => ?_) (fun h1 h2 => ?_)
      · conv => whnf
        refine after_w (fun _ => ?_) (fun h => absurd (t1 h1) h) (fun h => absurd (t1 h1) h)
        conv => whnf
        rfl
      · conv => whnf
        refine after_w (fun h => absurd h (t3 h1).1) (fun _ _ => ?_) (fun _ h => absurd (t2 h2) h)
        conv => whnf
        rfl
      · obtain ⟨t5, t6⟩ := t4 h2
        obtain ⟨t7, t8⟩ := t3 h1
        conv => whnf
        refine after_w (fun h => absurd h t7) (fun _ h3 => ?_) (fun _ h3 => ?_)
        · conv => whnf
          refine after_w (fun h => absurd h t8) (fun _ _ => ?_) (fun _ h => absurd (t5.1 h3) h)
          conv => whnf
          refine drawV_quiet mixed (by kernel_rfl) ttok ftok ?_
          conv => whnf
        · obtain ⟨t9, t10⟩ := t6 h3
          conv => whnf
          refine after_w (fun h => absurd h t8) (fun _ h => absurd (t5.2 h) h3) (fun _ _ => ?_)
          conv => whnf
          refine drawV_quiet mixed (by kernel_rfl) ttok ftok ?_
          conv => whnf
          rw [show ((c == c) && ((IntKind.u32.wrap (IntKind.u32.wrap (k + IntKind.u32.wrap (IntKind.i64.wrap m)) + IntKind.u32.wrap (IntKind.i64.wrap n)) == IntKind.u32.wrap (k + IntKind.u32.wrap (IntKind.i64.wrap (IntKind.i64.wrap m + IntKind.i64.wrap n)))) && true)) = true from by rw [t9]; simp]
          conv => whnf
          cases h6 : (n == 0)
          · conv => whnf
            refine callQ (cmp_c _ _ _ _) rfl ?_
            conv => whnf
            have h6 : n ≠ 0 := by simpa using h6
            have h7 := cmpq_three c (IntKind.u32.wrap (k + IntKind.u32.wrap (IntKind.i64.wrap m))) c (IntKind.u32.wrap (IntKind.u32.wrap (k + IntKind.u32.wrap (IntKind.i64.wrap m)) + IntKind.u32.wrap (IntKind.i64.wrap n)))
            have h8 : decide (cmpq c (IntKind.u32.wrap (k + IntKind.u32.wrap (IntKind.i64.wrap m))) c (IntKind.u32.wrap (IntKind.u32.wrap (k + IntKind.u32.wrap (IntKind.i64.wrap m)) + IntKind.u32.wrap (IntKind.i64.wrap n))) < 0) = true := by
              simp only [decide_eq_true_eq]
              omega
            rw [h8]
          · conv => whnf
end Go.Eng
