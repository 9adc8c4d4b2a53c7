/- A part of the proof: what the functions of the program come to, told by a small reckoner of states. -/
import Derived.Test.YteglopjljejjkaaFt
import Derived.Test.YteglopjljejjkaaLib


set_option linter.unusedVariables false
set_option linter.unusedSimpArgs false
namespace Go.Eng
open Go Go.RowKit Go.Proofs
abbrev cu (n : Int) : Cell := .v (.int .u32 n)
abbrev ci (k : IntKind) (n : Int) : AV := .c (.v (.int k n))
abbrev cb (b : Bool) : AV := .c (.v (.bool b))
abbrev idv (c k : Int) : AV := .agg [cu c, cu k]
abbrev errv (n : Int) : Cell := .v (.iface 76 (.int .i64 n))
abbrev nilv : Cell := .v .nilIface
theorem none_c (c k : Int) : CallV Try.prog 31 [idv c k] [] (fun r own' => own' = [] ∧ r = cb (c == 0)) := by
  refine callV_pure Try.func31 rfl ttok ftok rfl rfl rfl (Nat.le_of_ble_eq_true rfl) ?_
  conv => whnf
theorem isNaN_c (c : Int) : CallV Try.prog 53 [ci .u32 c] [] (fun r own' => own' = [] ∧ r = cb false) := by
  refine callV_pure Try.func53 rfl ttok ftok rfl rfl rfl (Nat.le_of_ble_eq_true rfl) ?_
  conv => whnf
  simp
def cmpI (a b : Int) : Int := if a < b then -1 else if b < a then 1 else 0
set_option maxRecDepth 100000 in
theorem compare_c (c d : Int) : CallV Try.prog 45 [ci .u32 c, ci .u32 d] [] (fun r own' => own' = [] ∧ r = ci .i64 (cmpI c d)) := by
  refine callV_pure Try.func45 rfl ttok ftok rfl rfl rfl (Nat.le_of_ble_eq_true rfl) ?_
  conv => whnf
  refine call_pure (isNaN_c _) rfl ?_
  rintro r rfl
  conv => whnf
  refine call_pure (isNaN_c _) rfl ?_
  rintro r rfl
  conv => whnf
  cases h : decide (c < d)
  · conv => whnf
    have h := of_decide_eq_false h
    cases h2 : decide (d < c)
    · conv => whnf
      have h2 := of_decide_eq_false h2
      simp [cmpI, h, h2]
    · conv => whnf
      have h2 := of_decide_eq_true h2
      simp [cmpI, h, h2]
  · conv => whnf
    have h := of_decide_eq_true h
    simp [cmpI, h]

abbrev bad1 (c n : Int) : Prop := c = 0 ∨ n < 0
abbrev bad4 (k n u : Int) : Prop := u < k ∨ IntKind.u64.wrap (IntKind.u32.wrap (u - k)) < IntKind.u64.wrap n
set_option maxRecDepth 100000 in
theorem after_c (c k n u : Int) : CallV Try.prog 27 [idv c k, ci .i64 n, ci .u32 u] [] (fun r own' => own' = [] ∧ ((bad1 c n ∧ r = .tup [idv 0 0, .c (errv 1)]) ∨ (¬ bad1 c n ∧ bad4 k n u ∧ r = .tup [idv 0 0, .c (errv 4)]) ∨ (¬ bad1 c n ∧ ¬ bad4 k n u ∧ r = .tup [idv c (IntKind.u32.wrap (k + IntKind.u32.wrap n)), .c nilv]))) := by
  refine callV_pure Try.func27 rfl ttok ftok rfl rfl rfl (Nat.le_of_ble_eq_true rfl) ?_
  conv => whnf
  refine call_pure (none_c _ _) rfl ?_
  rintro r rfl
  conv => whnf
  cases h1 : (c == 0)
  · conv => whnf
    cases h2 : decide (n < 0)
    · conv => whnf
      cases h3 : decide (u < k)
      · conv => whnf
        cases h4 : decide (IntKind.u64.wrap (IntKind.u32.wrap (u - k)) < IntKind.u64.wrap n)
        · conv => whnf
          simp only [decide_eq_false_iff_not, beq_eq_false_iff_ne] at h1 h2 h3 h4
          exact .inr (.inr ⟨by omega, by omega, rfl⟩)
        · conv => whnf
          simp only [decide_eq_false_iff_not, decide_eq_true_eq, beq_eq_false_iff_ne] at h1 h2 h3 h4
          exact .inr (.inl ⟨by omega, .inr h4, rfl⟩)
      · conv => whnf
        simp only [decide_eq_false_iff_not, decide_eq_true_eq, beq_eq_false_iff_ne] at h1 h2 h3
        exact .inr (.inl ⟨by omega, .inl h3, rfl⟩)
    · conv => whnf
      exact .inl ⟨.inr (of_decide_eq_true h2), rfl⟩
  · conv => whnf
    exact .inl ⟨.inl (eq_of_beq h1), rfl⟩
set_option maxRecDepth 100000 in
theorem or_c (s : Value) (g : Nat → Int) : CallV Try.prog 44 [.c (.sl s 1 2 fun k => [.v (.int .i64 (g k))])] [] (fun r own' => own' = [] ∧ r = ci .i64 (if g 0 = 0 then g 1 else g 0)) := by
  refine callV_pure Try.func44 rfl ttok ftok rfl rfl rfl (Nat.le_of_ble_eq_true rfl) ?_
  conv => whnf
  refine loop_rounds 3 ttok ftok ?_
  conv => whnf
  refine ⟨by decide, by decide, ?_⟩
  conv => whnf
  cases h : (g (Int.toNat 0) != 0)
  · conv => whnf
    refine ⟨by decide, by decide, ?_⟩
    conv => whnf
    have h : g 0 = 0 := by simpa using h
    cases h2 : (g (Int.toNat (IntKind.i64.wrap (0 + 1))) != 0)
    · conv => whnf
      rw [if_pos h]
      have h2 : g 1 = 0 := by
        have e : (IntKind.i64.wrap (0 + 1)).toNat = 1 := rfl
        rw [e] at h2
        simpa using h2
      rw [h2]
    · conv => whnf
      rw [if_pos h]
      rfl
  · conv => whnf
    have h : g 0 ≠ 0 := by simpa using h
    rw [if_neg h]
    rfl
def cmpq (c k d j : Int) : Int := if cmpI c d = 0 then cmpI k j else cmpI c d
set_option maxRecDepth 100000 in
theorem cmp_c (c k d j : Int) : CallV Try.prog 29 [idv c k, idv d j] [] (fun r own' => own' = [] ∧ r = ci .i64 (cmpq c k d j)) := by
  refine callV_pure Try.func29 rfl ttok ftok rfl rfl rfl (Nat.le_of_ble_eq_true rfl) ?_
  conv => whnf
  refine drawV_mix 10 mixed (by kernel_rfl) ttok ftok ?_
  conv => whnf
  refine callQ (compare_c _ _) rfl ?_
  conv => whnf
  refine callQ (compare_c _ _) rfl ?_
  conv => whnf
  intro s
  refine ⟨2, fun i => [.v (.int .i64 (if i = 0 then cmpI c d else cmpI k j))], rfl, ?_, ?_⟩
  · intro i hi
    match i, hi with
    | 0, _ => rfl
    | 1, _ => rfl
  conv => whnf
  refine call_pure (or_c s _) rfl ?_
  rintro r rfl
  conv => whnf
  simp [cmpq]
set_option maxRecDepth 100000 in
theorem before_c (c k d j : Int) : CallV Try.prog 46 [idv c k, idv d j] [] (fun r own' => own' = [] ∧ r = cb (decide (c < d) || ((c == d) && decide (k < j)))) := by
  refine callV_pure Try.func46 rfl ttok ftok rfl rfl rfl (Nat.le_of_ble_eq_true rfl) ?_
  conv => whnf
  cases h1 : decide (c < d)
  · conv => whnf
    cases h2 : (c == d)
    · conv => whnf
      simp
    · conv => whnf
      simp
  · conv => whnf
    simp
set_option maxRecDepth 100000 in
theorem rcmp_c (c k d j : Int) : CallV Try.prog 30 [idv c k, idv d j] [] (fun r own' => own' = [] ∧ r = ci .i64 (cmpq c k d j)) := by
  refine callV_pure Try.func30 rfl ttok ftok rfl rfl rfl (Nat.le_of_ble_eq_true rfl) ?_
  conv => whnf
  refine call_pure (before_c _ _ _ _) rfl ?_
  rintro r rfl
  conv => whnf
  refine call_pure (before_c _ _ _ _) rfl ?_
  rintro r rfl
  conv => whnf
  cases h1 : (decide (c < d) || ((c == d) && decide (k < j)))
  · conv => whnf
    cases h2 : (decide (d < c) || ((d == c) && decide (j < k)))
    · conv => whnf
      simp only [Bool.or_eq_false_iff, Bool.and_eq_false_iff, decide_eq_false_iff_not, beq_eq_false_iff_ne] at h1 h2
      have : cmpq c k d j = 0 := by unfold cmpq cmpI; repeat (first | split | omega)
      rw [this]
    · conv => whnf
      simp only [Bool.or_eq_false_iff, Bool.and_eq_false_iff, decide_eq_false_iff_not, beq_eq_false_iff_ne, Bool.or_eq_true, Bool.and_eq_true, decide_eq_true_eq, beq_iff_eq] at h1 h2
      have : cmpq c k d j = 1 := by unfold cmpq cmpI; repeat (first | split | omega)
      rw [this]
  · conv => whnf
    simp only [Bool.or_eq_true, Bool.and_eq_true, decide_eq_true_eq, beq_iff_eq] at h1
    have : cmpq c k d j = -1 := by unfold cmpq cmpI; repeat (first | split | omega)
    rw [this]
abbrev rbad4 (k n u : Int) : Prop := u < k ∨ 4294967295 < n ∨ IntKind.i64.wrap (IntKind.i64.wrap u - IntKind.i64.wrap k) < n
set_option maxRecDepth 100000 in
theorem rafter_c (c k n u : Int) : CallV Try.prog 28 [idv c k, ci .i64 n, ci .u32 u] [] (fun r own' => own' = [] ∧ ((bad1 c n ∧ r = .tup [idv 0 0, ci .i64 1]) ∨ (¬ bad1 c n ∧ rbad4 k n u ∧ r = .tup [idv 0 0, ci .i64 4]) ∨ (¬ bad1 c n ∧ ¬ rbad4 k n u ∧ r = .tup [idv c (IntKind.u32.wrap (k + IntKind.u32.wrap n)), ci .i64 0]))) := by
  refine callV_pure Try.func28 rfl ttok ftok rfl rfl rfl (Nat.le_of_ble_eq_true rfl) ?_
  conv => whnf
  cases h1 : (c == 0)
  · conv => whnf
    cases h2 : decide (n < 0)
    · conv => whnf
      cases h3 : decide (u < k)
      · conv => whnf
        cases h4 : decide (4294967295 < n)
        · conv => whnf
          cases h5 : decide (IntKind.i64.wrap (IntKind.i64.wrap u - IntKind.i64.wrap k) < n)
          · conv => whnf
            simp only [decide_eq_false_iff_not, beq_eq_false_iff_ne] at h1 h2 h3 h4 h5
            exact .inr (.inr ⟨by omega, by omega, rfl⟩)
          · conv => whnf
            simp only [decide_eq_false_iff_not, decide_eq_true_eq, beq_eq_false_iff_ne] at h1 h2 h3 h4 h5
            exact .inr (.inl ⟨by omega, .inr (.inr h5), rfl⟩)
        · conv => whnf
          simp only [decide_eq_false_iff_not, decide_eq_true_eq, beq_eq_false_iff_ne] at h1 h2 h3 h4
          exact .inr (.inl ⟨by omega, .inr (.inl h4), rfl⟩)
      · conv => whnf
        simp only [decide_eq_false_iff_not, decide_eq_true_eq, beq_eq_false_iff_ne] at h1 h2 h3
        exact .inr (.inl ⟨by omega, .inl h3, rfl⟩)
    · conv => whnf
      exact .inl ⟨.inr (of_decide_eq_true h2), rfl⟩
  · conv => whnf
    exact .inl ⟨.inl (eq_of_beq h1), rfl⟩
theorem code_nil : CallV Try.prog 16 [.c nilv] [] (fun r own' => own' = [] ∧ r = ci .i64 0) := by
  refine callV_pure Try.func16 rfl ttok ftok rfl rfl rfl (Nat.le_of_ble_eq_true rfl) ?_
  conv => whnf
set_option maxRecDepth 100000 in
theorem code_1 : CallV Try.prog 16 [.c (errv 1)] [] (fun r own' => own' = [] ∧ r = ci .i64 1) := by
  refine callV_pure Try.func16 rfl ttok ftok rfl rfl rfl (Nat.le_of_ble_eq_true rfl) ?_
  conv => whnf
  refine loop_rounds 7 ttok ftok ?_
  conv => whnf
set_option maxRecDepth 100000 in
theorem code_4 : CallV Try.prog 16 [.c (errv 4)] [] (fun r own' => own' = [] ∧ r = ci .i64 4) := by
  refine callV_pure Try.func16 rfl ttok ftok rfl rfl rfl (Nat.le_of_ble_eq_true rfl) ?_
  conv => whnf
  refine loop_rounds 7 ttok ftok ?_
  conv => whnf
  rfl
theorem after_w {c k n u : Int} {K : AV → List (Option Ob) → Prop} {own : List (Option Ob)} (h1 : bad1 c n → K (.tup [idv 0 0, .c (errv 1)]) own) (h2 : ¬ bad1 c n → bad4 k n u → K (.tup [idv 0 0, .c (errv 4)]) own) (h3 : ¬ bad1 c n → ¬ bad4 k n u → K (.tup [idv c (IntKind.u32.wrap (k + IntKind.u32.wrap n)), .c nilv]) own) : CallV Try.prog 27 [idv c k, ci .i64 n, ci .u32 u] own K := by
  refine call_pure (after_c c k n u) rfl ?_
  rintro r (⟨h, rfl⟩ | ⟨h, h', rfl⟩ | ⟨h, h', rfl⟩)
  · exact h1 h
  · exact h2 h h'
  · exact h3 h h'
set_option maxRecDepth 100000 in
theorem up_c : CallV Try.prog 26 [] [] (fun r own' => own' = [] ∧ r = cb true) := by
  refine callV_pure Try.func26 rfl ttok ftok rfl rfl rfl (Nat.le_of_ble_eq_true rfl) ?_
  conv => whnf
  refine after_w (fun h => absurd h (by decide)) (fun _ h => absurd h (by decide)) (fun _ _ => ?_)
  conv => whnf
  refine after_w (fun h => absurd h (by decide)) (fun _ _ => ?_) (fun _ h => absurd (by decide) h)
  conv => whnf
  refine call_pure code_4 rfl ?_
  rintro r rfl
  conv => whnf
  refine call_pure (cmp_c _ _ _ _) rfl ?_
  rintro r rfl
  conv => whnf
  rfl
/-- What both 'After' come to. -/
theorem both_w {c k n u : Int} (hk : 0 ≤ k ∧ k ≤ 4294967295) (hu : 0 ≤ u ∧ u ≤ 4294967295) (hn : -9223372036854775808 ≤ n ∧ n ≤ 9223372036854775807) (h1 : ¬ bad1 c n) : bad4 k n u ↔ rbad4 k n u := by
  unfold bad4 rbad4
  have e1 : IntKind.i64.wrap u = u := w_i64 (by omega) (by omega)
  have e2 : IntKind.i64.wrap k = k := w_i64 (by omega) (by omega)
  have e3 : IntKind.i64.wrap (u - k) = u - k := w_i64 (by omega) (by omega)
  rw [e1, e2, e3, w_u64, w_u64, w_u32]
  omega
set_option maxRecDepth 100000 in
theorem tells_c (c k d j n u : Int) (hk : 0 ≤ k ∧ k ≤ 4294967295) (hu : 0 ≤ u ∧ u ≤ 4294967295) (hn : -9223372036854775808 ≤ n ∧ n ≤ 9223372036854775807) : CallV Try.prog 7 [idv c k, idv d j, ci .i64 n, ci .u32 u] [] (fun r own' => own' = [] ∧ r = cb true) := by
  refine callV_pure Try.func7 rfl ttok ftok rfl rfl rfl (Nat.le_of_ble_eq_true rfl) ?_
  conv => whnf
  refine call_pure up_c rfl ?_
  rintro r rfl
  conv => whnf
  refine after_w (fun h1 => ?_) (fun h1 h2 => ?_) (fun h1 h2 => ?_)
  · conv => whnf
    refine call_pure (rafter_c _ _ _ _) rfl ?_
    rintro r (⟨g1, rfl⟩ | ⟨g1, g2, rfl⟩ | ⟨g1, g2, rfl⟩)
    · skip
      conv => whnf
      refine drawV_quiet mixed (by kernel_rfl) ttok ftok ?_
      conv => whnf
      refine callQ (cmp_c _ _ _ _) rfl ?_
      conv => whnf
      refine callQ (rcmp_c _ _ _ _) rfl ?_
      conv => whnf
      cases h : (cmpq c k d j == cmpq c k d j)
      · simp at h
      conv => whnf
      refine callQ (none_c _ _) rfl ?_
      conv => whnf
      cases h2 : ((c == 0) == (c == 0))
      · simp at h2
      conv => whnf
      refine callQ code_1 rfl ?_
      conv => whnf
      rfl
    · exact absurd h1 g1
    · exact absurd h1 g1
  · have h3 := (both_w hk hu hn h1).1 h2
    conv => whnf
    refine call_pure (rafter_c _ _ _ _) rfl ?_
    rintro r (⟨g1, rfl⟩ | ⟨g1, g2, rfl⟩ | ⟨g1, g2, rfl⟩)
    · exact absurd g1 h1
    · skip
      conv => whnf
      refine drawV_quiet mixed (by kernel_rfl) ttok ftok ?_
      conv => whnf
      refine callQ (cmp_c _ _ _ _) rfl ?_
      conv => whnf
      refine callQ (rcmp_c _ _ _ _) rfl ?_
      conv => whnf
      cases h : (cmpq c k d j == cmpq c k d j)
      · simp at h
      conv => whnf
      refine callQ (none_c _ _) rfl ?_
      conv => whnf
      cases h2 : ((c == 0) == (c == 0))
      · simp at h2
      conv => whnf
      refine callQ code_4 rfl ?_
      conv => whnf
      rfl
    · exact absurd h3 g2
  · have h3 := fun h => h2 ((both_w hk hu hn h1).2 h)
    conv => whnf
    refine call_pure (rafter_c _ _ _ _) rfl ?_
    rintro r (⟨g1, rfl⟩ | ⟨g1, g2, rfl⟩ | ⟨g1, g2, rfl⟩)
    · exact absurd g1 h1
    · exact absurd g2 h3
    · skip
      conv => whnf
      refine drawV_quiet mixed (by kernel_rfl) ttok ftok ?_
      conv => whnf
      refine callQ (cmp_c _ _ _ _) rfl ?_
      conv => whnf
      refine callQ (rcmp_c _ _ _ _) rfl ?_
      conv => whnf
      cases h : (cmpq c k d j == cmpq c k d j)
      · simp at h
      conv => whnf
      refine callQ (none_c _ _) rfl ?_
      conv => whnf
      cases h2 : ((c == 0) == (c == 0))
      · simp at h2
      conv => whnf
      cases h3 : ((c == c) && (((IntKind.u32.wrap (k + IntKind.u32.wrap n)) == (IntKind.u32.wrap (k + IntKind.u32.wrap n))) && true))
      · simp at h3
      conv => whnf
      refine callQ code_nil rfl ?_
      conv => whnf
      rfl
end Go.Eng
