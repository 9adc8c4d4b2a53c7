/- The reference's vectors. -/
import Derived.Test.YteglopjljejjkaaBVec
set_option linter.unusedVariables false
set_option linter.unusedSimpArgs false
set_option maxRecDepth 100000
set_option maxHeartbeats 4000000
namespace Go.Eng
open Go Go.RowKit Go.Proofs
theorem i64_succ {k : Nat} (h : k < 9223372036854775807) : IntKind.i64.wrap ((k : Int) + 1) = ((k + 1 : Nat) : Int) := by rw [w_i64 (by omega) (by omega)]; omega
theorem find_first : ∀ {l : CV} {t : Int} {k : Nat}, (∀ j, j < k → (l.getD j (0, 0)).1 ≠ t) → k < l.length → (l.getD k (0, 0)).1 = t → nxt l t = (l.getD k (0, 0)).2
  | [], t, k, _, h, _ => by simp at h
  | x :: r, t, 0, _, _, h => by
    have h : x.1 = t := h
    show (match (x :: r).find? (fun x => x.1 == t) with | some x => x.2 | none => 0) = x.2
    rw [List.find?_cons_of_pos (by rw [h]; exact beq_self_eq_true t)]
  | x :: r, t, k + 1, hj, hk, h => by
    have h0 : x.1 ≠ t := hj 0 (by omega)
    have := find_first (l := r) (t := t) (k := k) (fun j hj2 => by have := hj (j + 1) (by omega); simpa using this) (by simpa using hk) (by simpa using h)
    rw [List.getD_cons_succ, ← this]
    unfold nxt
    rw [List.find?_cons_of_neg (by simpa using h0)]
theorem nxt_none {l : CV} {t : Int} (h : ∀ j, j < l.length → (l.getD j (0, 0)).1 ≠ t) : nxt l t = 0 := by
  unfold nxt
  rw [find_none (fun x hx => by obtain ⟨j, hj, rfl⟩ := mem_getD (d := (0, 0)) hx; exact h j hj)]
def rnI (l : CV) (t : Int) (m : Nat) (st : St) : Prop := ∃ k : Nat, m = l.length - k ∧ k ≤ l.length ∧ (∀ j, j < k → (l.getD j (0, 0)).1 ≠ t) ∧ st = ⟨24, 0, [(0, ckS l), (1, vci .u32 t), (5, vci .i64 (k : Int))], []⟩
theorem rnext_c (l : CV) (hl : l.length ≤ 1000000000) (t : Int) : CallV Try.prog 41 [ckS l, vci .u32 t] [] (fun r own' => own' = [] ∧ r = vci .u32 (nxt l t)) := by
  refine callV_pure Try.func41 rfl ttok ftok rfl rfl rfl (Nat.le_of_ble_eq_true rfl) ?_
  conv => whnf
  refine loopV ttok ftok (rnI l t) (norm_weak [0, 1, 5] [] rfl rfl) ⟨0, rfl, Nat.zero_le _, fun j hj => by omega, rfl⟩ ?_
  rintro m st ⟨k, rfl, hk, hj, rfl⟩
  conv => whnf
  refine onB_intro (fun h => ?_) (fun h => ?_)
  · have h := of_decide_eq_true h
    conv => whnf
    refine ⟨⟨by omega, by omega⟩, ?_⟩
    conv => whnf
    refine onB_intro (fun h2 => ?_) (fun h2 => ?_)
    · have h2 : (l.getD k (0, 0)).1 = t := by simpa only [ti_nat, beq_iff_eq] using h2
      conv => whnf
      refine ⟨⟨by omega, by omega⟩, ?_⟩
      conv => whnf
      rw [find_first hj (by omega) h2]
      all_goals rfl
    · have h2 : (l.getD k (0, 0)).1 ≠ t := by simpa only [ti_nat, beq_eq_false_iff_ne] using h2
      conv => whnf
      refine ⟨l.length - (k + 1), _, by omega, norm_weak [0, 1, 5] [] rfl rfl, k + 1, rfl, by omega, fun j hj2 => ?_, ?_⟩
      · rcases Nat.lt_succ_iff_lt_or_eq.1 hj2 with h3 | rfl
        · exact hj j h3
        · exact h2
      rw [← i64_succ (by omega)]
      all_goals rfl
  · have h := of_decide_eq_false h
    conv => whnf
    rw [nxt_none (fun j hj2 => hj j (by omega))]
def rsI (l : CV) (t n : Int) (m : Nat) (st : St) : Prop := ∃ (k : Nat) (put : Bool) (X : CV), m = l.length - k ∧ k ≤ l.length ∧ X.length ≤ 2 * k ∧ rset t n l (n == 0) = X ++ rset t n (l.drop k) put ∧
  st = ⟨61, 0, [(0, ckS l), (1, vci .u32 t), (2, vci .u32 n), (7, .c (.row 0)), (8, vcb put), (9, vci .i64 (k : Int))], [some (.row 84 2 X.length (ckR X))]⟩
theorem rset_c (l : CV) (hl : l.length ≤ 1000000) (t n : Int) : CallV Try.prog 37 [ckS l, vci .u32 t, vci .u32 n] [] (fun r own' => own' = [] ∧ r = ckS (setR l t n)) := by
  refine callV_pure Try.func37 rfl ttok ftok rfl rfl rfl (Nat.le_of_ble_eq_true rfl) ?_
  conv => whnf
  by_cases h0 : t = 0
  · subst h0
    conv => whnf
    rw [show setR l 0 n = l from by unfold setR; rw [if_pos rfl]]
  rw [show (t == 0) = false from by simpa using h0]
  conv => whnf
  refine loopV ttok ftok (rsI l t n) ((nil_row 7 84 2 (ckR []) rfl).trans (norm_weak [0, 1, 2, 7, 8, 9] [some 0] rfl rfl)) ⟨0, (n == 0), [], rfl, Nat.zero_le _, Nat.zero_le _, rfl, rfl⟩ ?_
  rintro m st ⟨k, put, X, rfl, hk, hX, hj, rfl⟩
  conv => whnf
  refine onB_intro (fun h => ?_) (fun h => ?_)
  · have h := of_decide_eq_true h
    have hkl : k < l.length := by omega
    rw [drop_getD (d := (0, 0)) hkl, rset] at hj
    conv => whnf
    refine ⟨?_, ?_⟩
    · conv => whnf
      intro g1
      conv => whnf
      omega
    conv => whnf
    generalize hx : l.getD k (0, 0) = x at hj
    rw [ti_nat, hx, show pickB (!put) (Operand.tmp 30) (.const (.bool false)) (decide (x.1 ≥ t)) false = (!put && decide (t ≤ x.1)) from rfl]
    by_cases hp : put = false ∧ t ≤ x.1
    · have e1 : (!put && decide (t ≤ x.1)) = true := by rw [hp.1, decide_eq_true hp.2]; rfl
      have e2 : (put || decide (t ≤ x.1)) = true := by rw [hp.1, decide_eq_true hp.2]; rfl
      rw [e1, e2] at hj
      rw [e1]
      conv => whnf
      refine ⟨fun _ => ckF (t, n), fun j hj2 => ?_, ?_⟩
      · obtain rfl : j = 0 := by omega
        rfl
      conv => whnf
      refine ⟨⟨by (try simp only [List.length_append, List.length_singleton]); omega, by show (List.length X + 1) * 8 ≤ _; (try simp only [List.length_append, List.length_singleton]); omega⟩, ?_⟩
      conv => whnf
      refine app1 (enc := ckF) (d := (0, 0)) (l := X) (t, n) (fun k hk => rfl) rfl ?_
      conv => whnf
      refine ⟨⟨by omega, by omega⟩, ?_⟩
      conv => whnf
      rw [ti_nat, hx]
      by_cases hxt : x.1 = t
      · rw [show (x.1 != t) = false from by simpa using hxt]
        rw [if_pos hxt] at hj
        conv => whnf
        · refine ⟨l.length - (k + 1), _, by omega, norm_weak [0, 1, 2, 7, 8, 9] [some 2] rfl rfl, k + 1, true, X ++ [(t, n)], rfl, by omega, by (try simp only [List.length_append, List.length_singleton]); omega, by rw [hj]; simp, ?_⟩
          rw [← i64_succ (by omega)]
          all_goals rfl
      · rw [show (x.1 != t) = true from by simpa using hxt]
        rw [if_neg hxt] at hj
        conv => whnf
        refine ⟨⟨by omega, by omega⟩, ?_⟩
        conv => whnf
        rw [ti_nat, hx]
        refine ⟨fun _ => ckF x, fun j hj2 => ?_, ?_⟩
        · obtain rfl : j = 0 := by omega
          rfl
        conv => whnf
        refine ⟨⟨by (try simp only [List.length_append, List.length_singleton]); omega, by show (List.length (X ++ [(t, n)]) + 1) * 8 ≤ _; (try simp only [List.length_append, List.length_singleton]); omega⟩, ?_⟩
        conv => whnf
        refine app1 (enc := ckF) (d := (0, 0)) (l := (X ++ [(t, n)])) x (fun k hk => rfl) rfl ?_
        conv => whnf
        · refine ⟨l.length - (k + 1), _, by omega, norm_weak [0, 1, 2, 7, 8, 9] [some 4] rfl rfl, k + 1, true, X ++ [(t, n)] ++ [x], rfl, by omega, by (try simp only [List.length_append, List.length_singleton]); omega, by rw [hj]; simp, ?_⟩
          rw [← i64_succ (by omega)]
          all_goals rfl
    · have e1 : (!put && decide (t ≤ x.1)) = false := by
        cases put with
        | true => rfl
        | false => have : ¬ t ≤ x.1 := fun h => hp ⟨rfl, h⟩
                   rw [decide_eq_false this]; rfl
      have e2 : (put || decide (t ≤ x.1)) = put := by
        cases put with
        | true => rfl
        | false => have : ¬ t ≤ x.1 := fun h => hp ⟨rfl, h⟩
                   rw [decide_eq_false this]; rfl
      rw [e1, e2] at hj
      rw [e1]
      conv => whnf
      refine ⟨⟨by omega, by omega⟩, ?_⟩
      conv => whnf
      rw [ti_nat, hx]
      by_cases hxt : x.1 = t
      · rw [show (x.1 != t) = false from by simpa using hxt]
        rw [if_pos hxt] at hj
        conv => whnf
        · refine ⟨l.length - (k + 1), _, by omega, norm_weak [0, 1, 2, 7, 8, 9] [some 0] rfl rfl, k + 1, put, X, rfl, by omega, by (try simp only [List.length_append, List.length_singleton]); omega, by rw [hj]; simp, ?_⟩
          rw [← i64_succ (by omega)]
          all_goals rfl
      · rw [show (x.1 != t) = true from by simpa using hxt]
        rw [if_neg hxt] at hj
        conv => whnf
        refine ⟨⟨by omega, by omega⟩, ?_⟩
        conv => whnf
        rw [ti_nat, hx]
        refine ⟨fun _ => ckF x, fun j hj2 => ?_, ?_⟩
        · obtain rfl : j = 0 := by omega
          rfl
        conv => whnf
        refine ⟨⟨by (try simp only [List.length_append, List.length_singleton]); omega, by show (List.length X + 1) * 8 ≤ _; (try simp only [List.length_append, List.length_singleton]); omega⟩, ?_⟩
        conv => whnf
        refine app1 (enc := ckF) (d := (0, 0)) (l := X) x (fun k hk => rfl) rfl ?_
        conv => whnf
        · refine ⟨l.length - (k + 1), _, by omega, norm_weak [0, 1, 2, 7, 8, 9] [some 2] rfl rfl, k + 1, put, X ++ [x], rfl, by omega, by (try simp only [List.length_append, List.length_singleton]); omega, by rw [hj]; simp, ?_⟩
          rw [← i64_succ (by omega)]
          all_goals rfl
  · have h := of_decide_eq_false h
    obtain rfl : k = l.length := by omega
    rw [List.drop_length, rset] at hj
    conv => whnf
    cases put with
    | true =>
      conv => whnf
      refine ⟨fun k hk => rfl, ?_⟩
      conv => whnf
      unfold setR
      rw [if_neg h0, hj]
      simp
    | false =>
      conv => whnf
      refine ⟨fun _ => ckF (t, n), fun j hj2 => ?_, ?_⟩
      · obtain rfl : j = 0 := by omega
        rfl
      conv => whnf
      refine ⟨⟨by (try simp only [List.length_append, List.length_singleton]); omega, by show (List.length X + 1) * 8 ≤ _; (try simp only [List.length_append, List.length_singleton]); omega⟩, ?_⟩
      conv => whnf
      refine app1 (enc := ckF) (d := (0, 0)) (l := X) (t, n) (fun k hk => rfl) rfl ?_
      conv => whnf
      refine ⟨fun k hk => rfl, ?_⟩
      conv => whnf
      unfold setR
      rw [if_neg h0, hj]
      all_goals rfl
def rgI (a b : CV) (m : Nat) (st : St) : Prop := ∃ k : Nat, m = b.length - k ∧ k ≤ b.length ∧ st = ⟨35, 0, [(1, ckS b), (5, ckS (mergeR a (b.take k))), (6, vci .i64 (k : Int))], []⟩
theorem rmerge_c (a b : CV) (hla : a.length ≤ 1000) (hlb : b.length ≤ 1000) : CallV Try.prog 39 [ckS a, ckS b] [] (fun r own' => own' = [] ∧ r = ckS (mergeR a b)) := by
  refine callV_pure Try.func39 rfl ttok ftok rfl rfl rfl (Nat.le_of_ble_eq_true rfl) ?_
  conv => whnf
  refine loopV ttok ftok (rgI a b) (norm_weak [1, 5, 6] [] rfl rfl) ⟨0, rfl, Nat.zero_le _, rfl⟩ ?_
  rintro m st ⟨k, rfl, hk, rfl⟩
  have hMl := mergeR_len (b.take k) a
  have hbt : (b.take k).length ≤ b.length := by rw [List.length_take]; omega
  generalize hMd : mergeR a (b.take k) = M at hMl
  conv => whnf
  refine onB_intro (fun h => ?_) (fun h => ?_)
  · have h := of_decide_eq_true h
    have hkb : k < b.length := by omega
    have hnext : mergeR a (b.take (k + 1)) = setR M (b.getD k (0, 0)).1 (max (b.getD k (0, 0)).2 (nxt M (b.getD k (0, 0)).1)) := by
      rw [← hMd, ← merge_snoc]
      congr 1
      rw [List.take_add_one, List.getElem?_eq_getElem hkb, List.getD_eq_getElem?_getD, List.getElem?_eq_getElem hkb]
      rfl
    conv => whnf
    refine drawV_loud 19 [0, 1, 2, 3, 4, 5, 6, 7, 8, 9, 10, 11, 12, 13, 14, 15, 16] [17, 18] [] mixed (by kernel_rfl) ttok ftok ?_
    conv => whnf
    refine ⟨⟨by omega, by omega⟩, ?_⟩
    conv => whnf
    refine ⟨⟨by omega, by omega⟩, ?_⟩
    conv => whnf
    refine ⟨⟨by omega, by omega⟩, ?_⟩
    conv => whnf
    rw [ti_nat]
    refine call_pure (rnext_c M (by omega) _) rfl ?_
    rintro _ rfl
    conv => whnf
    refine ⟨rfl, ?_⟩
    conv => whnf
    refine call_pure (rset_c M (by omega) _ _) rfl ?_
    rintro _ rfl
    conv => whnf
    refine ⟨b.length - (k + 1), _, by omega, norm_weak [1, 5, 6] [] rfl rfl, k + 1, rfl, by omega, ?_⟩
    rw [← i64_succ (by omega), hnext, show max (b.getD k (0, 0)).2 (nxt M (b.getD k (0, 0)).1) = maxI (b.getD k (0, 0)).2 (nxt M (b.getD k (0, 0)).1) from by unfold maxI; split <;> omega]
    all_goals rfl
  · have h := of_decide_eq_false h
    conv => whnf
    rw [← hMd, List.take_of_length_le (by omega)]
def rcI (a b : CV) (m : Nat) (st : St) : Prop := ∃ k : Nat, m = b.length - k ∧ k ≤ b.length ∧ (∀ j, j < k → ¬ nxt a (b.getD j (0, 0)).1 < (b.getD j (0, 0)).2) ∧ st = ⟨25, 0, [(0, ckS a), (1, ckS b), (5, vci .i64 (k : Int))], []⟩
theorem rcov_c (a b : CV) (hla : a.length ≤ 1000000000) (hlb : b.length ≤ 1000000000) : CallV Try.prog 43 [ckS a, ckS b] [] (fun r own' => own' = [] ∧ r = vcb (coversR a b)) := by
  refine callV_pure Try.func43 rfl ttok ftok rfl rfl rfl (Nat.le_of_ble_eq_true rfl) ?_
  conv => whnf
  refine loopV ttok ftok (rcI a b) (norm_weak [0, 1, 5] [] rfl rfl) ⟨0, rfl, Nat.zero_le _, fun j hj => by omega, rfl⟩ ?_
  rintro m st ⟨k, rfl, hk, hj, rfl⟩
  conv => whnf
  refine onB_intro (fun h => ?_) (fun h => ?_)
  · have h := of_decide_eq_true h
    have hkb : k < b.length := by omega
    conv => whnf
    refine drawV_quiet mixed (by kernel_rfl) ttok ftok ?_
    conv => whnf
    refine ⟨⟨by omega, by omega⟩, ?_⟩
    conv => whnf
    refine callQ (rnext_c a hla _) rfl rfl ?_
    conv => whnf
    refine ⟨⟨by omega, by omega⟩, ?_⟩
    conv => whnf
    refine onB_intro (fun h2 => ?_) (fun h2 => ?_)
    · have h2 := of_decide_eq_true h2
      conv => whnf
      rw [show coversR a b = false from ?_]
      unfold coversR
      rw [Bool.eq_false_iff]
      intro e
      have := List.all_eq_true.1 e _ (getD_mem (d := (0, 0)) hkb)
      rw [ti_nat] at h2
      simp [h2, -List.getD_eq_getElem?_getD] at this
    · have h2 := of_decide_eq_false h2
      conv => whnf
      refine ⟨b.length - (k + 1), _, by omega, norm_weak [0, 1, 5] [] rfl rfl, k + 1, rfl, by omega, fun j hj2 => ?_, ?_⟩
      · rcases Nat.lt_succ_iff_lt_or_eq.1 hj2 with h3 | rfl
        · exact hj j h3
        · exact h2
      rw [← i64_succ (by omega)]
      all_goals rfl
  · have h := of_decide_eq_false h
    conv => whnf
    rw [show coversR a b = true from ?_]
    unfold coversR
    rw [List.all_eq_true]
    intro x hx
    obtain ⟨j, hj2, rfl⟩ := mem_getD (d := (0, 0)) hx
    rw [decide_eq_false (hj j (by omega))]
    rfl
theorem ck_ext {x y : CV} (hl : x.length = y.length) (h : ∀ j, j < x.length → x.getD j (0, 0) = y.getD j (0, 0)) : x = y := by
  refine List.ext_getElem hl (fun i h1 h2 => ?_)
  have := h i h1
  rw [List.getD_eq_getElem?_getD, List.getD_eq_getElem?_getD, List.getElem?_eq_getElem h1, List.getElem?_eq_getElem h2] at this
  exact this
def smI (x y : CV) (m : Nat) (st : St) : Prop := ∃ k : Nat, m = x.length - k ∧ k ≤ x.length ∧ (∀ j, j < k → x.getD j (0, 0) = y.getD j (0, 0)) ∧ st = ⟨26, 0, [(0, ckS x), (1, ckS y), (5, vci .i64 (k : Int))], []⟩
theorem same_c (x y : CV) (hx : x.length ≤ 1000000000) (hy : y.length ≤ 1000000000) : CallV Try.prog 35 [ckS x, ckS y] [] (fun r own' => own' = [] ∧ r = vcb (decide (x = y))) := by
  refine callV_pure Try.func35 rfl ttok ftok rfl rfl rfl (Nat.le_of_ble_eq_true rfl) ?_
  conv => whnf
  refine onB_intro (fun h => ?_) (fun h => ?_)
  · conv => whnf
    rw [show decide (x = y) = false from decide_eq_false (fun e => by rw [e] at h; simp at h)]
  · have hlen : x.length = y.length := by
      have h : ((x.length : Int) != y.length) = false := h
      simp at h
      omega
    conv => whnf
    refine loopV ttok ftok (smI x y) (norm_weak [0, 1, 5] [] rfl rfl) ⟨0, rfl, Nat.zero_le _, fun j hj => by omega, rfl⟩ ?_
    rintro m st ⟨k, rfl, hk, hj, rfl⟩
    conv => whnf
    refine onB_intro (fun h => ?_) (fun h => ?_)
    · have h := of_decide_eq_true h
      conv => whnf
      refine drawV_join mixed (by kernel_rfl) ttok ?_
      conv => whnf
      refine ⟨⟨by omega, by omega⟩, ?_⟩
      conv => whnf
      refine ⟨⟨by omega, by omega⟩, ?_⟩
      conv => whnf
      refine onB_intro (fun h2 => ?_) (fun h2 => ?_)
      · have h2 : (!((x.getD k (0, 0)).1 == (y.getD k (0, 0)).1 && ((x.getD k (0, 0)).2 == (y.getD k (0, 0)).2 && true))) = true := h2
        conv => whnf
        rw [show decide (x = y) = false from decide_eq_false (fun e => by rw [e] at h2; simp at h2)]
      · have h2 : (!((x.getD k (0, 0)).1 == (y.getD k (0, 0)).1 && ((x.getD k (0, 0)).2 == (y.getD k (0, 0)).2 && true))) = false := h2
        have h3 : x.getD k (0, 0) = y.getD k (0, 0) := by
          simp only [Bool.not_eq_false', Bool.and_true, Bool.and_eq_true, beq_iff_eq] at h2
          exact Prod.ext h2.1 h2.2
        conv => whnf
        refine ⟨x.length - (k + 1), _, by omega, norm_weak [0, 1, 5] [] rfl rfl, k + 1, rfl, by omega, fun j hj2 => ?_, ?_⟩
        · rcases Nat.lt_succ_iff_lt_or_eq.1 hj2 with h4 | rfl
          · exact hj j h4
          · exact h3
        rw [← i64_succ (by omega)]
        all_goals rfl
    · have h := of_decide_eq_false h
      conv => whnf
      rw [show decide (x = y) = true from decide_eq_true (ck_ext hlen (fun j hj2 => hj j (by omega)))]
def rmI (l : CV) (m : Nat) (st : St) : Prop := ∃ k : Nat, m = l.length - k ∧ k ≤ l.length ∧ (∀ j, j < k → 0 < (l.getD j (0, 0)).1 ∧ 0 < (l.getD j (0, 0)).2 ∧ (0 < j → (l.getD (j - 1) (0, 0)).1 < (l.getD j (0, 0)).1)) ∧
  st = ⟨40, 0, [(0, ckS l), (3, vci .i64 (k : Int))], []⟩
theorem rmay_c (l : CV) (hl : l.length ≤ 1000000000) (hn : ∀ x ∈ l, 0 ≤ x.1 ∧ 0 ≤ x.2) : CallV Try.prog 33 [ckS l] [] (fun r own' => own' = [] ∧ ∃ b : Bool, (b = true ↔ mayV l) ∧ r = vcb b) := by
  refine callV_pure Try.func33 rfl ttok ftok rfl rfl rfl (Nat.le_of_ble_eq_true rfl) ?_
  conv => whnf
  refine loopV ttok ftok (rmI l) (norm_weak [0, 3] [] rfl rfl) ⟨0, rfl, Nat.zero_le _, fun j hj => by omega, rfl⟩ ?_
  rintro m st ⟨k, rfl, hk, hj, rfl⟩
  conv => whnf
  refine onB_intro (fun h => ?_) (fun h => ?_)
  · have h := of_decide_eq_true h
    have hkl : k < l.length := by omega
    have hx := hn _ (getD_mem (d := (0, 0)) hkl)
    conv => whnf
    refine ⟨⟨by omega, by omega⟩, ?_⟩
    conv => whnf
    refine ⟨?_, ?_⟩
    · conv => whnf
      intro g1
      conv => whnf
      omega
    conv => whnf
    refine onB_intro (fun h2 => ?_) (fun h2 => ?_)
    · simp only [pickB, isLit, Bool.or_eq_true, beq_iff_eq, ti_nat] at h2
      conv => whnf
      refine ⟨false, ⟨fun e => (by cases e), fun hm => ?_⟩, rfl⟩
      have h3 := may_at hm hkl
      omega
    · simp only [pickB, isLit, Bool.or_eq_false_iff, beq_eq_false_iff_ne, ti_nat] at h2
      conv => whnf
      refine drawV_join mixed (by kernel_rfl) ttok ?_
      conv => whnf
      refine ⟨?_, ?_⟩
      · conv => whnf
        intro g1
        conv => whnf
        omega
      conv => whnf
      refine ⟨?_, ?_⟩
      · conv => whnf
        intro g1
        have g1 := of_decide_eq_true g1
        conv => whnf
        rw [w_i64 (by omega) (by omega)]
        omega
      conv => whnf
      refine onB_intro (fun h3 => ?_) (fun h3 => ?_)
      · simp only [pickB, isLit, Bool.and_eq_true, decide_eq_true_eq, ti_nat] at h3
        conv => whnf
        refine ⟨false, ⟨fun e => (by cases e), fun hm => ?_⟩, rfl⟩
        have h4 := may_at hm hkl
        rw [show (IntKind.i64.wrap ((k : Int) - 1)).toNat = k - 1 from by rw [w_i64 (by omega) (by omega)]; omega] at h3
        have := h4.2.2 (by omega)
        omega
      · simp only [pickB, isLit, Bool.and_eq_false_iff, decide_eq_false_iff_not, ti_nat] at h3
        conv => whnf
        refine ⟨l.length - (k + 1), _, by omega, norm_weak [0, 3] [] rfl rfl, k + 1, rfl, by omega, fun j hj2 => ?_, ?_⟩
        · rcases Nat.lt_succ_iff_lt_or_eq.1 hj2 with h4 | rfl
          · exact hj j h4
          · refine ⟨by omega, by omega, fun h0 => ?_⟩
            rcases h3 with h4 | h4
            · omega
            · rw [show (IntKind.i64.wrap ((j : Int) - 1)).toNat = j - 1 from by rw [w_i64 (by omega) (by omega)]; omega] at h4
              omega
        rw [← i64_succ (by omega)]
        all_goals rfl
  · have h := of_decide_eq_false h
    conv => whnf
    exact ⟨true, ⟨fun _ => may_of (fun j hj2 => hj j (by omega)), fun _ => rfl⟩, rfl⟩
end Go.Eng
