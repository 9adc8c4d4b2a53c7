/- Package vector. -/
import Derived.Test.YteglopjljejjkabBSlW
import Derived.Test.YteglopjljejjkabPVec
set_option linter.unusedVariables false
set_option linter.unusedSimpArgs false
set_option maxRecDepth 100000
set_option maxHeartbeats 4000000
namespace Go.Eng
open Go Go.RowKit Go.Proofs
abbrev ckR (l : CV) (k : Nat) : List IC := ckF (l.getD k (0, 0))
abbrev ckS (l : CV) : AV := .c (.sl 2 l.length (ckR l))
def cmpI (x y : Int) : Int := if x < y then -1 else if y < x then 1 else 0
theorem isnan_c (x : Int) : CallV Try.prog 106 [vci .u32 x] [] (fun r own' => own' = [] ∧ r = vcb false) := by
  refine callV_pure Try.func106 rfl ttok ftok rfl rfl rfl (Nat.le_of_ble_eq_true rfl) ?_
  conv => whnf
  show vcb (x != x) = _
  simp
theorem cmpU_c (x y : Int) : CallV Try.prog 85 [vci .u32 x, vci .u32 y] [] (fun r own' => own' = [] ∧ r = vci .i64 (cmpI x y)) := by
  refine callV_pure Try.func85 rfl ttok ftok rfl rfl rfl (Nat.le_of_ble_eq_true rfl) ?_
  conv => whnf
  refine call_pure (isnan_c _) rfl ?_
  rintro _ rfl
  conv => whnf
  refine call_pure (isnan_c _) rfl ?_
  rintro _ rfl
  conv => whnf
  unfold cmpI
  by_cases h : x < y
  · rw [show decide (x < y) = true from decide_eq_true h, if_pos h]
    conv => whnf
    all_goals rfl
  · rw [show decide (x < y) = false from decide_eq_false h, if_neg h]
    conv => whnf
    by_cases h2 : y < x
    · rw [show decide (x > y) = true from decide_eq_true h2, if_pos h2]
      conv => whnf
      all_goals rfl
    · rw [show decide (x > y) = false from decide_eq_false h2, if_neg h2]
      conv => whnf
      all_goals rfl
theorem cmpI_neg {x y : Int} : cmpI x y < 0 ↔ x < y := by unfold cmpI; split <;> (try split) <;> omega
theorem cmpI_nn {x y : Int} : 0 ≤ cmpI x y ↔ y ≤ x := by unfold cmpI; split <;> (try split) <;> omega
theorem cmpI_zero {x y : Int} : cmpI x y = 0 ↔ x = y := by unfold cmpI; split <;> (try split) <;> omega
theorem find1_c (x : Int × Int) (t : Int) : CallV Try.prog 109 [.agg (ckF x), vci .u32 t] [] (fun r own' => own' = [] ∧ r = vci .i64 (cmpI x.1 t)) := by
  refine callV_pure Try.func109 rfl ttok ftok rfl rfl rfl (Nat.le_of_ble_eq_true rfl) ?_
  conv => whnf
  refine call_pure (cmpU_c _ _) rfl ?_
  rintro _ rfl
  conv => whnf
  all_goals rfl
theorem find_c (l : CV) (hl : l.length ≤ 1000000000) (hs : srt l) (t : Int) : CallV Try.prog 89 [ckS l, vci .u32 t] [] (fun r own' => own' = [] ∧ ∃ i, At l t i ∧ r = .tup [vci .i64 (i : Int), vcb (decide (i < l.length ∧ (l.getD i (0, 0)).1 = t))]) := by
  refine callV_pure Try.func89 rfl ttok ftok rfl rfl rfl (Nat.le_of_ble_eq_true rfl) ?_
  conv => whnf
  refine (ckSearch [] l hl [] t (fun x => cmpI x.1 t) (fun k hk => call_pure (find1_c _ t) rfl (fun r h => ⟨h, rfl⟩))).mono ?_
  rintro r own2 ⟨i, hi, h1, h2, rfl, rfl⟩
  conv => whnf
  refine ⟨i, At.of hs hi (h1.imp_right cmpI_neg.1) (h2.imp_right cmpI_nn.1), ?_⟩
  rw [show decide (i < l.length ∧ (l.getD i (0, 0)).1 = t) = decide (i < l.length ∧ cmpI (l.getD i (0, 0)).1 t = 0) from by rw [Bool.eq_iff_iff]; simp only [decide_eq_true_eq, cmpI_zero]]
theorem next_c (l : CV) (hl : l.length ≤ 1000000000) (hs : srt l) (t : Int) : CallV Try.prog 51 [ckS l, vci .u32 t] [] (fun r own' => own' = [] ∧ r = vci .u32 (nxt l t)) := by
  refine callV_pure Try.func51 rfl ttok ftok rfl rfl rfl (Nat.le_of_ble_eq_true rfl) ?_
  conv => whnf
  refine call_pure (find_c l hl hs t) rfl ?_
  rintro _ ⟨i, h, rfl⟩
  conv => whnf
  refine onB_intro (fun h2 => ?_) (fun h2 => ?_)
  · have h2 := of_decide_eq_true h2
    conv => whnf
    refine ⟨⟨by omega, by omega⟩, ?_⟩
    conv => whnf
    rw [nxt_hit h h2.1 h2.2]
    all_goals rfl
  · have h2 := of_decide_eq_false h2
    conv => whnf
    rw [nxt_miss hs h h2]
theorem set_c (l : CV) (hl : l.length ≤ 1000000) (hs : srt l) (t n : Int) (ht : 0 ≤ t) (hn : 0 ≤ n) : CallV Try.prog 50 [ckS l, vci .u32 t, vci .u32 n] [] (fun r own' => own' = [] ∧ r = ckS (setR l t n)) := by
  refine callV_pure Try.func50 rfl ttok ftok rfl rfl rfl (Nat.le_of_ble_eq_true rfl) ?_
  conv => whnf
  refine call_frame2 [] rfl rfl rfl rfl (ckClone l (by omega)) ?_
  rintro r own2 ⟨rfl, rfl⟩
  refine ⟨.c (.row 0), [some (.row 90 2 l.length (ckR l))], rfl, rfl, ?_⟩
  conv => whnf
  refine call_pure (find_c l (by omega) hs t) rfl ?_
  rintro _ ⟨i, h, rfl⟩
  conv => whnf
  by_cases h0 : t = 0
  · subst h0
    conv => whnf
    refine ⟨fun k hk => rfl, ?_⟩
    conv => whnf
    rw [show setR l 0 n = l from by unfold setR; rw [if_pos rfl]]
  rw [show (t == 0) = false from by simpa using h0]
  conv => whnf
  by_cases hh : i < l.length ∧ (l.getD i (0, 0)).1 = t
  · rw [show decide (i < l.length ∧ (l.getD i (0, 0)).1 = t) = true from decide_eq_true hh]
    conv => whnf
    by_cases hn0 : n = 0
    · subst hn0
      conv => whnf
      rw [show IntKind.i64.wrap ((i : Int) + 1) = ((i + 1 : Nat) : Int) from by rw [w_i64 (by omega) (by omega)]; omega]
      refine call_frame2 [some 0] rfl rfl rfl rfl (ckDelete l i (i + 1) (by omega) (by omega) (by omega)) ?_
      rintro r own2 ⟨rfl, rfl⟩
      refine ⟨.c (.row 2), [none, none, some (.row 90 2 (l.take i ++ l.drop (i + 1)).length (ckR (l.take i ++ l.drop (i + 1))))], rfl, rfl, ?_⟩
      conv => whnf
      refine ⟨fun k hk => rfl, ?_⟩
      conv => whnf
      rw [setR_hit hs h h0 hh.1 hh.2, if_pos rfl, List.append_nil]
    · rw [show (n == 0) = false from by simpa using hn0]
      conv => whnf
      have hlen : (l.take i ++ [(t, n)] ++ l.drop (i + 1)).length = l.length := by simp; omega
      refine ⟨⟨by omega, by omega⟩, ?_⟩
      conv => whnf
      refine ⟨ckR (l.take i ++ [(t, n)] ++ l.drop (i + 1)), fun j hj => ?_, ?_⟩
      · show ckF _ = _
        rw [List.append_assoc]
        rcases Nat.lt_trichotomy j i with h3 | h3 | h3
        · rw [if_neg (by omega), List.getD_eq_getElem?_getD, List.getElem?_append_left (by rw [List.length_take]; omega), ← List.getD_eq_getElem?_getD, getD_take _ _ _ _ h3]
        · subst h3
          rw [if_pos (by omega), List.getD_eq_getElem?_getD, List.getElem?_append_right (by rw [List.length_take]; omega), List.length_take, Nat.min_eq_left (by omega), Nat.sub_self]
          show [vu t, vu n] = [vu (l.getD j (0, 0)).1, vu n]
          rw [hh.2]
        · rw [if_neg (by omega), List.getD_eq_getElem?_getD, List.getElem?_append_right (by rw [List.length_take]; omega), List.length_take, Nat.min_eq_left (by omega), List.singleton_append]
          obtain ⟨q, hq⟩ : ∃ q, j - i = q + 1 := ⟨j - i - 1, by omega⟩
          rw [hq, ← List.getD_eq_getElem?_getD, List.getD_cons_succ, getD_drop, show i + 1 + q = j by omega]
      conv => whnf
      refine ⟨fun k hk => rfl, ?_⟩
      conv => whnf
      rw [setR_hit hs h h0 hh.1 hh.2, if_neg hn0]
      show _ = AV.c (IC.sl 2 _ _)
      rw [hlen]
  · rw [show decide (i < l.length ∧ (l.getD i (0, 0)).1 = t) = false from decide_eq_false hh]
    conv => whnf
    refine onB_intro (fun h3 => ?_) (fun h3 => ?_)
    · have h3 := of_decide_eq_true h3
      conv => whnf
      refine ⟨fun _ => ckF (t, n), fun j hj => ?_, ?_⟩
      · obtain rfl : j = 0 := by omega
        rfl
      conv => whnf
      refine call_frame2 [some 0, some 1] rfl rfl rfl rfl (ckInsert l (t, n) i h.le (by omega) (fun _ => ckF (t, n)) rfl) ?_
      rintro r own2 ⟨rfl, rfl⟩
      refine ⟨.c (.row 3), [none, none, none, some (.row 90 2 (l.take i ++ (t, n) :: l.drop i).length (ckR (l.take i ++ (t, n) :: l.drop i)))], rfl, rfl, ?_⟩
      conv => whnf
      refine ⟨fun k hk => rfl, ?_⟩
      conv => whnf
      rw [setR_miss hs h h0 hh, if_neg (by omega), List.append_assoc, List.singleton_append]
    · have h3 := of_decide_eq_false h3
      conv => whnf
      refine ⟨fun k hk => rfl, ?_⟩
      conv => whnf
      rw [setR_miss hs h h0 hh, if_pos (by omega), List.append_nil, List.take_append_drop]
/-- The vector so far. -/
def mgI (a b : CV) (m : Nat) (st : St) : Prop := ∃ k : Nat, m = b.length - k ∧ k ≤ b.length ∧ st = ⟨31, 0, [(5, ckS (mergeR a (b.take k))), (10, ckS b), (11, vci .i64 b.length), (12, vci .i64 (k : Int))], []⟩
theorem setR_len (l : CV) (c n : Int) : (setR l c n).length ≤ l.length + 1 := by
  unfold setR
  split
  · omega
  · suffices ∀ (l : CV) (p : Bool), (rset c n l p).length ≤ l.length + (if p then 0 else 1) by
      have := this l (n == 0); split at this <;> omega
    intro l
    induction l with
    | nil => intro p; rw [rset]; cases p <;> simp
    | cons x r ih =>
      intro p
      rw [rset]
      have h1 := ih (p || decide (c ≤ x.1))
      generalize decide (c ≤ x.1) = q at h1 ⊢
      cases p <;> cases q <;> simp at h1 ⊢ <;> split <;> simp <;> omega
theorem mergeR_len : ∀ (b a : CV), (mergeR a b).length ≤ a.length + b.length
  | [], a => by show a.length ≤ _; simp
  | x :: r, a => by
    have h1 := mergeR_len r (setR a x.1 (max x.2 (nxt a x.1)))
    have h2 := setR_len a x.1 (max x.2 (nxt a x.1))
    show (mergeR (setR a x.1 (max x.2 (nxt a x.1))) r).length ≤ _
    simp
    omega
theorem merge_snoc (a b : CV) (x : Int × Int) : mergeR a (b ++ [x]) = setR (mergeR a b) x.1 (max x.2 (nxt (mergeR a b) x.1)) := by
  unfold mergeR; rw [List.foldl_append]; rfl
theorem merge_c (a b : CV) (ha : mayV a) (hb : mayV b) (hla : a.length ≤ 1000) (hlb : b.length ≤ 1000) : CallV Try.prog 13 [ckS a, ckS b] [] (fun r own' => own' = [] ∧ r = ckS (mergeR a b)) := by
  refine callV_pure Try.func13 rfl ttok ftok rfl rfl rfl (Nat.le_of_ble_eq_true rfl) ?_
  conv => whnf
  refine call_frame2 [] rfl rfl rfl rfl (ckClone a (by omega)) ?_
  rintro r own2 ⟨rfl, rfl⟩
  refine ⟨.c (.row 0), [some (.row 90 2 a.length (ckR a))], rfl, rfl, ?_⟩
  conv => whnf
  refine loopV_frz [0] ?_
  conv => whnf
  refine ⟨fun k hk => rfl, ?_⟩
  conv => whnf
  refine loopV ttok ftok (mgI a b) (norm_weak [5, 10, 11, 12] [] rfl rfl) ⟨0, rfl, Nat.zero_le _, rfl⟩ ?_
  rintro m st ⟨k, rfl, hk, rfl⟩
  have hpos : ∀ x ∈ b.take k, 0 < x.1 ∧ 0 < x.2 := fun x hx => hb.2 x (List.mem_of_mem_take hx)
  have hM := merge_inv a ha _ hpos
  have hMl := mergeR_len (b.take k) a
  have hbt : (b.take k).length ≤ b.length := by rw [List.length_take]; omega
  generalize hMd : mergeR a (b.take k) = M at hM hMl
  conv => whnf
  refine onB_intro (fun h => ?_) (fun h => ?_)
  · have h := of_decide_eq_true h
    have hkb : k < b.length := by omega
    have hx := hb.2 _ (getD_mem (d := (0, 0)) hkb)
    have hnext : mergeR a (b.take (k + 1)) = setR M (b.getD k (0, 0)).1 (max (b.getD k (0, 0)).2 (nxt M (b.getD k (0, 0)).1)) := by
      rw [← hMd, ← merge_snoc]
      congr 1
      rw [List.take_add_one, List.getElem?_eq_getElem hkb, List.getD_eq_getElem?_getD, List.getElem?_eq_getElem hkb]
      rfl
    conv => whnf
    refine ⟨⟨by omega, by omega⟩, ?_⟩
    conv => whnf
    refine drawV_quiet mixed (by kernel_rfl) ttok ftok ?_
    conv => whnf
    refine callQ (next_c M (by omega) hM.1 _) rfl rfl ?_
    conv => whnf
    have hp := nxt_pos hM (b.getD k (0, 0)).1
    refine onB_intro (fun h2 => ?_) (fun h2 => ?_)
    · have h2 := of_decide_eq_true h2
      conv => whnf
      refine call_pure (set_c M (by omega) hM.1 _ _ (Int.le_of_lt hx.1) (Int.le_of_lt hx.2)) rfl ?_
      rintro _ rfl
      conv => whnf
      refine ⟨b.length - (k + 1), _, by omega, norm_weak [5, 10, 11, 12] [] rfl rfl, k + 1, rfl, by omega, ?_⟩
      rw [show (((k + 1 : Nat)) : Int) = IntKind.i64.wrap ((k : Int) + 1) from by rw [w_i64 (by omega) (by omega)]; omega, hnext, show max (b.getD k (0, 0)).2 (nxt M (b.getD k (0, 0)).1) = (b.getD k (0, 0)).2 from by have h2 : (b.getD k (0, 0)).2 > nxt M (b.getD k (0, 0)).1 := h2; omega]
      all_goals rfl
    · have h2 := of_decide_eq_false h2
      conv => whnf
      refine ⟨b.length - (k + 1), _, by omega, norm_weak [5, 10, 11, 12] [] rfl rfl, k + 1, rfl, by omega, ?_⟩
      rw [show (((k + 1 : Nat)) : Int) = IntKind.i64.wrap ((k : Int) + 1) from by rw [w_i64 (by omega) (by omega)]; omega, hnext, show max (b.getD k (0, 0)).2 (nxt M (b.getD k (0, 0)).1) = nxt M (b.getD k (0, 0)).1 from by have h2 : ¬ (b.getD k (0, 0)).2 > nxt M (b.getD k (0, 0)).1 := h2; omega, setR_same hM (by omega) (by omega)]
      all_goals rfl
  · have h := of_decide_eq_false h
    conv => whnf
    rw [← hMd, List.take_of_length_le (by omega)]
theorem cov1_c (a : CV) (hl : a.length ≤ 1000000000) (ha : srt a) (x : Int × Int) : CallV Try.prog 54 [.agg (ckF x), .c (.own 0 0)] [some (.cells 22 [.sl 2 a.length (ckR a)])] (fun r own' => r = vcb (decide (nxt a x.1 < x.2)) ∧ own' = [some (.cells 22 [.sl 2 a.length (ckR a)])]) := by
  refine callV_own Try.func54 rfl ttok ftok rfl rfl rfl (Nat.le_of_ble_eq_true rfl) rfl ?_
  conv => whnf
  refine drawV_quiet mixed (by kernel_rfl) ttok ftok ?_
  conv => whnf
  refine callQ (next_c a hl ha _) rfl rfl ?_
  conv => whnf
  refine ⟨_, Weak.refl _, ?_⟩
  conv => whnf
  exact ⟨[some 0], rfl, rfl, rfl, rfl⟩
theorem covers_c (a b : CV) (ha : srt a) (hla : a.length ≤ 1000000000) (hlb : b.length ≤ 1000000000) : CallV Try.prog 15 [ckS a, ckS b] [] (fun r own' => own' = [] ∧ r = vcb (coversR a b)) := by
  refine callV_pure Try.func15 rfl ttok ftok rfl rfl rfl (Nat.le_of_ble_eq_true rfl) ?_
  conv => whnf
  refine (ckContainsC _ b hlb [(false, [.own 0 0])] (fun x => decide (nxt a x.1 < x.2)) (fun k hk => cov1_c a hla ha _)).mono ?_
  rintro r own2 ⟨c, hc, rfl, rfl⟩
  conv => whnf
  have e : (!c) = coversR a b := by
    rw [Bool.eq_iff_iff]
    unfold coversR
    rw [List.all_eq_true]
    cases c with
    | true =>
      obtain ⟨k, hk, h⟩ := hc.1 rfl
      refine ⟨fun e => (by cases e), fun h2 => ?_⟩
      have := h2 _ (getD_mem (d := (0, 0)) hk)
      rw [h] at this
      exact this
    | false =>
      refine ⟨fun _ x hx => ?_, fun _ => rfl⟩
      obtain ⟨k, hk, rfl⟩ := mem_getD (d := (0, 0)) hx
      cases hd : decide (nxt a (b.getD k (0, 0)).1 < (b.getD k (0, 0)).2) with
      | false => rfl
      | true => have := hc.2 ⟨k, hk, hd⟩; cases this
  rw [e]
theorem may_of {l : CV} (h : ∀ j, j < l.length → 0 < (l.getD j (0, 0)).1 ∧ 0 < (l.getD j (0, 0)).2 ∧ (0 < j → (l.getD (j - 1) (0, 0)).1 < (l.getD j (0, 0)).1)) : mayV l := by
  refine ⟨List.pairwise_iff_getElem.2 ?_, fun x hx => ?_⟩
  · have key : ∀ d i, i + d + 1 < l.length → (l.getD i (0, 0)).1 < (l.getD (i + d + 1) (0, 0)).1 := by
      intro d
      induction d with
      | zero => intro i hi; have := (h (i + 1) (by omega)).2.2 (by omega); simpa using this
      | succ d ih =>
        intro i hi
        have h1 := ih i (by omega)
        have h2 := (h (i + (d + 1) + 1) hi).2.2 (by omega)
        rw [show i + (d + 1) + 1 - 1 = i + d + 1 by omega] at h2
        omega
    intro i j hi hj hij
    have := key (j - i - 1) i (by omega)
    rw [show i + (j - i - 1) + 1 = j by omega, List.getD_eq_getElem?_getD, List.getElem?_eq_getElem hi, List.getD_eq_getElem?_getD, List.getElem?_eq_getElem hj] at this
    exact this
  · obtain ⟨j, hj, rfl⟩ := mem_getD (d := (0, 0)) hx
    exact ⟨(h j hj).1, (h j hj).2.1⟩
theorem may_at {l : CV} (hm : mayV l) {j : Nat} (hj : j < l.length) : 0 < (l.getD j (0, 0)).1 ∧ 0 < (l.getD j (0, 0)).2 ∧ (0 < j → (l.getD (j - 1) (0, 0)).1 < (l.getD j (0, 0)).1) := by
  have := hm.2 _ (getD_mem (d := (0, 0)) hj)
  exact ⟨this.1, this.2, fun h0 => srt_get hm.1 (by omega) hj⟩
def myI (l : CV) (m : Nat) (st : St) : Prop := ∃ k : Nat, m = l.length - k ∧ k ≤ l.length ∧ (∀ j, j < k → 0 < (l.getD j (0, 0)).1 ∧ 0 < (l.getD j (0, 0)).2 ∧ (0 < j → (l.getD (j - 1) (0, 0)).1 < (l.getD j (0, 0)).1)) ∧
  st = ⟨36, 0, [(0, ckS l), (5, ckS l), (6, vci .i64 l.length), (7, vci .i64 (k : Int))], []⟩
theorem may_c (l : CV) (hl : l.length ≤ 1000000000) (hn : ∀ x ∈ l, 0 ≤ x.1 ∧ 0 ≤ x.2) : CallV Try.prog 12 [ckS l] [] (fun r own' => own' = [] ∧ ∃ b : Bool, (b = true ↔ mayV l) ∧ r = vcb b) := by
  refine callV_pure Try.func12 rfl ttok ftok rfl rfl rfl (Nat.le_of_ble_eq_true rfl) ?_
  conv => whnf
  refine loopV ttok ftok (myI l) (norm_weak [0, 5, 6, 7] [] rfl rfl) ⟨0, rfl, Nat.zero_le _, fun j hj => by omega, rfl⟩ ?_
  rintro m st ⟨k, rfl, hk, hj, rfl⟩
  conv => whnf
  refine onB_intro (fun h => ?_) (fun h => ?_)
  · have h := of_decide_eq_true h
    have hkl : k < l.length := by omega
    have hx := hn _ (getD_mem (d := (0, 0)) hkl)
    conv => whnf
    refine ⟨⟨by omega, by omega⟩, ?_⟩
    conv => whnf
    refine drawV_join mixed (by kernel_rfl) ttok ?_
    conv => whnf
    refine ⟨?_, ?_⟩
    · conv => whnf
      intro g1
      conv => whnf
      intro g2
      have g2 := of_decide_eq_true g2
      conv => whnf
      rw [w_i64 (by omega) (by omega)]
      omega
    conv => whnf
    refine onB_intro (fun h2 => ?_) (fun h2 => ?_)
    · simp only [pickB, isLit, Bool.or_eq_true, Bool.and_eq_true, beq_iff_eq, decide_eq_true_eq, ti_nat] at h2
      conv => whnf
      refine ⟨false, ⟨fun e => (by cases e), fun hm => ?_⟩, rfl⟩
      have h3 := may_at hm hkl
      rcases h2 with (h2 | h2) | ⟨h2, h4⟩
      · omega
      · omega
      · rw [show (IntKind.i64.wrap ((k : Int) - 1)).toNat = k - 1 from by rw [w_i64 (by omega) (by omega)]; omega] at h4
        have := h3.2.2 (by omega)
        omega
    · simp only [pickB, isLit, Bool.or_eq_false_iff, Bool.and_eq_false_iff, beq_eq_false_iff_ne, decide_eq_false_iff_not, ti_nat] at h2
      conv => whnf
      refine ⟨l.length - (k + 1), _, by omega, norm_weak [0, 5, 6, 7] [] rfl rfl, k + 1, rfl, by omega, fun j hj2 => ?_, ?_⟩
      · rcases Nat.lt_succ_iff_lt_or_eq.1 hj2 with h3 | rfl
        · exact hj j h3
        · refine ⟨by omega, by omega, fun h0 => ?_⟩
          rcases h2.2 with h4 | h4
          · omega
          · rw [show (IntKind.i64.wrap ((j : Int) - 1)).toNat = j - 1 from by rw [w_i64 (by omega) (by omega)]; omega] at h4
            omega
      rw [show (((k + 1 : Nat)) : Int) = IntKind.i64.wrap ((k : Int) + 1) from by rw [w_i64 (by omega) (by omega)]; omega]
      all_goals rfl
  · have h := of_decide_eq_false h
    conv => whnf
    exact ⟨true, ⟨fun _ => may_of (fun j hj2 => hj j (by omega)), fun _ => rfl⟩, rfl⟩
end Go.Eng
