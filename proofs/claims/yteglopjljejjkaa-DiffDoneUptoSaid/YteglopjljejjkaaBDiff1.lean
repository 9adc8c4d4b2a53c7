/- A part of the proof: what the functions of the program come to, told by a small reckoner of states. -/
import Derived.Test.YteglopjljejjkaaBVal
set_option linter.unusedVariables false
set_option linter.unusedSimpArgs false
namespace Go.Eng
open Go Go.RowKit Go.Proofs
abbrev runeF1 (n : Int) : List IC := [vr n]
def pre : List Int → List Int → Nat
  | a :: x, b :: y => if a = b then pre x y + 1 else 0
  | _, _ => 0
theorem pre_eq : ∀ {x y : List Int} {k : Nat}, k ≤ x.length → k ≤ y.length → (∀ j, j < k → x.getD j 0 = y.getD j 0) → (k = x.length ∨ k = y.length ∨ x.getD k 0 ≠ y.getD k 0) → pre x y = k
  | [], y, k, h1, h2, h3, h4 => by simp at h1; subst h1; cases y <;> rfl
  | a :: x, [], k, h1, h2, h3, h4 => by simp at h2; subst h2; rfl
  | a :: x, b :: y, 0, h1, h2, h3, h4 => by simp at h4; simp [pre, h4]
  | a :: x, b :: y, k + 1, h1, h2, h3, h4 => by
    have h0 := h3 0 (by omega)
    simp at h0
    have ih := pre_eq (x := x) (y := y) (k := k) (by simpa using h1) (by simpa using h2) (fun j hj => by simpa using h3 (j + 1) (by omega)) (by simpa using h4)
    simp [pre, h0, ih]
def sfx (x y : List Int) : Nat := pre x.reverse y.reverse
theorem rev_getD {x : List Int} {j : Nat} (h : j < x.length) : x.reverse.getD j 0 = x.getD (x.length - 1 - j) 0 := by
  simp [List.getD_eq_getElem?_getD, List.getElem?_reverse h]
theorem sfx_eq {x y : List Int} {k : Nat} (h1 : k ≤ x.length) (h2 : k ≤ y.length) (h3 : ∀ j, j < k → x.getD (x.length - 1 - j) 0 = y.getD (y.length - 1 - j) 0) (h4 : k = x.length ∨ k = y.length ∨ x.getD (x.length - 1 - k) 0 ≠ y.getD (y.length - 1 - k) 0) : sfx x y = k := by
  refine pre_eq (by simpa using h1) (by simpa using h2) (fun j hj => ?_) ?_
  · rw [rev_getD (by omega), rev_getD (by omega)]; exact h3 j hj
  · rcases h4 with h4 | h4 | h4
    · exact .inl (by simpa using h4)
    · exact .inr (.inl (by simpa using h4))
    · by_cases e1 : k = x.length
      · exact .inl (by simpa using e1)
      · by_cases e2 : k = y.length
        · exact .inr (.inl (by simpa using e2))
        · refine .inr (.inr ?_)
          rw [rev_getD (by omega), rev_getD (by omega)]; exact h4
/-- The change from x to y: from where on, how many go, what comes. -/
structure Ed where
  at_ : Int
  del : Int
  ins : ByteArray
abbrev edF (e : Ed) : List IC := [vi e.at_, vi e.del, .v (.string e.ins)]
def ed0 : Ed := ⟨0, 0, ⟨#[]⟩⟩
def edOf (x y : List Int) : Ed :=
  ⟨pre x y, ((x.drop (pre x y)).length - sfx (x.drop (pre x y)) (y.drop (pre x y)) : Nat), runesBytes ((y.drop (pre x y)).take ((y.drop (pre x y)).length - sfx (x.drop (pre x y)) (y.drop (pre x y))))⟩
/-- What is chosen of a part. -/
theorem sl_ex {α : Type} {enc : α → List IC} {d : α} (ys : List α) {h lo : Nat} {f : Nat → List IC} {K : Nat → (Nat → List IC) → Prop} (hn : ys.length = h - lo) (hf : ∀ k, k < ys.length → enc (ys.getD k d) = f (lo + k)) (hK : K ys.length fun k => enc (ys.getD k d)) :
    ∃ (n' : Nat) (f' : Nat → List IC), n' = h - lo ∧ (∀ k, k < n' → f' k = f (lo + k)) ∧ K n' f' := ⟨_, _, hn, hf, hK⟩
def ofI (x y : List Int) (n : Nat) (st : St) : Prop := ∃ k : Nat, n = x.length - k ∧ k ≤ x.length ∧ k ≤ y.length ∧ (∀ j, j < k → x.getD j 0 = y.getD j 0) ∧
  st = ⟨85, 0, [(4, .c (.own 0 0)), (6, rns x), (7, rns y), (8, vci .i64 (k : Int))], [some (.cells 27 (edF ed0))]⟩
def ofJ (p : Nat) (X Y : List Int) (n : Nat) (st : St) : Prop := ∃ (e : Nat) (X' Y' : List Int), n = X.length - e ∧ e ≤ X.length ∧ e ≤ Y.length ∧ X' = X.take (X.length - e) ∧ Y' = Y.take (Y.length - e) ∧ (∀ j, j < e → X.getD (X.length - 1 - j) 0 = Y.getD (Y.length - 1 - j) 0) ∧
  st = ⟨85, 0, [(4, .c (.own 0 0)), (6, rns X'), (7, rns Y'), (8, vci .i64 (p : Int))], [some (.cells 27 (edF ed0))]⟩
set_option maxRecDepth 100000 in
set_option maxHeartbeats 2000000 in
theorem of_c (a b : ByteArray) (ha : (runesL a).length ≤ 100000000) (hb : (runesL b).length ≤ 100000000) : CallV Try.prog 12 [vcs a, vcs b] [] (fun r own' => own' = [] ∧ ((a = b ∧ r = .tup [.agg (edF ed0), vcb false]) ∨ (a ≠ b ∧ r = .tup [.agg (edF (edOf (runesL a) (runesL b))), vcb true]))) := by
  refine callV_pure Try.func12 rfl ttok ftok rfl rfl rfl (Nat.le_of_ble_eq_true rfl) ?_
  conv => whnf
  refine onB_intro (fun h => ?_) (fun h => ?_)
  · conv => whnf
    exact .inl ⟨of_decide_eq_true h, rfl⟩
  · conv => whnf
    refine ⟨by omega, ?_⟩
    conv => whnf
    refine ⟨by omega, ?_⟩
    conv => whnf
    generalize hx : runesL a = x at *
    generalize hy : runesL b = y at *
    refine loopV_frz [1, 2] ?_
    conv => whnf
    refine ⟨fun _ _ => rfl, ?_⟩
    conv => whnf
    refine ⟨fun _ _ => rfl, ?_⟩
    conv => whnf
    refine loopV ttok ftok (ofI x y) (norm_weak [4, 6, 7, 8] [some 0] rfl rfl) ⟨0, rfl, Nat.zero_le _, Nat.zero_le _, fun j hj => absurd hj (Nat.not_lt_zero _), rfl⟩ ?_
    rintro n st ⟨k, rfl, hk1, hk2, hpre, rfl⟩
    conv => whnf
    refine drawV_join mixed (by kernel_rfl) ttok ?_
    conv => whnf
    refine ⟨fun hb => ?_, ?_⟩
    · conv => whnf
      simp only [pickB, isLit, Bool.and_eq_true, decide_eq_true_eq, beq_iff_eq, gt_iff_lt] at hb
      omega
    conv => whnf
    refine ⟨fun hb => ?_, ?_⟩
    · conv => whnf
      simp only [pickB, isLit, Bool.and_eq_true, decide_eq_true_eq, beq_iff_eq, gt_iff_lt] at hb
      omega
    conv => whnf
    refine onB_intro (fun h1 => ?_) (fun h1 => ?_)
    · simp only [pickB, isLit, Bool.and_eq_true, decide_eq_true_eq, beq_iff_eq, ti_nat] at h1
      conv => whnf
      refine ⟨x.length - (k + 1), _, by omega, norm_weak [4, 6, 7, 8] [some 0] rfl rfl, k + 1, rfl, by omega, by omega, fun j hj => ?_, ?_⟩
      · rcases Nat.lt_succ_iff_lt_or_eq.1 hj with hj | rfl
        · exact hpre j hj
        · exact h1.2
      · rw [show (((k + 1 : Nat)) : Int) = IntKind.i64.wrap ((k : Int) + 1) from by rw [w_i64 (by omega) (by omega)]; omega]
        rfl
    · simp only [pickB, isLit, Bool.and_eq_false_imp, Bool.and_eq_true, decide_eq_true_eq, beq_eq_false_iff_ne, ne_eq, ti_nat] at h1
      have hp : pre x y = k := pre_eq hk1 hk2 hpre (by
        by_cases e1 : k = x.length
        · exact .inl e1
        · by_cases e2 : k = y.length
          · exact .inr (.inl e2)
          · exact .inr (.inr (h1 ⟨by omega, by omega⟩)))
      clear h1 hpre
      conv => whnf
      refine drawV_quiet mixed (by kernel_rfl) ttok ftok ?_
      conv => whnf
      refine ⟨by omega, ?_⟩
      refine sl_ex (enc := runeF1) (d := 0) (x.drop k) (by simp) (fun j hj => ?_) ?_
      · simp [List.getD_eq_getElem?_getD]
      conv => whnf
      refine ⟨by omega, ?_⟩
      refine sl_ex (enc := runeF1) (d := 0) (y.drop k) (by simp) (fun j hj => ?_) ?_
      · simp [List.getD_eq_getElem?_getD]
      conv => whnf
      generalize hX : x.drop k = X
      generalize hY : y.drop k = Y
      have hXl : X.length ≤ 100000000 := by rw [← hX]; simp; omega
      have hYl : Y.length ≤ 100000000 := by rw [← hY]; simp; omega
      refine loopV ttok ftok (ofJ k X Y) (norm_weak [4, 6, 7, 8] [some 0] rfl rfl) ⟨0, X, Y, rfl, Nat.zero_le _, Nat.zero_le _, by simp, by simp, fun j hj => absurd hj (Nat.not_lt_zero _), rfl⟩ ?_
      rintro n st ⟨e, X', Y', rfl, he1, he2, hX', hY', hsf, rfl⟩
      conv => whnf
      refine drawV_join mixed (by kernel_rfl) ttok ?_
      conv => whnf
      have lX : X'.length = X.length - e := by rw [hX']; simp
      have lY : Y'.length = Y.length - e := by rw [hY']; simp
      have wX : 0 < X'.length → IntKind.i64.wrap ((X'.length : Int) - 1) = ((X.length - 1 - e : Nat) : Int) := fun hp => by rw [w_i64 (by omega) (by omega)]; omega
      have wY : 0 < Y'.length → IntKind.i64.wrap ((Y'.length : Int) - 1) = ((Y.length - 1 - e : Nat) : Int) := fun hp => by rw [w_i64 (by omega) (by omega)]; omega
      have gX : 0 < X'.length → X'.getD (X.length - 1 - e) 0 = X.getD (X.length - 1 - e) 0 := fun hp => by rw [hX']; simp only [List.getD_eq_getElem?_getD]; rw [List.getElem?_take, if_pos (by omega)]
      have gY : 0 < Y'.length → Y'.getD (Y.length - 1 - e) 0 = Y.getD (Y.length - 1 - e) 0 := fun hp => by rw [hY']; simp only [List.getD_eq_getElem?_getD]; rw [List.getElem?_take, if_pos (by omega)]
      refine ⟨fun hb => ?_, ?_⟩
      · conv => whnf
        simp only [pickB, isLit, Bool.and_eq_true, decide_eq_true_eq, beq_iff_eq, gt_iff_lt] at hb
        (rw [wX (by omega)]; omega)
      conv => whnf
      refine ⟨fun hb => ?_, ?_⟩
      · conv => whnf
        simp only [pickB, isLit, Bool.and_eq_true, decide_eq_true_eq, beq_iff_eq, gt_iff_lt] at hb
        (rw [wY (by omega)]; omega)
      conv => whnf
      refine onB_intro (fun h1 => ?_) (fun h1 => ?_)
      · simp only [pickB, isLit, Bool.and_eq_true, decide_eq_true_eq, beq_iff_eq, gt_iff_lt] at h1
        obtain ⟨⟨p1, p2⟩, h1⟩ := h1
        have p1 : 0 < X'.length := by omega
        have p2 : 0 < Y'.length := by omega
        rw [wX p1, wY p2, ti_nat, ti_nat, gX p1, gY p2] at h1
        conv => whnf
        refine drawV_quiet mixed (by kernel_rfl) ttok ftok ?_
        conv => whnf
        refine ⟨by rw [wX p1]; omega, ?_⟩
        refine sl_ex (enc := runeF1) (d := 0) (X.take (X.length - (e + 1))) (by rw [wX p1]; simp; omega) (fun j hj => ?_) ?_
        · simp at hj
          show runeF1 _ = runeF1 (X'.getD (0 + j) 0)
          rw [hX', Nat.zero_add, getD_take _ _ _ _ (by omega), getD_take _ _ _ _ (by omega)]
        conv => whnf
        refine ⟨by rw [wY p2]; omega, ?_⟩
        refine sl_ex (enc := runeF1) (d := 0) (Y.take (Y.length - (e + 1))) (by rw [wY p2]; simp; omega) (fun j hj => ?_) ?_
        · simp at hj
          show runeF1 _ = runeF1 (Y'.getD (0 + j) 0)
          rw [hY', Nat.zero_add, getD_take _ _ _ _ (by omega), getD_take _ _ _ _ (by omega)]
        conv => whnf
        refine ⟨X.length - (e + 1), _, by omega, norm_weak [4, 6, 7, 8] [some 0] rfl rfl, e + 1, _, _, rfl, by omega, by omega, rfl, rfl, fun j hj => ?_, rfl⟩
        rcases Nat.lt_succ_iff_lt_or_eq.1 hj with hj | rfl
        · exact hsf j hj
        · exact h1
      · simp only [pickB, isLit, Bool.and_eq_false_imp, Bool.and_eq_true, decide_eq_true_eq, beq_eq_false_iff_ne, ne_eq, gt_iff_lt] at h1
        have hs : sfx X Y = e := sfx_eq he1 he2 hsf (by
          by_cases e1 : e = X.length
          · exact .inl e1
          · by_cases e2 : e = Y.length
            · exact .inr (.inl e2)
            · refine .inr (.inr (fun h2 => h1 ⟨by omega, by omega⟩ ?_))
              rw [wX (by omega), wY (by omega), ti_nat, ti_nat, gX (by omega), gY (by omega)]
              exact h2)
        clear h1 hsf
        conv => whnf
        refine ⟨Y', rfl, fun _ _ => rfl, ?_⟩
        conv => whnf
        refine .inr ⟨?_, ?_⟩
        · exact of_decide_eq_false h
        · unfold edOf
          rw [hp, hX, hY, hs, ← lX, ← hY']
          rfl
end Go.Eng
