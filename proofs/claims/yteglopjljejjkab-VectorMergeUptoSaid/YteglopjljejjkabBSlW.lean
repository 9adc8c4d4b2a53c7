/- Package slices at clocks: reading functions. -/
import Derived.Test.YteglopjljejjkabBSlV
set_option linter.unusedVariables false
set_option linter.unusedSimpArgs false
set_option maxRecDepth 100000
set_option maxHeartbeats 4000000
namespace Go.Eng
open Go Go.RowKit Go.Proofs
/-- slices.Clone. -/
theorem ckClone (l : List (Int × Int)) (hl : l.length ≤ 1000000000) : CallV Try.prog 52 [.c (.sl 2 l.length fun k => ckF (l.getD k (0, 0)))] []
    (fun r own' => r = .c (.row 0) ∧ own' = [some (.row 90 2 l.length fun k => ckF (l.getD k (0, 0)))]) := by
  refine callV_own Try.func52 rfl ttok ftok rfl rfl rfl (Nat.le_of_ble_eq_true rfl) rfl ?_
  conv => whnf
  intro b hb
  cases b with
  | true =>
    have h0 := hb rfl
    obtain rfl : l = [] := List.eq_nil_of_length_eq_zero h0
    conv => whnf
    refine ⟨_, nil_row 2 90 2 (fun k => ckF (([] : List (Int × Int)).getD k (0, 0))) rfl, ?_⟩
    conv => whnf
    exact ⟨[some 0], rfl, rfl, rfl, rfl⟩
  | false =>
    clear hb
    conv => whnf
    refine ⟨⟨by omega, by show (0 + l.length) * 8 ≤ _; omega⟩, ?_⟩
    conv => whnf
    refine ⟨l.length, fun k => ckF (l.getD k (0, 0)), by omega, fun k hk => by omega, fun k hk => by rw [Nat.zero_add], ?_⟩
    conv => whnf
    refine ⟨_, Weak.refl _, ?_⟩
    conv => whnf
    exact ⟨[some 1], rfl, rfl, rfl, rfl⟩
/-- slices.IndexFunc. -/
def ckIndexCI (O : List (Option Ob)) (l : List (Int × Int)) (p : (Int × Int) → Bool) (caps : List (Bool × List IC)) (n : Nat) (st : St) : Prop := ∃ k : Nat, n = l.length - k ∧ k ≤ l.length ∧ (∀ j, j < k → p (l.getD j (0, 0)) = false) ∧
  st = ⟨19, O.length, [(0, .c (.sl 2 l.length fun k => ckF (l.getD k (0, 0)))), (1, .c (.fn 54 caps)), (7, vci .i64 l.length), (8, vci .i64 (k : Int))], O⟩
theorem ckIndexC (O : List (Option Ob)) (l : List (Int × Int)) (hl : l.length ≤ 1000000000) (caps : List (Bool × List IC)) (p : (Int × Int) → Bool)
    (hp : ∀ k, k < l.length → CallV Try.prog 54 (.agg (ckF (l.getD k (0, 0))) :: capsA caps) O (fun r own' => r = vcb (p (l.getD k (0, 0))) ∧ own' = O)) :
    CallV Try.prog 92 [.c (.sl 2 l.length fun k => ckF (l.getD k (0, 0))), .c (.fn 54 caps)] O (fun r own' => (∃ k : Nat, k < l.length ∧ p (l.getD k (0, 0)) = true ∧ (∀ j, j < k → p (l.getD j (0, 0)) = false) ∧ r = vci .i64 k ∧ own' = O) ∨
      ((∀ j, j < l.length → p (l.getD j (0, 0)) = false) ∧ r = vci .i64 (-1) ∧ own' = O)) := by
  refine callV_same Try.func92 rfl ttok ftok rfl rfl rfl (Nat.le_of_ble_eq_true rfl) ?_
  conv => whnf
  refine loopV ttok ftok (ckIndexCI O l p caps) (env_weak [0, 1, 7, 8] rfl) ⟨0, rfl, Nat.zero_le _, fun j hj => by omega, rfl⟩ ?_
  rintro n st ⟨k, rfl, hk, hj, rfl⟩
  conv => whnf
  refine onB_intro (fun h => ?_) (fun h => ?_)
  · have h := of_decide_eq_true h
    have hkl : k < l.length := by omega
    conv => whnf
    rw [forceL_eq]
    conv => whnf
    refine ⟨⟨by omega, by omega⟩, ?_⟩
    conv => whnf
    refine (hp k hkl).mono ?_
    rintro r own2 ⟨rfl, rfl⟩
    conv => whnf
    cases hpk : p (l.getD k (0, 0)) with
    | true =>
      conv => whnf
      refine ⟨_, Weak.refl _, ?_⟩
      conv => whnf
      exact .inl ⟨k, hkl, hpk, hj, rfl, rfl⟩
    | false =>
      conv => whnf
      refine ⟨l.length - (k + 1), _, by omega, env_weak [0, 1, 7, 8] rfl, k + 1, rfl, by omega, fun j hj2 => ?_, ?_⟩
      · rcases Nat.lt_succ_iff_lt_or_eq.1 hj2 with h2 | rfl
        · exact hj j h2
        · exact hpk
      rw [show (((k + 1 : Nat)) : Int) = IntKind.i64.wrap ((k : Int) + 1) from by rw [w_i64 (by omega) (by omega)]; omega]
      all_goals rfl
  · have h := of_decide_eq_false h
    conv => whnf
    refine ⟨_, Weak.refl _, ?_⟩
    conv => whnf
    exact .inr ⟨fun j hj2 => hj j (by omega), rfl, rfl⟩
/-- slices.ContainsFunc. -/
theorem ckContainsC (O : List (Option Ob)) (l : List (Int × Int)) (hl : l.length ≤ 1000000000) (caps : List (Bool × List IC)) (p : (Int × Int) → Bool)
    (hp : ∀ k, k < l.length → CallV Try.prog 54 (.agg (ckF (l.getD k (0, 0))) :: capsA caps) O (fun r own' => r = vcb (p (l.getD k (0, 0))) ∧ own' = O)) :
    CallV Try.prog 53 [.c (.sl 2 l.length fun k => ckF (l.getD k (0, 0))), .c (.fn 54 caps)] O (fun r own' => ∃ b : Bool, (b = true ↔ ∃ k, k < l.length ∧ p (l.getD k (0, 0)) = true) ∧ r = vcb b ∧ own' = O) := by
  refine callV_same Try.func53 rfl ttok ftok rfl rfl rfl (Nat.le_of_ble_eq_true rfl) ?_
  conv => whnf
  rw [forceL_eq]
  conv => whnf
  refine (ckIndexC O l hl caps p hp).mono ?_
  rintro r own2 (⟨k, hk, h1, h2, rfl, rfl⟩ | ⟨h1, rfl, rfl⟩)
  · conv => whnf
    refine ⟨_, Weak.refl _, ?_⟩
    conv => whnf
    refine ⟨true, ⟨fun _ => ⟨k, hk, h1⟩, fun _ => rfl⟩, ?_, rfl⟩
    show vcb (decide ((k : Int) ≥ 0)) = _
    rw [decide_eq_true (by omega)]
  · conv => whnf
    refine ⟨_, Weak.refl _, ?_⟩
    conv => whnf
    refine ⟨false, ⟨fun e => (by cases e), fun ⟨k, hk, h2⟩ => by rw [h1 k hk] at h2; cases h2⟩, rfl, rfl⟩
/-- slices.BinarySearchFunc. -/
def ckSearchI (O : List (Option Ob)) (l : List (Int × Int)) (ta : AV) (c : (Int × Int) → Int) (caps : List (Bool × List IC)) (m : Nat) (st : St) : Prop := ∃ i j : Nat, m = j - i ∧ i ≤ j ∧ j ≤ l.length ∧ (i = 0 ∨ c (l.getD (i - 1) (0, 0)) < 0) ∧ (j = l.length ∨ 0 ≤ c (l.getD j (0, 0))) ∧
  st = ⟨49, O.length, [(0, .c (.sl 2 l.length fun k => ckF (l.getD k (0, 0)))), (1, ta), (2, .c (.fn 109 caps)), (8, vci .i64 l.length), (9, vci .i64 (i : Int)), (10, vci .i64 (j : Int))], O⟩
theorem ckSearch (O : List (Option Ob)) (l : List (Int × Int)) (hl : l.length ≤ 1000000000) (caps : List (Bool × List IC)) (t : Int) (c : (Int × Int) → Int)
    (hp : ∀ k, k < l.length → CallV Try.prog 109 (.agg (ckF (l.getD k (0, 0))) :: (vci .u32 t) :: capsA caps) O (fun r own' => r = vci .i64 (c (l.getD k (0, 0))) ∧ own' = O)) :
    CallV Try.prog 108 [.c (.sl 2 l.length fun k => ckF (l.getD k (0, 0))), vci .u32 t, .c (.fn 109 caps)] O (fun r own' => ∃ i : Nat, i ≤ l.length ∧ (i = 0 ∨ c (l.getD (i - 1) (0, 0)) < 0) ∧ (i = l.length ∨ 0 ≤ c (l.getD i (0, 0))) ∧
      r = .tup [vci .i64 i, vcb (decide (i < l.length ∧ c (l.getD i (0, 0)) = 0))] ∧ own' = O) := by
  refine callV_same Try.func108 rfl ttok ftok rfl rfl rfl (Nat.le_of_ble_eq_true rfl) ?_
  conv => whnf
  refine loopV ttok ftok (ckSearchI O l (vci .u32 t) c caps) (env_weak [0, 1, 2, 8, 9, 10] rfl) ⟨0, l.length, rfl, Nat.zero_le _, Nat.le_refl _, .inl rfl, .inl rfl, rfl⟩ ?_
  rintro m st ⟨i, j, rfl, hij, hj, h1, h2, rfl⟩
  conv => whnf
  refine onB_intro (fun h => ?_) (fun h => ?_)
  · have h := of_decide_eq_true h
    have hw : IntKind.i64.wrap (IntKind.u64.wrap (IntKind.i64.wrap ((i : Int) + j)) / 2 ^ Int.toNat 1) = (((i + j) / 2 : Nat) : Int) := by
      rw [w_i64 (x := (i : Int) + j) (by omega) (by omega), w_u64, show (2 : Int) ^ Int.toNat 1 = 2 from rfl, w_i64 (by omega) (by omega)]
      omega
    conv => whnf
    refine ⟨⟨by omega, by decide⟩, ?_⟩
    conv => whnf
    rw [forceL_eq]
    conv => whnf
    rw [hw]
    refine ⟨⟨by omega, by omega⟩, ?_⟩
    conv => whnf
    refine (hp ((i + j) / 2) (by omega)).mono ?_
    rintro r own2 ⟨rfl, rfl⟩
    conv => whnf
    refine onB_intro (fun h3 => ?_) (fun h3 => ?_)
    · have h3 := of_decide_eq_true h3
      conv => whnf
      refine ⟨j - ((i + j) / 2 + 1), _, by omega, env_weak [0, 1, 2, 8, 9, 10] rfl, (i + j) / 2 + 1, j, rfl, by omega, hj, .inr (by rw [Nat.add_sub_cancel]; exact h3), h2, ?_⟩
      rw [show ((((i + j) / 2 + 1 : Nat)) : Int) = IntKind.i64.wrap ((((i + j) / 2 : Nat) : Int) + 1) from by rw [w_i64 (by omega) (by omega)]; omega, ← hw]
      all_goals rfl
    · have h3 := of_decide_eq_false h3
      conv => whnf
      refine ⟨(i + j) / 2 - i, _, by omega, env_weak [0, 1, 2, 8, 9, 10] rfl, i, (i + j) / 2, rfl, by omega, by omega, h1, .inr (by omega), ?_⟩
      rw [← hw]
      all_goals rfl
  · have h := of_decide_eq_false h
    obtain rfl : i = j := by omega
    conv => whnf
    by_cases h3 : i < l.length
    · rw [show decide ((i : Int) < (l.length : Int)) = true from decide_eq_true (by omega)]
      conv => whnf
      rw [forceL_eq]
      conv => whnf
      refine ⟨⟨by omega, by omega⟩, ?_⟩
      conv => whnf
      refine (hp i (by omega)).mono ?_
      rintro r own2 ⟨rfl, rfl⟩
      conv => whnf
      refine ⟨_, Weak.refl _, ?_⟩
      conv => whnf
      refine ⟨i, hj, h1, h2, ?_, rfl⟩
      rw [show decide (i < l.length ∧ c (l.getD i (0, 0)) = 0) = (c (l.getD i (0, 0)) == 0) from by rw [Bool.eq_iff_iff]; simp [h3]]
      all_goals rfl
    · rw [show decide ((i : Int) < (l.length : Int)) = false from decide_eq_false (by omega)]
      conv => whnf
      refine ⟨_, Weak.refl _, ?_⟩
      conv => whnf
      refine ⟨i, hj, h1, h2, ?_, rfl⟩
      rw [show decide (i < l.length ∧ c (l.getD i (0, 0)) = 0) = false from decide_eq_false (by omega)]
      all_goals rfl
end Go.Eng
