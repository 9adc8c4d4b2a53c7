/- A part of the proof: what the functions of the program come to, told by a small reckoner of states. -/
import Derived.Test.YteglopjljejjkaaBUtf
set_option linter.unusedVariables false
set_option linter.unusedSimpArgs false
namespace Go.Eng
open Go Go.RowKit Go.Proofs
def rdI (a b : ByteArray) (x y : List Int) (n : Nat) (st : St) : Prop := ∃ k : Nat, n = x.length - k ∧ k ≤ x.length ∧ k ≤ y.length ∧ (∀ j, j < k → x.getD j 0 = y.getD j 0) ∧
  st = ⟨88, 0, [(0, vcs a), (1, vcs b), (4, .c (.own 0 0)), (6, rns x), (8, rns y), (10, vci .i64 (k : Int))], [some (.cells 27 (edF ed0))]⟩
def rdJ (a b : ByteArray) (x y : List Int) (p : Nat) (n : Nat) (st : St) : Prop := ∃ k : Nat, n = x.length - k ∧ p + k ≤ x.length ∧ p + k ≤ y.length ∧ (∀ j, j < k → x.getD (x.length - 1 - j) 0 = y.getD (y.length - 1 - j) 0) ∧
  st = ⟨88, 0, [(0, vcs a), (1, vcs b), (4, .c (.own 0 0)), (6, rns x), (8, rns y), (10, vci .i64 (p : Int)), (11, vci .i64 (k : Int))], [some (.cells 27 (edF ed0))]⟩
theorem minI_nat (a b : Nat) : minI (a : Int) (b : Int) = ((min a b : Nat) : Int) := by unfold minI; split <;> omega
theorem sfx_drop {x y : List Int} {p k : Nat} (h1 : p + k ≤ x.length) (h2 : p + k ≤ y.length) (h3 : ∀ j, j < k → x.getD (x.length - 1 - j) 0 = y.getD (y.length - 1 - j) 0) (h4 : p + k = x.length ∨ p + k = y.length ∨ x.getD (x.length - 1 - k) 0 ≠ y.getD (y.length - 1 - k) 0) : sfx (x.drop p) (y.drop p) = k := by
  have e : ∀ (z : List Int) (j : Nat), p + j < z.length → (z.drop p).getD ((z.drop p).length - 1 - j) 0 = z.getD (z.length - 1 - j) 0 := fun z j hj => by
    rw [getD_drop, List.length_drop]
    congr 1
    omega
  refine sfx_eq (by simp; omega) (by simp; omega) (fun j hj => ?_) ?_
  · rw [e x j (by omega), e y j (by omega)]; exact h3 j hj
  · rcases h4 with h4 | h4 | h4
    · exact .inl (by simp; omega)
    · exact .inr (.inl (by simp; omega))
    · by_cases q1 : p + k = x.length
      · exact .inl (by simp; omega)
      · by_cases q2 : p + k = y.length
        · exact .inr (.inl (by simp; omega))
        · refine .inr (.inr ?_)
          rw [e x k (by omega), e y k (by omega)]; exact h4
set_option maxRecDepth 100000 in
set_option maxHeartbeats 2000000 in
theorem rdiff_c (a b : ByteArray) (hsa : a.size ≤ 10000000) (hsb : b.size ≤ 10000000) (x y : List Int) (hca : charsF a = some x) (hcb : charsF b = some y) : CallV Try.prog 13 [vcs a, vcs b] [] (fun r own' => own' = [] ∧ ((a = b ∧ r = .tup [.agg (edF ed0), vcb false]) ∨ (a ≠ b ∧ r = .tup [.agg (edF (edOf x y)), vcb true]))) := by
  have hxl := charsF_len hca
  have hyl := charsF_len hcb
  refine callV_pure Try.func13 rfl ttok ftok rfl rfl rfl (Nat.le_of_ble_eq_true rfl) ?_
  conv => whnf
  refine call_pure (chars_c a (by omega)) rfl ?_
  rintro _ rfl
  unfold charsV
  rw [hca]
  conv => whnf
  refine call_pure (chars_c b (by omega)) rfl ?_
  rintro _ rfl
  unfold charsV
  rw [hcb]
  conv => whnf
  refine loopV_cut 0 (fun st => ∃ k : Nat, k ≤ x.length ∧ k ≤ y.length ∧ pre x y = k ∧ st = ⟨88, 0, [(0, vcs a), (1, vcs b), (4, .c (.own 0 0)), (6, rns x), (8, rns y), (10, vci .i64 (k : Int))], [some (.cells 27 (edF ed0))]⟩) ?_ ?_
  · refine loopV ttok ftok (rdI a b x y) (norm_weak [0, 1, 4, 6, 8, 10] [some 0] rfl rfl) ⟨0, rfl, Nat.zero_le _, Nat.zero_le _, fun j hj => absurd hj (Nat.not_lt_zero _), rfl⟩ ?_
    rintro n st ⟨k, rfl, hk1, hk2, hpre, rfl⟩
    conv => whnf
    refine onB_intro (fun h => ?_) (fun h => ?_)
    · have h := of_decide_eq_true h
      rw [minI_nat] at h
      conv => whnf
      refine drawV_quiet mixed (by kernel_rfl) ttok ftok ?_
      conv => whnf
      refine ⟨by omega, ?_⟩
      conv => whnf
      refine ⟨by omega, ?_⟩
      conv => whnf
      refine onB_intro (fun h1 => ?_) (fun h1 => ?_)
      · have hp : pre x y = k := pre_eq hk1 hk2 hpre (.inr (.inr (by simpa using h1)))
        conv => whnf
        exact ⟨rfl, _, norm_weak [0, 1, 4, 6, 8, 10] [some 0] rfl rfl, k, hk1, hk2, hp, rfl⟩
      · have h1 : x.getD k 0 = y.getD k 0 := by simpa using h1
        conv => whnf
        refine ⟨x.length - (k + 1), _, by omega, norm_weak [0, 1, 4, 6, 8, 10] [some 0] rfl rfl, k + 1, rfl, by omega, by omega, fun j hj => ?_, ?_⟩
        · rcases Nat.lt_succ_iff_lt_or_eq.1 hj with hj | rfl
          · exact hpre j hj
          · exact h1
        · rw [show (((k + 1 : Nat)) : Int) = IntKind.i64.wrap ((k : Int) + 1) from by rw [w_i64 (by omega) (by omega)]; omega]
          rfl
    · have h := of_decide_eq_false h
      rw [minI_nat] at h
      have hp : pre x y = k := pre_eq hk1 hk2 hpre (by
        by_cases e1 : k = x.length
        · exact .inl e1
        · exact .inr (.inl (by omega)))
      conv => whnf
      exact ⟨rfl, _, norm_weak [0, 1, 4, 6, 8, 10] [some 0] rfl rfl, k, hk1, hk2, hp, rfl⟩
  rintro _ ⟨p, hp1, hp2, hp, rfl⟩
  conv => whnf
  refine loopV_cut 2 (fun st => ∃ k : Nat, p + k ≤ x.length ∧ p + k ≤ y.length ∧ sfx (x.drop p) (y.drop p) = k ∧ st = ⟨88, 0, [(0, vcs a), (1, vcs b), (4, .c (.own 0 0)), (6, rns x), (8, rns y), (10, vci .i64 (p : Int)), (11, vci .i64 (k : Int))], [some (.cells 27 (edF ed0))]⟩) ?_ ?_
  · refine loopV ttok ftok (rdJ a b x y p) (norm_weak [0, 1, 4, 6, 8, 10, 11] [some 0] rfl rfl) ⟨0, rfl, by omega, by omega, fun j hj => absurd hj (Nat.not_lt_zero _), rfl⟩ ?_
    rintro n st ⟨k, rfl, hk1, hk2, hsf, rfl⟩
    conv => whnf
    refine onB_intro (fun h => ?_) (fun h => ?_)
    · have h := of_decide_eq_true h
      rw [minI_nat, w_i64 (by omega) (by omega)] at h
      have wx : IntKind.i64.wrap (IntKind.i64.wrap ((x.length : Int) - 1) - (k : Int)) = ((x.length - 1 - k : Nat) : Int) := by rw [w_i64 (x := (x.length : Int) - 1) (by omega) (by omega), w_i64 (by omega) (by omega)]; omega
      have wy : IntKind.i64.wrap (IntKind.i64.wrap ((y.length : Int) - 1) - (k : Int)) = ((y.length - 1 - k : Nat) : Int) := by rw [w_i64 (x := (y.length : Int) - 1) (by omega) (by omega), w_i64 (by omega) (by omega)]; omega
      conv => whnf
      refine drawV_quiet mixed (by kernel_rfl) ttok ftok ?_
      conv => whnf
      refine ⟨by rw [wx]; omega, ?_⟩
      conv => whnf
      refine ⟨by rw [wy]; omega, ?_⟩
      conv => whnf
      refine onB_intro (fun h1 => ?_) (fun h1 => ?_)
      · rw [wx, wy, ti_nat, ti_nat] at h1
        have hp : sfx (x.drop p) (y.drop p) = k := sfx_drop hk1 hk2 hsf (.inr (.inr (by simpa using h1)))
        conv => whnf
        exact ⟨rfl, _, norm_weak [0, 1, 4, 6, 8, 10, 11] [some 0] rfl rfl, k, hk1, hk2, hp, rfl⟩
      · rw [wx, wy, ti_nat, ti_nat] at h1
        have h1 : x.getD (x.length - 1 - k) 0 = y.getD (y.length - 1 - k) 0 := by simpa using h1
        conv => whnf
        refine ⟨x.length - (k + 1), _, by omega, norm_weak [0, 1, 4, 6, 8, 10, 11] [some 0] rfl rfl, k + 1, rfl, by omega, by omega, fun j hj => ?_, ?_⟩
        · rcases Nat.lt_succ_iff_lt_or_eq.1 hj with hj | rfl
          · exact hsf j hj
          · exact h1
        · rw [show (((k + 1 : Nat)) : Int) = IntKind.i64.wrap ((k : Int) + 1) from by rw [w_i64 (by omega) (by omega)]; omega]
          rfl
    · have h := of_decide_eq_false h
      rw [minI_nat, w_i64 (by omega) (by omega)] at h
      have hp : sfx (x.drop p) (y.drop p) = k := sfx_drop hk1 hk2 hsf (by
        by_cases e1 : p + k = x.length
        · exact .inl e1
        · exact .inr (.inl (by omega)))
      conv => whnf
      exact ⟨rfl, _, norm_weak [0, 1, 4, 6, 8, 10, 11] [some 0] rfl rfl, k, hk1, hk2, hp, rfl⟩
  rintro _ ⟨k, hk1, hk2, hs, rfl⟩
  conv => whnf
  refine onB_intro (fun h => ?_) (fun h => ?_)
  · conv => whnf
    exact .inl ⟨of_decide_eq_true h, rfl⟩
  · conv => whnf
    have wb : IntKind.i64.wrap ((y.length : Int) - (k : Int)) = ((y.length - k : Nat) : Int) := by rw [w_i64 (by omega) (by omega)]; omega
    have wa : IntKind.i64.wrap (IntKind.i64.wrap ((x.length : Int) - (k : Int)) - (p : Int)) = ((x.length - p - k : Nat) : Int) := by rw [w_i64 (x := (x.length : Int) - (k : Int)) (by omega) (by omega), w_i64 (by omega) (by omega)]; omega
    refine ⟨by rw [wb]; omega, ?_⟩
    refine sl_ex (enc := runeF1) (d := 0) ((y.drop p).take ((y.drop p).length - k)) ?_ (fun j hj => ?_) ?_
    · rw [wb]; simp; omega
    · simp at hj
      show runeF1 _ = runeF1 (y.getD (p + j) 0)
      rw [getD_take _ _ _ _ (by simp; omega), getD_drop]
    conv => whnf
    refine ⟨(y.drop p).take ((y.drop p).length - k), rfl, fun _ _ => rfl, ?_⟩
    conv => whnf
    refine .inr ⟨of_decide_eq_false h, ?_⟩
    unfold edOf
    rw [hp, hs, wa]
    simp only [List.length_drop]
    rfl
end Go.Eng
