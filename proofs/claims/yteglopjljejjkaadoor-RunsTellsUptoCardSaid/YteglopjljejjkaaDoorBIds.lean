/- Ids: what comes after, which come ahead. -/
import Derived.Test.YteglopjljejjkaaDoorBVal
import Derived.Test.YteglopjljejjkaaDoorA25
import Derived.Test.YteglopjljejjkaaDoorA21
set_option linter.unusedVariables false
set_option linter.unusedSimpArgs false
set_option maxRecDepth 100000
set_option maxHeartbeats 4000000
namespace Go.Eng
open Go Go.RowKit Go.Proofs
abbrev I2 := Int × Int
def u32P (a : I2) : Prop := (0 ≤ a.1 ∧ a.1 ≤ 4294967295) ∧ 0 ≤ a.2 ∧ a.2 ≤ 4294967295
abbrev idF (a : I2) : List IC := [vu a.1, vu a.2]
abbrev idA (a : I2) : AV := .agg (idF a)
abbrev errK (k : Int) : AV := .c (.v (.iface 58 (.int .i64 k)))
theorem none_c (a : I2) : CallV Tryd.prog 37 [idA a] [] (fun r own' => own' = [] ∧ r = vcb (a.1 == 0)) := by
  refine callV_pure Tryd.func37 rfl ttok ftok rfl rfl rfl (Nat.le_of_ble_eq_true rfl) ?_
  conv => whnf
  try rfl
/-- What comes n clocks on. -/
def aftC (a : I2) (n lim : Int) : Int := if a.1 = 0 ∨ n < 0 then 1 else if lim < a.2 ∨ lim - a.2 < n then 4 else 0
def aftV (a : I2) (n lim : Int) : AV := if aftC a n lim = 0 then .tup [idA (a.1, a.2 + n), .c (.v .nilIface)] else .tup [idA (0, 0), errK (aftC a n lim)]
def aftW (a : I2) (n lim : Int) : AV := if aftC a n lim = 0 then .tup [idA (a.1, a.2 + n), vci .i64 0] else .tup [idA (0, 0), vci .i64 (aftC a n lim)]
theorem after_c (a : I2) (ha : u32P a) (n lim : Int) (h1 : -9223372036854775808 ≤ n) (h2 : n ≤ 9223372036854775807) (h3 : 0 ≤ lim) (h4 : lim ≤ 4294967295) : CallV Tryd.prog 31 [idA a, vci .i64 n, vci .u32 lim] [] (fun r own' => own' = [] ∧ r = aftV a n lim) := by
  obtain ⟨⟨a1, a2⟩, a3, a4⟩ := ha
  refine callV_pure Tryd.func31 rfl ttok ftok rfl rfl rfl (Nat.le_of_ble_eq_true rfl) ?_
  conv => whnf
  refine call_pure (none_c a) rfl ?_
  rintro _ rfl
  by_cases z : a.1 = 0
  · rw [show (a.1 == 0) = true from beq_iff_eq.2 z]
    conv => whnf
    rw [show aftV a n lim = .tup [idA (0, 0), errK 1] from by unfold aftV; rw [show aftC a n lim = 1 from by unfold aftC; rw [if_pos (.inl z)]]; rfl]
    try rfl
  rw [show (a.1 == 0) = false from beq_eq_false_iff_ne.2 z]
  conv => whnf
  by_cases z2 : n < 0
  · rw [show decide (n < 0) = true from decide_eq_true z2]
    conv => whnf
    rw [show aftV a n lim = .tup [idA (0, 0), errK 1] from by unfold aftV; rw [show aftC a n lim = 1 from by unfold aftC; rw [if_pos (.inr z2)]]; rfl]
    try rfl
  rw [show decide (n < 0) = false from decide_eq_false z2]
  conv => whnf
  have e1 : IntKind.u64.wrap n = n := by rw [w_u64]; omega
  refine onB_intro (fun h => ?_) (fun h => ?_)
  · have z3 : lim < a.2 ∨ lim - a.2 < n := by
      simp only [pickB, isLit, e1, Bool.or_eq_true, decide_eq_true_eq] at h
      rcases h with h | h
      · exact .inl h
      · by_cases q : lim < a.2
        · exact .inl q
        · rw [w_u32, w_u64, Int.emod_eq_of_lt (by omega) (by omega), Int.emod_eq_of_lt (by omega) (by omega)] at h
          exact .inr h
    conv => whnf
    rw [show aftV a n lim = .tup [idA (0, 0), errK 4] from by unfold aftV; rw [show aftC a n lim = 4 from by unfold aftC; rw [if_neg (by omega), if_pos z3]]; rfl]
    try rfl
  · have z3 : ¬ (lim < a.2 ∨ lim - a.2 < n) := by
      simp only [pickB, isLit, e1, Bool.or_eq_false_iff, decide_eq_false_iff_not] at h
      have h2 := h.2
      rw [w_u32, w_u64, Int.emod_eq_of_lt (by omega) (by omega), Int.emod_eq_of_lt (by omega) (by omega)] at h2
      omega
    conv => whnf
    rw [show IntKind.u32.wrap (a.2 + IntKind.u32.wrap n) = a.2 + n from by simp only [w_u32]; omega]
    rw [show aftV a n lim = .tup [idA (a.1, a.2 + n), .c (.v .nilIface)] from by unfold aftV; rw [if_pos (by unfold aftC; rw [if_neg (by omega), if_neg z3])]]
    try rfl
theorem rafter_c (a : I2) (ha : u32P a) (n lim : Int) (h1 : -9223372036854775808 ≤ n) (h2 : n ≤ 9223372036854775807) (h3 : 0 ≤ lim) (h4 : lim ≤ 4294967295) : CallV Tryd.prog 38 [idA a, vci .i64 n, vci .u32 lim] [] (fun r own' => own' = [] ∧ r = aftW a n lim) := by
  obtain ⟨⟨a1, a2⟩, a3, a4⟩ := ha
  have e1 : IntKind.i64.wrap (IntKind.i64.wrap lim - IntKind.i64.wrap a.2) = lim - a.2 := by rw [w_i64 (x := lim) (by omega) (by omega), w_i64 (x := a.2) (by omega) (by omega), w_i64 (by omega) (by omega)]
  refine callV_pure Tryd.func38 rfl ttok ftok rfl rfl rfl (Nat.le_of_ble_eq_true rfl) ?_
  conv => whnf
  refine onB_intro (fun h => ?_) (fun h => ?_)
  · have z : a.1 = 0 ∨ n < 0 := by
      simp [pickB, isLit] at h
      exact h
    conv => whnf
    rw [show aftW a n lim = .tup [idA (0, 0), vci .i64 1] from by unfold aftW; rw [show aftC a n lim = 1 from by unfold aftC; rw [if_pos z]]; rfl]
    try rfl
  · have z : ¬ (a.1 = 0 ∨ n < 0) := by
      simp [pickB, isLit] at h
      omega
    conv => whnf
    refine onB_intro (fun h2 => ?_) (fun h2 => ?_)
    · have z3 : lim < a.2 ∨ lim - a.2 < n := by
        simp only [pickB, isLit, e1, Bool.or_eq_true, decide_eq_true_eq] at h2
        omega
      conv => whnf
      rw [show aftW a n lim = .tup [idA (0, 0), vci .i64 4] from by unfold aftW; rw [show aftC a n lim = 4 from by unfold aftC; rw [if_neg z, if_pos z3]]; rfl]
      try rfl
    · have z3 : ¬ (lim < a.2 ∨ lim - a.2 < n) := by
        simp only [pickB, isLit, e1, Bool.or_eq_false_iff, decide_eq_false_iff_not] at h2
        omega
      conv => whnf
      rw [show IntKind.u32.wrap (a.2 + IntKind.u32.wrap n) = a.2 + n from by simp only [w_u32]; omega]
      rw [show aftW a n lim = .tup [idA (a.1, a.2 + n), vci .i64 0] from by unfold aftW; rw [if_pos (by unfold aftC; rw [if_neg z, if_neg z3])]]
      try rfl
def beforeR (a b : I2) : Prop := a.1 < b.1 ∨ a.1 = b.1 ∧ a.2 < b.2
instance (a b : I2) : Decidable (beforeR a b) := by unfold beforeR; infer_instance
theorem before_c (a b : I2) : CallV Tryd.prog 33 [idA a, idA b] [] (fun r own' => own' = [] ∧ r = vcb (decide (beforeR a b))) := by
  refine callV_pure Tryd.func33 rfl ttok ftok rfl rfl rfl (Nat.le_of_ble_eq_true rfl) ?_
  conv => whnf
  refine congrArg vcb ?_
  rw [Bool.eq_iff_iff, decide_eq_true_iff]
  unfold beforeR
  simp [pickB, isLit]
end Go.Eng
