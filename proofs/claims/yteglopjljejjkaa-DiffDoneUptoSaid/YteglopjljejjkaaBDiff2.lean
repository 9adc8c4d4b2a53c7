/- A part of the proof: what the functions of the program come to, told by a small reckoner of states. -/
import Derived.Test.YteglopjljejjkaaBDiff1
import Derived.Test.YteglopjljejjkaaBChars
set_option linter.unusedVariables false
set_option linter.unusedSimpArgs false
namespace Go.Eng
open Go Go.RowKit Go.Proofs
abbrev errV (k : Int) : AV := .c (.v (.iface 76 (.int .i64 k)))
abbrev nilI : AV := .c (.v .nilIface)
def mtS : ByteArray := ⟨#[]⟩
def doOf (l : List Int) (e : Ed) : Option ByteArray :=
  if e.at_ < 0 ∨ e.del < 0 ∨ (l.length : Int) < e.at_ ∨ l.length - e.at_ < e.del then none else some (runesBytes (l.take e.at_.toNat) ++ e.ins ++ runesBytes (l.drop (e.at_ + e.del).toNat))
theorem rb_size (l : List Int) : (runesBytes l).size ≤ 4 * l.length := by
  have := foldl_size_le l ByteArray.empty
  unfold runesBytes
  simpa using this
structure EdOk (e : Ed) : Prop where
  a1 : -9223372036854775808 ≤ e.at_
  a2 : e.at_ ≤ 9223372036854775807
  d1 : -9223372036854775808 ≤ e.del
  d2 : e.del ≤ 9223372036854775807
  i1 : e.ins.size ≤ 1000000000
def doV (l : List Int) (e : Ed) : AV := match doOf l e with | none => .tup [vcs mtS, errV 3] | some t => .tup [vcs t, nilI]
def doR (l : List Int) (e : Ed) : AV := match doOf l e with | none => .tup [vcs mtS, vcb false] | some t => .tup [vcs t, vcb true]
set_option maxRecDepth 100000 in
set_option maxHeartbeats 2000000 in
theorem do_c (a : ByteArray) (ha : (runesL a).length ≤ 100000000) (e : Ed) (he : EdOk e) : CallV Try.prog 14 [vcs a, .agg (edF e)] [] (fun r own' => own' = [] ∧ r = doV (runesL a) e) := by
  refine callV_pure Try.func14 rfl ttok ftok rfl rfl rfl (Nat.le_of_ble_eq_true rfl) ?_
  conv => whnf
  refine ⟨by omega, ?_⟩
  conv => whnf
  generalize hx : runesL a = x at *
  obtain ⟨a1, a2, d1, d2, i1⟩ := he
  refine onB_intro (fun h => ?_) (fun h => ?_)
  · conv => whnf
    simp only [pickB, isLit, Bool.true_or, Bool.or_eq_true, decide_eq_true_eq, gt_iff_lt] at h
    have hd : doOf x e = none := by
      unfold doOf
      rw [if_pos]
      by_cases q1 : e.at_ < 0
      · exact .inl q1
      · by_cases q2 : e.del < 0
        · exact .inr (.inl q2)
        · by_cases q3 : (x.length : Int) < e.at_
          · exact .inr (.inr (.inl q3))
          · rw [w_i64 (by omega) (by omega)] at h
            omega
    unfold doV
    rw [hd]
    try rfl
  · simp only [pickB, isLit, Bool.true_or, Bool.or_eq_false_iff, decide_eq_false_iff_not, gt_iff_lt] at h
    obtain ⟨⟨⟨q1, q2⟩, q3⟩, q4⟩ := h
    rw [w_i64 (by omega) (by omega)] at q4
    conv => whnf
    refine drawV_frz [1] ?_
    conv => whnf
    refine ⟨fun _ _ => rfl, ?_⟩
    conv => whnf
    refine drawV_quiet mixed (by kernel_rfl) ttok ftok ?_
    conv => whnf
    refine ⟨by omega, ?_⟩
    refine sl_ex (enc := runeF1) (d := 0) (x.take e.at_.toNat) ?_ (fun j hj => ?_) ?_
    · simp; omega
    · (simp at hj; show runeF1 _ = runeF1 (x.getD (0 + j) 0); rw [Nat.zero_add, getD_take _ _ _ _ (by omega)])
    conv => whnf
    refine ⟨x.take e.at_.toNat, rfl, fun _ _ => rfl, ?_⟩
    conv => whnf
    have s1 := rb_size (x.take e.at_.toNat)
    have s2 := rb_size (x.drop (e.at_ + e.del).toNat)
    have l1 : (x.take e.at_.toNat).length ≤ x.length := by simp; omega
    have l2 : (x.drop (e.at_ + e.del).toNat).length ≤ x.length := by simp
    refine ⟨by omega, ?_⟩
    conv => whnf
    have wd : IntKind.i64.wrap (e.at_ + e.del) = e.at_ + e.del := w_i64 (by omega) (by omega)
    refine ⟨by rw [wd]; omega, ?_⟩
    refine sl_ex (enc := runeF1) (d := 0) (x.drop (e.at_ + e.del).toNat) (by rw [wd]; simp) (fun j hj => ?_) ?_
    · show runeF1 _ = runeF1 (x.getD (_ + j) 0)
      rw [wd, getD_drop]
    conv => whnf
    refine ⟨x.drop (e.at_ + e.del).toNat, rfl, fun _ _ => rfl, ?_⟩
    conv => whnf
    refine ⟨by rw [ByteArray.size_append]; omega, ?_⟩
    conv => whnf
    have hd : doOf x e = some (runesBytes (x.take e.at_.toNat) ++ e.ins ++ runesBytes (x.drop (e.at_ + e.del).toNat)) := by
      unfold doOf
      rw [if_neg]
      omega
    unfold doV
    rw [hd]
    try rfl
set_option maxRecDepth 100000 in
set_option maxHeartbeats 2000000 in
theorem rdo_c (a : ByteArray) (hs : a.size ≤ 100000000) (x : List Int) (hc : charsF a = some x) (ha : x.length ≤ 100000000) (e : Ed) (he : EdOk e) : CallV Try.prog 15 [vcs a, .agg (edF e)] [] (fun r own' => own' = [] ∧ r = doR x e) := by
  refine callV_pure Try.func15 rfl ttok ftok rfl rfl rfl (Nat.le_of_ble_eq_true rfl) ?_
  conv => whnf
  refine call_pure (chars_c a hs) rfl ?_
  rintro _ rfl
  unfold charsV
  rw [hc]
  conv => whnf
  obtain ⟨a1, a2, d1, d2, i1⟩ := he
  refine onB_intro (fun h => ?_) (fun h => ?_)
  · conv => whnf
    simp only [pickB, isLit, Bool.true_or, Bool.or_eq_true, decide_eq_true_eq, gt_iff_lt] at h
    have hd : doOf x e = none := by
      unfold doOf
      rw [if_pos]
      omega
    unfold doR
    rw [hd]
    try rfl
  · simp only [pickB, isLit, Bool.true_or, Bool.or_eq_false_iff, decide_eq_false_iff_not, gt_iff_lt] at h
    obtain ⟨⟨q1, q2⟩, q3⟩ := h
    conv => whnf
    refine onB_intro (fun h => ?_) (fun h => ?_)
    · have h := of_decide_eq_true h
      rw [w_i64 (by omega) (by omega)] at h
      conv => whnf
      have hd : doOf x e = none := by
        unfold doOf
        rw [if_pos]
        omega
      unfold doR
      rw [hd]
      try rfl
    have q4 := of_decide_eq_false h
    rw [w_i64 (by omega) (by omega)] at q4
    conv => whnf
    refine drawV_quiet mixed (by kernel_rfl) ttok ftok ?_
    conv => whnf
    refine ⟨by omega, ?_⟩
    refine sl_ex (enc := runeF1) (d := 0) (x.take e.at_.toNat) ?_ (fun j hj => ?_) ?_
    · simp; omega
    · (simp at hj; show runeF1 _ = runeF1 (x.getD (0 + j) 0); rw [Nat.zero_add, getD_take _ _ _ _ (by omega)])
    conv => whnf
    refine ⟨x.take e.at_.toNat, rfl, fun _ _ => rfl, ?_⟩
    conv => whnf
    have s1 := rb_size (x.take e.at_.toNat)
    have s2 := rb_size (x.drop (e.at_ + e.del).toNat)
    have l1 : (x.take e.at_.toNat).length ≤ x.length := by simp; omega
    have l2 : (x.drop (e.at_ + e.del).toNat).length ≤ x.length := by simp
    refine ⟨by omega, ?_⟩
    conv => whnf
    have wd : IntKind.i64.wrap (e.at_ + e.del) = e.at_ + e.del := w_i64 (by omega) (by omega)
    refine ⟨by rw [wd]; omega, ?_⟩
    refine sl_ex (enc := runeF1) (d := 0) (x.drop (e.at_ + e.del).toNat) (by rw [wd]; simp) (fun j hj => ?_) ?_
    · show runeF1 _ = runeF1 (x.getD (_ + j) 0)
      rw [wd, getD_drop]
    conv => whnf
    refine ⟨x.drop (e.at_ + e.del).toNat, rfl, fun _ _ => rfl, ?_⟩
    conv => whnf
    refine ⟨by rw [ByteArray.size_append]; omega, ?_⟩
    conv => whnf
    have hd : doOf x e = some (runesBytes (x.take e.at_.toNat) ++ e.ins ++ runesBytes (x.drop (e.at_ + e.del).toNat)) := by
      unfold doOf
      rw [if_neg]
      omega
    unfold doR
    rw [hd]
    try rfl
/-- The code of an error that is one of the program's. -/
theorem code_nil : CallV Try.prog 16 [nilI] [] (fun r own' => own' = [] ∧ r = vci .i64 0) := by
  refine callV_pure Try.func16 rfl ttok ftok rfl rfl rfl (Nat.le_of_ble_eq_true rfl) ?_
  conv => whnf
  try rfl
theorem code_3 : CallV Try.prog 16 [errV 3] [] (fun r own' => own' = [] ∧ r = vci .i64 3) := by
  refine callV_pure Try.func16 rfl ttok ftok rfl rfl rfl (Nat.le_of_ble_eq_true rfl) ?_
  conv => whnf
  refine loop_rounds 8 ttok ftok ?_
  conv => whnf
  try rfl
end Go.Eng
