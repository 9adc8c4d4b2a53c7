/- The law DiffDone, func 4. -/
import Derived.Test.YteglopjljejjkaaBDd
set_option linter.unusedVariables false
set_option linter.unusedSimpArgs false
set_option maxRecDepth 100000
set_option maxHeartbeats 4000000
namespace Go.Eng
open Go Go.RowKit Go.Proofs
theorem diffdone_c (a b c : ByteArray) (n m : Int) (ha : a.size ≤ 10000000) (hb : b.size ≤ 10000000) (hc : c.size ≤ 10000000) (hn1 : -9223372036854775808 ≤ n) (hn2 : n ≤ 9223372036854775807) (hm1 : -9223372036854775808 ≤ m) (hm2 : m ≤ 9223372036854775807) :
    CallV Try.prog 4 [vcs a, vcs b, vci .i64 n, vci .i64 m, vcs c] [] (fun r own' => own' = [] ∧ r = vcb true) := by
  refine callV_pure Try.func4 rfl ttok ftok rfl rfl rfl (Nat.le_of_ble_eq_true rfl) ?_
  conv => whnf
  refine call_pure up_c rfl ?_
  rintro _ rfl
  conv => whnf
  refine call_pure (chars_c a (by omega)) rfl ?_
  rintro _ rfl
  unfold charsV
  cases hca : charsF a with
  | none =>
    conv => whnf
    refine call_pure (chars_c b (by omega)) rfl ?_
    rintro _ rfl
    unfold charsV
    cases hcb : charsF b <;>
    · conv => whnf
      refine call_pure (chars_c c (by omega)) rfl ?_
      rintro _ rfl
      unfold charsV
      cases hcc : charsF c <;>
      · conv => whnf
        refine ⟨by omega, ?_⟩
        conv => whnf
        refine ⟨fun _ => by show ByteArray.size _ ≤ _; omega, ?_⟩
        conv => whnf
        refine ⟨fun _ => by show ByteArray.size _ ≤ _; omega, ?_⟩
        conv => whnf
        refine onB_intro (fun h => ?_) (fun h => ?_)
        · conv => whnf
          all_goals first | rfl | exact ⟨rfl, rfl⟩
        · simp [pickB, isLit] at h
  | some x =>
    conv => whnf
    refine call_pure (chars_c b (by omega)) rfl ?_
    rintro _ rfl
    unfold charsV
    cases hcb : charsF b with
    | none => 
      conv => whnf
      refine call_pure (chars_c c (by omega)) rfl ?_
      rintro _ rfl
      unfold charsV
      cases hcc : charsF c <;>
      · conv => whnf
        refine ⟨by omega, ?_⟩
        conv => whnf
        refine ⟨fun _ => by show ByteArray.size _ ≤ _; omega, ?_⟩
        conv => whnf
        refine ⟨fun _ => by show ByteArray.size _ ≤ _; omega, ?_⟩
        conv => whnf
        refine onB_intro (fun h => ?_) (fun h => ?_)
        · conv => whnf
          all_goals first | rfl | exact ⟨rfl, rfl⟩
        · simp [pickB, isLit] at h
    | some y =>
      conv => whnf
      refine call_pure (chars_c c (by omega)) rfl ?_
      rintro _ rfl
      unfold charsV
      cases hcc : charsF c with
      | none => 
        conv => whnf
        refine ⟨by omega, ?_⟩
        conv => whnf
        refine ⟨fun _ => by show ByteArray.size _ ≤ _; omega, ?_⟩
        conv => whnf
        refine ⟨fun _ => by show ByteArray.size _ ≤ _; omega, ?_⟩
        conv => whnf
        refine onB_intro (fun h => ?_) (fun h => ?_)
        · conv => whnf
          all_goals first | rfl | exact ⟨rfl, rfl⟩
        · simp [pickB, isLit] at h
      | some z =>
        conv => whnf
        refine ⟨by omega, ?_⟩
        conv => whnf
        refine ⟨fun _ => by show ByteArray.size _ ≤ _; omega, ?_⟩
        conv => whnf
        refine ⟨fun _ => by show ByteArray.size _ ≤ _; omega, ?_⟩
        conv => whnf
        refine onB_intro (fun h => ?_) (fun h => ?_)
        · conv => whnf
          all_goals first | rfl | exact ⟨rfl, rfl⟩
        · clear h
          have hx := runesL_chars hca
          have hy := runesL_chars hcb
          have hz := runesL_chars hcc
          have lx := charsF_len hca
          have ly := charsF_len hcb
          have lz := charsF_len hcc
          subst hx hy hz
          have hk : EdOk ⟨n, m, c⟩ := ⟨hn1, hn2, hm1, hm2, by show c.size ≤ _; omega⟩
          have k1 := edB_ok a b (by omega) (by omega)
          have k2 := edB_ok b a (by omega) (by omega)
          have o1 := of_b a b (by omega) (by omega)
          have o2 := of_b b a (by omega) (by omega)
          have d1 := do_b a b hca hcb
          have d2 := do_b b a hcb hca
          obtain ⟨b1, mm, b2, b3⟩ := back_b a b hcb
          rw [show decide (b = a) = decide (a = b) from decide_eq_decide.2 ⟨Eq.symm, Eq.symm⟩] at o2
          generalize hq : decide (a = b) = q at *
          conv => whnf
          refine call_pure o1 rfl ?_
          rintro _ rfl
          conv => whnf
          refine call_pure (do_c a (by omega) _ k1) rfl ?_
          rintro _ rfl
          unfold doV
          rw [d1]
          conv => whnf
          refine onB_intro (fun h => ?_) (fun h => ?_)
          · simp [pickB, isLit, hq] at h
          clear h
          conv => whnf
          refine call_pure o2 rfl ?_
          rintro _ rfl
          conv => whnf
          refine call_pure (do_c b (by omega) _ k2) rfl ?_
          rintro _ rfl
          unfold doV
          rw [d2]
          conv => whnf
          refine call_pure (chars_c _ (edB_ins a b (by omega) (by omega))) rfl ?_
          rintro _ rfl
          unfold charsV
          rw [b2]
          conv => whnf
          refine onB_intro (fun h => ?_) (fun h => ?_)
          · simp [pickB, isLit, b1, b3] at h
          clear h
          conv => whnf
          refine call_pure (do_c a (by omega) ⟨n, m, c⟩ hk) rfl ?_
          rintro _ rfl
          unfold doV
          cases hdo : doOf (runesL a) ⟨n, m, c⟩ with
          | none =>
            conv => whnf
            all_goals first | rfl | exact ⟨rfl, rfl⟩
          | some u =>
            conv => whnf
            obtain ⟨m1, m2, m3, m4⟩ := min_b a u n m c hca hcc hdo
            refine call_pure (of_b a u (by omega) (by omega)) rfl ?_
            rintro _ rfl
            conv => whnf
            refine ⟨fun _ => by show ByteArray.size _ ≤ _; omega, ?_⟩
            conv => whnf
            refine ⟨fun _ => by show ByteArray.size _ ≤ _; omega, ?_⟩
            conv => whnf
            have e1 : (edB a u).del ≤ maxI m 0 := by unfold maxI; split <;> omega
            have e2 : ((edB a u).ins.size : Int) ≤ (c.size : Int) := by omega
            rw [decide_eq_true e1, decide_eq_true e2]
            rfl
end Go.Eng
