/- The law DiffTells, func 3. -/
import Derived.Test.YteglopjljejjkaaBUp
set_option linter.unusedVariables false
set_option linter.unusedSimpArgs false
set_option maxRecDepth 100000
set_option maxHeartbeats 4000000
namespace Go.Eng
open Go Go.RowKit Go.Proofs
theorem ba_beq (s : ByteArray) : (s == s) = true := by
  rcases s with ⟨u⟩
  show (u == u) = true
  exact beq_self_eq_true u
theorem ed_beq (e : Ed) : (e.at_ == e.at_ && (e.del == e.del && (e.ins == e.ins && true))) = true := by
  rw [ba_beq]; simp
theorem bt_self (s : ByteArray) : decide (s = s) = true := decide_eq_true rfl
theorem difftells_c (a b c : ByteArray) (n m : Int) (ha : a.size ≤ 10000000) (hb : b.size ≤ 10000000) (hc : c.size ≤ 10000000) (hn1 : -9223372036854775808 ≤ n) (hn2 : n ≤ 9223372036854775807) (hm1 : -9223372036854775808 ≤ m) (hm2 : m ≤ 9223372036854775807) :
    CallV Try.prog 3 [vcs a, vcs b, vci .i64 n, vci .i64 m, vcs c] [] (fun r own' => own' = [] ∧ r = vcb true) := by
  refine callV_pure Try.func3 rfl ttok ftok rfl rfl rfl (Nat.le_of_ble_eq_true rfl) ?_
  conv => whnf
  refine call_pure up_c rfl ?_
  rintro _ rfl
  conv => whnf
  refine call_pure (chars_c a (by omega)) rfl ?_
  rintro _ rfl
  unfold charsV
  cases hca : charsF a with
  | none =>
    conv => whnf
    refine call_pure (chars_c b (by omega)) rfl ?_
    rintro _ rfl
    unfold charsV
    cases hcb : charsF b <;>
    · conv => whnf
      refine call_pure (chars_c c (by omega)) rfl ?_
      rintro _ rfl
      unfold charsV
      cases hcc : charsF c <;>
      · conv => whnf
        refine ⟨by omega, ?_⟩
        conv => whnf
        refine ⟨fun _ => by show ByteArray.size _ ≤ _; omega, ?_⟩
        conv => whnf
        refine ⟨fun _ => by show ByteArray.size _ ≤ _; omega, ?_⟩
        conv => whnf
        refine onB_intro (fun h => ?_) (fun h => ?_)
        · conv => whnf
          all_goals first | rfl | exact ⟨rfl, rfl⟩
        · simp [pickB, isLit] at h
  | some x =>
    conv => whnf
    refine call_pure (chars_c b (by omega)) rfl ?_
    rintro _ rfl
    unfold charsV
    cases hcb : charsF b with
    | none => 
      conv => whnf
      refine call_pure (chars_c c (by omega)) rfl ?_
      rintro _ rfl
      unfold charsV
      cases hcc : charsF c <;>
      · conv => whnf
        refine ⟨by omega, ?_⟩
        conv => whnf
        refine ⟨fun _ => by show ByteArray.size _ ≤ _; omega, ?_⟩
        conv => whnf
        refine ⟨fun _ => by show ByteArray.size _ ≤ _; omega, ?_⟩
        conv => whnf
        refine onB_intro (fun h => ?_) (fun h => ?_)
        · conv => whnf
          all_goals first | rfl | exact ⟨rfl, rfl⟩
        · simp [pickB, isLit] at h
    | some y =>
      conv => whnf
      refine call_pure (chars_c c (by omega)) rfl ?_
      rintro _ rfl
      unfold charsV
      cases hcc : charsF c with
      | none => 
        conv => whnf
        refine ⟨by omega, ?_⟩
        conv => whnf
        refine ⟨fun _ => by show ByteArray.size _ ≤ _; omega, ?_⟩
        conv => whnf
        refine ⟨fun _ => by show ByteArray.size _ ≤ _; omega, ?_⟩
        conv => whnf
        refine onB_intro (fun h => ?_) (fun h => ?_)
        · conv => whnf
          all_goals first | rfl | exact ⟨rfl, rfl⟩
        · simp [pickB, isLit] at h
      | some z =>
        conv => whnf
        refine ⟨by omega, ?_⟩
        conv => whnf
        refine ⟨fun _ => by show ByteArray.size _ ≤ _; omega, ?_⟩
        conv => whnf
        refine ⟨fun _ => by show ByteArray.size _ ≤ _; omega, ?_⟩
        conv => whnf
        refine onB_intro (fun h => ?_) (fun h => ?_)
        · conv => whnf
          all_goals first | rfl | exact ⟨rfl, rfl⟩
        · clear h
          have hx := runesL_chars hca
          have hy := runesL_chars hcb
          have lx := charsF_len hca
          have ly := charsF_len hcb
          have lz := charsF_len hcc
          subst hx hy
          conv => whnf
          have hd : ∃ (e : Ed) (q : Bool), CallV Try.prog 12 [vcs a, vcs b] [] (fun r own' => own' = [] ∧ r = .tup [.agg (edF e), vcb q]) ∧ CallV Try.prog 13 [vcs a, vcs b] [] (fun r own' => own' = [] ∧ r = .tup [.agg (edF e), vcb q]) := by
            by_cases hab : a = b
            · refine ⟨ed0, false, (of_c a b (by omega) (by omega)).mono ?_, (rdiff_c a b (by omega) (by omega) _ _ hca hcb).mono ?_⟩
              · rintro r o ⟨h0, ⟨_, h1⟩ | ⟨h2, _⟩⟩
                · exact ⟨h0, h1⟩
                · exact absurd hab h2
              · rintro r o ⟨h0, ⟨_, h1⟩ | ⟨h2, _⟩⟩
                · exact ⟨h0, h1⟩
                · exact absurd hab h2
            · refine ⟨edOf (runesL a) (runesL b), true, (of_c a b (by omega) (by omega)).mono ?_, (rdiff_c a b (by omega) (by omega) _ _ hca hcb).mono ?_⟩
              · rintro r o ⟨h0, ⟨h2, _⟩ | ⟨_, h1⟩⟩
                · exact absurd h2 hab
                · exact ⟨h0, h1⟩
              · rintro r o ⟨h0, ⟨h2, _⟩ | ⟨_, h1⟩⟩
                · exact absurd h2 hab
                · exact ⟨h0, h1⟩
          obtain ⟨e, q, h12, h13⟩ := hd
          have he : (e.at_ == e.at_ && (e.del == e.del && (e.ins == e.ins && true))) = true := ed_beq e
          have hk : EdOk ⟨n, m, c⟩ := ⟨hn1, hn2, hm1, hm2, by show c.size ≤ _; omega⟩
          refine call_pure h12 rfl ?_
          rintro _ rfl
          conv => whnf
          refine call_pure h13 rfl ?_
          rintro _ rfl
          conv => whnf
          refine call_pure (do_c a (by omega) ⟨n, m, c⟩ hk) rfl ?_
          rintro _ rfl
          unfold doV
          cases hdo : doOf (runesL a) ⟨n, m, c⟩ with
          | none =>
            conv => whnf
            refine call_pure (rdo_c a (by omega) _ hca (by omega) ⟨n, m, c⟩ hk) rfl ?_
            rintro _ rfl
            unfold doR
            rw [hdo]
            conv => whnf
            rw [he]
            clear h12 h13
            cases q <;>
            · conv => whnf
              refine call_pure code_3 rfl ?_
              rintro _ rfl
              conv => whnf
              all_goals first | rfl | exact ⟨rfl, rfl⟩
          | some t =>
            conv => whnf
            refine call_pure (rdo_c a (by omega) _ hca (by omega) ⟨n, m, c⟩ hk) rfl ?_
            rintro _ rfl
            unfold doR
            rw [hdo]
            conv => whnf
            rw [he]
            clear h12 h13
            cases q <;>
            · conv => whnf
              rw [bt_self]
              conv => whnf
              all_goals first | rfl | exact ⟨rfl, rfl⟩
end Go.Eng
