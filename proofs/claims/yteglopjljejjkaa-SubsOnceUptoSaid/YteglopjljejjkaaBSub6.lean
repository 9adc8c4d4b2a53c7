/- The law SubsOnce. -/
import Derived.Test.YteglopjljejjkaaBSub5
set_option linter.unusedVariables false
set_option linter.unusedSimpArgs false
set_option maxRecDepth 100000
set_option maxHeartbeats 4000000
namespace Go.Eng
open Go Go.RowKit Go.Proofs
/-- After k messages: those that had room. -/
def soI (l : List Ms) (K n : Int) (m : Nat) (st : St) : Prop := ∃ (k : Nat) (L : List Ms) (gap : Bool), m = l.length - k ∧ k ≤ l.length ∧ ((gap = false ∧ (k : Int) ≤ K ∧ L = l.take k) ∨ (gap = true ∧ K < k ∧ L = l.take K.toNat)) ∧
  st = ⟨101, 0, [(1, msS l), (2, vci .i64 n), (7, vcb true), (8, vci .i64 K), (9, .c (.own 0 0)), (11, vci .i64 (k : Int))], [c78 (.row 1) K gap, rwC L]⟩
theorem getD_lt {α : Type} {l : List α} {k : Nat} {d : α} (h : k < l.length) : l.take (k + 1) = l.take k ++ [l.getD k d] := by
  rw [List.take_add_one, List.getElem?_eq_getElem h]
  simp [List.getD_eq_getElem?_getD, List.getElem?_eq_getElem h]
theorem minI_eq (a b : Int) : minI a b = min a b := by unfold minI; split <;> omega
theorem subsonce_c (room : Int) (h1 : -9223372036854775808 ≤ room) (h2 : room ≤ 9223372036854775807) (l : List Ms) (hl : l.length ≤ 1000000000) (n : Int) : CallV Try.prog 6 [vci .i64 room, msS l, vci .i64 n] [] (fun r own' => own' = [] ∧ r = vcb true) := by
  refine callV_pure Try.func6 rfl ttok ftok rfl rfl rfl (Nat.le_of_ble_eq_true rfl) ?_
  conv => whnf
  refine call_pure (sup_c) rfl ?_
  rintro _ rfl
  conv => whnf
  refine onB_intro (fun h => ?_) (fun h => ?_)
  · conv => whnf
    all_goals first | rfl | exact ⟨rfl, rfl⟩
  have hlen := of_decide_eq_false h
  clear h
  conv => whnf
  refine call_pure (pick_c room 110 (by decide) (by decide)) rfl ?_
  rintro _ rfl
  have hp := pickN_lt (n := room) (b := 110) (by decide)
  generalize pickN room 110 = p at hp
  conv => whnf
  rw [show IntKind.i64.wrap (1 + p) = 1 + p from w_i64 (by omega) (by omega)]
  refine call_frame2 [] rfl rfl rfl rfl (new_c (1 + p) (by omega) (by omega)) ?_
  rintro r own2 (⟨h, _⟩ | ⟨h, rfl, rfl⟩)
  · omega
  refine ⟨.tup [.c (.own 0 0), .c (.v .nilIface)], [some (.cells 78 [.v (.slice none 0 0), vi (1 + p), .v (.bool false)])], rfl, rfl, ?_⟩
  conv => whnf
  refine loopV ttok ftok (soI l (1 + p) n) ((nil_cell 0 0 48 6 (msR []) rfl rfl).trans (norm_weak [1, 2, 7, 8, 9, 11] [some 0, some 1] rfl rfl)) ⟨0, [], false, rfl, Nat.zero_le _, .inl ⟨rfl, by omega, rfl⟩, rfl⟩ ?_
  rintro m st ⟨k, L, gap, rfl, hk, hL, rfl⟩
  conv => whnf
  have hLl : L.length ≤ 100 ∧ (gap = false → L.length = k) := by
    rcases hL with ⟨_, q1, rfl⟩ | ⟨rfl, q1, rfl⟩
    · rw [List.length_take]; omega
    · rw [List.length_take]; exact ⟨by omega, fun e => by cases e⟩
  refine onB_intro (fun h4 => ?_) (fun h4 => ?_)
  · have h4 := of_decide_eq_true h4
    conv => whnf
    refine ⟨⟨by omega, by omega⟩, ?_⟩
    conv => whnf
    refine call_frame2 [some 0, some 1] rfl rfl rfl rfl (push_c L (by omega) (1 + p) gap (l.getD k ms0)) ?_
    rintro r own2 (⟨h6, rfl, rfl⟩ | ⟨h6, rfl, rfl⟩)
    · have hkK : 1 + p ≤ (k : Int) := by
        rcases hL with ⟨q0, q1, q2⟩ | ⟨q0, q1, q2⟩
        · have := hLl.2 q0
          rcases h6 with h6 | h6
          · rw [q0] at h6; cases h6
          · omega
        · omega
      refine ⟨vcb false, [c78 (.row 1) (1 + p) true, rwC L], rfl, rfl, ?_⟩
      conv => whnf
      refine onB_intro (fun h7 => ?_) (fun h7 => ?_)
      · have : decide ((k : Int) < 1 + p) = false := decide_eq_false (by omega)
        have h7 : (!(false == decide ((k : Int) < 1 + p))) = true := h7
        rw [this] at h7
        cases h7
      conv => whnf
      refine ⟨l.length - (k + 1), _, by omega, norm_weak [1, 2, 7, 8, 9, 11] [some 0, some 1] rfl rfl, k + 1, L, true, rfl, by omega, .inr ⟨rfl, by omega, ?_⟩, ?_⟩
      · rcases hL with ⟨q0, q1, q2⟩ | ⟨q0, q1, q2⟩
        · have := hLl.2 q0
          rw [q2]; congr 1; omega
        · exact q2
      rw [show (((k + 1 : Nat)) : Int) = IntKind.i64.wrap ((k : Int) + 1) from by rw [w_i64 (by omega) (by omega)]; omega]
      rfl
    · have hg : gap = false := by
        cases gap with
        | true => exact absurd (.inl rfl) h6
        | false => rfl
      have hkl := hLl.2 hg
      have hkK : (k : Int) < 1 + p := by
        rcases hL with ⟨q0, q1, q2⟩ | ⟨q0, q1, q2⟩
        · have : ¬ ((L.length : Int) = 1 + p) := fun e => h6 (.inr e)
          omega
        · rw [q0] at hg; cases hg
      refine ⟨vcb true, [c78 (.row 2) (1 + p) gap, none, rwC (L ++ [l.getD k ms0])], rfl, rfl, ?_⟩
      conv => whnf
      refine onB_intro (fun h7 => ?_) (fun h7 => ?_)
      · have : decide ((k : Int) < 1 + p) = true := decide_eq_true (by omega)
        have h7 : (!(true == decide ((k : Int) < 1 + p))) = true := h7
        rw [this] at h7
        cases h7
      conv => whnf
      refine ⟨l.length - (k + 1), _, by omega, norm_weak [1, 2, 7, 8, 9, 11] [some 0, some 2] rfl rfl, k + 1, L ++ [l.getD k ms0], gap, rfl, by omega, .inl ⟨hg, by omega, ?_⟩, ?_⟩
      · rcases hL with ⟨q0, q1, q2⟩ | ⟨q0, q1, q2⟩
        · rw [getD_lt (d := ms0) (by omega), ← q2]
        · rw [q0] at hg; cases hg
      rw [show (((k + 1 : Nat)) : Int) = IntKind.i64.wrap ((k : Int) + 1) from by rw [w_i64 (by omega) (by omega)]; omega]
      rfl
  · have h4 := of_decide_eq_false h4
    have hk2 : k = l.length := by omega
    subst hk2
    conv => whnf
    have hW : L = l.take (min l.length (1 + p).toNat) := by
      rcases hL with ⟨q0, q1, q2⟩ | ⟨q0, q1, q2⟩
      · rw [q2]; congr 1; omega
      · rw [q2]; congr 1; omega
    have hgap : gap = decide (1 + p < (l.length : Int)) := by
      rcases hL with ⟨q0, q1, q2⟩ | ⟨q0, q1, q2⟩
      · rw [q0]; exact (decide_eq_false (by omega)).symm
      · rw [q0]; exact (decide_eq_true (by omega)).symm
    cases gap with
    | true =>
      have hgt := of_decide_eq_true hgap.symm
      refine call_frame2 [some 0, some 1] rfl rfl rfl rfl (drain_c L (by omega) (1 + p) true n ⟨#[120]⟩) ?_
      rintro r own2 (⟨_, rfl, rfl⟩ | ⟨h, _⟩)
      rotate_left
      · cases h
      refine ⟨.c (.row 2), [c78 nlC (1 + p) false, none, rwC (L ++ [msW n ⟨#[120]⟩])], rfl, rfl, ?_⟩
      conv => whnf
      have hWl : L.length = min l.length (1 + p).toNat := by rw [hW, List.length_take]; omega
      have hWj : ∀ j, j < L.length → msR L j = msR l (Int.toNat 0 + j) := fun j hj => by
        rw [hW] at hj ⊢
        rw [List.length_take] at hj
        show msF _ = msF _
        rw [getD_take _ _ _ _ (by omega), show Int.toNat 0 + j = j from Nat.zero_add j]
      refine ⟨⟨by omega, by rw [minI_eq]; omega, by rw [minI_eq]; omega, by omega⟩, L.length, msR L, by rw [minI_eq]; omega, hWj, ?_⟩
      conv => whnf
      refine ⟨⟨by omega, by show (0 + L.length) * 64 ≤ _; omega⟩, ?_⟩
      conv => whnf
      refine ⟨L.length, msR L, by omega, fun j hj => by omega, fun j hj => by rw [Nat.zero_add], ?_⟩
      conv => whnf
      refine onB_intro (fun h8 => ?_) (fun h8 => ?_)
      rotate_left
      · exact absurd (of_decide_eq_false h8) (by omega)
      conv => whnf
      refine ⟨fun _ => msF (msW n ⟨#[120]⟩), fun j hj => ?_, ?_⟩
      · obtain rfl : j = 0 := by clear h8; omega
        rfl
      conv => whnf
      refine ⟨⟨by omega, by show (L.length + 1) * 64 ≤ _; omega⟩, ?_⟩
      conv => whnf
      refine app1 (enc := msF) (d := ms0) (msW n ⟨#[120]⟩) (fun j hj => rfl) rfl ?_
      conv => whnf
      refine ⟨fun j hj => rfl, ?_⟩
      conv => whnf
      refine ⟨fun j hj => rfl, ?_⟩
      conv => whnf
      refine call_pure (same_c (L ++ [msW n ⟨#[120]⟩]) (L ++ [msW n ⟨#[120]⟩]) (by simp; omega) (by simp; omega)) rfl ?_
      rintro _ (⟨_, rfl⟩ | ⟨h, _⟩)
      rotate_left
      · exact absurd rfl h
      conv => whnf
      refine call_frame2 [some 0] rfl rfl rfl rfl (len0_c (1 + p) false) ?_
      rintro r own2 ⟨rfl, rfl⟩
      refine ⟨vci .i64 0, [c78 nlC (1 + p) false, none, none, none, none, some (.row 48 6 1 fun _ => msF (msW n ⟨#[120]⟩)), none], rfl, rfl, ?_⟩
      conv => whnf
      refine callV_nil 0 0 48 6 (msR []) rfl rfl ?_
      refine call_frame2 [some 0, some 7] rfl rfl rfl rfl (drain_c [] (by simp) (1 + p) false n ⟨#[120]⟩) ?_
      rintro r own2 (⟨h, _⟩ | ⟨_, rfl, rfl⟩)
      · cases h
      refine ⟨.c (.row 7), [c78 nlC (1 + p) false, none, none, none, none, some (.row 48 6 1 fun _ => msF (msW n ⟨#[120]⟩)), none, rwC []], rfl, rfl, ?_⟩
      conv => whnf
      refine callV_nil 0 0 48 6 (msR []) rfl rfl ?_
      refine call_frame2 [some 0, some 8] rfl rfl rfl rfl (push_c [] (by simp) (1 + p) false ⟨n, false, ⟨#[]⟩, 0, 0, ⟨#[]⟩⟩) ?_
      rintro r own2 (⟨h, _⟩ | ⟨_, rfl, rfl⟩)
      · simp at h; omega
      refine ⟨vcb true, [c78 (.row 9) (1 + p) false, none, none, none, none, some (.row 48 6 1 fun _ => msF (msW n ⟨#[120]⟩)), none, rwC [], none, rwC [⟨n, false, ⟨#[]⟩, 0, 0, ⟨#[]⟩⟩]], rfl, rfl, ?_⟩
      conv => whnf
      refine call_frame2 [some 0, some 9] rfl rfl rfl rfl (drain_c [⟨n, false, ⟨#[]⟩, 0, 0, ⟨#[]⟩⟩] (by simp) (1 + p) false 0 ⟨#[]⟩) ?_
      rintro r own2 (⟨h, _⟩ | ⟨_, rfl, rfl⟩)
      · cases h
      refine ⟨.c (.row 9), [c78 nlC (1 + p) false, none, none, none, none, some (.row 48 6 1 fun _ => msF (msW n ⟨#[120]⟩)), none, rwC [], none, rwC [⟨n, false, ⟨#[]⟩, 0, 0, ⟨#[]⟩⟩]], rfl, rfl, ?_⟩
      conv => whnf
      refine ⟨msR [⟨n, false, ⟨#[]⟩, 0, 0, ⟨#[]⟩⟩], fun j hj => ?_, ?_⟩
      · obtain rfl : j = 0 := by omega
        rfl
      conv => whnf
      refine ⟨fun j hj => rfl, ?_⟩
      conv => whnf
      refine ⟨fun j hj => rfl, ?_⟩
      conv => whnf
      refine call_pure (same_c [⟨n, false, ⟨#[]⟩, 0, 0, ⟨#[]⟩⟩] [⟨n, false, ⟨#[]⟩, 0, 0, ⟨#[]⟩⟩] (by simp) (by simp)) rfl ?_
      rintro _ (⟨_, rfl⟩ | ⟨h, _⟩)
      rotate_left
      · exact absurd rfl h
      conv => whnf
      all_goals first | rfl | exact ⟨rfl, rfl⟩
    | false =>
      have hgt := of_decide_eq_false hgap.symm
      refine call_frame2 [some 0, some 1] rfl rfl rfl rfl (drain_c L (by omega) (1 + p) false n ⟨#[120]⟩) ?_
      rintro r own2 (⟨h, _⟩ | ⟨_, rfl, rfl⟩)
      · cases h
      refine ⟨.c (.row 1), [c78 nlC (1 + p) false, rwC L], rfl, rfl, ?_⟩
      conv => whnf
      have hWl : L.length = min l.length (1 + p).toNat := by rw [hW, List.length_take]; omega
      have hWj : ∀ j, j < L.length → msR L j = msR l (Int.toNat 0 + j) := fun j hj => by
        rw [hW] at hj ⊢
        rw [List.length_take] at hj
        show msF _ = msF _
        rw [getD_take _ _ _ _ (by omega), show Int.toNat 0 + j = j from Nat.zero_add j]
      refine ⟨⟨by omega, by rw [minI_eq]; omega, by rw [minI_eq]; omega, by omega⟩, L.length, msR L, by rw [minI_eq]; omega, hWj, ?_⟩
      conv => whnf
      refine ⟨⟨by omega, by show (0 + L.length) * 64 ≤ _; omega⟩, ?_⟩
      conv => whnf
      refine ⟨L.length, msR L, by omega, fun j hj => by omega, fun j hj => by rw [Nat.zero_add], ?_⟩
      conv => whnf
      refine onB_intro (fun h8 => ?_) (fun h8 => ?_)
      · exact absurd (of_decide_eq_true h8) (by omega)
      conv => whnf
      refine ⟨fun j hj => rfl, ?_⟩
      conv => whnf
      refine ⟨fun j hj => rfl, ?_⟩
      conv => whnf
      refine call_pure (same_c L L (by omega) (by omega)) rfl ?_
      rintro _ (⟨_, rfl⟩ | ⟨h, _⟩)
      rotate_left
      · exact absurd rfl h
      conv => whnf
      refine call_frame2 [some 0] rfl rfl rfl rfl (len0_c (1 + p) false) ?_
      rintro r own2 ⟨rfl, rfl⟩
      refine ⟨vci .i64 0, [c78 nlC (1 + p) false, none, none, none], rfl, rfl, ?_⟩
      conv => whnf
      refine callV_nil 0 0 48 6 (msR []) rfl rfl ?_
      refine call_frame2 [some 0, some 4] rfl rfl rfl rfl (drain_c [] (by simp) (1 + p) false n ⟨#[120]⟩) ?_
      rintro r own2 (⟨h, _⟩ | ⟨_, rfl, rfl⟩)
      · cases h
      refine ⟨.c (.row 4), [c78 nlC (1 + p) false, none, none, none, rwC []], rfl, rfl, ?_⟩
      conv => whnf
      refine callV_nil 0 0 48 6 (msR []) rfl rfl ?_
      refine call_frame2 [some 0, some 5] rfl rfl rfl rfl (push_c [] (by simp) (1 + p) false ⟨n, false, ⟨#[]⟩, 0, 0, ⟨#[]⟩⟩) ?_
      rintro r own2 (⟨h, _⟩ | ⟨_, rfl, rfl⟩)
      · simp at h; omega
      refine ⟨vcb true, [c78 (.row 6) (1 + p) false, none, none, none, rwC [], none, rwC [⟨n, false, ⟨#[]⟩, 0, 0, ⟨#[]⟩⟩]], rfl, rfl, ?_⟩
      conv => whnf
      refine call_frame2 [some 0, some 6] rfl rfl rfl rfl (drain_c [⟨n, false, ⟨#[]⟩, 0, 0, ⟨#[]⟩⟩] (by simp) (1 + p) false 0 ⟨#[]⟩) ?_
      rintro r own2 (⟨h, _⟩ | ⟨_, rfl, rfl⟩)
      · cases h
      refine ⟨.c (.row 6), [c78 nlC (1 + p) false, none, none, none, rwC [], none, rwC [⟨n, false, ⟨#[]⟩, 0, 0, ⟨#[]⟩⟩]], rfl, rfl, ?_⟩
      conv => whnf
      refine ⟨msR [⟨n, false, ⟨#[]⟩, 0, 0, ⟨#[]⟩⟩], fun j hj => ?_, ?_⟩
      · obtain rfl : j = 0 := by omega
        rfl
      conv => whnf
      refine ⟨fun j hj => rfl, ?_⟩
      conv => whnf
      refine ⟨fun j hj => rfl, ?_⟩
      conv => whnf
      refine call_pure (same_c [⟨n, false, ⟨#[]⟩, 0, 0, ⟨#[]⟩⟩] [⟨n, false, ⟨#[]⟩, 0, 0, ⟨#[]⟩⟩] (by simp) (by simp)) rfl ?_
      rintro _ (⟨_, rfl⟩ | ⟨h, _⟩)
      rotate_left
      · exact absurd rfl h
      conv => whnf
      all_goals first | rfl | exact ⟨rfl, rfl⟩
theorem subsOnce_law : ∀ avs, RdArgs tt 1048576 30 [3, 43, 3] avs → CallV Try.prog 6 avs [] (fun r own' => own' = [] ∧ r = vcb true) := by
  rintro avs ⟨a0, r0, ⟨c0, ⟨room, wr, e0⟩, rfl⟩, ⟨a1, r1, ⟨c1, ⟨n, f, hn, hf, e1⟩, rfl⟩, ⟨a2, r2, ⟨c2, ⟨v, wv, e2⟩, rfl⟩, rfl, rfl⟩, rfl⟩, rfl⟩
  cases e0
  cases e1
  cases e2
  have wr := wf_i64 wr
  obtain ⟨l, hl, hf2, _⟩ := list_of (R := fun _ => True) ms0 (fun k hk => rd_msg (hf k hk))
  refine callV_args (argsLe_same (argsLe_sl hl hf2 (argsLe_refl _))) ?_
  exact subsonce_c room wr.1 wr.2 l (by omega) v
end Go.Eng
