/- The law RunsTells. -/
import Derived.Test.YteglopjljejjkaaDoorBRuns8
set_option linter.unusedVariables false
set_option linter.unusedSimpArgs false
set_option maxRecDepth 100000
set_option maxHeartbeats 4000000
namespace Go.Eng
open Go Go.RowKit Go.Proofs
def rtI (l : List Ru) (m : List It) (n : Nat) (st : St) : Prop := ∃ (k : Nat) (may : List Ru), n = l.length - k ∧ k ≤ l.length ∧ may.length ≤ k ∧ (∀ r, r ∈ may → (ruOk r ∧ mayR r = true) ∧ r.text.size ≤ 200) ∧
  st = ⟨74, 0, [(0, ruS l), (1, itS m), (5, vcb true), (6, .c (.row 0)), (7, vci .i64 (k : Int))], [ruRow may]⟩
theorem may_chars {r : Ru} (h : mayR r = true) : (charsF r.text).isSome = true := by
  unfold mayR at h
  split at h
  · cases h
  · rename_i l e; rw [e]; rfl
theorem rtells_c (l : List Ru) (hl : l.length ≤ 1048576) (hlok : ∀ x, x ∈ l → ruOk x) (m : List It) (hm : m.length ≤ 1048576) (hok : ∀ x, x ∈ m → itOk x) : CallV Tryd.prog 5 [ruS l, itS m] [] (fun r own' => own' = [] ∧ r = vcb true) := by
  refine callV_pure Tryd.func5 rfl ttok ftok rfl rfl rfl (Nat.le_of_ble_eq_true rfl) ?_
  conv => whnf
  refine call_pure (up_c) rfl ?_
  rintro _ rfl
  conv => whnf
  refine onB_intro (fun h => ?_) (fun h => ?_)
  · conv => whnf
    try rfl
  have h : l.length ≤ 40 ∧ m.length ≤ 100 := by
    simp [pickB, isLit] at h
    omega
  obtain ⟨h1, h2⟩ := h
  conv => whnf
  refine loopV ttok ftok (rtI l m) ((nil_row 6 49 7 (fun k => ruF (([] : List Ru).getD k ru0)) rfl).trans (norm_weak [0, 1, 5, 6, 7] [some 0] rfl rfl)) ⟨0, [], rfl, Nat.zero_le _, Nat.zero_le _, fun r hr => by simp at hr, rfl⟩ ?_
  rintro n st ⟨k, may, rfl, hk, hml, hmay, rfl⟩
  have e1 : IntKind.i64.wrap ((k : Int) + 1) = ((k + 1 : Nat) : Int) := by rw [w_i64 (by omega) (by omega)]; omega
  conv => whnf
  refine onB_intro (fun g => ?_) (fun g => ?_)
  · have g := of_decide_eq_true g
    have hk2 : k < l.length := by omega
    obtain ⟨r, hr⟩ : ∃ r, l.getD k ru0 = r := ⟨_, rfl⟩
    have hrok : ruOk r := by rw [← hr, List.getD_eq_getElem?_getD, List.getElem?_eq_getElem hk2]; exact hlok _ (List.getElem_mem hk2)
    have hsz := hrok.2.2.2
    conv => whnf
    refine ⟨⟨by omega, by omega⟩, ?_⟩
    conv => whnf
    simp only [ti_nat, hr]
    refine ⟨by omega, ?_⟩
    conv => whnf
    refine onB_intro (fun g2 => ?_) (fun g2 => ?_)
    · conv => whnf
      try rfl
    have g2 := of_decide_eq_false g2
    have hsz2 : r.text.size ≤ 200 := by omega
    clear g2
    conv => whnf
    refine ⟨⟨by omega, by omega⟩, ?_⟩
    conv => whnf
    simp only [ti_nat, hr]
    refine call_pure (mayrun_c r hrok) rfl ?_
    rintro _ rfl
    conv => whnf
    refine ⟨⟨by omega, by omega⟩, ?_⟩
    conv => whnf
    simp only [ti_nat, hr]
    refine call_pure (may_c r hrok) rfl ?_
    rintro _ rfl
    cases hmr : mayR r with
    | true =>
      conv => whnf
      refine ⟨⟨by omega, by omega⟩, ?_⟩
      conv => whnf
      simp only [ti_nat, hr]
      refine ⟨fun _ => ruF r, one_at _, ?_⟩
      conv => whnf
      refine ⟨⟨by omega, by simp only [show ti49.bytes = 40 from rfl]; omega⟩, ?_⟩
      conv => whnf
      refine app1 (enc := ruF) (d := ru0) r (fun k hk => rfl) rfl ?_
      conv => whnf
      rw [e1]
      refine ⟨l.length - (k + 1), _, by omega, norm_weak [0, 1, 5, 6, 7] [some 2] rfl rfl, k + 1, may ++ [r], rfl, by omega, by simp; omega, fun q hq => ?_, rfl⟩
      rcases List.mem_append.1 hq with hq | hq
      · exact hmay q hq
      · rw [List.mem_singleton.1 hq]; exact ⟨⟨hrok, hmr⟩, hsz2⟩
    | false =>
      conv => whnf
      rw [e1]
      exact ⟨l.length - (k + 1), _, by omega, norm_weak [0, 1, 5, 6, 7] [some 0] rfl rfl, k + 1, may, rfl, by omega, by omega, hmay, rfl⟩
  · conv => whnf
    refine call_pure (rising_c m (by omega) hok) rfl ?_
    rintro _ ⟨x, hx, hr, rfl⟩
    conv => whnf
    have hm2 : ∀ q, q ∈ may → ruOk q ∧ (charsF q.text).isSome = true := fun q hq => ⟨(hmay q hq).1.1, may_chars (hmay q hq).1.2⟩
    have hil : (itemsR may).length ≤ 40 * 200 := by
      have := itemsR_len 200 may (fun q hq => (hmay q hq).2)
      exact Nat.le_trans this (Nat.mul_le_mul_right _ (by omega))
    refine ⟨fun j hj => rfl, ?_⟩
    conv => whnf
    refine call_pure (items_c may (by omega) hm2) rfl ?_
    rintro _ rfl
    conv => whnf
    refine call_pure (ritems_c may (by omega) hm2) rfl ?_
    rintro _ rfl
    conv => whnf
    refine call_pure (sameit_c (itemsR may) (itemsR may) (by omega) (by omega)) rfl ?_
    rintro _ (⟨_, rfl⟩ | ⟨hne, _⟩)
    rotate_left
    · exact absurd rfl hne
    have hlen := (ofK_len x x.length).1
    conv => whnf
    refine call_pure (of_c x (by omega) hr.2) rfl ?_
    rintro _ rfl
    conv => whnf
    refine call_pure (rof_c x (by omega) hr.2) rfl ?_
    rintro _ rfl
    conv => whnf
    refine call_pure (samerun_c (ofK x x.length) (ofK x x.length) (by omega) (by omega)) rfl ?_
    rintro _ (⟨_, rfl⟩ | ⟨hne, _⟩)
    rotate_left
    · exact absurd rfl hne
    conv => whnf
    try rfl
theorem runsTells_law : ∀ avs, RdArgs tt 1048576 30 [44, 45] avs → CallV Tryd.prog 5 avs [] (fun r own' => own' = [] ∧ r = vcb true) := by
  rintro avs ⟨a0, r0, h0, ⟨a1, r1, h1, rfl, rfl⟩, rfl⟩
  obtain ⟨l, hlok, hl, hdl⟩ := rd_runs h0
  obtain ⟨m, hok, hm, hd⟩ := rd_items h1
  refine callV_args (argsLe_cons hdl (argsLe_cons hd (argsLe_refl _))) ?_
  exact rtells_c l hl hlok m hm hok
end Go.Eng
