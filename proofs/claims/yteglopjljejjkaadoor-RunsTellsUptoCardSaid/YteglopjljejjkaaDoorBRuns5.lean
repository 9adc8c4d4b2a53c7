/- Items' runs. -/
import Derived.Test.YteglopjljejjkaaDoorBRuns4
set_option linter.unusedVariables false
set_option linter.unusedSimpArgs false
set_option maxRecDepth 100000
set_option maxHeartbeats 4000000
namespace Go.Eng
open Go Go.RowKit Go.Proofs
abbrev ruRow (l : List Ru) : Option Ob := some (.row 49 7 l.length fun k => ruF (l.getD k ru0))
def newR (x : It) : Ru := ⟨x.id, x.left, x.right, Utf8.encode x.ch⟩
def addT (acc : List Ru) (c : Int) : List Ru := acc.set (acc.length - 1) { acc.getD (acc.length - 1) ru0 with text := (acc.getD (acc.length - 1) ru0).text ++ Utf8.encode c }
def ofK (l : List It) : Nat → List Ru
  | 0 => []
  | k + 1 => if 0 < k ∧ onR (l.getD k it0) (l.getD (k - 1) it0) then addT (ofK l k) (l.getD k it0).ch else ofK l k ++ [newR (l.getD k it0)]
theorem enc_size (v : Int) : (Utf8.encode v).size ≤ 4 := by
  unfold Utf8.encode
  dsimp only
  generalize (if Utf8.valid v = true then v.toNat else Utf8.runeError) = c
  repeat' split
  all_goals exact Nat.le_of_ble_eq_true rfl
theorem ofK_len (l : List It) : ∀ k, (ofK l k).length ≤ k ∧ (0 < k → 0 < (ofK l k).length)
  | 0 => ⟨by simp [ofK], fun h => by omega⟩
  | k + 1 => by
    have ih := ofK_len l k
    unfold ofK
    split
    · rename_i h
      unfold addT
      rw [List.length_set]
      exact ⟨by omega, fun _ => ih.2 h.1⟩
    · rw [List.length_append, List.length_singleton]
      exact ⟨by omega, fun _ => by omega⟩
theorem getD_set {α : Type} (l : List α) (i j : Nat) (a d : α) : (l.set i a).getD j d = if i = j ∧ j < l.length then a else l.getD j d := by
  rw [List.getD_eq_getElem?_getD, List.getElem?_set, List.getD_eq_getElem?_getD]
  by_cases h : i = j
  · subst h
    by_cases h2 : i < l.length
    · simp [h2]
    · simp [h2, List.getElem?_eq_none (Nat.le_of_not_lt h2)]
  · simp [h]
theorem getD_append {α : Type} (l m : List α) (j : Nat) (d : α) : (l ++ m).getD j d = if j < l.length then l.getD j d else m.getD (j - l.length) d := by
  rw [List.getD_eq_getElem?_getD]
  split
  · rename_i h; rw [List.getElem?_append_left h, ← List.getD_eq_getElem?_getD]
  · rename_i h; rw [List.getElem?_append_right (by omega), ← List.getD_eq_getElem?_getD]
theorem ofK_size (l : List It) : ∀ k j, ((ofK l k).getD j ru0).text.size ≤ 4 * k
  | 0, j => by
    rw [show (ofK l 0).getD j ru0 = ru0 from by simp [ofK]]
    exact Nat.le_refl 0
  | k + 1, j => by
    have ih := ofK_size l k
    unfold ofK
    split
    · unfold addT
      rw [getD_set]
      split
      · show ((((ofK l k).getD ((ofK l k).length - 1) ru0).text) ++ Utf8.encode _).size ≤ _
        rw [ByteArray.size_append]
        have := ih ((ofK l k).length - 1)
        have := enc_size (l.getD k it0).ch
        omega
      · have := ih j; omega
    · rw [getD_append]
      split
      · have := ih j; omega
      · match j - (ofK l k).length with
        | 0 =>
          have := enc_size (l.getD k it0).ch
          show (Utf8.encode (l.getD k it0).ch).size ≤ _
          omega
        | q + 1 =>
          rw [show [newR (l.getD k it0)].getD (q + 1) ru0 = ru0 from by simp]
          exact Nat.zero_le _
theorem ofK_yes {l : List It} {k : Nat} {x : It} (hx : l.getD k it0 = x) (h0 : 0 < k) (h : onR x (l.getD (k - 1) it0)) : ofK l (k + 1) = addT (ofK l k) x.ch := by
  rw [ofK, hx, if_pos ⟨h0, h⟩]
theorem ofK_no {l : List It} {k : Nat} {x : It} (hx : l.getD k it0 = x) (h : ¬ (0 < k ∧ onR x (l.getD (k - 1) it0))) : ofK l (k + 1) = ofK l k ++ [newR x] := by
  rw [ofK, hx, if_neg h]
theorem addT_len (acc : List Ru) (c : Int) : (addT acc c).length = acc.length := by unfold addT; rw [List.length_set]
theorem addT_at (acc : List Ru) (c : Int) (j : Nat) (hj : j < acc.length) : ruF ((addT acc c).getD j ru0) = if j = acc.length - 1 then (ruF (acc.getD (acc.length - 1) ru0)).take 6 ++ [.v (.string ((acc.getD (acc.length - 1) ru0).text ++ Utf8.encode c))] ++ (ruF (acc.getD (acc.length - 1) ru0)).drop 7 else ruF (acc.getD j ru0) := by
  unfold addT
  rw [getD_set]
  by_cases h : j = acc.length - 1
  · rw [if_pos ⟨h.symm, hj⟩, if_pos h]
    rfl
  · rw [if_neg (fun q => h q.1.symm), if_neg h]
def ofI (l : List It) (n : Nat) (st : St) : Prop := ∃ (k : Nat), n = l.length - k ∧ k ≤ l.length ∧ st = ⟨52, 0, [(0, itS l), (3, .c (.row 0)), (6, itS l), (7, vci .i64 l.length), (8, vci .i64 (k : Int))], [ruRow (ofK l k)]⟩
theorem of_c (l : List It) (hl : l.length ≤ 1000) (hok : ∀ x, x ∈ l → itOk x) : CallV Tryd.prog 27 [itS l] [] (fun r own' => own' = [] ∧ r = ruS (ofK l l.length)) := by
  refine callV_pure Tryd.func27 rfl ttok ftok rfl rfl rfl (Nat.le_of_ble_eq_true rfl) ?_
  conv => whnf
  refine loopV ttok ftok (ofI l) ((nil_row 3 49 7 (fun k => ruF (([] : List Ru).getD k ru0)) rfl).trans (norm_weak [0, 3, 6, 7, 8] [some 0] rfl rfl)) ⟨0, rfl, Nat.zero_le _, rfl⟩ ?_
  rintro n st ⟨k, rfl, hk, rfl⟩
  have e1 : IntKind.i64.wrap ((k : Int) + 1) = ((k + 1 : Nat) : Int) := by rw [w_i64 (by omega) (by omega)]; omega
  have hlen := ofK_len l k
  conv => whnf
  refine onB_intro (fun h => ?_) (fun h => ?_)
  · have h := of_decide_eq_true h
    have hk2 : k < l.length := by omega
    conv => whnf
    refine ⟨⟨by omega, by omega⟩, ?_⟩
    conv => whnf
    simp only [ti_nat]
    obtain ⟨x, hx⟩ : ∃ x, l.getD k it0 = x := ⟨_, rfl⟩
    rw [hx]
    by_cases hk0 : 0 < k
    · have e2 : IntKind.i64.wrap ((k : Int) - 1) = ((k - 1 : Nat) : Int) := by rw [w_i64 (by omega) (by omega)]; omega
      refine drawV_sched (.rd 0 (.rd 1 (.rd 2 (.rd 3 (.rd 4 (.rd 5 (.rd 6 (.rd 7 (.rd 8 (.ef 9 (.rd 10 (.nil)))))))))))) [] mixed (by kernel_rfl) ttok ftok ?_
      conv => whnf
      rw [show decide ((k : Int) > 0) = true from decide_eq_true (by omega)]
      conv => whnf
      rw [e2]
      refine ⟨⟨by omega, by omega⟩, ?_⟩
      conv => whnf
      simp only [ti_nat]
      refine call_pure (on_c x (l.getD (k - 1) it0) (itOk_at hok (by omega))) rfl ?_
      rintro _ rfl
      by_cases hon : onR x (l.getD (k - 1) it0)
      · rw [decide_eq_true hon]
        conv => whnf
        have hpos := hlen.2 hk0
        have e3 : IntKind.i64.wrap (((ofK l k).length : Int) - 1) = (((ofK l k).length - 1 : Nat) : Int) := by rw [w_i64 (by omega) (by omega)]; omega
        have hsz := ofK_size l k ((ofK l k).length - 1)
        have hes := enc_size x.ch
        refine drawV_mix 11 mixed (by kernel_rfl) ttok ftok ?_
        conv => whnf
        rw [e3]
        refine ⟨⟨by omega, by omega⟩, ?_⟩
        conv => whnf
        simp only [ti_nat]
        refine ⟨by omega, ?_⟩
        conv => whnf
        refine ⟨⟨by omega, by omega⟩, ?_⟩
        conv => whnf
        simp only [ti_nat]
        refine ⟨fun j => ruF ((addT (ofK l k) x.ch).getD j ru0), fun j hj => addT_at _ _ j hj, ?_⟩
        conv => whnf
        rw [e1]
        refine ⟨l.length - (k + 1), _, by omega, norm_weak [0, 3, 6, 7, 8] [some 0] rfl rfl, k + 1, rfl, by omega, ?_⟩
        rw [ofK_yes hx hk0 hon]
        simp only [ruRow, addT_len]
        rfl
      · rw [decide_eq_false hon]
        conv => whnf
        refine ⟨fun _ => ruF (newR x), one_at _, ?_⟩
        conv => whnf
        refine ⟨⟨by omega, by simp only [show ti49.bytes = 40 from rfl]; omega⟩, ?_⟩
        conv => whnf
        refine app1 (enc := ruF) (d := ru0) (newR x) (fun k hk => rfl) rfl ?_
        conv => whnf
        rw [e1]
        refine ⟨l.length - (k + 1), _, by omega, norm_weak [0, 3, 6, 7, 8] [some 3] rfl rfl, k + 1, rfl, by omega, ?_⟩
        rw [ofK_no hx (fun h => hon h.2)]
        rfl
    · refine drawV_sched (.rd 0 (.rd 1 (.rd 2 (.rd 3 (.rd 4 (.rd 5 (.rd 6 (.rd 7 (.rd 8 (.ef 9 (.rd 10 (.nil)))))))))))) [] mixed (by kernel_rfl) ttok ftok ?_
      conv => whnf
      rw [show decide ((k : Int) > 0) = false from decide_eq_false (by omega)]
      conv => whnf
      refine ⟨fun _ => ruF (newR x), one_at _, ?_⟩
      conv => whnf
      refine ⟨⟨by omega, by simp only [show ti49.bytes = 40 from rfl]; omega⟩, ?_⟩
      conv => whnf
      refine app1 (enc := ruF) (d := ru0) (newR x) (fun k hk => rfl) rfl ?_
      conv => whnf
      rw [e1]
      refine ⟨l.length - (k + 1), _, by omega, norm_weak [0, 3, 6, 7, 8] [some 3] rfl rfl, k + 1, rfl, by omega, ?_⟩
      rw [ofK_no hx (fun h => hk0 h.1)]
      rfl
  · have h := of_decide_eq_false h
    obtain rfl : k = l.length := by omega
    conv => whnf
    refine ⟨fun j hj => rfl, ?_⟩
    conv => whnf
    try rfl
def rfI (l : List It) (n : Nat) (st : St) : Prop := ∃ (k : Nat), n = l.length - k ∧ k ≤ l.length ∧ st = ⟨71, 0, [(0, itS l), (3, .c (.row 0)), (4, vci .i64 (k : Int))], [ruRow (ofK l k)]⟩
theorem rof_c (l : List It) (hl : l.length ≤ 1000) (hok : ∀ x, x ∈ l → itOk x) : CallV Tryd.prog 28 [itS l] [] (fun r own' => own' = [] ∧ r = ruS (ofK l l.length)) := by
  refine callV_pure Tryd.func28 rfl ttok ftok rfl rfl rfl (Nat.le_of_ble_eq_true rfl) ?_
  conv => whnf
  refine loopV ttok ftok (rfI l) ((nil_row 3 49 7 (fun k => ruF (([] : List Ru).getD k ru0)) rfl).trans (norm_weak [0, 3, 4] [some 0] rfl rfl)) ⟨0, rfl, Nat.zero_le _, rfl⟩ ?_
  rintro n st ⟨k, rfl, hk, rfl⟩
  have e1 : IntKind.i64.wrap ((k : Int) + 1) = ((k + 1 : Nat) : Int) := by rw [w_i64 (by omega) (by omega)]; omega
  have hlen := ofK_len l k
  conv => whnf
  refine onB_intro (fun h => ?_) (fun h => ?_)
  · have h := of_decide_eq_true h
    have hk2 : k < l.length := by omega
    obtain ⟨x, hx⟩ : ∃ x, l.getD k it0 = x := ⟨_, rfl⟩
    conv => whnf
    by_cases hk0 : 0 < k
    · have e2 : IntKind.i64.wrap ((k : Int) - 1) = ((k - 1 : Nat) : Int) := by rw [w_i64 (by omega) (by omega)]; omega
      rw [show decide ((k : Int) > 0) = true from decide_eq_true (by omega)]
      conv => whnf
      refine drawV_sched (.rd 0 (.rd 1 (.rd 2 (.rd 3 (.rd 4 (.rd 5 (.rd 6 (.rd 7 (.rd 8 (.ef 9 (.rd 10 (.nil)))))))))))) [] mixed (by kernel_rfl) ttok ftok ?_
      conv => whnf
      refine ⟨⟨by omega, by omega⟩, ?_⟩
      conv => whnf
      rw [e2]
      refine ⟨⟨by omega, by omega⟩, ?_⟩
      conv => whnf
      simp only [ti_nat, hx]
      refine call_pure (ron_c x (l.getD (k - 1) it0) (itOk_at hok (by omega))) rfl ?_
      rintro _ rfl
      by_cases hon : onR x (l.getD (k - 1) it0)
      · rw [decide_eq_true hon]
        conv => whnf
        have hpos := hlen.2 hk0
        have e3 : IntKind.i64.wrap (((ofK l k).length : Int) - 1) = (((ofK l k).length - 1 : Nat) : Int) := by rw [w_i64 (by omega) (by omega)]; omega
        have hsz := ofK_size l k ((ofK l k).length - 1)
        have hes := enc_size x.ch
        refine drawV_mix 18 mixed (by kernel_rfl) ttok ftok ?_
        conv => whnf
        rw [e3]
        refine ⟨⟨by omega, by omega⟩, ?_⟩
        conv => whnf
        refine ⟨⟨by omega, by omega⟩, ?_⟩
        conv => whnf
        simp only [ti_nat, hx]
        refine ⟨by omega, ?_⟩
        conv => whnf
        refine ⟨⟨by omega, by omega⟩, ?_⟩
        conv => whnf
        simp only [ti_nat]
        refine ⟨fun j => ruF ((addT (ofK l k) x.ch).getD j ru0), fun j hj => addT_at _ _ j hj, ?_⟩
        conv => whnf
        rw [e1]
        refine ⟨l.length - (k + 1), _, by omega, norm_weak [0, 3, 4] [some 0] rfl rfl, k + 1, rfl, by omega, ?_⟩
        rw [ofK_yes hx hk0 hon]
        simp only [ruRow, addT_len]
        rfl
      · rw [decide_eq_false hon]
        conv => whnf
        refine drawV_sched (.rd 0 (.rd 1 (.rd 2 (.rd 3 (.rd 4 (.rd 5 (.rd 6 (.rd 7 (.rd 8 (.rd 9 (.rd 10 (.rd 11 (.rd 12 (.rd 13 (.rd 14 (.rd 15 (.rd 16 (.rd 17 (.rd 18 (.rd 19 (.rd 20 (.rd 21 (.rd 22 (.ef 23 (.ef 24 (.rd 25 (.nil))))))))))))))))))))))))))) [0, 1] mixed (by kernel_rfl) ttok ftok ?_
        conv => whnf
        refine ⟨⟨by omega, by omega⟩, ?_⟩
        conv => whnf
        refine ⟨⟨by omega, by omega⟩, ?_⟩
        conv => whnf
        refine ⟨⟨by omega, by omega⟩, ?_⟩
        conv => whnf
        refine ⟨⟨by omega, by omega⟩, ?_⟩
        conv => whnf
        simp only [ti_nat, hx]
        refine ⟨fun _ => ruF (newR x), one_at _, ?_⟩
        conv => whnf
        refine ⟨⟨by omega, by simp only [show ti49.bytes = 40 from rfl]; omega⟩, ?_⟩
        conv => whnf
        refine app1 (enc := ruF) (d := ru0) (newR x) (fun k hk => rfl) rfl ?_
        conv => whnf
        rw [e1]
        refine ⟨l.length - (k + 1), _, by omega, norm_weak [0, 3, 4] [some 2] rfl rfl, k + 1, rfl, by omega, ?_⟩
        rw [ofK_no hx (fun h => hon h.2)]
        rfl
    · rw [show decide ((k : Int) > 0) = false from decide_eq_false (by omega)]
      conv => whnf
      refine drawV_sched (.rd 0 (.rd 1 (.rd 2 (.rd 3 (.rd 4 (.rd 5 (.rd 6 (.rd 7 (.rd 8 (.rd 9 (.rd 10 (.rd 11 (.rd 12 (.rd 13 (.rd 14 (.rd 15 (.rd 16 (.rd 17 (.rd 18 (.rd 19 (.rd 20 (.rd 21 (.rd 22 (.ef 23 (.ef 24 (.rd 25 (.nil))))))))))))))))))))))))))) [0, 1] mixed (by kernel_rfl) ttok ftok ?_
      conv => whnf
      refine ⟨⟨by omega, by omega⟩, ?_⟩
      conv => whnf
      refine ⟨⟨by omega, by omega⟩, ?_⟩
      conv => whnf
      refine ⟨⟨by omega, by omega⟩, ?_⟩
      conv => whnf
      refine ⟨⟨by omega, by omega⟩, ?_⟩
      conv => whnf
      simp only [ti_nat, hx]
      refine ⟨fun _ => ruF (newR x), one_at _, ?_⟩
      conv => whnf
      refine ⟨⟨by omega, by simp only [show ti49.bytes = 40 from rfl]; omega⟩, ?_⟩
      conv => whnf
      refine app1 (enc := ruF) (d := ru0) (newR x) (fun k hk => rfl) rfl ?_
      conv => whnf
      rw [e1]
      refine ⟨l.length - (k + 1), _, by omega, norm_weak [0, 3, 4] [some 2] rfl rfl, k + 1, rfl, by omega, ?_⟩
      rw [ofK_no hx (fun h => hk0 h.1)]
      rfl
  · have h := of_decide_eq_false h
    obtain rfl : k = l.length := by omega
    conv => whnf
    refine ⟨fun j hj => rfl, ?_⟩
    conv => whnf
    try rfl
end Go.Eng
