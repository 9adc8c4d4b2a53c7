/- A part of the proof: what the functions of the program come to, told by a small reckoner of states. -/
import Derived.Test.YteglopjljejjkabDoorGBTyTBRuns4
import Derived.Laws.BitsAllLaws
/- Items' runs. -/
set_option linter.unusedVariables false
set_option linter.unusedSimpArgs false
set_option maxRecDepth 100000
set_option maxHeartbeats 4000000
namespace Go.Eng
open Go Go.RowKit Go.Proofs
abbrev ruRow (l : List Ru) : Option Ob := some (.row 49 7 l.length fun k => ruF (l.getD k ru0))
def newR (x : It) : Ru := ⟨x.id, x.left, x.right, Utf8.encode x.ch⟩
def addT (acc : List Ru) (c : Int) : List Ru := acc.set (acc.length - 1) { acc.getD (acc.length - 1) ru0 with text := (acc.getD (acc.length - 1) ru0).text ++ Utf8.encode c }
def ofK (l : List It) : Nat → List Ru
  | 0 => []
  | k + 1 => if 0 < k ∧ onR (l.getD k it0) (l.getD (k - 1) it0) then addT (ofK l k) (l.getD k it0).ch else ofK l k ++ [newR (l.getD k it0)]
theorem enc_size (v : Int) : (Utf8.encode v).size ≤ 4 := by
  unfold Utf8.encode
  dsimp only
  generalize (if Utf8.valid v = true then v.toNat else Utf8.runeError) = c
  repeat' split
  all_goals exact Nat.le_of_ble_eq_true rfl
theorem ofK_len (l : List It) : ∀ k, (ofK l k).length ≤ k ∧ (0 < k → 0 < (ofK l k).length)
  | 0 => ⟨by simp [ofK], fun h => by omega⟩
  | k + 1 => by
    have ih := ofK_len l k
    unfold ofK
    split
    · rename_i h
      unfold addT
      rw [List.length_set]
      exact ⟨by omega, fun _ => ih.2 h.1⟩
    · rw [List.length_append, List.length_singleton]
      exact ⟨by omega, fun _ => by omega⟩
theorem getD_set {α : Type} (l : List α) (i j : Nat) (a d : α) : (l.set i a).getD j d = if i = j ∧ j < l.length then a else l.getD j d := by
  rw [List.getD_eq_getElem?_getD, List.getElem?_set, List.getD_eq_getElem?_getD]
  by_cases h : i = j
  · subst h
    by_cases h2 : i < l.length
    · simp [h2]
    · simp [h2, List.getElem?_eq_none (Nat.le_of_not_lt h2)]
  · simp [h]
theorem getD_append {α : Type} (l m : List α) (j : Nat) (d : α) : (l ++ m).getD j d = if j < l.length then l.getD j d else m.getD (j - l.length) d := by
  rw [List.getD_eq_getElem?_getD]
  split
  · rename_i h; rw [List.getElem?_append_left h, ← List.getD_eq_getElem?_getD]
  · rename_i h; rw [List.getElem?_append_right (by omega), ← List.getD_eq_getElem?_getD]
theorem ofK_size (l : List It) : ∀ k j, ((ofK l k).getD j ru0).text.size ≤ 4 * k
  | 0, j => by
    rw [show (ofK l 0).getD j ru0 = ru0 from by simp [ofK]]
    exact Nat.le_refl 0
  | k + 1, j => by
    have ih := ofK_size l k
    unfold ofK
    split
    · unfold addT
      rw [getD_set]
      split
      · show ((((ofK l k).getD ((ofK l k).length - 1) ru0).text) ++ Utf8.encode _).size ≤ _
        rw [ByteArray.size_append]
        have := ih ((ofK l k).length - 1)
        have := enc_size (l.getD k it0).ch
        omega
      · have := ih j; omega
    · rw [getD_append]
      split
      · have := ih j; omega
      · match j - (ofK l k).length with
        | 0 =>
          have := enc_size (l.getD k it0).ch
          show (Utf8.encode (l.getD k it0).ch).size ≤ _
          omega
        | q + 1 =>
          rw [show [newR (l.getD k it0)].getD (q + 1) ru0 = ru0 from by simp]
          exact Nat.zero_le _
theorem ofK_yes {l : List It} {k : Nat} {x : It} (hx : l.getD k it0 = x) (h0 : 0 < k) (h : onR x (l.getD (k - 1) it0)) : ofK l (k + 1) = addT (ofK l k) x.ch := by
  rw [ofK, hx, if_pos ⟨h0, h⟩]
theorem ofK_no {l : List It} {k : Nat} {x : It} (hx : l.getD k it0 = x) (h : ¬ (0 < k ∧ onR x (l.getD (k - 1) it0))) : ofK l (k + 1) = ofK l k ++ [newR x] := by
  rw [ofK, hx, if_neg h]
theorem addT_len (acc : List Ru) (c : Int) : (addT acc c).length = acc.length := by unfold addT; rw [List.length_set]
theorem addT_at (acc : List Ru) (c : Int) (j : Nat) (hj : j < acc.length) : ruF ((addT acc c).getD j ru0) = if j = acc.length - 1 then (ruF (acc.getD (acc.length - 1) ru0)).take 6 ++ [.v (.string ((acc.getD (acc.length - 1) ru0).text ++ Utf8.encode c))] ++ (ruF (acc.getD (acc.length - 1) ru0)).drop 7 else ruF (acc.getD j ru0) := by
  unfold addT
  rw [getD_set]
  by_cases h : j = acc.length - 1
  · rw [if_pos ⟨h.symm, hj⟩, if_pos h]
    rfl
  · rw [if_neg (fun q => h q.1.symm), if_neg h]
def ofI (l : List It) (n : Nat) (st : St) : Prop := ∃ (k : Nat), n = l.length - k ∧ k ≤ l.length ∧ st = ⟨52, 0, [(0, itS l), (3, .c (.row 0)), (6, itS l), (7, vci .i64 l.length), (8, vci .i64 (k : Int))], [ruRow (ofK l k)]⟩
theorem of_c (l : List It) (hl : l.length ≤ 1000000) (hok : ∀ x, x ∈ l → itOk x) : CallV Tryd.prog 38 [itS l] [] (fun r own' => own' = [] ∧ r = ruS (ofK l l.length)) := by
  refine callV_pure Tryd.func38 rfl ttok ftok rfl rfl rfl (Nat.le_of_ble_eq_true rfl) ?_
  conv => whnf
  refine loopV ttok ftok (ofI l) ((nil_row 3 49 7 (fun k => ruF (([] : List Ru).getD k ru0)) rfl).trans (norm_weak [0, 3, 6, 7, 8] [some 0] rfl rfl)) ⟨0, rfl, Nat.zero_le _, rfl⟩ ?_
  rintro n st ⟨k, rfl, hk, rfl⟩
  have e1 : IntKind.i64.wrap ((k : Int) + 1) = ((k + 1 : Nat) : Int) := by rw [w_i64 (by omega) (by omega)]; omega
  have hlen := ofK_len l k
  conv => whnf
  refine onB_intro (fun h => ?_) (fun h => ?_)
  · have h := of_decide_eq_true h
    have hk2 : k < l.length := by omega
    conv => whnf
    refine ⟨⟨by omega, by omega⟩, ?_⟩
    conv => whnf
    simp only [ti_nat]
    obtain ⟨x, hx⟩ : ∃ x, l.getD k it0 = x := ⟨_, rfl⟩
    rw [hx]
    by_cases hk0 : 0 < k
    · have e2 : IntKind.i64.wrap ((k : Int) - 1) = ((k - 1 : Nat) : Int) := by rw [w_i64 (by omega) (by omega)]; omega
      refine drawV_sched (.rd 0 (.rd 1 (.rd 2 (.rd 3 (.rd 4 (.rd 5 (.rd 6 (.rd 7 (.rd 8 (.ef 9 (.rd 10 (.nil)))))))))))) [] mixed (by kernel_rfl) ttok ftok ?_
      conv => whnf
      rw [show decide ((k : Int) > 0) = true from decide_eq_true (by omega)]
      conv => whnf
      rw [e2]
      refine ⟨⟨by omega, by omega⟩, ?_⟩
      conv => whnf
      simp only [ti_nat]
      refine call_pure (on_c x (l.getD (k - 1) it0) (itOk_at hok (by omega))) rfl ?_
      rintro _ rfl
      by_cases hon : onR x (l.getD (k - 1) it0)
      · rw [decide_eq_true hon]
        conv => whnf
        have hpos := hlen.2 hk0
        have e3 : IntKind.i64.wrap (((ofK l k).length : Int) - 1) = (((ofK l k).length - 1 : Nat) : Int) := by rw [w_i64 (by omega) (by omega)]; omega
        have hsz := ofK_size l k ((ofK l k).length - 1)
        have hes := enc_size x.ch
        refine drawV_mix 11 mixed (by kernel_rfl) ttok ftok ?_
        conv => whnf
        rw [e3]
        refine ⟨⟨by omega, by omega⟩, ?_⟩
        conv => whnf
        simp only [ti_nat]
        refine ⟨by omega, ?_⟩
        conv => whnf
        refine ⟨⟨by omega, by omega⟩, ?_⟩
        conv => whnf
        simp only [ti_nat]
        refine ⟨fun j => ruF ((addT (ofK l k) x.ch).getD j ru0), fun j hj => addT_at _ _ j hj, ?_⟩
        conv => whnf
        rw [e1]
        refine ⟨l.length - (k + 1), _, by omega, norm_weak [0, 3, 6, 7, 8] [some 0] rfl rfl, k + 1, rfl, by omega, ?_⟩
        rw [ofK_yes hx hk0 hon]
        simp only [ruRow, addT_len]
        rfl
      · rw [decide_eq_false hon]
        conv => whnf
        refine ⟨fun _ => ruF (newR x), one_at _, ?_⟩
        conv => whnf
        refine ⟨⟨by omega, by simp only [show ti49.bytes = 40 from rfl]; omega⟩, ?_⟩
        conv => whnf
        refine app1 (enc := ruF) (d := ru0) (newR x) (fun k hk => rfl) rfl ?_
        conv => whnf
        rw [e1]
        refine ⟨l.length - (k + 1), _, by omega, norm_weak [0, 3, 6, 7, 8] [some 3] rfl rfl, k + 1, rfl, by omega, ?_⟩
        rw [ofK_no hx (fun h => hon h.2)]
        rfl
    · refine drawV_sched (.rd 0 (.rd 1 (.rd 2 (.rd 3 (.rd 4 (.rd 5 (.rd 6 (.rd 7 (.rd 8 (.ef 9 (.rd 10 (.nil)))))))))))) [] mixed (by kernel_rfl) ttok ftok ?_
      conv => whnf
      rw [show decide ((k : Int) > 0) = false from decide_eq_false (by omega)]
      conv => whnf
      refine ⟨fun _ => ruF (newR x), one_at _, ?_⟩
      conv => whnf
      refine ⟨⟨by omega, by simp only [show ti49.bytes = 40 from rfl]; omega⟩, ?_⟩
      conv => whnf
      refine app1 (enc := ruF) (d := ru0) (newR x) (fun k hk => rfl) rfl ?_
      conv => whnf
      rw [e1]
      refine ⟨l.length - (k + 1), _, by omega, norm_weak [0, 3, 6, 7, 8] [some 3] rfl rfl, k + 1, rfl, by omega, ?_⟩
      rw [ofK_no hx (fun h => hk0 h.1)]
      rfl
  · have h := of_decide_eq_false h
    obtain rfl : k = l.length := by omega
    conv => whnf
    refine ⟨fun j hj => rfl, ?_⟩
    conv => whnf
    try rfl
def rfI (l : List It) (n : Nat) (st : St) : Prop := ∃ (k : Nat), n = l.length - k ∧ k ≤ l.length ∧ st = ⟨71, 0, [(0, itS l), (3, .c (.row 0)), (4, vci .i64 (k : Int))], [ruRow (ofK l k)]⟩
theorem rof_c (l : List It) (hl : l.length ≤ 1000000) (hok : ∀ x, x ∈ l → itOk x) : CallV Tryd.prog 20 [itS l] [] (fun r own' => own' = [] ∧ r = ruS (ofK l l.length)) := by
  refine callV_pure Tryd.func20 rfl ttok ftok rfl rfl rfl (Nat.le_of_ble_eq_true rfl) ?_
  conv => whnf
  refine loopV ttok ftok (rfI l) ((nil_row 3 49 7 (fun k => ruF (([] : List Ru).getD k ru0)) rfl).trans (norm_weak [0, 3, 4] [some 0] rfl rfl)) ⟨0, rfl, Nat.zero_le _, rfl⟩ ?_
  rintro n st ⟨k, rfl, hk, rfl⟩
  have e1 : IntKind.i64.wrap ((k : Int) + 1) = ((k + 1 : Nat) : Int) := by rw [w_i64 (by omega) (by omega)]; omega
  have hlen := ofK_len l k
  conv => whnf
  refine onB_intro (fun h => ?_) (fun h => ?_)
  · have h := of_decide_eq_true h
    have hk2 : k < l.length := by omega
    obtain ⟨x, hx⟩ : ∃ x, l.getD k it0 = x := ⟨_, rfl⟩
    conv => whnf
    by_cases hk0 : 0 < k
    · have e2 : IntKind.i64.wrap ((k : Int) - 1) = ((k - 1 : Nat) : Int) := by rw [w_i64 (by omega) (by omega)]; omega
      rw [show decide ((k : Int) > 0) = true from decide_eq_true (by omega)]
      conv => whnf
      refine drawV_sched (.rd 0 (.rd 1 (.rd 2 (.rd 3 (.rd 4 (.rd 5 (.rd 6 (.rd 7 (.rd 8 (.ef 9 (.rd 10 (.nil)))))))))))) [] mixed (by kernel_rfl) ttok ftok ?_
      conv => whnf
      refine ⟨⟨by omega, by omega⟩, ?_⟩
      conv => whnf
      rw [e2]
      refine ⟨⟨by omega, by omega⟩, ?_⟩
      conv => whnf
      simp only [ti_nat, hx]
      refine call_pure (ron_c x (l.getD (k - 1) it0) (itOk_at hok (by omega))) rfl ?_
      rintro _ rfl
      by_cases hon : onR x (l.getD (k - 1) it0)
      · rw [decide_eq_true hon]
        conv => whnf
        have hpos := hlen.2 hk0
        have e3 : IntKind.i64.wrap (((ofK l k).length : Int) - 1) = (((ofK l k).length - 1 : Nat) : Int) := by rw [w_i64 (by omega) (by omega)]; omega
        have hsz := ofK_size l k ((ofK l k).length - 1)
        have hes := enc_size x.ch
        refine drawV_mix 18 mixed (by kernel_rfl) ttok ftok ?_
        conv => whnf
        rw [e3]
        refine ⟨⟨by omega, by omega⟩, ?_⟩
        conv => whnf
        refine ⟨⟨by omega, by omega⟩, ?_⟩
        conv => whnf
        simp only [ti_nat, hx]
        refine ⟨by omega, ?_⟩
        conv => whnf
        refine ⟨⟨by omega, by omega⟩, ?_⟩
        conv => whnf
        simp only [ti_nat]
        refine ⟨fun j => ruF ((addT (ofK l k) x.ch).getD j ru0), fun j hj => addT_at _ _ j hj, ?_⟩
        conv => whnf
        rw [e1]
        refine ⟨l.length - (k + 1), _, by omega, norm_weak [0, 3, 4] [some 0] rfl rfl, k + 1, rfl, by omega, ?_⟩
        rw [ofK_yes hx hk0 hon]
        simp only [ruRow, addT_len]
        rfl
      · rw [decide_eq_false hon]
        conv => whnf
        refine drawV_sched (.rd 0 (.rd 1 (.rd 2 (.rd 3 (.rd 4 (.rd 5 (.rd 6 (.rd 7 (.rd 8 (.rd 9 (.rd 10 (.rd 11 (.rd 12 (.rd 13 (.rd 14 (.rd 15 (.rd 16 (.rd 17 (.rd 18 (.rd 19 (.rd 20 (.rd 21 (.rd 22 (.ef 23 (.ef 24 (.rd 25 (.nil))))))))))))))))))))))))))) [0, 1] mixed (by kernel_rfl) ttok ftok ?_
        conv => whnf
        refine ⟨⟨by omega, by omega⟩, ?_⟩
        conv => whnf
        refine ⟨⟨by omega, by omega⟩, ?_⟩
        conv => whnf
        refine ⟨⟨by omega, by omega⟩, ?_⟩
        conv => whnf
        refine ⟨⟨by omega, by omega⟩, ?_⟩
        conv => whnf
        simp only [ti_nat, hx]
        refine ⟨fun _ => ruF (newR x), one_at _, ?_⟩
        conv => whnf
        refine ⟨⟨by omega, by simp only [show ti49.bytes = 40 from rfl]; omega⟩, ?_⟩
        conv => whnf
        refine app1 (enc := ruF) (d := ru0) (newR x) (fun k hk => rfl) rfl ?_
        conv => whnf
        rw [e1]
        refine ⟨l.length - (k + 1), _, by omega, norm_weak [0, 3, 4] [some 2] rfl rfl, k + 1, rfl, by omega, ?_⟩
        rw [ofK_no hx (fun h => hon h.2)]
        rfl
    · rw [show decide ((k : Int) > 0) = false from decide_eq_false (by omega)]
      conv => whnf
      refine drawV_sched (.rd 0 (.rd 1 (.rd 2 (.rd 3 (.rd 4 (.rd 5 (.rd 6 (.rd 7 (.rd 8 (.rd 9 (.rd 10 (.rd 11 (.rd 12 (.rd 13 (.rd 14 (.rd 15 (.rd 16 (.rd 17 (.rd 18 (.rd 19 (.rd 20 (.rd 21 (.rd 22 (.ef 23 (.ef 24 (.rd 25 (.nil))))))))))))))))))))))))))) [0, 1] mixed (by kernel_rfl) ttok ftok ?_
      conv => whnf
      refine ⟨⟨by omega, by omega⟩, ?_⟩
      conv => whnf
      refine ⟨⟨by omega, by omega⟩, ?_⟩
      conv => whnf
      refine ⟨⟨by omega, by omega⟩, ?_⟩
      conv => whnf
      refine ⟨⟨by omega, by omega⟩, ?_⟩
      conv => whnf
      simp only [ti_nat, hx]
      refine ⟨fun _ => ruF (newR x), one_at _, ?_⟩
      conv => whnf
      refine ⟨⟨by omega, by simp only [show ti49.bytes = 40 from rfl]; omega⟩, ?_⟩
      conv => whnf
      refine app1 (enc := ruF) (d := ru0) (newR x) (fun k hk => rfl) rfl ?_
      conv => whnf
      rw [e1]
      refine ⟨l.length - (k + 1), _, by omega, norm_weak [0, 3, 4] [some 2] rfl rfl, k + 1, rfl, by omega, ?_⟩
      rw [ofK_no hx (fun h => hk0 h.1)]
      rfl
  · have h := of_decide_eq_false h
    obtain rfl : k = l.length := by omega
    conv => whnf
    refine ⟨fun j hj => rfl, ?_⟩
    conv => whnf
    try rfl
end Go.Eng
/- Items' runs' items are these items: the mathematics. -/
set_option linter.unusedVariables false
set_option linter.unusedSimpArgs false
namespace Go.Eng
open Go Go.RowKit
def okRun (r : Ru) (cs : List Int) : Prop := r.text = runesBytes cs ∧ vals cs ∧ 0 < cs.length ∧ u32P r.id ∧ u32P r.left ∧ u32P r.right ∧ r.id.1 ≠ 0 ∧ r.id.2 + cs.length - 1 ≤ lastC
theorem rb_one (c : Int) : runesBytes [c] = Utf8.encode c := by
  unfold runesBytes
  rw [List.foldl_cons, List.foldl_nil]
  apply ba_ext
  simp
theorem okRun_chars {r : Ru} {cs : List Int} (h : okRun r cs) : charsF r.text = some cs := by rw [h.1]; exact bytes_charsF h.2.1
theorem okRun_chOf {r : Ru} {cs : List Int} (h : okRun r cs) : chOf r = cs := by unfold chOf; rw [okRun_chars h]; rfl
theorem okRun_may {r : Ru} {cs : List Int} (h : okRun r cs) : mayR r = true := by
  rw [mayR_some (okRun_chars h)]
  exact decide_eq_true ⟨h.2.2.1, h.2.2.2.2.2.2.1, h.2.2.2.2.2.2.2⟩
theorem addT_snoc (acc : List Ru) (r : Ru) (c : Int) : addT (acc ++ [r]) c = acc ++ [{ r with text := r.text ++ Utf8.encode c }] := by
  unfold addT
  have e : (acc ++ [r]).length - 1 = acc.length := by simp
  have g : (acc ++ [r]).getD acc.length ru0 = r := by rw [getD_append, if_neg (by omega), Nat.sub_self]; rfl
  rw [e, g, List.set_append_right _ _ (Nat.le_refl _), Nat.sub_self]
  rfl
theorem itsR_of {r : Ru} {cs : List Int} (h : okRun r cs) : itsR r = (List.range cs.length).map (itAt r cs) := by unfold itsR; rw [okRun_chOf h]
theorem itemsR_app (a b : List Ru) : itemsR (a ++ b) = itemsR a ++ itemsR b := by unfold itemsR; rw [List.flatMap_append]
theorem itemsR_one (r : Ru) : itemsR [r] = itsR r := by unfold itemsR; simp
theorem of_inv (x : List It) (hx : (∀ j, j < x.length → goodIt (x.getD j it0)) ∧ ∀ j, j < x.length → itOk (x.getD j it0)) : ∀ k, k ≤ x.length → itemsR (ofK x k) = x.take k ∧ (∀ r, r ∈ ofK x k → ∃ cs, okRun r cs) ∧
    (0 < k → ∃ acc r cs, ofK x k = acc ++ [r] ∧ okRun r cs ∧ (x.getD (k - 1) it0).id = (r.id.1, r.id.2 + cs.length - 1) ∧ (x.getD (k - 1) it0).right = r.right)
  | 0, _ => ⟨by simp [ofK, itemsR], fun r hr => by simp [ofK] at hr, fun h => by omega⟩
  | k + 1, hk => by
    obtain ⟨h1, h2, h3⟩ := of_inv x hx k (by omega)
    obtain ⟨y, hy⟩ : ∃ y, x.getD k it0 = y := ⟨_, rfl⟩
    have hg : goodIt y := hy ▸ hx.1 k (by omega)
    have ho : itOk y := hy ▸ hx.2 k (by omega)
    have ht : x.take (k + 1) = x.take k ++ [y] := by rw [take_snoc (d := it0) (by omega), hy]
    by_cases hc : 0 < k ∧ onR y (x.getD (k - 1) it0)
    · obtain ⟨acc, r, cs, e1, e2, e3, e4⟩ := h3 hc.1
      rw [ofK_yes hy hc.1 hc.2, e1, addT_snoc]
      obtain ⟨o1, o2, o3, o4⟩ := hc.2
      rw [e3] at o1 o2 o3
      rw [e4] at o4
      have hb : r.id.2 + cs.length ≤ lastC := by
        unfold aftC at o1
        split at o1
        · cases o1
        · split at o1
          · cases o1
          · rename_i q; simp only at q; omega
      have hr' : okRun { r with text := r.text ++ Utf8.encode y.ch } (cs ++ [y.ch]) := by
        refine ⟨?_, vals_append e2.2.1 (fun v hv => ?_), by simp, e2.2.2.2.1, e2.2.2.2.2.1, e2.2.2.2.2.2.1, e2.2.2.2.2.2.2.1, ?_⟩
        · show r.text ++ Utf8.encode y.ch = _
          rw [rb_append, rb_one, e2.1]
        · rw [List.mem_singleton.1 hv]; exact hg.1
        · show r.id.2 + ((cs ++ [y.ch]).length : Nat) - 1 ≤ lastC
          rw [List.length_append, List.length_singleton]
          omega
      have hid := e2.2.2.2.1
      have hitem : itAt { r with text := r.text ++ Utf8.encode y.ch } (cs ++ [y.ch]) cs.length = y := by
        have hn := e2.2.2.1
        unfold lastC at hb
        refine it_ext ?_ ?_ ?_ ?_ ?_ ?_ ?_
        · show r.id.1 = y.id.1
          rw [o2]
        · show clk r.id.2 cs.length = y.id.2
          rw [o2]
          show clk r.id.2 cs.length = r.id.2 + cs.length - 1 + 1
          unfold clk
          have := hid.2
          omega
        · show (leftAt _ cs.length).1 = _
          unfold leftAt
          rw [if_neg (by omega), o3]
        · show (leftAt _ cs.length).2 = _
          unfold leftAt
          rw [if_neg (by omega), o3]
          show clk r.id.2 (cs.length - 1) = r.id.2 + cs.length - 1
          unfold clk
          have := hid.2
          omega
        · show r.right.1 = _
          rw [o4]
        · show r.right.2 = _
          rw [o4]
        · show (cs ++ [y.ch]).getD cs.length 0 = y.ch
          rw [getD_append, if_neg (by omega), Nat.sub_self]
          rfl
      refine ⟨?_, fun q hq => ?_, fun _ => ⟨acc, _, cs ++ [y.ch], rfl, hr', ?_, ?_⟩⟩
      · rw [e1, itemsR_app, itemsR_one, itsR_of e2] at h1
        rw [itemsR_app, itemsR_one, itsR_of hr', ht, ← h1, List.length_append, List.length_singleton, List.range_succ, List.map_append, List.append_assoc]
        congr 1
        rw [List.map_cons, List.map_nil, hitem]
        congr 1
        refine List.map_congr_left (fun j hj => ?_)
        have hj := List.mem_range.1 hj
        unfold itAt
        rw [getD_append, if_pos hj]
        rfl
      · rcases List.mem_append.1 hq with hq | hq
        · exact h2 q (by rw [e1]; exact List.mem_append_left _ hq)
        · rw [List.mem_singleton.1 hq]; exact ⟨_, hr'⟩
      · rw [Nat.add_sub_cancel, hy, o2, List.length_append, List.length_singleton]
        show (r.id.1, r.id.2 + (cs.length : Int) - 1 + 1) = (r.id.1, r.id.2 + ((cs.length + 1 : Nat) : Int) - 1)
        congr 1
        omega
      · rw [Nat.add_sub_cancel, hy, o4]
    · rw [ofK_no hy hc]
      have hid := ho.1
      have hr' : okRun (newR y) [y.ch] := by
        refine ⟨(rb_one y.ch).symm, fun v hv => by rw [List.mem_singleton.1 hv]; exact hg.1, by simp, ho.1, ho.2.1, ho.2.2, hg.2.1, ?_⟩
        show y.id.2 + ((([y.ch] : List Int).length : Nat) : Int) - 1 ≤ lastC
        have := hg.2.2
        simp
        omega
      refine ⟨?_, fun q hq => ?_, fun _ => ⟨ofK x k, newR y, [y.ch], rfl, hr', ?_, ?_⟩⟩
      · rw [itemsR_app, itemsR_one, itsR_of hr', h1, ht]
        congr 1
        have : itAt (newR y) [y.ch] 0 = y := by
          refine it_ext rfl ?_ rfl rfl rfl rfl rfl
          show clk y.id.2 0 = y.id.2
          exact clk_0 hid.2
        show [itAt (newR y) [y.ch] 0] = [y]
        rw [this]
      · rcases List.mem_append.1 hq with hq | hq
        · exact h2 q hq
        · rw [List.mem_singleton.1 hq]; exact ⟨_, hr'⟩
      · rw [Nat.add_sub_cancel, hy]
        show y.id = (y.id.1, y.id.2 + (1 : Nat) - 1)
        refine Prod.ext rfl ?_
        show y.id.2 = y.id.2 + (1 : Nat) - 1
        omega
      · rw [Nat.add_sub_cancel, hy]
        rfl
end Go.Eng
/- Spans: which lists of spans are sets. -/
set_option linter.unusedVariables false
set_option linter.unusedSimpArgs false
set_option maxRecDepth 100000
set_option maxHeartbeats 4000000
namespace Go.Eng
open Go Go.RowKit Go.Proofs
structure Sp where
  cl : Int
  fr : Int
  tz : Int
def sp0 : Sp := ⟨0, 0, 0⟩
abbrev spF (s : Sp) : List IC := [vu s.cl, vu s.fr, vu s.tz]
abbrev spS (l : List Sp) : AV := .c (.sl 3 l.length fun k => spF (l.getD k sp0))
def spOk (s : Sp) : Prop := (0 ≤ s.cl ∧ s.cl ≤ 4294967295) ∧ (0 ≤ s.fr ∧ s.fr ≤ 4294967295) ∧ 0 ≤ s.tz ∧ s.tz ≤ 4294967295
def okAt (l : List Sp) (k : Nat) : Prop := ¬ ((l.getD k sp0).cl = 0 ∨ (l.getD k sp0).tz ≤ (l.getD k sp0).fr) ∧
  (0 < k → ¬ ((l.getD k sp0).cl < (l.getD (k - 1) sp0).cl ∨ (l.getD k sp0).cl = (l.getD (k - 1) sp0).cl ∧ (l.getD k sp0).fr ≤ (l.getD (k - 1) sp0).tz))
def mayS (l : List Sp) : Prop := ∀ k, k < l.length → okAt l k
def msI (l : List Sp) (n : Nat) (st : St) : Prop := ∃ k : Nat, n = l.length - k ∧ k ≤ l.length ∧ (∀ j, j < k → okAt l j) ∧ st = ⟨71, 0, [(0, spS l), (3, vci .i64 (k : Int))], []⟩
theorem mayset_c (l : List Sp) (hl : l.length ≤ 1000000000) : CallV Tryd.prog 17 [spS l] [] (fun r own' => own' = [] ∧ ∃ b : Bool, (b = true ↔ mayS l) ∧ r = vcb b) := by
  refine callV_pure Tryd.func17 rfl ttok ftok rfl rfl rfl (Nat.le_of_ble_eq_true rfl) ?_
  conv => whnf
  refine loopV ttok ftok (msI l) (env_weak [0, 3] rfl) ⟨0, rfl, Nat.zero_le _, fun j hj => by omega, rfl⟩ ?_
  rintro n st ⟨k, rfl, hk, hj, rfl⟩
  have e1 : IntKind.i64.wrap ((k : Int) + 1) = ((k + 1 : Nat) : Int) := by rw [w_i64 (by omega) (by omega)]; omega
  conv => whnf
  refine onB_intro (fun h => ?_) (fun h => ?_)
  · have h := of_decide_eq_true h
    have hk2 : k < l.length := by omega
    have next : okAt l k → ∀ j, j < k + 1 → okAt l j := fun h j h2 => by
      rcases Nat.lt_succ_iff_lt_or_eq.1 h2 with h3 | rfl
      · exact hj j h3
      · exact h
    conv => whnf
    refine drawV_join mixed (by kernel_rfl) ttok ?_
    conv => whnf
    refine ⟨by omega, ?_⟩
    conv => whnf
    refine ⟨?_, ?_⟩
    · conv => whnf
      intro g1
      conv => whnf
      omega
    conv => whnf
    refine ⟨?_, ?_⟩
    · conv => whnf
      intro g1
      conv => whnf
      omega
    conv => whnf
    simp only [ti_nat]
    refine onB_intro (fun g => ?_) (fun g => ?_)
    · have hb : (l.getD k sp0).cl = 0 ∨ (l.getD k sp0).tz ≤ (l.getD k sp0).fr := by
        simp [pickB, isLit, - List.getD_eq_getElem?_getD] at g
        exact g
      conv => whnf
      exact ⟨false, ⟨fun e => (nomatch e), fun e => absurd hb (e k hk2).1⟩, rfl⟩
    have hb : ¬ ((l.getD k sp0).cl = 0 ∨ (l.getD k sp0).tz ≤ (l.getD k sp0).fr) := by
      simp [pickB, isLit, - List.getD_eq_getElem?_getD] at g
      omega
    clear g
    conv => whnf
    by_cases hk0 : k = 0
    · subst hk0
      conv => whnf
      rw [e1]
      exact ⟨l.length - (0 + 1), _, by omega, env_weak [0, 3] rfl, 0 + 1, rfl, by omega, next ⟨hb, fun h => absurd h (by omega)⟩, rfl⟩
    rw [show (((k : Nat) : Int) == 0) = false from beq_eq_false_iff_ne.2 (by omega)]
    have e2 : IntKind.i64.wrap ((k : Int) - 1) = ((k - 1 : Nat) : Int) := by rw [w_i64 (by omega) (by omega)]; omega
    conv => whnf
    refine drawV_join mixed (by kernel_rfl) ttok ?_
    conv => whnf
    refine ⟨by omega, ?_⟩
    conv => whnf
    rw [e2]
    refine ⟨by omega, ?_⟩
    conv => whnf
    refine ⟨?_, ?_⟩
    · conv => whnf
      intro g1
      conv => whnf
      (try rw [e2])
      omega
    conv => whnf
    refine ⟨?_, ?_⟩
    · conv => whnf
      intro g1
      conv => whnf
      (try rw [e2])
      omega
    conv => whnf
    refine ⟨?_, ?_⟩
    · conv => whnf
      intro g1
      conv => whnf
      intro g2
      conv => whnf
      (try rw [e2])
      omega
    conv => whnf
    refine ⟨?_, ?_⟩
    · conv => whnf
      intro g1
      conv => whnf
      intro g2
      conv => whnf
      (try rw [e2])
      omega
    conv => whnf
    simp only [ti_nat, e2]
    refine onB_intro (fun g => ?_) (fun g => ?_)
    · have hb2 : (l.getD k sp0).cl < (l.getD (k - 1) sp0).cl ∨ (l.getD k sp0).cl = (l.getD (k - 1) sp0).cl ∧ (l.getD k sp0).fr ≤ (l.getD (k - 1) sp0).tz := by
        simp [pickB, isLit, - List.getD_eq_getElem?_getD] at g
        exact g
      conv => whnf
      exact ⟨false, ⟨fun e => (nomatch e), fun e => absurd hb2 ((e k hk2).2 (by omega))⟩, rfl⟩
    · have hb2 : ¬ ((l.getD k sp0).cl < (l.getD (k - 1) sp0).cl ∨ (l.getD k sp0).cl = (l.getD (k - 1) sp0).cl ∧ (l.getD k sp0).fr ≤ (l.getD (k - 1) sp0).tz) := by
        simp [pickB, isLit, - List.getD_eq_getElem?_getD] at g
        omega
      conv => whnf
      rw [e1]
      exact ⟨l.length - (k + 1), _, by omega, env_weak [0, 3] rfl, k + 1, rfl, by omega, next ⟨hb, fun _ => hb2⟩, rfl⟩
  · have h := of_decide_eq_false h
    conv => whnf
    exact ⟨true, ⟨fun _ j h2 => hj j (by omega), fun _ => rfl⟩, rfl⟩
def rsI (l : List Sp) (n : Nat) (st : St) : Prop := ∃ k : Nat, n = l.length - k ∧ k ≤ l.length ∧ (∀ j, j < k → okAt l j) ∧ st = ⟨58, 0, [(0, spS l), (5, spS l), (6, vci .i64 l.length), (7, vci .i64 (k : Int))], []⟩
theorem rmay_c (l : List Sp) (hl : l.length ≤ 1000000000) : CallV Tryd.prog 32 [spS l] [] (fun r own' => own' = [] ∧ ∃ b : Bool, (b = true ↔ mayS l) ∧ r = vcb b) := by
  refine callV_pure Tryd.func32 rfl ttok ftok rfl rfl rfl (Nat.le_of_ble_eq_true rfl) ?_
  conv => whnf
  refine loopV ttok ftok (rsI l) (env_weak [0, 5, 6, 7] rfl) ⟨0, rfl, Nat.zero_le _, fun j hj => by omega, rfl⟩ ?_
  rintro n st ⟨k, rfl, hk, hj, rfl⟩
  have e1 : IntKind.i64.wrap ((k : Int) + 1) = ((k + 1 : Nat) : Int) := by rw [w_i64 (by omega) (by omega)]; omega
  conv => whnf
  refine onB_intro (fun h => ?_) (fun h => ?_)
  · have h := of_decide_eq_true h
    have hk2 : k < l.length := by omega
    have next : okAt l k → ∀ j, j < k + 1 → okAt l j := fun h j h2 => by
      rcases Nat.lt_succ_iff_lt_or_eq.1 h2 with h3 | rfl
      · exact hj j h3
      · exact h
    conv => whnf
    refine ⟨by omega, ?_⟩
    conv => whnf
    simp only [ti_nat]
    refine onB_intro (fun g => ?_) (fun g => ?_)
    · have hb : (l.getD k sp0).cl = 0 ∨ (l.getD k sp0).tz ≤ (l.getD k sp0).fr := by
        simp [pickB, isLit, - List.getD_eq_getElem?_getD] at g
        exact g
      conv => whnf
      exact ⟨false, ⟨fun e => (nomatch e), fun e => absurd hb (e k hk2).1⟩, rfl⟩
    have hb : ¬ ((l.getD k sp0).cl = 0 ∨ (l.getD k sp0).tz ≤ (l.getD k sp0).fr) := by
      simp [pickB, isLit, - List.getD_eq_getElem?_getD] at g
      omega
    clear g
    conv => whnf
    refine drawV_join mixed (by kernel_rfl) ttok ?_
    conv => whnf
    have e2 : 0 < k → IntKind.i64.wrap ((k : Int) - 1) = ((k - 1 : Nat) : Int) := fun h0 => by rw [w_i64 (by omega) (by omega)]; omega
    refine ⟨?_, ?_⟩
    · conv => whnf
      intro g1
      conv => whnf
      have g1 := of_decide_eq_true g1
      try intro g2
      try (conv => whnf)
      try intro g3
      try (conv => whnf)
      rw [e2 (by omega)]
      omega
    conv => whnf
    refine ⟨?_, ?_⟩
    · conv => whnf
      intro g1
      conv => whnf
      have g1 := of_decide_eq_true g1
      try intro g2
      try (conv => whnf)
      try intro g3
      try (conv => whnf)
      rw [e2 (by omega)]
      omega
    conv => whnf
    refine ⟨?_, ?_⟩
    · conv => whnf
      intro g1
      conv => whnf
      have g1 := of_decide_eq_true g1
      try intro g2
      try (conv => whnf)
      try intro g3
      try (conv => whnf)
      rw [e2 (by omega)]
      omega
    conv => whnf
    have e3 : 0 < k → (IntKind.i64.wrap ((k : Int) - 1)).toNat = k - 1 := fun h0 => by rw [e2 h0, ti_nat]
    refine onB_intro (fun g => ?_) (fun g => ?_)
    · simp only [pickB, isLit, Bool.and_eq_true, Bool.or_eq_true, decide_eq_true_eq, beq_iff_eq] at g
      obtain ⟨g1, g2⟩ := g
      have g1 : 0 < k := by omega
      rw [e3 g1] at g2
      conv => whnf
      exact ⟨false, ⟨fun e => (nomatch e), fun e => absurd g2 ((e k hk2).2 g1)⟩, rfl⟩
    · have hb2 : 0 < k → ¬ ((l.getD k sp0).cl < (l.getD (k - 1) sp0).cl ∨ (l.getD k sp0).cl = (l.getD (k - 1) sp0).cl ∧ (l.getD k sp0).fr ≤ (l.getD (k - 1) sp0).tz) := fun h0 q => by
        rw [e3 h0] at g
        have : (pickB (decide ((k : Int) > 0)) (Operand.tmp 55) (Operand.const (Value.bool false)) (pickB (decide ((l.getD k sp0).cl < (l.getD (k - 1) sp0).cl)) (Operand.const (Value.bool true)) (Operand.tmp 54) true
          (pickB ((l.getD k sp0).cl == (l.getD (k - 1) sp0).cl) (Operand.tmp 53) (Operand.const (Value.bool false)) (decide ((l.getD k sp0).fr ≤ (l.getD (k - 1) sp0).tz)) false)) false) = true := by
          simp only [pickB, isLit, Bool.and_eq_true, Bool.or_eq_true, decide_eq_true_eq, beq_iff_eq]
          exact ⟨by omega, q⟩
        rw [this] at g
        cases g
      conv => whnf
      rw [e1]
      exact ⟨l.length - (k + 1), _, by omega, norm_weak [0, 5, 6, 7] [] rfl rfl, k + 1, rfl, by omega, next ⟨hb, hb2⟩, rfl⟩
  · have h := of_decide_eq_false h
    conv => whnf
    exact ⟨true, ⟨fun _ j h2 => hj j (by omega), fun _ => rfl⟩, rfl⟩
theorem sp_ext {x y : Sp} (h1 : x.cl = y.cl) (h2 : x.fr = y.fr) (h3 : x.tz = y.tz) : x = y := by
  obtain ⟨a, b, c⟩ := x
  obtain ⟨a', b', c'⟩ := y
  simp only at h1 h2 h3
  rw [h1, h2, h3]
theorem slist_eq {α : Type} (d : α) {a b : List α} (hl : a.length = b.length) (h : ∀ j, j < a.length → a.getD j d = b.getD j d) : a = b := by
  refine List.ext_getElem hl (fun j h1 h2 => ?_)
  have := h j h1
  rw [List.getD_eq_getElem?_getD, List.getD_eq_getElem?_getD, List.getElem?_eq_getElem h1, List.getElem?_eq_getElem h2] at this
  exact this
def ssI (a b : List Sp) (n : Nat) (st : St) : Prop := ∃ k : Nat, n = a.length - k ∧ k ≤ a.length ∧ (∀ j, j < k → a.getD j sp0 = b.getD j sp0) ∧ st = ⟨26, 0, [(0, spS a), (1, spS b), (5, vci .i64 (k : Int))], []⟩
theorem sameset_c (a b : List Sp) (ha : a.length ≤ 1000000000) (hb : b.length ≤ 1000000000) : CallV Tryd.prog 31 [spS a, spS b] [] (fun r own' => own' = [] ∧ ((a = b ∧ r = vcb true) ∨ (a ≠ b ∧ r = vcb false))) := by
  refine callV_pure Tryd.func31 rfl ttok ftok rfl rfl rfl (Nat.le_of_ble_eq_true rfl) ?_
  conv => whnf
  by_cases hl : a.length = b.length
  · rw [show (((a.length : Nat) : Int) != (b.length : Nat)) = false from by rw [hl]; exact bne_self_eq_false _]
    conv => whnf
    refine loopV ttok ftok (ssI a b) (env_weak [0, 1, 5] rfl) ⟨0, rfl, Nat.zero_le _, fun j hj => by omega, rfl⟩ ?_
    rintro n st ⟨k, rfl, hk, hj, rfl⟩
    conv => whnf
    refine onB_intro (fun h => ?_) (fun h => ?_)
    · have h := of_decide_eq_true h
      have hk2 : k < a.length := by omega
      conv => whnf
      refine drawV_join mixed (by kernel_rfl) ttok ?_
      conv => whnf
      refine ⟨⟨by omega, by omega⟩, ?_⟩
      conv => whnf
      refine ⟨⟨by omega, by omega⟩, ?_⟩
      conv => whnf
      simp only [ti_nat]
      refine onB_intro (fun g => ?_) (fun g => ?_)
      · conv => whnf
        refine .inr ⟨fun e => ?_, rfl⟩
        subst e
        simp at g
      · have e : a.getD k sp0 = b.getD k sp0 := by
          simp [- List.getD_eq_getElem?_getD] at g
          obtain ⟨q1, q2, q3⟩ := g
          exact sp_ext q1 q2 q3
        conv => whnf
        rw [show IntKind.i64.wrap ((k : Int) + 1) = ((k + 1 : Nat) : Int) from by rw [w_i64 (by omega) (by omega)]; omega]
        refine ⟨a.length - (k + 1), _, by omega, env_weak [0, 1, 5] rfl, k + 1, rfl, by omega, fun j h2 => ?_, rfl⟩
        rcases Nat.lt_succ_iff_lt_or_eq.1 h2 with h3 | rfl
        · exact hj j h3
        · exact e
    · have h := of_decide_eq_false h
      conv => whnf
      exact .inl ⟨slist_eq sp0 hl (fun j h2 => hj j (by omega)), rfl⟩
  · rw [show (((a.length : Nat) : Int) != (b.length : Nat)) = true from bne_iff_ne.2 (fun e => hl (by omega))]
    conv => whnf
    exact .inr ⟨fun e => hl (by rw [e]), rfl⟩
def cmpI (x y : Int) : Int := if x < y then -1 else if y < x then 1 else 0
theorem isnan_c (x : Int) : CallV Tryd.prog 57 [vci .u32 x] [] (fun r own' => own' = [] ∧ r = vcb false) := by
  refine callV_pure Tryd.func57 rfl ttok ftok rfl rfl rfl (Nat.le_of_ble_eq_true rfl) ?_
  conv => whnf
  show vcb (x != x) = _
  simp
theorem cmpU_c (x y : Int) : CallV Tryd.prog 51 [vci .u32 x, vci .u32 y] [] (fun r own' => own' = [] ∧ r = vci .i64 (cmpI x y)) := by
  refine callV_pure Tryd.func51 rfl ttok ftok rfl rfl rfl (Nat.le_of_ble_eq_true rfl) ?_
  conv => whnf
  refine call_pure (isnan_c _) rfl ?_
  rintro _ rfl
  conv => whnf
  refine call_pure (isnan_c _) rfl ?_
  rintro _ rfl
  conv => whnf
  unfold cmpI
  by_cases h : x < y
  · rw [show decide (x < y) = true from decide_eq_true h, if_pos h]
    conv => whnf
    all_goals rfl
  · rw [show decide (x < y) = false from decide_eq_false h, if_neg h]
    conv => whnf
    by_cases h2 : y < x
    · rw [show decide (x > y) = true from decide_eq_true h2, if_pos h2]
      conv => whnf
      all_goals rfl
    · rw [show decide (x > y) = false from decide_eq_false h2, if_neg h2]
      conv => whnf
      all_goals rfl
abbrev i1 (n : Int) : List IC := [vi n]
theorem two_i (a b : Int) {k : Nat} (hk : k < 2) : i1 ([a, b].getD k 0) = [i1 a, i1 b].getD k [] := by
  match k, hk with
  | 0, _ => rfl
  | 1, _ => rfl
theorem cmpOr_c (a b : Int) : CallV Tryd.prog 50 [.c (.sl 1 2 fun k => i1 ([a, b].getD k 0))] [] (fun r own' => own' = [] ∧ r = vci .i64 (if a = 0 then b else a)) := by
  refine callV_pure Tryd.func50 rfl ttok ftok rfl rfl rfl (Nat.le_of_ble_eq_true rfl) ?_
  conv => whnf
  refine loop_rounds 3 ttok ftok ?_
  conv => whnf
  refine ⟨⟨by omega, by decide⟩, ?_⟩
  conv => whnf
  by_cases ha : a = 0
  · rw [if_pos ha]
    subst ha
    conv => whnf
    refine ⟨⟨by decide, by decide⟩, ?_⟩
    conv => whnf
    by_cases hb : b = 0
    · subst hb
      conv => whnf
      try rfl
    · rw [show (([(0 : Int), b].getD (Int.toNat (IntKind.i64.wrap (0 + 1))) 0) != 0) = true from bne_iff_ne.2 hb]
      conv => whnf
      try rfl
  · rw [if_neg ha]
    rw [show (([a, b].getD (Int.toNat 0) 0) != 0) = true from bne_iff_ne.2 ha]
    conv => whnf
    try rfl
theorem idcmp_c (a b : I2) : CallV Tryd.prog 37 [idA a, idA b] [] (fun r own' => own' = [] ∧ r = vci .i64 (if cmpI a.1 b.1 = 0 then cmpI a.2 b.2 else cmpI a.1 b.1)) := by
  refine callV_pure Tryd.func37 rfl ttok ftok rfl rfl rfl (Nat.le_of_ble_eq_true rfl) ?_
  conv => whnf
  refine drawV_sched (.rd 0 (.rd 1 (.rd 2 (.rd 3 (.rd 5 (.rd 6 (.rd 7 (.rd 8 (.ef 4 (.ef 9 (.ef 10 (.ef 11 (.rd 12 (.nil)))))))))))))) [2] mixed (by kernel_rfl) ttok ftok ?_
  conv => whnf
  refine call_pure (cmpU_c a.1 b.1) rfl ?_
  rintro _ rfl
  conv => whnf
  refine call_pure (cmpU_c a.2 b.2) rfl ?_
  rintro _ rfl
  conv => whnf
  refine ⟨fun k => i1 ([cmpI a.1 b.1, cmpI a.2 b.2].getD k 0), fun k hk => two_i _ _ hk, ?_⟩
  conv => whnf
  refine ⟨fun _ _ => rfl, ?_⟩
  conv => whnf
  refine call_pure (cmpOr_c (cmpI a.1 b.1) (cmpI a.2 b.2)) rfl ?_
  rintro _ rfl
  conv => whnf
  all_goals first | rfl | exact ⟨rfl, rfl⟩
end Go.Eng
/- Batches: which may be. -/
set_option linter.unusedVariables false
set_option linter.unusedSimpArgs false
set_option maxRecDepth 100000
set_option maxHeartbeats 4000000
namespace Go.Eng
open Go Go.RowKit Go.Proofs
structure Ba where
  runs : List Ru
  dels : List Sp
abbrev baF (x : Ba) : List IC := [.sl 7 x.runs.length fun k => ruF (x.runs.getD k ru0), .sl 3 x.dels.length fun k => spF (x.dels.getD k sp0)]
def baOk (x : Ba) : Prop := (∀ r, r ∈ x.runs → ruOk r) ∧ x.runs.length ≤ 100000 ∧ x.dels.length ≤ 100000 ∧ (itemsR x.runs).length ≤ 1000000
def mayB (x : Ba) : Prop := (∀ r, r ∈ x.runs → mayR r = true) ∧ mayS x.dels ∧ (∀ j, j + 1 < (itemsR x.runs).length → beforeR ((itemsR x.runs).getD j it0).id ((itemsR x.runs).getD (j + 1) it0).id) ∧ (ofK (itemsR x.runs) (itemsR x.runs).length).length = x.runs.length
theorem may_chars {r : Ru} (h : mayR r = true) : (charsF r.text).isSome = true := by
  unfold mayR at h
  split at h
  · cases h
  · rename_i l e; rw [e]; rfl
theorem mem_getD' {α : Type} {l : List α} {x d : α} (h : x ∈ l) : ∃ j, j < l.length ∧ l.getD j d = x := by
  obtain ⟨j, hj, e⟩ := List.getElem_of_mem h
  exact ⟨j, hj, by rw [List.getD_eq_getElem?_getD, List.getElem?_eq_getElem hj]; exact e⟩
theorem cmp_before (a b : I2) : ((if cmpI a.1 b.1 = 0 then cmpI a.2 b.2 else cmpI a.1 b.1) ≥ 0) ↔ ¬ beforeR a b := by
  unfold cmpI beforeR
  by_cases h1 : a.1 < b.1
  · simp only [if_pos h1]
    rw [if_neg (by decide)]
    exact ⟨fun h => absurd h (by decide), fun h => absurd (Or.inl h1) h⟩
  · simp only [if_neg h1]
    by_cases h2 : b.1 < a.1
    · simp only [if_pos h2]
      rw [if_neg (by decide)]
      exact ⟨fun _ q => by omega, fun _ => by decide⟩
    · simp only [if_neg h2]
      rw [if_pos trivial]
      by_cases h3 : a.2 < b.2
      · rw [if_pos h3]
        exact ⟨fun h => absurd h (by decide), fun h => absurd (Or.inr ⟨by omega, h3⟩) h⟩
      · rw [if_neg h3]
        split
        · exact ⟨fun _ q => by omega, fun _ => by decide⟩
        · exact ⟨fun _ q => by omega, fun _ => by decide⟩
theorem clo_c (r : Ru) (hr : ruOk r) : CallV Tryd.prog 34 [.agg (ruF r)] [] (fun x own' => own' = [] ∧ x = vcb (!mayR r)) := by
  refine callV_pure Tryd.func34 rfl ttok ftok rfl rfl rfl (Nat.le_of_ble_eq_true rfl) ?_
  conv => whnf
  refine call_pure (may_c r hr) rfl ?_
  rintro _ rfl
  conv => whnf
  try rfl
/-- slices.IndexFunc. -/
def ixrunI (O : List (Option Ob)) (l : List Ru) (p : Ru → Bool) (caps : List (Bool × List IC)) (n : Nat) (st : St) : Prop := ∃ k : Nat, n = l.length - k ∧ k ≤ l.length ∧ (∀ j, j < k → p (l.getD j ru0) = false) ∧
  st = ⟨19, O.length, [(0, .c (.sl 7 l.length fun k => ruF (l.getD k ru0))), (1, .c (.fn 34 caps)), (7, vci .i64 l.length), (8, vci .i64 (k : Int))], O⟩
theorem ixrun (O : List (Option Ob)) (l : List Ru) (hl : l.length ≤ 1000000000) (caps : List (Bool × List IC)) (p : Ru → Bool)
    (hp : ∀ k, k < l.length → CallV Tryd.prog 34 (.agg (ruF (l.getD k ru0)) :: capsA caps) O (fun r own' => r = vcb (p (l.getD k ru0)) ∧ own' = O)) :
    CallV Tryd.prog 46 [.c (.sl 7 l.length fun k => ruF (l.getD k ru0)), .c (.fn 34 caps)] O (fun r own' => (∃ k : Nat, k < l.length ∧ p (l.getD k ru0) = true ∧ (∀ j, j < k → p (l.getD j ru0) = false) ∧ r = vci .i64 k ∧ own' = O) ∨
      ((∀ j, j < l.length → p (l.getD j ru0) = false) ∧ r = vci .i64 (-1) ∧ own' = O)) := by
  refine callV_same Tryd.func46 rfl ttok ftok rfl rfl rfl (Nat.le_of_ble_eq_true rfl) ?_
  conv => whnf
  refine loopV ttok ftok (ixrunI O l p caps) (env_weak [0, 1, 7, 8] rfl) ⟨0, rfl, Nat.zero_le _, fun j hj => by omega, rfl⟩ ?_
  rintro n st ⟨k, rfl, hk, hj, rfl⟩
  conv => whnf
  refine onB_intro (fun h => ?_) (fun h => ?_)
  · have h := of_decide_eq_true h
    have hkl : k < l.length := by omega
    conv => whnf
    rw [forceL_eq]
    conv => whnf
    refine ⟨⟨by omega, by omega⟩, ?_⟩
    conv => whnf
    refine (hp k hkl).mono ?_
    rintro r own2 ⟨rfl, rfl⟩
    conv => whnf
    cases hpk : p (l.getD k ru0) with
    | true =>
      conv => whnf
      refine ⟨_, Weak.refl _, ?_⟩
      conv => whnf
      exact .inl ⟨k, hkl, hpk, hj, rfl, rfl⟩
    | false =>
      conv => whnf
      refine ⟨l.length - (k + 1), _, by omega, env_weak [0, 1, 7, 8] rfl, k + 1, rfl, by omega, fun j hj2 => ?_, ?_⟩
      · rcases Nat.lt_succ_iff_lt_or_eq.1 hj2 with h2 | rfl
        · exact hj j h2
        · exact hpk
      rw [show (((k + 1 : Nat)) : Int) = IntKind.i64.wrap ((k : Int) + 1) from by rw [w_i64 (by omega) (by omega)]; omega]
      all_goals rfl
  · have h := of_decide_eq_false h
    conv => whnf
    refine ⟨_, Weak.refl _, ?_⟩
    conv => whnf
    exact .inr ⟨fun j hj2 => hj j (by omega), rfl, rfl⟩
/-- slices.ContainsFunc. -/
theorem ctrun (O : List (Option Ob)) (l : List Ru) (hl : l.length ≤ 1000000000) (caps : List (Bool × List IC)) (p : Ru → Bool)
    (hp : ∀ k, k < l.length → CallV Tryd.prog 34 (.agg (ruF (l.getD k ru0)) :: capsA caps) O (fun r own' => r = vcb (p (l.getD k ru0)) ∧ own' = O)) :
    CallV Tryd.prog 33 [.c (.sl 7 l.length fun k => ruF (l.getD k ru0)), .c (.fn 34 caps)] O (fun r own' => ∃ b : Bool, (b = true ↔ ∃ k, k < l.length ∧ p (l.getD k ru0) = true) ∧ r = vcb b ∧ own' = O) := by
  refine callV_same Tryd.func33 rfl ttok ftok rfl rfl rfl (Nat.le_of_ble_eq_true rfl) ?_
  conv => whnf
  rw [forceL_eq]
  conv => whnf
  refine (ixrun O l hl caps p hp).mono ?_
  rintro r own2 (⟨k, hk, h1, h2, rfl, rfl⟩ | ⟨h1, rfl, rfl⟩)
  · conv => whnf
    refine ⟨_, Weak.refl _, ?_⟩
    conv => whnf
    refine ⟨true, ⟨fun _ => ⟨k, hk, h1⟩, fun _ => rfl⟩, ?_, rfl⟩
    show vcb (decide ((k : Int) ≥ 0)) = _
    rw [decide_eq_true (by omega)]
  · conv => whnf
    refine ⟨_, Weak.refl _, ?_⟩
    conv => whnf
    refine ⟨false, ⟨fun e => (by cases e), fun ⟨k, hk, h2⟩ => by rw [h1 k hk] at h2; cases h2⟩, rfl, rfl⟩
theorem itOk_its {rs : List Ru} (hok : ∀ r, r ∈ rs → ruOk r) : ∀ x, x ∈ itemsR rs → itOk x := by
  intro x hx
  unfold itemsR at hx
  obtain ⟨r, hr, hx⟩ := List.mem_flatMap.1 hx
  unfold itsR at hx
  obtain ⟨j, hj, rfl⟩ := List.mem_map.1 hx
  obtain ⟨h1, h2, h3, _⟩ := hok r hr
  have hc : ∀ i, 0 ≤ clk r.id.2 i ∧ clk r.id.2 i ≤ 4294967295 := fun i => by unfold clk; omega
  refine ⟨⟨h1.1, hc j⟩, ?_, h3⟩
  show u32P (leftAt r j)
  unfold leftAt
  split
  · exact h2
  · exact ⟨h1.1, hc _⟩
def mbI (x : Ba) (l : List It) (n : Nat) (st : St) : Prop := ∃ k : Nat, n = l.length - k ∧ 1 ≤ k ∧ (∀ j, j + 1 < k → j + 1 < l.length → beforeR (l.getD j it0).id (l.getD (j + 1) it0).id) ∧
  st = ⟨43, 0, [(1, .c (.own 0 0)), (3, itS l), (4, vci .i64 (k : Int))], [some (.cells 25 (baF x))]⟩
theorem bmay_c (x : Ba) (hx : baOk x) : CallV Tryd.prog 13 [.agg (baF x)] [] (fun r own' => own' = [] ∧ ∃ b : Bool, (b = true ↔ mayB x) ∧ r = vcb b) := by
  obtain ⟨hr, hrl, hdl, hil⟩ := hx
  refine callV_pure Tryd.func13 rfl ttok ftok rfl rfl rfl (Nat.le_of_ble_eq_true rfl) ?_
  conv => whnf
  refine call_pure (rmay_c x.dels (by omega)) rfl ?_
  rintro _ ⟨b1, hb1, rfl⟩
  cases b1 with
  | false =>
    conv => whnf
    exact ⟨false, ⟨fun e => (nomatch e), fun e => absurd (hb1.2 e.2.1) (by decide)⟩, rfl⟩
  | true =>
    have hset := hb1.1 rfl
    conv => whnf
    have mem_at : ∀ k, k < x.runs.length → x.runs.getD k ru0 ∈ x.runs := fun k hk => by rw [List.getD_eq_getElem?_getD, List.getElem?_eq_getElem hk]; exact List.getElem_mem hk
    refine (ctrun _ x.runs (by omega) [] (fun r => !mayR r) (fun k hk => call_pure (clo_c _ (hr _ (mem_at k hk))) rfl (fun r h => ⟨h, rfl⟩))).mono ?_
    rintro _ _ ⟨b2, hb2, rfl, rfl⟩
    cases b2 with
    | true =>
      obtain ⟨k, hk, h2⟩ := hb2.1 rfl
      conv => whnf
      exact ⟨false, ⟨fun e => (nomatch e), fun e => by rw [e.1 _ (mem_at k hk)] at h2; cases h2⟩, rfl⟩
    | false =>
      have hall : ∀ r, r ∈ x.runs → mayR r = true := fun r hr2 => by
        obtain ⟨j, hj, rfl⟩ := mem_getD' (d := ru0) hr2
        cases hq : mayR (x.runs.getD j ru0) with
        | true => rfl
        | false => exact absurd (hb2.2 ⟨j, hj, by rw [hq]; rfl⟩) (by decide)
      conv => whnf
      refine call_pure (items_c x.runs (by omega) (fun r h => ⟨hr r h, may_chars (hall r h)⟩)) rfl ?_
      rintro _ rfl
      obtain ⟨l, hl⟩ : ∃ l, itemsR x.runs = l := ⟨_, rfl⟩
      have hlok : ∀ y, y ∈ l → itOk y := hl ▸ itOk_its hr
      have hmb : mayB x ↔ ((∀ j, j + 1 < l.length → beforeR (l.getD j it0).id (l.getD (j + 1) it0).id) ∧ (ofK l l.length).length = x.runs.length) := by
        unfold mayB
        rw [hl]
        exact ⟨fun h => h.2.2, fun h => ⟨hall, hset, h⟩⟩
      rw [hl] at hil ⊢
      have hol := (ofK_len l l.length).1
      conv => whnf
      refine loopV ttok ftok (mbI x l) (norm_weak [1, 3, 4] [some 0] rfl rfl) ⟨1, rfl, Nat.le_refl _, fun j h1 _ => by omega, rfl⟩ ?_
      rintro n st ⟨k, rfl, hk, hj, rfl⟩
      have e1 : IntKind.i64.wrap ((k : Int) - 1) = ((k - 1 : Nat) : Int) ∨ 1000000 < k := by
        by_cases q : k ≤ 1000000
        · exact .inl (by rw [w_i64 (by omega) (by omega)]; omega)
        · exact .inr (by omega)
      conv => whnf
      refine onB_intro (fun h => ?_) (fun h => ?_)
      · have h := of_decide_eq_true h
        have e1 : IntKind.i64.wrap ((k : Int) - 1) = ((k - 1 : Nat) : Int) := by rw [w_i64 (by omega) (by omega)]; omega
        have e2 : IntKind.i64.wrap ((k : Int) + 1) = ((k + 1 : Nat) : Int) := by rw [w_i64 (by omega) (by omega)]; omega
        conv => whnf
        refine drawV_sched (.rd 0 (.rd 1 (.rd 2 (.rd 3 (.rd 4 (.rd 5 (.rd 6 (.rd 7 (.rd 8 (.rd 9 (.rd 10 (.ef 11 (.rd 12 (.nil)))))))))))))) [] mixed (by kernel_rfl) ttok ftok ?_
        conv => whnf
        rw [e1]
        refine ⟨⟨by omega, by omega⟩, ?_⟩
        conv => whnf
        refine ⟨⟨by omega, by omega⟩, ?_⟩
        conv => whnf
        simp only [ti_nat]
        refine call_pure (idcmp_c (l.getD (k - 1) it0).id (l.getD k it0).id) rfl ?_
        rintro _ rfl
        conv => whnf
        by_cases hb : beforeR (l.getD (k - 1) it0).id (l.getD k it0).id
        · rw [decide_eq_false (fun q => (cmp_before _ _).1 q hb)]
          conv => whnf
          rw [e2]
          refine ⟨l.length - (k + 1), _, by omega, norm_weak [1, 3, 4] [some 0] rfl rfl, k + 1, rfl, by omega, fun j h1 h2 => ?_, rfl⟩
          by_cases q : j + 1 = k
          · obtain rfl : j = k - 1 := by omega
            rw [q]
            exact hb
          · exact hj j (by omega) h2
        · rw [decide_eq_true ((cmp_before _ _).2 hb)]
          conv => whnf
          refine ⟨false, ⟨fun e => (nomatch e), fun e => ?_⟩, rfl⟩
          have := (hmb.1 e).1 (k - 1) (by omega)
          rw [show k - 1 + 1 = k from by omega] at this
          exact absurd this hb
      · have h := of_decide_eq_false h
        conv => whnf
        refine drawV_sched (.rd 0 (.rd 3 (.rd 4 (.rd 5 (.ef 1 (.rd 2 (.rd 6 (.rd 7 (.nil))))))))) [] mixed (by kernel_rfl) ttok ftok ?_
        conv => whnf
        refine call_pure (of_c l (by omega) hlok) rfl ?_
        rintro _ rfl
        conv => whnf
        refine ⟨_, ⟨fun e => hmb.2 ⟨fun j h1 => hj j (by omega) h1, ?_⟩, fun e => ?_⟩, rfl⟩
        · have := eq_of_beq e
          omega
        · have := (hmb.1 e).2
          rw [this]
          exact beq_self_eq_true _
def mcI (x : Ba) (n : Nat) (st : St) : Prop := ∃ k : Nat, n = x.runs.length - k ∧ k ≤ x.runs.length ∧ (∀ j, j < k → mayR (x.runs.getD j ru0) = true) ∧ st = ⟨60, 0, [(1, .c (.own 0 0)), (3, vci .i64 (k : Int))], [some (.cells 25 (baF x))]⟩
def mdI (x : Ba) (l : List It) (b : Bool) (n : Nat) (st : St) : Prop := ∃ k : Nat, n = l.length - k ∧ 1 ≤ k ∧ (∀ j, j + 1 < k → j + 1 < l.length → beforeR (l.getD j it0).id (l.getD (j + 1) it0).id) ∧
  st = ⟨60, 0, [(1, .c (.own 0 0)), (5, vcb b), (6, itS l), (7, vci .i64 (k : Int))], [some (.cells 25 (baF x))]⟩
theorem rmayb_c (x : Ba) (hx : baOk x) : CallV Tryd.prog 7 [.agg (baF x)] [] (fun r own' => own' = [] ∧ ∃ b : Bool, (b = true ↔ mayB x) ∧ r = vcb b) := by
  obtain ⟨hr, hrl, hdl, hil⟩ := hx
  have mem_at : ∀ k, k < x.runs.length → x.runs.getD k ru0 ∈ x.runs := fun k hk => by rw [List.getD_eq_getElem?_getD, List.getElem?_eq_getElem hk]; exact List.getElem_mem hk
  refine callV_pure Tryd.func7 rfl ttok ftok rfl rfl rfl (Nat.le_of_ble_eq_true rfl) ?_
  conv => whnf
  refine loopV ttok ftok (mcI x) (norm_weak [1, 3] [some 0] rfl rfl) ⟨0, rfl, Nat.zero_le _, fun j h1 => by omega, rfl⟩ ?_
  rintro n st ⟨k, rfl, hk, hj, rfl⟩
  have e1 : IntKind.i64.wrap ((k : Int) + 1) = ((k + 1 : Nat) : Int) := by rw [w_i64 (by omega) (by omega)]; omega
  conv => whnf
  refine onB_intro (fun h => ?_) (fun h => ?_)
  · have h := of_decide_eq_true h
    have hk2 : k < x.runs.length := by omega
    conv => whnf
    refine ⟨⟨by omega, by omega⟩, ?_⟩
    conv => whnf
    simp only [ti_nat]
    refine call_pure (mayrun_c (x.runs.getD k ru0) (hr _ (mem_at k hk2))) rfl ?_
    rintro _ rfl
    cases hm : mayR (x.runs.getD k ru0) with
    | true =>
      conv => whnf
      rw [e1]
      refine ⟨x.runs.length - (k + 1), _, by omega, norm_weak [1, 3] [some 0] rfl rfl, k + 1, rfl, by omega, fun j h2 => ?_, rfl⟩
      rcases Nat.lt_succ_iff_lt_or_eq.1 h2 with h3 | rfl
      · exact hj j h3
      · exact hm
    | false =>
      conv => whnf
      exact ⟨false, ⟨fun e => (nomatch e), fun e => by rw [e.1 _ (mem_at k hk2)] at hm; cases hm⟩, rfl⟩
  · have h := of_decide_eq_false h
    have hall : ∀ r, r ∈ x.runs → mayR r = true := fun r hr2 => by
      obtain ⟨j, hj2, rfl⟩ := mem_getD' (d := ru0) hr2
      exact hj j (by omega)
    conv => whnf
    refine call_pure (mayset_c x.dels (by omega)) rfl ?_
    rintro _ ⟨b1, hb1, rfl⟩
    conv => whnf
    refine call_pure (ritems_c x.runs (by omega) (fun r h => ⟨hr r h, may_chars (hall r h)⟩)) rfl ?_
    rintro _ rfl
    obtain ⟨l, hl⟩ : ∃ l, itemsR x.runs = l := ⟨_, rfl⟩
    have hlok : ∀ y, y ∈ l → itOk y := hl ▸ itOk_its hr
    have hmb : mayB x ↔ (mayS x.dels ∧ (∀ j, j + 1 < l.length → beforeR (l.getD j it0).id (l.getD (j + 1) it0).id) ∧ (ofK l l.length).length = x.runs.length) := by
      unfold mayB
      rw [hl]
      exact ⟨fun h => h.2, fun h => ⟨hall, h⟩⟩
    rw [hl] at hil ⊢
    have hol := (ofK_len l l.length).1
    conv => whnf
    refine loopV ttok ftok (mdI x l b1) (norm_weak [1, 5, 6, 7] [some 0] rfl rfl) ⟨1, rfl, Nat.le_refl _, fun j h1 _ => by omega, rfl⟩ ?_
    rintro n st ⟨k, rfl, hk, hj, rfl⟩
    conv => whnf
    refine onB_intro (fun h => ?_) (fun h => ?_)
    · have h := of_decide_eq_true h
      have e1 : IntKind.i64.wrap ((k : Int) - 1) = ((k - 1 : Nat) : Int) := by rw [w_i64 (by omega) (by omega)]; omega
      have e2 : IntKind.i64.wrap ((k : Int) + 1) = ((k + 1 : Nat) : Int) := by rw [w_i64 (by omega) (by omega)]; omega
      conv => whnf
      refine drawV_sched (.rd 0 (.rd 1 (.rd 2 (.rd 3 (.rd 4 (.rd 5 (.rd 6 (.rd 7 (.rd 8 (.rd 9 (.rd 10 (.ef 11 (.rd 12 (.nil)))))))))))))) [] mixed (by kernel_rfl) ttok ftok ?_
      conv => whnf
      rw [e1]
      refine ⟨⟨by omega, by omega⟩, ?_⟩
      conv => whnf
      refine ⟨⟨by omega, by omega⟩, ?_⟩
      conv => whnf
      simp only [ti_nat]
      refine call_pure (before_c (l.getD (k - 1) it0).id (l.getD k it0).id) rfl ?_
      rintro _ rfl
      conv => whnf
      by_cases hb : beforeR (l.getD (k - 1) it0).id (l.getD k it0).id
      · rw [decide_eq_true hb]
        conv => whnf
        rw [e2]
        refine ⟨l.length - (k + 1), _, by omega, norm_weak [1, 5, 6, 7] [some 0] rfl rfl, k + 1, rfl, by omega, fun j h1 h2 => ?_, rfl⟩
        by_cases q : j + 1 = k
        · obtain rfl : j = k - 1 := by omega
          rw [q]
          exact hb
        · exact hj j (by omega) h2
      · rw [decide_eq_false hb]
        conv => whnf
        refine ⟨false, ⟨fun e => (nomatch e), fun e => ?_⟩, rfl⟩
        have := (hmb.1 e).2.1 (k - 1) (by omega)
        rw [show k - 1 + 1 = k from by omega] at this
        exact absurd this hb
    · have h := of_decide_eq_false h
      conv => whnf
      cases b1 with
      | false =>
        refine drawV_sched (.rd 0 (.rd 1 (.rd 2 (.rd 5 (.rd 6 (.rd 7 (.ef 3 (.rd 4 (.rd 8 (.rd 9 (.rd 10 (.nil)))))))))))) [] mixed (by kernel_rfl) ttok ftok ?_
        conv => whnf
        exact ⟨false, ⟨fun e => (nomatch e), fun e => absurd (hb1.2 e.2.1) (by decide)⟩, rfl⟩
      | true =>
        have hset := hb1.1 rfl
        refine drawV_sched (.rd 0 (.rd 1 (.rd 2 (.rd 5 (.rd 6 (.rd 7 (.ef 3 (.rd 4 (.rd 8 (.rd 9 (.rd 10 (.nil)))))))))))) [] mixed (by kernel_rfl) ttok ftok ?_
        conv => whnf
        refine call_pure (rof_c l (by omega) hlok) rfl ?_
        rintro _ rfl
        conv => whnf
        refine ⟨_, ⟨fun e => hmb.2 ⟨hset, fun j h1 => hj j (by omega) h1, ?_⟩, fun e => ?_⟩, rfl⟩
        · have := eq_of_beq e
          omega
        · have := (hmb.1 e).2.2
          rw [this]
          exact beq_self_eq_true _
end Go.Eng
/- Numbers as bytes: what is got, and what is put. -/
set_option linter.unusedVariables false
set_option linter.unusedSimpArgs false
set_option maxRecDepth 100000
set_option maxHeartbeats 4000000
namespace Go.Eng
open Go Go.RowKit Go.Proofs
abbrev bS (b : List UInt8) : AV := .c (.sl 1 b.length (byteF b))
abbrev errM : AV := .c (.v (.iface 58 (.int .i64 2)))
def valN (l : List UInt8) : Nat := l.foldl (fun v c => v * 256 + c.toNat) 0
theorem valN_snoc (l : List UInt8) (c : UInt8) : valN (l ++ [c]) = valN l * 256 + c.toNat := by unfold valN; rw [List.foldl_append]; rfl
theorem valN_lt (l : List UInt8) : valN l < 256 ^ l.length := by
  suffices h : ∀ n (l : List UInt8), l.length = n → valN l < 256 ^ n from h _ l rfl
  intro n
  induction n with
  | zero => intro l h; obtain rfl := List.eq_nil_of_length_eq_zero h; simp [valN]
  | succ n ih =>
    intro l h
    obtain ⟨m, c, rfl⟩ : ∃ m c, l = m ++ [c] := ⟨l.dropLast, l.getLast (by intro e; subst e; cases h), (List.dropLast_concat_getLast _).symm⟩
    have := ih m (by simpa using h)
    have hc := c.toNat_lt
    rw [valN_snoc, Nat.pow_succ]
    omega
theorem valN_u32 {l : List UInt8} (h : l.length ≤ 4) : valN l < 4294967296 := by
  refine Nat.lt_of_lt_of_le (valN_lt l) ?_
  refine Nat.le_trans (Nat.pow_le_pow_right (by omega) h) (by decide)
theorem valN_u24 {l : List UInt8} (h : l.length ≤ 3) : valN l < 16777216 := by
  refine Nat.lt_of_lt_of_le (valN_lt l) ?_
  refine Nat.le_trans (Nat.pow_le_pow_right (by omega) h) (by decide)
def getN (b : List UInt8) (at_ : Int) : Option (Nat × Nat) :=
  if at_ < 0 ∨ (b.length : Int) ≤ at_ then none
  else if 4 < (b.getD at_.toNat 0).toNat ∨ b.length < at_.toNat + 1 + (b.getD at_.toNat 0).toNat ∨ (0 < (b.getD at_.toNat 0).toNat ∧ b.getD (at_.toNat + 1) 0 = 0) then none
  else some (valN ((b.drop (at_.toNat + 1)).take (b.getD at_.toNat 0).toNat), (b.getD at_.toNat 0).toNat + 1)
def getV (o : Option (Nat × Nat)) : AV := match o with
  | some (v, n) => .tup [vci .u32 v, vci .i64 n, .c (.v .nilIface)]
  | none => .tup [vci .u32 0, vci .i64 0, errM]
def getW (o : Option (Nat × Nat)) : AV := match o with
  | some (v, n) => .tup [vci .u32 v, vci .i64 n, vcb true]
  | none => .tup [vci .u32 0, vci .i64 0, vcb false]
theorem or_shift (v : Nat) (c : UInt8) (hv : v < 16777216) : bits .or .u32 (IntKind.u32.wrap ((v : Int) * 2 ^ (8 : Int).toNat)) (c.toNat : Int) = ((v * 256 + c.toNat : Nat) : Int) := by
  have hc := c.toNat_lt
  have e : IntKind.u32.wrap ((v : Int) * 2 ^ (8 : Int).toNat) = ((v * 256 : Nat) : Int) := by
    rw [w_u32]
    show (v : Int) * 256 % 4294967296 = _
    omega
  rw [e, Go.u32_or_nat _ _ (by omega) (by omega)]
  congr 1
  have : v * 256 = v <<< 8 := by rw [Nat.shiftLeft_eq]
  rw [this, ← Nat.shiftLeft_add_eq_or_of_lt (by omega : c.toNat < 2 ^ 8)]
theorem sl_ex {α : Type} {enc : α → List IC} {d : α} (ys : List α) {h lo : Nat} {f : Nat → List IC} {K : Nat → (Nat → List IC) → Prop} (hn : ys.length = h - lo) (hf : ∀ k, k < ys.length → enc (ys.getD k d) = f (lo + k)) (hK : K ys.length fun k => enc (ys.getD k d)) :
    ∃ (n' : Nat) (f' : Nat → List IC), n' = h - lo ∧ (∀ k, k < n' → f' k = f (lo + k)) ∧ K n' f' := ⟨_, _, hn, hf, hK⟩
abbrev b1 (c : UInt8) : List IC := [.v (.int .u8 (c.toNat : Int))]
theorem byte0 (c : UInt8) : c.toNat = 0 ↔ c = 0 := ⟨fun h => UInt8.toNat_inj.1 h, fun h => by rw [h]; rfl⟩
/-- The rounds of Get. -/
def gtI (b l : List UInt8) (at_ nn : Int) (n : Nat) (st : St) : Prop := ∃ k : Nat, n = l.length - k ∧ k ≤ l.length ∧
  st = ⟨71, 0, [(7, vci .i64 nn), (8, vci .u32 (valN (l.take k) : Nat)), (56, bS l), (57, vci .i64 l.length), (58, vci .i64 (k : Int))], []⟩
theorem get_c (b : List UInt8) (hb : b.length ≤ 1000000000) (at_ : Int) (ha1 : -9223372036854775808 ≤ at_) (ha2 : at_ ≤ 9223372036854775807) : CallV Tryd.prog 42 [bS b, vci .i64 at_] [] (fun r own' => own' = [] ∧ r = getV (getN b at_)) := by
  refine callV_pure Tryd.func42 rfl ttok ftok rfl rfl rfl (Nat.le_of_ble_eq_true rfl) ?_
  conv => whnf
  refine onB_intro (fun h => ?_) (fun h => ?_)
  · simp [pickB, isLit] at h
    conv => whnf
    rw [show getN b at_ = none from by unfold getN; rw [if_pos h]]
    rfl
  · simp [pickB, isLit] at h
    obtain ⟨i, rfl⟩ : ∃ i : Nat, at_ = (i : Int) := ⟨at_.toNat, by omega⟩
    have hi : i < b.length := by omega
    have hg : getN b (i : Int) = if 4 < (b.getD i 0).toNat ∨ b.length < i + 1 + (b.getD i 0).toNat ∨ (0 < (b.getD i 0).toNat ∧ b.getD (i + 1) 0 = 0) then none
        else some (valN ((b.drop (i + 1)).take (b.getD i 0).toNat), (b.getD i 0).toNat + 1) := by unfold getN; rw [if_neg (by omega), ti_nat]
    conv => whnf
    refine ⟨by omega, ?_⟩
    conv => whnf
    have hc := (b.getD i 0).toNat_lt
    obtain ⟨n, hn⟩ : ∃ n : Nat, (b.getD i 0).toNat = n := ⟨_, rfl⟩
    have e1 : IntKind.i64.wrap (n : Int) = (n : Int) := w_i64 (by omega) (by omega)
    have e2 : IntKind.i64.wrap (IntKind.i64.wrap ((b.length : Int) - i) - 1) = (b.length : Int) - i - 1 := by rw [w_i64 (x := (b.length : Int) - i) (by omega) (by omega), w_i64 (by omega) (by omega)]
    have e3 : IntKind.i64.wrap ((i : Int) + 1) = ((i + 1 : Nat) : Int) := by rw [w_i64 (by omega) (by omega)]; omega
    rw [hn] at hc hg
    rw [hg]
    simp only [ti_nat, hn, e1, e2, e3]
    refine ⟨?_, ?_⟩
    · conv => whnf
      intro g1
      conv => whnf
      intro g2
      simp [pickB, isLit] at g1 g2
      conv => whnf
      omega
    conv => whnf
    refine onB_intro (fun g => ?_) (fun g => ?_)
    · have g : 4 < n ∨ b.length < i + 1 + n ∨ (0 < n ∧ b.getD (i + 1) 0 = 0) := by
        try simp only [ti_nat, hn, e1, e2, e3] at g
        simp [pickB, isLit] at g
        rcases g with (g | g) | g
        · exact .inl (by omega)
        · exact .inr (.inl (by omega))
        · exact .inr (.inr ⟨by omega, (byte0 _).1 (by simpa using g.2)⟩)
      rw [if_pos g]
      conv => whnf
      rfl
    · have g : ¬ (4 < n ∨ b.length < i + 1 + n ∨ (0 < n ∧ b.getD (i + 1) 0 = 0)) := by
        try simp only [ti_nat, hn, e1, e2, e3] at g
        simp [pickB, isLit] at g
        rintro (q | q | ⟨q1, q2⟩)
        · omega
        · omega
        · exact g.2 (by omega) (by rw [(byte0 _).2 (by simpa using q2)])
      rw [if_neg g]
      have e4 : IntKind.i64.wrap (((i + 1 : Nat) : Int) + (n : Int)) = ((i + 1 + n : Nat) : Int) := by rw [w_i64 (by omega) (by omega)]; omega
      obtain ⟨l, hl⟩ : ∃ l, (b.drop (i + 1)).take n = l := ⟨_, rfl⟩
      have hll : l.length = n := by rw [← hl]; simp; omega
      rw [hl]
      conv => whnf
      simp only [ti_nat, hn, e1, e2, e3, e4]
      refine ⟨by omega, ?_⟩
      conv => whnf
      refine sl_ex (enc := b1) (d := 0) l (by rw [hll]; omega) (fun j hj => ?_) ?_
      · rw [← hl, getD_take _ _ _ _ (by omega), getD_drop]
      conv => whnf
      refine loopV ttok ftok (gtI b l i n) (env_weak [7, 8, 56, 57, 58] rfl) ⟨0, rfl, Nat.zero_le _, rfl⟩ ?_
      rintro m st ⟨k, rfl, hk, rfl⟩
      conv => whnf
      refine onB_intro (fun g5 => ?_) (fun g5 => ?_)
      · have g5 := of_decide_eq_true g5
        have hkl : k < l.length := by omega
        conv => whnf
        refine ⟨by omega, ?_⟩
        conv => whnf
        refine ⟨by decide, ?_⟩
        conv => whnf
        have hv := valN_u24 (l := l.take k) (by simp; omega)
        have hd := (l.getD k 0).toNat_lt
        have e5 : IntKind.u32.wrap (((l.getD k 0).toNat : Nat) : Int) = ((l.getD k 0).toNat : Int) := by rw [w_u32]; omega
        have e6 : l.take (k + 1) = l.take k ++ [l.getD k 0] := by
          rw [List.take_add_one, List.getD_eq_getElem?_getD, List.getElem?_eq_getElem hkl]
          rfl
        have e7 : IntKind.i64.wrap ((k : Int) + 1) = ((k + 1 : Nat) : Int) := by rw [w_i64 (by omega) (by omega)]; omega
        simp only [ti_nat, e5, e7, or_shift _ _ hv]
        rw [← valN_snoc, ← e6]
        refine ⟨l.length - (k + 1), _, by omega, env_weak [7, 8, 56, 57, 58] rfl, k + 1, rfl, by omega, rfl⟩
      · have g5 := of_decide_eq_false g5
        obtain rfl : k = l.length := by omega
        conv => whnf
        simp only [List.take_length]
        rw [show IntKind.i64.wrap ((n : Int) + 1) = ((n + 1 : Nat) : Int) from by rw [w_i64 (by omega) (by omega)]; omega]
        rfl
/-- The rounds of the reference's. -/
def rgI (b l : List UInt8) (i : Nat) (n : Nat) (st : St) : Prop := ∃ k : Nat, n = l.length - k ∧ k ≤ l.length ∧ (0 < k → b.getD (i + 1) 0 ≠ 0) ∧
  st = ⟨62, 0, [(0, bS b), (1, vci .i64 (i : Int)), (7, vci .i64 (l.length : Int)), (8, vci .u32 (valN (l.take k) : Nat)), (9, vci .i64 ((k + 1 : Nat) : Int))], []⟩
theorem rget_c (b : List UInt8) (hb : b.length ≤ 1000000000) (at_ : Int) (ha1 : -9223372036854775808 ≤ at_) (ha2 : at_ ≤ 9223372036854775807) : CallV Tryd.prog 45 [bS b, vci .i64 at_] [] (fun r own' => own' = [] ∧ r = getW (getN b at_)) := by
  refine callV_pure Tryd.func45 rfl ttok ftok rfl rfl rfl (Nat.le_of_ble_eq_true rfl) ?_
  conv => whnf
  refine onB_intro (fun h => ?_) (fun h => ?_)
  · simp [pickB, isLit] at h
    conv => whnf
    rw [show getN b at_ = none from by unfold getN; rw [if_pos h]]
    rfl
  · simp [pickB, isLit] at h
    obtain ⟨i, rfl⟩ : ∃ i : Nat, at_ = (i : Int) := ⟨at_.toNat, by omega⟩
    have hi : i < b.length := by omega
    have hg : getN b (i : Int) = if 4 < (b.getD i 0).toNat ∨ b.length < i + 1 + (b.getD i 0).toNat ∨ (0 < (b.getD i 0).toNat ∧ b.getD (i + 1) 0 = 0) then none
        else some (valN ((b.drop (i + 1)).take (b.getD i 0).toNat), (b.getD i 0).toNat + 1) := by unfold getN; rw [if_neg (by omega), ti_nat]
    conv => whnf
    refine ⟨by omega, ?_⟩
    conv => whnf
    have hc := (b.getD i 0).toNat_lt
    obtain ⟨n, hn⟩ : ∃ n : Nat, (b.getD i 0).toNat = n := ⟨_, rfl⟩
    have e1 : IntKind.i64.wrap (n : Int) = (n : Int) := w_i64 (by omega) (by omega)
    have e2 : IntKind.i64.wrap (IntKind.i64.wrap ((b.length : Int) - i) - 1) = (b.length : Int) - i - 1 := by rw [w_i64 (x := (b.length : Int) - i) (by omega) (by omega), w_i64 (by omega) (by omega)]
    rw [hn] at hc hg
    rw [hg]
    simp only [ti_nat, hn, e1, e2]
    refine onB_intro (fun g => ?_) (fun g => ?_)
    · have g : 4 < n ∨ b.length < i + 1 + n := by
        try simp only [ti_nat, hn, e1, e2] at g
        simp [pickB, isLit] at g
        omega
      rw [if_pos (by omega)]
      conv => whnf
      rfl
    · have g : ¬ (4 < n ∨ b.length < i + 1 + n) := by
        try simp only [ti_nat, hn, e1, e2] at g
        simp [pickB, isLit] at g
        omega
      conv => whnf
      obtain ⟨l, hl⟩ : ∃ l, (b.drop (i + 1)).take n = l := ⟨_, rfl⟩
      have hll : l.length = n := by rw [← hl]; simp; omega
      have hlj : ∀ j, j < n → l.getD j 0 = b.getD (i + 1 + j) 0 := fun j hj => by rw [← hl, getD_take _ _ _ _ (by omega), getD_drop]
      rw [hl]
      try simp only [ti_nat, hn, e1, e2]
      subst hll
      refine loopV ttok ftok (rgI b l i) (env_weak [0, 1, 7, 8, 9] rfl) ⟨0, rfl, Nat.zero_le _, fun h => by omega, rfl⟩ ?_
      rintro m st ⟨k, rfl, hk, hk0, rfl⟩
      conv => whnf
      refine onB_intro (fun g5 => ?_) (fun g5 => ?_)
      · have g5 := of_decide_eq_true g5
        have hkl : k < l.length := by omega
        conv => whnf
        have e3 : IntKind.i64.wrap ((i : Int) + 1) = ((i + 1 : Nat) : Int) := by rw [w_i64 (by omega) (by omega)]; omega
        have e4 : IntKind.i64.wrap ((i : Int) + ((k + 1 : Nat) : Int)) = ((i + 1 + k : Nat) : Int) := by rw [w_i64 (by omega) (by omega)]; omega
        have e5 : IntKind.i64.wrap (((k + 1 : Nat) : Int) + 1) = ((k + 1 + 1 : Nat) : Int) := by rw [w_i64 (by omega) (by omega)]; omega
        have hv := valN_u24 (l := l.take k) (by simp; omega)
        have hd := (b.getD (i + 1 + k) 0).toNat_lt
        have e6 : l.take (k + 1) = l.take k ++ [l.getD k 0] := by
          rw [List.take_add_one, List.getD_eq_getElem?_getD, List.getElem?_eq_getElem hkl]
          rfl
        have e7 : IntKind.u32.wrap (IntKind.u32.wrap (256 * ((valN (l.take k) : Nat) : Int)) + IntKind.u32.wrap (((b.getD (i + 1 + k) 0).toNat : Nat) : Int)) = ((valN (l.take (k + 1)) : Nat) : Int) := by
          rw [e6, valN_snoc, hlj k hkl]
          simp only [w_u32]
          omega
        simp only [e3]
        refine ⟨?_, ?_⟩
        · conv => whnf
          intro g6
          conv => whnf
          omega
        conv => whnf
        refine onB_intro (fun g6 => ?_) (fun g6 => ?_)
        · conv => whnf
          simp [pickB, isLit] at g6
          rw [if_pos (.inr (.inr ⟨by omega, (byte0 _).1 (by simpa using g6.2)⟩))]
          rfl
        · conv => whnf
          simp only [e4]
          refine ⟨by omega, ?_⟩
          conv => whnf
          simp only [ti_nat, e5]
          rw [e7]
          refine ⟨l.length - (k + 1), _, by omega, env_weak [0, 1, 7, 8, 9] rfl, k + 1, rfl, by omega, fun _ => ?_, rfl⟩
          by_cases hk1 : k = 0
          · subst hk1
            simp [pickB, isLit] at g6
            intro e
            exact g6 (by rw [(byte0 _).2 (by simpa using e)])
          · exact hk0 (by omega)
      · have g5 := of_decide_eq_false g5
        obtain rfl : k = l.length := by omega
        conv => whnf
        simp only [List.take_length]
        rw [show IntKind.i64.wrap ((l.length : Int) + 1) = ((l.length + 1 : Nat) : Int) from by rw [w_i64 (by omega) (by omega)]; omega]
        rw [if_neg (by rintro (q | q | ⟨q1, q2⟩); omega; omega; exact hk0 q1 q2)]
        rfl
end Go.Eng
/- Numbers and texts as bytes: what is put. -/
set_option linter.unusedVariables false
set_option linter.unusedSimpArgs false
set_option maxRecDepth 100000
set_option maxHeartbeats 4000000
namespace Go.Eng
open Go Go.RowKit Go.Proofs
/-- A number's bytes, the greatest first, without any 0 ahead. -/
def be (v : Nat) : List UInt8 := if h : v = 0 then [] else be (v / 256) ++ [UInt8.ofNat (v % 256)]
termination_by v
decreasing_by omega
theorem be_0 : be 0 = [] := by rw [be]; rfl
theorem be_pos {v : Nat} (h : v ≠ 0) : be v = be (v / 256) ++ [UInt8.ofNat (v % 256)] := by rw [be, dif_neg h]
theorem be_len (k : Nat) : ∀ v, v < 256 ^ k → (be v).length ≤ k := by
  induction k with
  | zero => intro v h; obtain rfl : v = 0 := by simpa using h
            rw [be_0]; simp
  | succ k ih =>
    intro v h
    by_cases h0 : v = 0
    · subst h0; rw [be_0]; simp
    · rw [be_pos h0]
      have := ih (v / 256) (by rw [Nat.pow_succ] at h; omega)
      simp only [List.length_append, List.length_cons, List.length_nil]
      omega
theorem be_nil {v : Nat} : (be v).length = 0 ↔ v = 0 := by
  refine ⟨fun h => ?_, fun h => by rw [h, be_0]; rfl⟩
  false_or_by_contra
  rename_i h0
  rw [be_pos h0] at h
  simp at h
theorem be_u32 {v : Nat} (h : v < 4294967296) : (be v).length ≤ 4 := be_len 4 v (by simpa using h)
def putN (v : Nat) : List UInt8 := UInt8.ofNat (be v).length :: be v
theorem putN_len (v : Nat) : (putN v).length = (be v).length + 1 := rfl
abbrev bRow (b : List UInt8) : Option Ob := some (.row 5 1 b.length (byteF b))
theorem u8N (n : Nat) (h : n < 256) : ((UInt8.ofNat n).toNat : Int) = (n : Int) := by rw [nb h]
/-- The rounds of Put: k done. -/
def ptI (v : Nat) (n : Nat) (st : St) : Prop := ∃ k : Nat, n = 4 - k ∧ k ≤ 4 ∧
  st = ⟨32, 0, [(0, vci .u32 (v : Nat)), (3, .c (.row 0)), (4, vci .i64 (3 - (k : Int)))], [bRow (be (v / 256 ^ (4 - k)))]⟩
theorem app_two (x y : List UInt8) {f g : Nat → List IC} {K : Nat → (Nat → List IC) → Prop} {n m : Nat} (hn : n = x.length) (hm : m = y.length) (hf : ∀ k, k < x.length → f k = byteF x k) (hg : ∀ k, k < y.length → g k = byteF y k) (h : K (x ++ y).length (byteF (x ++ y))) :
    ∃ (n' : Nat) (f' : Nat → List IC), n' = n + m ∧ (∀ k, k < n → f' k = f k) ∧ (∀ k, k < m → f' (n + k) = g k) ∧ K n' f' := by
  subst hn hm
  refine ⟨_, _, by simp, fun k hk => ?_, fun k hk => ?_, h⟩
  · rw [hf k hk]
    simp [byteF, List.getD_eq_getElem?_getD, List.getElem?_append_left hk]
  · rw [hg k hk]
    simp only [byteF, List.getD_eq_getElem?_getD]
    rw [List.getElem?_append_right (by omega), Nat.add_sub_cancel_left]
theorem one_byte (c : UInt8) : ∀ k, k < [c].length → b1 c = byteF [c] k := fun k hk => by
  simp only [List.length_cons, List.length_nil] at hk
  obtain rfl : k = 0 := by omega
  rfl
theorem put_c (v : Nat) (hv : v < 4294967296) : CallV Tryd.prog 41 [vci .u32 (v : Nat)] [] (fun r own' => own' = [bRow (putN v)] ∧ r = .c (.row 0)) := by
  refine callV_own Tryd.func41 rfl ttok ftok rfl rfl rfl (Nat.le_of_ble_eq_true rfl) rfl ?_
  conv => whnf
  refine loopV ttok ftok (ptI v) ((nil_row 3 5 1 (byteF []) rfl).trans (norm_weak [0, 3, 4] [some 0] rfl rfl)) ⟨0, rfl, by omega, by rw [show v / 256 ^ (4 - 0) = 0 from Nat.div_eq_of_lt (by simpa using hv), be_0]; rfl⟩ ?_
  rintro m st ⟨k, rfl, hk, rfl⟩
  conv => whnf
  refine onB_intro (fun g => ?_) (fun g => ?_)
  · have g := of_decide_eq_true g
    have hk4 : k < 4 := by omega
    conv => whnf
    obtain ⟨u, hu⟩ : ∃ u, v / 256 ^ (4 - k) = u := ⟨_, rfl⟩
    obtain ⟨w, hw⟩ : ∃ w, v / 256 ^ (3 - k) = w := ⟨_, rfl⟩
    have huw : u = w / 256 := by rw [← hu, ← hw, Nat.div_div_eq_div_mul, ← Nat.pow_succ]; congr 2; omega
    have hw4 : w < 4294967296 := by rw [← hw]; exact Nat.lt_of_le_of_lt (Nat.div_le_self _ _) hv
    have hbu := be_u32 (v := u) (by omega)
    have es : IntKind.i64.wrap (8 * (3 - (k : Int))) = ((8 * (3 - k) : Nat) : Int) := by rw [w_i64 (by omega) (by omega)]; omega
    have ew : (v : Int) / 2 ^ (8 * (3 - k)) = (w : Int) := by
      rw [← hw, show (256 : Nat) ^ (3 - k) = 2 ^ (8 * (3 - k)) from by rw [Nat.pow_mul]]
      norm_cast
    have e4 : IntKind.i64.wrap (3 - (k : Int) - 1) = 3 - ((k + 1 : Nat) : Int) := by rw [w_i64 (by omega) (by omega)]; omega
    have e5 : 4 - (k + 1) = 3 - k := by omega
    rw [es]
    refine ⟨⟨by omega, by show ((8 * (3 - k) : Nat) : Int) ≤ 32; omega⟩, ?_⟩
    conv => whnf
    simp only [es, ti_nat, ew, hu]
    by_cases h0 : w = 0
    · have hu0 : u = 0 := by omega
      subst hu0
      rw [be_0]
      rw [h0]
      conv => whnf
      rw [e4]
      exact ⟨4 - (k + 1), _, by omega, env_weak [0, 3, 4] rfl, k + 1, rfl, by omega, by rw [e5, hw, h0, be_0]⟩
    · have hc : pickB (decide (IntKind.u8.wrap (w : Int) > 0)) (Operand.const (Value.bool true)) (Operand.tmp 20) true (decide (((be u).length : Int) > 0)) = true := by
        simp only [pickB, isLit, w_u8, Bool.or_eq_true, decide_eq_true_eq]
        by_cases hu0 : u = 0
        · exact .inl (by omega)
        · have := mt be_nil.1 hu0
          exact .inr (by omega)
      rw [hc]
      conv => whnf
      refine ⟨fun _ => b1 (UInt8.ofNat (w % 256)), fun j hj => ?_, ?_⟩
      · obtain rfl : j = 0 := by omega
        show b1 _ = [IC.v (Value.int IntKind.u8 (IntKind.u8.wrap (w : Int)))]
        simp only [b1, w_u8]
        rw [u8N _ (by omega)]
        congr
      conv => whnf
      refine ⟨⟨by omega, by show ((be u).length + 1) * 1 ≤ _; omega⟩, ?_⟩
      conv => whnf
      refine app_two (be u) [UInt8.ofNat (w % 256)] rfl rfl (fun k hk => rfl) (fun j hj => one_byte _ j hj) ?_
      subst huw
      rw [← be_pos h0]
      conv => whnf
      rw [e4]
      exact ⟨4 - (k + 1), _, by omega, norm_weak [0, 3, 4] [some 2] rfl rfl, k + 1, rfl, by omega, by rw [e5, hw]; rfl⟩
  · have g := of_decide_eq_false g
    obtain rfl : k = 4 := by omega
    have hl := be_u32 hv
    rw [show v / 256 ^ (4 - 4) = v from by simp]
    conv => whnf
    refine ⟨fun _ => b1 (UInt8.ofNat (be v).length), fun j hj => ?_, ?_⟩
    · obtain rfl : j = 0 := by omega
      show b1 _ = [IC.v (Value.int IntKind.u8 (IntKind.u8.wrap ((be v).length : Int)))]
      simp only [b1, w_u8]
      rw [u8N _ (by omega), Int.emod_eq_of_lt (by omega) (by omega)]
    conv => whnf
    refine ⟨⟨by omega, by show (1 + (be v).length) * 1 ≤ _; omega⟩, ?_⟩
    conv => whnf
    refine app_two [UInt8.ofNat (be v).length] (be v) rfl rfl (fun j hj => one_byte _ j hj) (fun j hj => rfl) ?_
    conv => whnf
    refine ⟨_, Weak.refl _, ?_⟩
    conv => whnf
    exact ⟨[some 2], rfl, rfl, rfl, rfl⟩
/-- The rounds of the reference's. -/
def rpI (v0 : Nat) (n : Nat) (st : St) : Prop := ∃ b : List UInt8, be v0 = be n ++ b ∧ n < 4294967296 ∧ st = ⟨20, 0, [(0, vci .u32 (n : Nat)), (3, .c (.row 0))], [bRow b]⟩
theorem rput_c (v : Nat) (hv : v < 4294967296) : CallV Tryd.prog 23 [vci .u32 (v : Nat)] [] (fun r own' => own' = [bRow (putN v)] ∧ r = .c (.row 0)) := by
  refine callV_own Tryd.func23 rfl ttok ftok rfl rfl rfl (Nat.le_of_ble_eq_true rfl) rfl ?_
  conv => whnf
  refine loopV ttok ftok (rpI v) ((nil_row 3 5 1 (byteF []) rfl).trans (norm_weak [0, 3] [some 0] rfl rfl)) ⟨[], by simp, hv, rfl⟩ ?_
  rintro m st ⟨b, he, hm, rfl⟩
  have hl := be_u32 hv
  have hbl : (be m).length + b.length ≤ 4 := by rw [he] at hl; simpa using hl
  conv => whnf
  refine onB_intro (fun g => ?_) (fun g => ?_)
  · have g := of_decide_eq_true g
    have hm0 : m ≠ 0 := by omega
    have hbp := be_pos hm0
    conv => whnf
    try refine ⟨by omega, ?_⟩
    conv => whnf
    refine ⟨fun _ => b1 (UInt8.ofNat (m % 256)), fun j hj => ?_, ?_⟩
    · obtain rfl : j = 0 := by omega
      show b1 _ = [IC.v (Value.int IntKind.u8 (IntKind.u8.wrap ((m : Int).tmod 256)))]
      simp only [b1, w_u8]
      rw [u8N _ (by omega), Int.tmod_eq_emod_of_nonneg (by omega), Int.emod_emod_of_dvd _ (by decide)]
      norm_cast
    conv => whnf
    refine ⟨⟨by omega, by show (1 + b.length) * 1 ≤ _; omega⟩, ?_⟩
    conv => whnf
    refine app_two [UInt8.ofNat (m % 256)] b rfl rfl (fun j hj => one_byte _ j hj) (fun j hj => rfl) ?_
    conv => whnf
    refine ⟨by omega, by omega, ?_⟩
    conv => whnf
    rw [show IntKind.u32.wrap ((m : Int) / 256) = ((m / 256 : Nat) : Int) from by rw [w_u32]; omega]
    exact ⟨m / 256, _, by omega, norm_weak [0, 3] [some 2] rfl rfl, [UInt8.ofNat (m % 256)] ++ b, by rw [he, hbp, List.append_assoc], by omega, rfl⟩
  · have g := of_decide_eq_false g
    obtain rfl : m = 0 := by omega
    rw [be_0, List.nil_append] at he
    subst he
    conv => whnf
    refine ⟨fun _ => b1 (UInt8.ofNat (be v).length), fun j hj => ?_, ?_⟩
    · obtain rfl : j = 0 := by omega
      show b1 _ = [IC.v (Value.int IntKind.u8 (IntKind.u8.wrap ((be v).length : Int)))]
      simp only [b1, w_u8]
      rw [u8N _ (by omega), Int.emod_eq_of_lt (by omega) (by omega)]
    conv => whnf
    refine ⟨⟨by omega, by show (1 + (be v).length) * 1 ≤ _; omega⟩, ?_⟩
    conv => whnf
    refine app_two [UInt8.ofNat (be v).length] (be v) rfl rfl (fun j hj => one_byte _ j hj) (fun j hj => rfl) ?_
    conv => whnf
    refine ⟨_, Weak.refl _, ?_⟩
    conv => whnf
    exact ⟨[some 2], rfl, rfl, rfl, rfl⟩
def putT (s : ByteArray) : List UInt8 := putN s.size ++ s.data.toList
theorem ptext_c (s : ByteArray) (hs : s.size ≤ 1000000000) : CallV Tryd.prog 22 [vcs s] [] (fun r own' => own' = [none, bRow (putT s)] ∧ r = .c (.row 1)) := by
  have hn : IntKind.u32.wrap (s.size : Int) = (s.size : Int) := by rw [w_u32]; omega
  have hl := be_u32 (v := s.size) (by omega)
  refine callV_own Tryd.func22 rfl ttok ftok rfl rfl rfl (Nat.le_of_ble_eq_true rfl) rfl ?_
  conv => whnf
  refine ⟨by omega, ?_⟩
  conv => whnf
  rw [hn]
  refine call_frame2 [] rfl rfl rfl rfl (put_c s.size (by omega)) ?_
  rintro r own2 ⟨rfl, rfl⟩
  refine ⟨.c (.row 0), [bRow (putN s.size)], rfl, rfl, ?_⟩
  conv => whnf
  refine ⟨⟨by rw [putN_len]; omega, by show ((putN s.size).length + s.size) * 1 ≤ _; rw [putN_len]; omega⟩, ?_⟩
  conv => whnf
  refine app_two (putN s.size) s.data.toList rfl (ba_len' s).symm (fun j hj => rfl) (fun j hj => rfl) ?_
  conv => whnf
  refine ⟨_, Weak.refl _, ?_⟩
  conv => whnf
  exact ⟨[none, some 1], rfl, rfl, rfl, rfl⟩
theorem rptext_c (s : ByteArray) (hs : s.size ≤ 1000000000) : CallV Tryd.prog 25 [vcs s] [] (fun r own' => own' = [none, bRow (putT s)] ∧ r = .c (.row 1)) := by
  have hn : IntKind.u32.wrap (s.size : Int) = (s.size : Int) := by rw [w_u32]; omega
  have hl := be_u32 (v := s.size) (by omega)
  refine callV_own Tryd.func25 rfl ttok ftok rfl rfl rfl (Nat.le_of_ble_eq_true rfl) rfl ?_
  conv => whnf
  refine ⟨by omega, ?_⟩
  conv => whnf
  rw [hn]
  refine call_frame2 [] rfl rfl rfl rfl (rput_c s.size (by omega)) ?_
  rintro r own2 ⟨rfl, rfl⟩
  refine ⟨.c (.row 0), [bRow (putN s.size)], rfl, rfl, ?_⟩
  conv => whnf
  refine ⟨by omega, ?_⟩
  conv => whnf
  refine ⟨⟨by rw [putN_len]; omega, by show ((putN s.size).length + s.size) * 1 ≤ _; rw [putN_len]; omega⟩, ?_⟩
  conv => whnf
  refine app_two (putN s.size) s.data.toList rfl (ba_len' s).symm (fun j hj => rfl) (fun j hj => rfl) ?_
  conv => whnf
  refine ⟨_, Weak.refl _, ?_⟩
  conv => whnf
  exact ⟨[none, some 1], rfl, rfl, rfl, rfl⟩
theorem code_0 : CallV Tryd.prog 14 [.c (.v .nilIface)] [] (fun r own' => own' = [] ∧ r = vci .i64 0) := by
  refine callV_pure Tryd.func14 rfl ttok ftok rfl rfl rfl (Nat.le_of_ble_eq_true rfl) ?_
  conv => whnf
  try rfl
theorem code_2 : CallV Tryd.prog 14 [errM] [] (fun r own' => own' = [] ∧ r = vci .i64 2) := by
  refine callV_pure Tryd.func14 rfl ttok ftok rfl rfl rfl (Nat.le_of_ble_eq_true rfl) ?_
  conv => whnf
  refine loop_rounds 8 ttok ftok ?_
  conv => whnf
  try rfl
theorem pick_c (n by_ : Int) (h1 : -9223372036854775808 ≤ n) (h2 : n ≤ 9223372036854775807) (hb : 0 < by_) (hb2 : by_ ≤ 9223372036854775807) : CallV Tryd.prog 15 [vci .i64 n, vci .i64 by_] [] (fun r own' => own' = [] ∧ r = vci .i64 (n % by_)) := by
  have hm : n.tmod by_ = if 0 ≤ n.tmod by_ then n % by_ else n % by_ - by_ := by
    have e1 := Int.emod_nonneg n (show by_ ≠ 0 by omega)
    have e2 := Int.emod_lt_of_pos n hb
    have e3 := Int.tmod_add_mul_tdiv n by_
    have e4 := Int.emod_add_mul_ediv n by_
    rcases Int.le_total 0 n with h | h
    · rw [Int.tmod_eq_emod_of_nonneg h, if_pos e1]
    · have := Int.tmod_eq_emod (a := n) (b := by_)
      split at this <;> split <;> omega
  refine callV_pure Tryd.func15 rfl ttok ftok rfl rfl rfl (Nat.le_of_ble_eq_true rfl) ?_
  conv => whnf
  refine ⟨hb, ?_⟩
  conv => whnf
  by_cases h : n.tmod by_ < 0
  · rw [decide_eq_true h]
    conv => whnf
    rw [show IntKind.i64.wrap (n.tmod by_ + by_) = n % by_ from by rw [hm, if_neg (by omega)]; have := Int.emod_nonneg n (show by_ ≠ 0 by omega); have := Int.emod_lt_of_pos n hb; rw [w_i64 (by omega) (by omega)]; omega]
  · rw [decide_eq_false h]
    conv => whnf
    rw [hm, if_pos (by omega)]
/-! ### Texts -/
def getT (b : List UInt8) (at_ : Int) : Option (ByteArray × Nat) := match getN b at_ with
  | none => none
  | some (m, n) => if (b.length : Int) - at_ - n < m then none else if (charsF ⟨((b.drop (at_.toNat + n)).take m).toArray⟩).isSome = true then some (⟨((b.drop (at_.toNat + n)).take m).toArray⟩, n + m) else none
def getTV (o : Option (ByteArray × Nat)) : AV := match o with
  | some (s, n) => .tup [vcs s, vci .i64 n, .c (.v .nilIface)]
  | none => .tup [vcs ⟨#[]⟩, vci .i64 0, errM]
def getTW (o : Option (ByteArray × Nat)) : AV := match o with
  | some (s, n) => .tup [vcs s, vci .i64 n, vcb true]
  | none => .tup [vcs ⟨#[]⟩, vci .i64 0, vcb false]
theorem getN_some {b : List UInt8} {at_ : Int} {v n : Nat} (h : getN b at_ = some (v, n)) : ∃ i : Nat, at_ = i ∧ i < b.length ∧ 1 ≤ n ∧ n ≤ 5 ∧ i + n ≤ b.length ∧ v < 4294967296 ∧ (b.getD i 0).toNat + 1 = n ∧ v = valN ((b.drop (i + 1)).take (n - 1)) ∧ (1 < n → b.getD (i + 1) 0 ≠ 0) := by
  unfold getN at h
  split at h
  · cases h
  · split at h
    · cases h
    · rename_i h1 h2
      cases h
      obtain ⟨i, rfl⟩ : ∃ i : Nat, at_ = (i : Int) := ⟨at_.toNat, by omega⟩
      rw [ti_nat] at h2 ⊢
      refine ⟨i, rfl, by omega, by omega, by omega, by omega, valN_u32 (by rw [List.length_take]; omega), rfl, rfl, fun h e => h2 (.inr (.inr ⟨by omega, e⟩))⟩
theorem gtext_c (b : List UInt8) (hb : b.length ≤ 100000000) (at_ : Int) (ha1 : -9223372036854775808 ≤ at_) (ha2 : at_ ≤ 9223372036854775807) : CallV Tryd.prog 54 [bS b, vci .i64 at_] [] (fun r own' => own' = [] ∧ r = getTV (getT b at_)) := by
  unfold getT
  refine callV_pure Tryd.func54 rfl ttok ftok rfl rfl rfl (Nat.le_of_ble_eq_true rfl) ?_
  conv => whnf
  refine call_pure (get_c b (by omega) at_ ha1 ha2) rfl ?_
  rintro _ rfl
  cases hg : getN b at_ with
  | none =>
    conv => whnf
    try rfl
  | some x =>
    obtain ⟨v, n⟩ := x
    obtain ⟨i, rfl, hi, hn1, hn5, hin, hv, _⟩ := getN_some hg
    have e1 : IntKind.u64.wrap (v : Int) = (v : Int) := by rw [w_u64]; omega
    have e2 : IntKind.u64.wrap (IntKind.i64.wrap (IntKind.i64.wrap ((b.length : Int) - i) - n)) = (b.length : Int) - i - n := by
      rw [w_i64 (x := (b.length : Int) - i) (by omega) (by omega), w_i64 (by omega) (by omega), w_u64]; omega
    conv => whnf
    simp only [e1, e2, ti_nat]
    refine onB_intro (fun h => ?_) (fun h => ?_)
    · have h := of_decide_eq_true h
      rw [if_pos (by omega)]
      conv => whnf
      try rfl
    · have h := of_decide_eq_false h
      rw [if_neg (by omega)]
      have e3 : IntKind.i64.wrap ((i : Int) + n) = ((i + n : Nat) : Int) := by rw [w_i64 (by omega) (by omega)]; omega
      have e4 : IntKind.i64.wrap (v : Int) = (v : Int) := w_i64 (by omega) (by omega)
      have e5 : IntKind.i64.wrap (((i + n : Nat) : Int) + (v : Int)) = ((i + n + v : Nat) : Int) := by rw [w_i64 (by omega) (by omega)]; omega
      have e6 : IntKind.i64.wrap ((n : Int) + (v : Int)) = ((n + v : Nat) : Int) := by rw [w_i64 (by omega) (by omega)]; omega
      obtain ⟨l, hl⟩ : ∃ l, (b.drop (i + n)).take v = l := ⟨_, rfl⟩
      have hll : l.length = v := by rw [← hl]; simp; omega
      have hsz : (⟨l.toArray⟩ : ByteArray).size = l.length := by show l.toArray.size = _; simp
      rw [hl]
      conv => whnf
      simp only [e3, e4, e5, ti_nat]
      refine ⟨by omega, ?_⟩
      conv => whnf
      refine sl_ex (enc := b1) (d := 0) l (by rw [hll]; omega) (fun j hj => ?_) ?_
      · rw [← hl, getD_take _ _ _ _ (by omega), getD_drop]
      conv => whnf
      refine ⟨l, rfl, fun _ _ => rfl, ?_⟩
      conv => whnf
      refine call_pure (valid_c ⟨l.toArray⟩ (by rw [hsz]; omega)) rfl ?_
      rintro _ rfl
      cases hc : (charsF ⟨l.toArray⟩).isSome with
      | true =>
        conv => whnf
        rw [e4, e6]
        rfl
      | false =>
        conv => whnf
        try rfl
theorem rgtext_c (b : List UInt8) (hb : b.length ≤ 100000000) (at_ : Int) (ha1 : -9223372036854775808 ≤ at_) (ha2 : at_ ≤ 9223372036854775807) : CallV Tryd.prog 30 [bS b, vci .i64 at_] [] (fun r own' => own' = [] ∧ r = getTW (getT b at_)) := by
  unfold getT
  refine callV_pure Tryd.func30 rfl ttok ftok rfl rfl rfl (Nat.le_of_ble_eq_true rfl) ?_
  conv => whnf
  refine call_pure (rget_c b (by omega) at_ ha1 ha2) rfl ?_
  rintro _ rfl
  cases hg : getN b at_ with
  | none =>
    conv => whnf
    try rfl
  | some x =>
    obtain ⟨v, n⟩ := x
    obtain ⟨i, rfl, hi, hn1, hn5, hin, hv, _⟩ := getN_some hg
    have e1 : IntKind.i64.wrap (v : Int) = (v : Int) := w_i64 (by omega) (by omega)
    have e2 : IntKind.i64.wrap (IntKind.i64.wrap ((b.length : Int) - i) - n) = (b.length : Int) - i - n := by
      rw [w_i64 (x := (b.length : Int) - i) (by omega) (by omega), w_i64 (by omega) (by omega)]
    conv => whnf
    simp only [e1, e2, ti_nat]
    refine onB_intro (fun h => ?_) (fun h => ?_)
    · have h := of_decide_eq_true h
      rw [if_pos (by omega)]
      conv => whnf
      try rfl
    · have h := of_decide_eq_false h
      rw [if_neg (by omega)]
      have e3 : IntKind.i64.wrap ((i : Int) + n) = ((i + n : Nat) : Int) := by rw [w_i64 (by omega) (by omega)]; omega
      have e4 : IntKind.i64.wrap (v : Int) = (v : Int) := w_i64 (by omega) (by omega)
      have e5 : IntKind.i64.wrap (((i + n : Nat) : Int) + (v : Int)) = ((i + n + v : Nat) : Int) := by rw [w_i64 (by omega) (by omega)]; omega
      have e6 : IntKind.i64.wrap ((n : Int) + (v : Int)) = ((n + v : Nat) : Int) := by rw [w_i64 (by omega) (by omega)]; omega
      obtain ⟨l, hl⟩ : ∃ l, (b.drop (i + n)).take v = l := ⟨_, rfl⟩
      have hll : l.length = v := by rw [← hl]; simp; omega
      have hsz : (⟨l.toArray⟩ : ByteArray).size = l.length := by show l.toArray.size = _; simp
      rw [hl]
      conv => whnf
      simp only [e3, e4, e5, ti_nat]
      refine ⟨by omega, ?_⟩
      conv => whnf
      refine sl_ex (enc := b1) (d := 0) l (by rw [hll]; omega) (fun j hj => ?_) ?_
      · rw [← hl, getD_take _ _ _ _ (by omega), getD_drop]
      conv => whnf
      refine ⟨l, rfl, fun _ _ => rfl, ?_⟩
      conv => whnf
      cases hc : charsF ⟨l.toArray⟩ with
      | some L =>
        refine call_pure (chars_c ⟨l.toArray⟩ (by rw [hsz]; omega)) rfl ?_
        rintro _ rfl
        unfold charsV
        rw [hc]
        conv => whnf
        rw [e4, e6]
        rfl
      | none =>
        refine call_pure (chars_c ⟨l.toArray⟩ (by rw [hsz]; omega)) rfl ?_
        rintro _ rfl
        unfold charsV
        rw [hc]
        conv => whnf
        try rfl
end Go.Eng
/- What is put is got: the mathematics of numbers and texts as bytes. -/
set_option linter.unusedVariables false
set_option linter.unusedSimpArgs false
namespace Go.Eng
open Go Go.RowKit
theorem valN_be (v : Nat) : valN (be v) = v := by
  induction v using Nat.strongRecOn with
  | ind v ih =>
    by_cases h : v = 0
    · subst h; rw [be_0]; rfl
    · rw [be_pos h, valN_snoc, ih (v / 256) (by omega), nb (by omega)]
      omega
theorem be_head {v : Nat} (h : v ≠ 0) : (be v).getD 0 0 ≠ 0 := by
  induction v using Nat.strongRecOn with
  | ind v ih =>
    rw [be_pos h]
    by_cases h2 : v / 256 = 0
    · rw [h2, be_0]
      intro e
      have : (UInt8.ofNat (v % 256)).toNat = 0 := by
        rw [byte0]; simpa using e
      rw [nb (by omega)] at this
      omega
    · have h3 := ih (v / 256) (by omega) h2
      have h4 : (be (v / 256)).length ≠ 0 := mt be_nil.1 h2
      rw [List.getD_eq_getElem?_getD, List.getElem?_append_left (by omega), ← List.getD_eq_getElem?_getD]
      exact h3
theorem be_snoc (l : List UInt8) (c : UInt8) (hl : l ≠ [] → valN l ≠ 0) (hc : l = [] → c ≠ 0) : be (valN (l ++ [c])) = be (valN l) ++ [c] := by
  rw [valN_snoc]
  have hlt := c.toNat_lt
  have h0 : valN l * 256 + c.toNat ≠ 0 := by
    by_cases h : l = []
    · have := mt (byte0 c).1 (hc h)
      omega
    · have := hl h
      omega
  rw [be_pos h0, show (valN l * 256 + c.toNat) / 256 = valN l from by omega, show (valN l * 256 + c.toNat) % 256 = c.toNat from by omega, UInt8.ofNat_toNat]
theorem valN_ne (l : List UInt8) (h0 : l ≠ []) (h : l.getD 0 0 ≠ 0) : valN l ≠ 0 := by
  suffices H : ∀ n (l : List UInt8), l.length = n + 1 → l.getD 0 0 ≠ 0 → valN l ≠ 0 by
    obtain ⟨n, hn⟩ : ∃ n, l.length = n + 1 := ⟨l.length - 1, by have := List.length_pos_iff.2 h0; omega⟩
    exact H n l hn h
  intro n
  induction n with
  | zero =>
    intro l hl h
    match l, hl with
    | [c], _ =>
      intro e
      exact h ((byte0 c).1 (by simpa [valN] using e))
  | succ n ih =>
    intro l hl h
    obtain ⟨m, c, rfl⟩ : ∃ m c, l = m ++ [c] := ⟨l.dropLast, l.getLast (by intro e; subst e; cases hl), (List.dropLast_concat_getLast _).symm⟩
    have hm : m.length = n + 1 := by simpa using hl
    have h2 : m.getD 0 0 ≠ 0 := by
      rw [List.getD_eq_getElem?_getD, List.getElem?_append_left (by omega), ← List.getD_eq_getElem?_getD] at h
      exact h
    have := ih m hm h2
    rw [valN_snoc]
    omega
theorem be_valN (l : List UInt8) (h : l ≠ [] → l.getD 0 0 ≠ 0) : be (valN l) = l := by
  suffices H : ∀ n (l : List UInt8), l.length = n → (l ≠ [] → l.getD 0 0 ≠ 0) → be (valN l) = l from H _ l rfl h
  intro n
  induction n with
  | zero => intro l hl _; obtain rfl := List.eq_nil_of_length_eq_zero hl; exact be_0
  | succ n ih =>
    intro l hl h
    obtain ⟨m, c, rfl⟩ : ∃ m c, l = m ++ [c] := ⟨l.dropLast, l.getLast (by intro e; subst e; cases hl), (List.dropLast_concat_getLast _).symm⟩
    have hm : m.length = n := by simpa using hl
    have h1 := h (by simp)
    have h2 : m ≠ [] → m.getD 0 0 ≠ 0 := fun hne => by
      have := List.length_pos_iff.2 hne
      rw [List.getD_eq_getElem?_getD, List.getElem?_append_left (by omega), ← List.getD_eq_getElem?_getD] at h1
      exact h1
    rw [be_snoc m c (fun hne => valN_ne m hne (h2 hne)) (fun e => by subst e; simpa using h1), ih m hm h2]
theorem getD_app_r (a b : List UInt8) (j : Nat) : (a ++ b).getD (a.length + j) 0 = b.getD j 0 := by
  rw [List.getD_eq_getElem?_getD, List.getElem?_append_right (by omega), Nat.add_sub_cancel_left, ← List.getD_eq_getElem?_getD]
theorem drop_app (a b : List UInt8) (j : Nat) : (a ++ b).drop (a.length + j) = b.drop j := by
  rw [List.drop_append, List.drop_eq_nil_of_le (by omega), Nat.add_sub_cancel_left, List.nil_append]
theorem getN_app (a b : List UInt8) : getN (a ++ b) (a.length : Nat) = getN b 0 := by
  unfold getN
  rw [ti_nat]
  have e0 := getD_app_r a b 0
  have e1 := getD_app_r a b 1
  have e2 := drop_app a b 1
  rw [Nat.add_zero] at e0
  rw [e0, e1, e2, List.length_append]
  by_cases hb : b.length = 0
  · rw [if_pos (by omega), if_pos (by omega)]
  · simp only [show ¬ (((a.length : Nat) : Int) < 0 ∨ ((a.length + b.length : Nat) : Int) ≤ ((a.length : Nat) : Int)) from by omega, show ¬ ((0 : Int) < 0 ∨ (b.length : Int) ≤ 0) from by omega, if_false]
    simp only [show (0 : Int).toNat = 0 from rfl, Nat.zero_add]
    have hc : (a.length + b.length < a.length + 1 + (b.getD 0 0).toNat) = (b.length < 1 + (b.getD 0 0).toNat) := propext ⟨fun h => by omega, fun h => by omega⟩
    simp only [hc]
theorem getN_put0 (v : Nat) (hv : v < 4294967296) (r : List UInt8) : getN (putN v ++ r) 0 = some (v, (putN v).length) := by
  have hl := be_u32 hv
  unfold getN
  have e0 : (putN v ++ r).getD 0 0 = UInt8.ofNat (be v).length := rfl
  have e1 : (putN v ++ r).getD 1 0 = (be v ++ r).getD 0 0 := rfl
  have e2 : (putN v ++ r).drop 1 = be v ++ r := rfl
  have e3 : (putN v ++ r).length = (be v).length + r.length + 1 := by rw [List.length_append, putN_len]; omega
  simp only [show (0 : Int).toNat = 0 from rfl, Nat.zero_add]
  rw [e0, nb (by omega), e1, e2, e3, if_neg (by omega), if_neg, List.take_left, valN_be, putN_len]
  rintro (q | q | ⟨q1, q2⟩)
  · omega
  · omega
  · rw [List.getD_eq_getElem?_getD, List.getElem?_append_left q1, ← List.getD_eq_getElem?_getD] at q2
    exact be_head (fun e => by rw [be_nil.2 e] at q1; omega) q2
theorem getN_put (v : Nat) (hv : v < 4294967296) (a r : List UInt8) : getN (a ++ putN v ++ r) (a.length : Nat) = some (v, (putN v).length) := by
  rw [List.append_assoc, getN_app, getN_put0 v hv]
theorem getN_cut (v : Nat) (hv : v < 4294967296) (k : Nat) (hk : k < (putN v).length) : getN ((putN v).take k) 0 = none := by
  have hl := be_u32 hv
  rw [putN_len] at hk
  unfold getN
  cases k with
  | zero => rw [if_pos (by simp)]
  | succ k =>
    have e0 : ((putN v).take (k + 1)).getD 0 0 = UInt8.ofNat (be v).length := rfl
    have e3 : ((putN v).take (k + 1)).length = k + 1 := by rw [List.length_take, putN_len]; omega
    simp only [show (0 : Int).toNat = 0 from rfl, Nat.zero_add]
    rw [e0, nb (by omega), e3, if_neg (by omega), if_pos (by omega)]
theorem ba_take (s : ByteArray) : (⟨(s.data.toList).toArray⟩ : ByteArray) = s := by
  apply ba_ext
  simp
theorem getT_some {b : List UInt8} {i : Nat} {m n : Nat} (h : getN b (i : Nat) = some (m, n)) : getT b (i : Nat) = if (b.length : Int) - (i : Int) - n < m then none else if (charsF ⟨((b.drop (i + n)).take m).toArray⟩).isSome = true then some (⟨((b.drop (i + n)).take m).toArray⟩, n + m) else none := by
  unfold getT
  rw [h]
  simp only [ti_nat]
theorem getT_put (s : ByteArray) (hs : s.size ≤ 1000000) (hc : (charsF s).isSome = true) (a r : List UInt8) : getT (a ++ putT s ++ r) (a.length : Nat) = some (s, (putT s).length) := by
  have hg : getN (a ++ putT s ++ r) (a.length : Nat) = some (s.size, (putN s.size).length) := by
    unfold putT
    rw [show a ++ (putN s.size ++ s.data.toList) ++ r = a ++ putN s.size ++ (s.data.toList ++ r) from by simp [List.append_assoc]]
    exact getN_put s.size (by omega) a _
  rw [getT_some hg]
  have hlen : (a ++ putT s ++ r).length = a.length + ((putN s.size).length + s.size) + r.length := by
    unfold putT
    simp only [List.length_append, ba_len']
  have hd : (a ++ putT s ++ r).drop (a.length + (putN s.size).length) = s.data.toList ++ r := by
    unfold putT
    rw [show a ++ (putN s.size ++ s.data.toList) ++ r = (a ++ putN s.size) ++ (s.data.toList ++ r) from by simp [List.append_assoc], ← List.length_append, List.drop_left]
  rw [hd, hlen, if_neg (by omega), show (s.data.toList ++ r).take s.size = s.data.toList from by rw [← ba_len' s, List.take_left], ba_take, if_pos hc]
  unfold putT
  rw [List.length_append, ba_len']
theorem getT_cut (s : ByteArray) (hs : s.size ≤ 1000000) (k : Nat) (hk : k < (putT s).length) : getT ((putT s).take k) 0 = none := by
  have hk2 : k < (putN s.size).length + s.size := by
    unfold putT at hk
    rw [List.length_append, ba_len'] at hk
    exact hk
  by_cases h : k < (putN s.size).length
  · have e : (putT s).take k = (putN s.size).take k := by
      unfold putT
      rw [List.take_append_of_le_length (by omega)]
    unfold getT
    rw [e, getN_cut _ (by omega) k h]
  · have e : (putT s).take k = putN s.size ++ s.data.toList.take (k - (putN s.size).length) := by
      unfold putT
      rw [List.take_append, List.take_of_length_le (by omega)]
    have hg := getN_put0 s.size (by omega) (s.data.toList.take (k - (putN s.size).length))
    rw [e]
    have := getT_some (i := 0) hg
    rw [show ((0 : Nat) : Int) = 0 from rfl] at this
    rw [this, if_pos]
    rw [List.length_append, List.length_take, ba_len']
    omega
theorem put_get (b : List UInt8) {y m : Nat} (h : getN b 0 = some (y, m)) : m ≤ b.length ∧ y < 4294967296 ∧ putN y = b.take m := by
  obtain ⟨i, hi, h1, h2, h3, h4, h5, h6, h7, h8⟩ := getN_some h
  obtain rfl : i = 0 := by omega
  refine ⟨by omega, h5, ?_⟩
  obtain ⟨l, hl⟩ : ∃ l, (b.drop 1).take (m - 1) = l := ⟨_, rfl⟩
  simp only [Nat.zero_add] at h7 h8
  rw [hl] at h7
  have hll : l.length = m - 1 := by rw [← hl, List.length_take, List.length_drop]; omega
  have hbe : be y = l := by
    rw [h7]
    refine be_valN l (fun hne => ?_)
    have := List.length_pos_iff.2 hne
    rw [← hl, getD_take _ _ _ _ (by omega), getD_drop]
    exact h8 (by omega)
  have hb : b = b.getD 0 0 :: b.drop 1 := by
    cases b with
    | nil => simp at h1
    | cons c r => rfl
  obtain ⟨m, rfl⟩ : ∃ q, m = q + 1 := ⟨m - 1, by omega⟩
  rw [hb, List.take_succ_cons]
  unfold putN
  rw [hbe, hll, ← hl]
  have e : UInt8.ofNat (m + 1 - 1) = b.getD 0 0 := by
    rw [show m + 1 - 1 = (b.getD 0 0).toNat from by omega, UInt8.ofNat_toNat]
  rw [e]
  simp
end Go.Eng
/- Batches: their bytes. -/
set_option linter.unusedVariables false
set_option linter.unusedSimpArgs false
set_option maxRecDepth 100000
set_option maxHeartbeats 4000000
namespace Go.Eng
open Go Go.RowKit Go.Proofs
abbrev uF (v : Int) : List IC := [vu v]
abbrev uRow (l : List Int) : Option Ob := some (.row 45 1 l.length fun k => uF (l.getD k 0))
def u32L (l : List Int) : Prop := ∀ v, v ∈ l → 0 ≤ v ∧ v ≤ 4294967295
def encN (l : List Int) : List UInt8 := l.flatMap fun v => putN v.toNat
theorem putN_le {v : Nat} (h : v < 4294967296) : (putN v).length ≤ 5 := by rw [putN_len]; have := be_u32 h; omega
theorem encN_snoc (l : List Int) (v : Int) : encN (l ++ [v]) = encN l ++ putN v.toNat := by unfold encN; rw [List.flatMap_append]; simp
theorem encN_len : ∀ (l : List Int), u32L l → (encN l).length ≤ l.length * 5
  | [], _ => by simp [encN]
  | v :: l, h => by
    have h1 := encN_len l (fun x hx => h x (List.mem_cons_of_mem _ hx))
    have h2 := h v (List.mem_cons_self ..)
    have h3 := putN_le (v := v.toNat) (by omega)
    unfold encN at h1 ⊢
    rw [List.flatMap_cons, List.length_append, List.length_cons, Nat.succ_mul]
    omega
theorem u32_at {l : List Int} (h : u32L l) {k : Nat} (hk : k < l.length) : 0 ≤ l.getD k 0 ∧ l.getD k 0 ≤ 4294967295 := by
  rw [List.getD_eq_getElem?_getD, List.getElem?_eq_getElem hk]
  exact h _ (List.getElem_mem hk)
def nuI (b : List UInt8) (vs : List Int) (i j : Nat) (O : List (Option Ob)) (n : Nat) (st : St) : Prop := ∃ k : Nat, n = vs.length - k ∧ k ≤ vs.length ∧
  st = ⟨19, O.length - 1, [(0, .c (.row i)), (7, .c (.row j)), (8, vci .i64 vs.length), (9, vci .i64 (k : Int))], O.set i (bRow (b ++ encN (vs.take k)))⟩
theorem numN_c (vs : List Int) (hv : u32L vs) (hl : vs.length ≤ 1000) : CallV Tryd.prog 21 [nilS, .c (.row 0)] [uRow vs] (fun r own' => own' = [uRow vs, bRow (encN vs)] ∧ r = .c (.row 1)) := by
  refine callV_own Tryd.func21 rfl ttok ftok rfl rfl rfl (Nat.le_of_ble_eq_true rfl) rfl ?_
  conv => whnf
  refine loopV ttok ftok (nuI [] vs 1 0 [uRow vs, none]) ((nil_row 0 5 1 (byteF []) rfl).trans (norm_weak [0, 7, 8, 9] [some 0, some 1] rfl rfl)) ⟨0, rfl, Nat.zero_le _, rfl⟩ ?_
  rintro n st ⟨k, rfl, hk, rfl⟩
  have e1 : IntKind.i64.wrap ((k : Int) + 1) = ((k + 1 : Nat) : Int) := by rw [w_i64 (by omega) (by omega)]; omega
  have hlen := encN_len (vs.take k) (fun v hv2 => hv v (List.mem_of_mem_take hv2))
  rw [List.length_take] at hlen
  conv => whnf
  refine onB_intro (fun h => ?_) (fun h => ?_)
  · have h := of_decide_eq_true h
    have hk2 : k < vs.length := by omega
    have hvk := u32_at hv hk2
    conv => whnf
    refine ⟨by omega, ?_⟩
    conv => whnf
    simp only [ti_nat]
    obtain ⟨v, hvv⟩ : ∃ v : Nat, vs.getD k 0 = (v : Int) := ⟨(vs.getD k 0).toNat, by omega⟩
    rw [hvv]
    have hv4 : v < 4294967296 := by omega
    have hpl := putN_le hv4
    refine call_frame2 [] rfl rfl rfl rfl (put_c v hv4) ?_
    rintro r own2 ⟨rfl, rfl⟩
    refine ⟨.c (.row 2), _, rfl, rfl, ?_⟩
    conv => whnf
    refine ⟨⟨by (try simp only [List.length_append, List.length_nil]); omega, by simp only [List.length_append, List.length_nil, show ti5.bytes = 1 from rfl]; omega⟩, ?_⟩
    conv => whnf
    refine app_two ([] ++ encN (vs.take k)) (putN v) rfl rfl (fun j hj => rfl) (fun j hj => rfl) ?_
    conv => whnf
    rw [e1]
    refine ⟨vs.length - (k + 1), _, by omega, norm_weak [0, 7, 8, 9] [some 0, some 3] rfl rfl, k + 1, rfl, by omega, ?_⟩
    rw [take_snoc (d := 0) hk2, encN_snoc, hvv, Int.toNat_natCast, ← List.append_assoc]
    rfl
  · have h := of_decide_eq_false h
    obtain rfl : k = vs.length := by omega
    rw [List.take_length]
    conv => whnf
    refine ⟨_, Weak.refl _, ?_⟩
    conv => whnf
    exact ⟨[some 0, some 1], rfl, rfl, rfl, rfl⟩
theorem num_c (b : List UInt8) (hb : b.length ≤ 100000000) (vs : List Int) (hv : u32L vs) (hl : vs.length ≤ 1000) : CallV Tryd.prog 21 [.c (.row 0), .c (.row 1)] [bRow b, uRow vs] (fun r own' => own' = [none, uRow vs, bRow (b ++ encN vs)] ∧ r = .c (.row 2)) := by
  refine callV_own Tryd.func21 rfl ttok ftok rfl rfl rfl (Nat.le_of_ble_eq_true rfl) rfl ?_
  conv => whnf
  refine loopV ttok ftok (nuI b vs 2 1 [none, uRow vs, none]) ((row_move 0 0 rfl rfl).trans (norm_weak [0, 7, 8, 9] [none, some 1, some 2] rfl rfl)) ⟨0, rfl, Nat.zero_le _, ?_⟩ ?_
  · rw [List.take_zero, show encN [] = [] from rfl, List.append_nil]
    rfl
  rintro n st ⟨k, rfl, hk, rfl⟩
  have e1 : IntKind.i64.wrap ((k : Int) + 1) = ((k + 1 : Nat) : Int) := by rw [w_i64 (by omega) (by omega)]; omega
  have hlen := encN_len (vs.take k) (fun v hv2 => hv v (List.mem_of_mem_take hv2))
  rw [List.length_take] at hlen
  conv => whnf
  refine onB_intro (fun h => ?_) (fun h => ?_)
  · have h := of_decide_eq_true h
    have hk2 : k < vs.length := by omega
    have hvk := u32_at hv hk2
    conv => whnf
    refine ⟨by omega, ?_⟩
    conv => whnf
    simp only [ti_nat]
    obtain ⟨v, hvv⟩ : ∃ v : Nat, vs.getD k 0 = (v : Int) := ⟨(vs.getD k 0).toNat, by omega⟩
    rw [hvv]
    have hv4 : v < 4294967296 := by omega
    have hpl := putN_le hv4
    refine call_frame2 [] rfl rfl rfl rfl (put_c v hv4) ?_
    rintro r own2 ⟨rfl, rfl⟩
    refine ⟨.c (.row 3), _, rfl, rfl, ?_⟩
    conv => whnf
    refine ⟨⟨by (try simp only [List.length_append, List.length_nil]); omega, by simp only [List.length_append, List.length_nil, show ti5.bytes = 1 from rfl]; omega⟩, ?_⟩
    conv => whnf
    refine app_two (b ++ encN (vs.take k)) (putN v) rfl rfl (fun j hj => rfl) (fun j hj => rfl) ?_
    conv => whnf
    rw [e1]
    refine ⟨vs.length - (k + 1), _, by omega, norm_weak [0, 7, 8, 9] [none, some 1, some 4] rfl rfl, k + 1, rfl, by omega, ?_⟩
    rw [take_snoc (d := 0) hk2, encN_snoc, hvv, Int.toNat_natCast, ← List.append_assoc]
    rfl
  · have h := of_decide_eq_false h
    obtain rfl : k = vs.length := by omega
    rw [List.take_length]
    conv => whnf
    refine ⟨_, Weak.refl _, ?_⟩
    conv => whnf
    exact ⟨[none, some 1, some 2], rfl, rfl, rfl, rfl⟩
end Go.Eng
/- What is put, told as bytes that stay. -/
set_option linter.unusedVariables false
set_option linter.unusedSimpArgs false
namespace Go.Eng
open Go Go.RowKit Go.Proofs
theorem byte_clo (b : List UInt8) : ∀ j, j < b.length → (byteF b j).all clo = true := fun j hj => rfl
theorem put_f (v : Nat) (hv : v < 4294967296) : CallV Tryd.prog 41 [vci .u32 (v : Nat)] [] (fun r own' => own' = [] ∧ r = bS (putN v)) :=
  callV_frzR (i := 0) (e := 5) (byte_clo _) ((put_c v hv).mono fun r o h => ⟨h.2, by rw [h.1]; rfl⟩)
theorem rput_f (v : Nat) (hv : v < 4294967296) : CallV Tryd.prog 23 [vci .u32 (v : Nat)] [] (fun r own' => own' = [] ∧ r = bS (putN v)) :=
  callV_frzR (i := 0) (e := 5) (byte_clo _) ((rput_c v hv).mono fun r o h => ⟨h.2, by rw [h.1]; rfl⟩)
theorem ptext_f (s : ByteArray) (hs : s.size ≤ 1000000000) : CallV Tryd.prog 22 [vcs s] [] (fun r own' => own' = [] ∧ r = bS (putT s)) :=
  callV_frzR (i := 1) (e := 5) (byte_clo _) ((ptext_c s hs).mono fun r o h => ⟨h.2, by rw [h.1]; rfl⟩)
theorem rptext_f (s : ByteArray) (hs : s.size ≤ 1000000000) : CallV Tryd.prog 25 [vcs s] [] (fun r own' => own' = [] ∧ r = bS (putT s)) :=
  callV_frzR (i := 1) (e := 5) (byte_clo _) ((rptext_c s hs).mono fun r o h => ⟨h.2, by rw [h.1]; rfl⟩)
end Go.Eng
/- Batches: what Put tells. -/
set_option linter.unusedVariables false
set_option linter.unusedSimpArgs false
set_option maxRecDepth 100000
set_option maxHeartbeats 4000000
namespace Go.Eng
open Go Go.RowKit Go.Proofs
def baSm (x : Ba) : Prop := baOk x ∧ x.runs.length ≤ 3001 ∧ x.dels.length ≤ 3001 ∧ (∀ r, r ∈ x.runs → r.text.size ≤ 3000) ∧ ∀ s, s ∈ x.dels → spOk s
def idsOf (r : Ru) : List Int := [r.id.1, r.id.2, r.left.1, r.left.2, r.right.1, r.right.2]
def encRun (r : Ru) : List UInt8 := encN (idsOf r) ++ putT r.text
def encSp (s : Sp) : List UInt8 := encN [s.cl, s.fr, s.tz]
def encB1 (x : Ba) (k : Nat) : List UInt8 := putN x.runs.length ++ (x.runs.take k).flatMap encRun
def encB2 (x : Ba) (k : Nat) : List UInt8 := encB1 x x.runs.length ++ putN x.dels.length ++ (x.dels.take k).flatMap encSp
def encB (x : Ba) : List UInt8 := encB2 x x.dels.length
theorem u32_ids {r : Ru} (h : ruOk r) : u32L (idsOf r) := by
  obtain ⟨⟨a1, a2⟩, ⟨b1, b2⟩, ⟨c1, c2⟩, _⟩ := h
  intro v hv
  simp only [idsOf, List.mem_cons, List.not_mem_nil, or_false] at hv
  rcases hv with rfl | rfl | rfl | rfl | rfl | rfl <;> assumption
theorem u32_sp {s : Sp} (h : spOk s) : u32L [s.cl, s.fr, s.tz] := by
  obtain ⟨a, b, c⟩ := h
  intro v hv
  simp only [List.mem_cons, List.not_mem_nil, or_false] at hv
  rcases hv with rfl | rfl | rfl <;> assumption
theorem encRun_len {r : Ru} (h : ruOk r) (hs : r.text.size ≤ 3000) : (encRun r).length ≤ 3035 := by
  have h1 := encN_len _ (u32_ids h)
  have h2 := putN_le (v := r.text.size) (by omega)
  unfold encRun putT
  rw [List.length_append, List.length_append, ba_len']
  simp only [idsOf, List.length_cons, List.length_nil] at h1
  unfold idsOf
  omega
theorem flat_len {α : Type} (f : α → List UInt8) (B : Nat) : ∀ (l : List α), (∀ x, x ∈ l → (f x).length ≤ B) → (l.flatMap f).length ≤ l.length * B
  | [], _ => by simp
  | x :: l, h => by
    have h1 := flat_len f B l (fun y hy => h y (List.mem_cons_of_mem _ hy))
    have h2 := h x (List.mem_cons_self ..)
    rw [List.flatMap_cons, List.length_append, List.length_cons, Nat.succ_mul]
    omega
theorem encB1_len {x : Ba} (h : baSm x) (k : Nat) : (encB1 x k).length ≤ 10000000 := by
  obtain ⟨h1, h2, h3, h4, h5⟩ := h
  have e1 := putN_le (v := x.runs.length) (by omega)
  have e2 := flat_len encRun 3035 (x.runs.take k) (fun r hr => encRun_len (h1.1 r (List.mem_of_mem_take hr)) (h4 r (List.mem_of_mem_take hr)))
  have e3 : (x.runs.take k).length ≤ 3001 := by rw [List.length_take]; omega
  have e4 : (x.runs.take k).length * 3035 ≤ 3001 * 3035 := Nat.mul_le_mul_right _ e3
  unfold encB1
  rw [List.length_append]
  omega
theorem encB2_len {x : Ba} (h : baSm x) (k : Nat) : (encB2 x k).length ≤ 20000000 := by
  have e0 := encB1_len h x.runs.length
  obtain ⟨h1, h2, h3, h4, h5⟩ := h
  have e1 := putN_le (v := x.dels.length) (by omega)
  have e2 := flat_len encSp 15 (x.dels.take k) (fun s hs => by
    have := encN_len _ (u32_sp (h5 s (List.mem_of_mem_take hs)))
    unfold encSp
    simpa using this)
  have e3 : (x.dels.take k).length ≤ 3001 := by rw [List.length_take]; omega
  have e4 : (x.dels.take k).length * 15 ≤ 3001 * 15 := Nat.mul_le_mul_right _ e3
  unfold encB2
  rw [List.length_append, List.length_append]
  omega
theorem encB1_snoc {x : Ba} {k : Nat} {r : Ru} (hk : k < x.runs.length) (hr : x.runs.getD k ru0 = r) : encB1 x (k + 1) = encB1 x k ++ encRun r := by
  unfold encB1
  rw [take_snoc (d := ru0) hk, hr, List.flatMap_append, List.append_assoc]
  simp
theorem encB2_snoc {x : Ba} {k : Nat} {s : Sp} (hk : k < x.dels.length) (hs : x.dels.getD k sp0 = s) : encB2 x (k + 1) = encB2 x k ++ encSp s := by
  unfold encB2
  rw [take_snoc (d := sp0) hk, hs, List.flatMap_append, ← List.append_assoc]
  simp
theorem u_list (vs : List Int) : ∀ k, k < vs.length → uF (vs.getD k 0) = (vs.map uF).getD k [] := fun k hk => by
  rw [List.getD_eq_getElem?_getD, List.getD_eq_getElem?_getD, List.getElem?_map, List.getElem?_eq_getElem hk]
  rfl
theorem u32_one (n : Nat) (h : n ≤ 4294967295) : u32L [(n : Int)] := by
  intro v hv
  rw [List.mem_singleton.1 hv]
  omega
theorem encN_one (n : Nat) : encN [(n : Int)] = putN n := by unfold encN; simp
def bpI (x : Ba) (n : Nat) (st : St) : Prop := ∃ k : Nat, n = x.runs.length - k ∧ k ≤ x.runs.length ∧
  st = ⟨82, 0, [(1, .c (.own 0 0)), (4, .c (.row 1)), (20, ruS x.runs), (21, vci .i64 x.runs.length), (22, vci .i64 (k : Int))], [some (.cells 25 (baF x)), bRow (encB1 x k)]⟩
def bqI (x : Ba) (n : Nat) (st : St) : Prop := ∃ k : Nat, n = x.dels.length - k ∧ k ≤ x.dels.length ∧
  st = ⟨82, 0, [(4, .c (.row 1)), (61, spS x.dels), (62, vci .i64 x.dels.length), (63, vci .i64 (k : Int))], [some (.cells 25 (baF x)), bRow (encB2 x k)]⟩
theorem bput_c (x : Ba) (hx : baSm x) : CallV Tryd.prog 8 [.agg (baF x)] [] (fun r own' => own' = [] ∧ ((mayB x ∧ (encB x).length ≤ 20000 ∧ r = .tup [bS (encB x), .c (.v .nilIface)]) ∨ (¬ (mayB x ∧ (encB x).length ≤ 20000) ∧ r = .tup [nilS, errK 1]))) := by
  have hL1 := encB1_len hx
  have hL2 := encB2_len hx
  obtain ⟨hok, hrl, hdl, hts, hsp⟩ := hx
  have er : IntKind.u32.wrap (x.runs.length : Int) = (x.runs.length : Int) := by rw [w_u32]; omega
  have ed : IntKind.u32.wrap (x.dels.length : Int) = (x.dels.length : Int) := by rw [w_u32]; omega
  refine callV_pure Tryd.func8 rfl ttok ftok rfl rfl rfl (Nat.le_of_ble_eq_true rfl) ?_
  conv => whnf
  refine call_pure (bmay_c x hok) rfl ?_
  rintro _ ⟨b, hb, rfl⟩
  cases b with
  | false =>
    conv => whnf
    refine .inr ⟨fun e => absurd (hb.2 e.1) (by decide), ?_⟩
    try rfl
  | true =>
    have hmay := hb.1 rfl
    conv => whnf
    rw [er]
    refine ⟨fun k => uF ([(x.runs.length : Int)].getD k 0), u_list [(x.runs.length : Int)], ?_⟩
    conv => whnf
    refine call_frame2 [some 1] rfl rfl rfl rfl (numN_c [(x.runs.length : Int)] (u32_one _ (by omega)) (by simp)) ?_
    rintro r own2 ⟨rfl, rfl⟩
    rw [encN_one]
    refine ⟨.c (.row 2), _, rfl, rfl, ?_⟩
    conv => whnf
    refine loopV ttok ftok (bpI x) (norm_weak [1, 4, 20, 21, 22] [some 0, some 2] rfl rfl) ⟨0, rfl, Nat.zero_le _, ?_⟩ ?_
    · rw [show encB1 x 0 = putN x.runs.length from by unfold encB1; simp]
      rfl
    rintro n st ⟨k, rfl, hk, rfl⟩
    have e1 : IntKind.i64.wrap ((k : Int) + 1) = ((k + 1 : Nat) : Int) := by rw [w_i64 (by omega) (by omega)]; omega
    conv => whnf
    refine onB_intro (fun h => ?_) (fun h => ?_)
    · have h := of_decide_eq_true h
      have hk2 : k < x.runs.length := by omega
      obtain ⟨r, hr⟩ : ∃ r, x.runs.getD k ru0 = r := ⟨_, rfl⟩
      have hmem : r ∈ x.runs := by rw [← hr, List.getD_eq_getElem?_getD, List.getElem?_eq_getElem hk2]; exact List.getElem_mem hk2
      have hrok := hok.1 r hmem
      have hrs := hts r hmem
      have hl1 := hL1 k
      conv => whnf
      refine ⟨⟨by omega, by omega⟩, ?_⟩
      conv => whnf
      simp only [ti_nat, hr]
      refine ⟨fun k => uF ((idsOf r).getD k 0), u_list (idsOf r), ?_⟩
      conv => whnf
      refine call_frame2 [some 1, some 3] rfl rfl rfl rfl (num_c (encB1 x k) (by omega) (idsOf r) (u32_ids hrok) (by simp [idsOf])) ?_
      rintro q own2 ⟨rfl, rfl⟩
      refine ⟨.c (.row 4), _, rfl, rfl, ?_⟩
      conv => whnf
      refine call_frame2 [] rfl rfl rfl rfl (ptext_c r.text (by omega)) ?_
      rintro q own2 ⟨rfl, rfl⟩
      refine ⟨.c (.row 6), _, rfl, rfl, ?_⟩
      have hru := encRun_len hrok hrs
      have hre : encB1 x k ++ encN (idsOf r) ++ putT r.text = encB1 x (k + 1) := by rw [encB1_snoc hk2 hr]; unfold encRun; rw [List.append_assoc]
      have hl2 : (encB1 x k ++ encN (idsOf r)).length + (putT r.text).length ≤ 20000000 := by
        have := congrArg List.length hre
        rw [List.length_append] at this
        have := hL1 (k + 1)
        omega
      conv => whnf
      refine ⟨⟨by omega, by simp only [show ti5.bytes = 1 from rfl]; omega⟩, ?_⟩
      conv => whnf
      refine app_two (encB1 x k ++ encN (idsOf r)) (putT r.text) rfl rfl (fun j hj => rfl) (fun j hj => rfl) ?_
      rw [hre]
      conv => whnf
      rw [e1]
      exact ⟨x.runs.length - (k + 1), _, by omega, norm_weak [1, 4, 20, 21, 22] [some 0, some 7] rfl rfl, k + 1, rfl, by omega, rfl⟩
    · have h := of_decide_eq_false h
      obtain rfl : k = x.runs.length := by omega
      have hl1 := hL1 x.runs.length
      conv => whnf
      rw [ed]
      refine ⟨fun k => uF ([(x.dels.length : Int)].getD k 0), u_list [(x.dels.length : Int)], ?_⟩
      conv => whnf
      refine call_frame2 [some 1, some 2] rfl rfl rfl rfl (num_c (encB1 x x.runs.length) (by omega) [(x.dels.length : Int)] (u32_one _ (by omega)) (by simp)) ?_
      rintro r own2 ⟨rfl, rfl⟩
      rw [encN_one]
      refine ⟨.c (.row 3), _, rfl, rfl, ?_⟩
      conv => whnf
      refine loopV ttok ftok (bqI x) (norm_weak [4, 61, 62, 63] [some 0, some 3] rfl rfl) ⟨0, rfl, Nat.zero_le _, ?_⟩ ?_
      · rw [show encB2 x 0 = encB1 x x.runs.length ++ putN x.dels.length from by unfold encB2; simp]
        rfl
      rintro n st ⟨k, rfl, hk, rfl⟩
      have e1 : IntKind.i64.wrap ((k : Int) + 1) = ((k + 1 : Nat) : Int) := by rw [w_i64 (by omega) (by omega)]; omega
      conv => whnf
      refine onB_intro (fun h => ?_) (fun h => ?_)
      · have h := of_decide_eq_true h
        have hk2 : k < x.dels.length := by omega
        obtain ⟨s, hs⟩ : ∃ s, x.dels.getD k sp0 = s := ⟨_, rfl⟩
        have hmem : s ∈ x.dels := by rw [← hs, List.getD_eq_getElem?_getD, List.getElem?_eq_getElem hk2]; exact List.getElem_mem hk2
        have hl2 := hL2 k
        conv => whnf
        refine ⟨⟨by omega, by omega⟩, ?_⟩
        conv => whnf
        simp only [ti_nat, hs]
        refine ⟨fun k => uF ([s.cl, s.fr, s.tz].getD k 0), u_list [s.cl, s.fr, s.tz], ?_⟩
        conv => whnf
        refine call_frame2 [some 1, some 3] rfl rfl rfl rfl (num_c (encB2 x k) (by omega) [s.cl, s.fr, s.tz] (u32_sp (hsp s hmem)) (by simp)) ?_
        rintro q own2 ⟨rfl, rfl⟩
        rw [show encB2 x k ++ encN [s.cl, s.fr, s.tz] = encB2 x (k + 1) from (encB2_snoc hk2 hs).symm]
        refine ⟨.c (.row 4), _, rfl, rfl, ?_⟩
        conv => whnf
        rw [e1]
        exact ⟨x.dels.length - (k + 1), _, by omega, norm_weak [4, 61, 62, 63] [some 0, some 4] rfl rfl, k + 1, rfl, by omega, rfl⟩
      · have h := of_decide_eq_false h
        obtain rfl : k = x.dels.length := by omega
        conv => whnf
        by_cases hbig : (encB x).length ≤ 20000
        · rw [show decide (((encB2 x x.dels.length).length : Int) > 20000) = false from decide_eq_false (by unfold encB at hbig; omega)]
          conv => whnf
          refine ⟨fun _ _ => rfl, ?_⟩
          conv => whnf
          exact .inl ⟨hmay, hbig, rfl⟩
        · rw [show decide (((encB2 x x.dels.length).length : Int) > 20000) = true from decide_eq_true (by unfold encB at hbig; omega)]
          conv => whnf
          exact .inr ⟨fun e => hbig e.2, rfl⟩
end Go.Eng
/- Batches: what the reference's Batch tells. -/
set_option linter.unusedVariables false
set_option linter.unusedSimpArgs false
set_option maxRecDepth 100000
set_option maxHeartbeats 4000000
namespace Go.Eng
open Go Go.RowKit Go.Proofs
def encI (a : I2) : List UInt8 := encN [a.1, a.2]
theorem rid_c (a : I2) (ha : u32P a) : CallV Tryd.prog 24 [idA a] [] (fun r own' => own' = [] ∧ r = bS (encI a)) := by
  obtain ⟨⟨a1, a2⟩, a3, a4⟩ := ha
  obtain ⟨c, hc⟩ : ∃ c : Nat, a.1 = c := ⟨a.1.toNat, by omega⟩
  obtain ⟨k, hk⟩ : ∃ k : Nat, a.2 = k := ⟨a.2.toNat, by omega⟩
  have l1 := putN_le (v := c) (by omega)
  have l2 := putN_le (v := k) (by omega)
  have he : encI a = putN c ++ putN k := by unfold encI encN; rw [hc, hk]; simp
  rw [he]
  refine callV_pure Tryd.func24 rfl ttok ftok rfl rfl rfl (Nat.le_of_ble_eq_true rfl) ?_
  conv => whnf
  refine drawV_sched (.rd 0 (.rd 1 (.rd 3 (.rd 4 (.ef 2 (.ef 5 (.ef 6 (.rd 7 (.nil))))))))) [1] mixed (by kernel_rfl) ttok ftok ?_
  conv => whnf
  rw [hc]
  refine call_frame2 [] rfl rfl rfl rfl (rput_c c (by omega)) ?_
  rintro q own2 ⟨rfl, rfl⟩
  refine ⟨.c (.row 1), _, rfl, rfl, ?_⟩
  conv => whnf
  rw [hk]
  refine call_pure (rput_f k (by omega)) rfl ?_
  rintro _ rfl
  conv => whnf
  refine ⟨⟨by omega, by simp only [show ti5.bytes = 1 from rfl]; omega⟩, ?_⟩
  conv => whnf
  refine app_two (putN c) (putN k) rfl rfl (fun j hj => rfl) (fun j hj => rfl) ?_
  conv => whnf
  refine ⟨fun _ _ => rfl, ?_⟩
  conv => whnf
  try rfl
def rbI (x : Ba) (n : Nat) (st : St) : Prop := ∃ k : Nat, n = x.runs.length - k ∧ k ≤ x.runs.length ∧
  st = ⟨105, 0, [(1, .c (.own 0 0)), (5, .c (.row 1)), (6, vci .i64 (k : Int))], [some (.cells 25 (baF x)), bRow (encB1 x k)]⟩
def rcI (x : Ba) (n : Nat) (st : St) : Prop := ∃ k : Nat, n = x.dels.length - k ∧ k ≤ x.dels.length ∧
  st = ⟨105, 0, [(1, .c (.own 0 0)), (5, .c (.row 1)), (7, vci .i64 (k : Int))], [some (.cells 25 (baF x)), bRow (encB2 x k)]⟩
theorem rbatch_c (x : Ba) (hx : baSm x) : CallV Tryd.prog 9 [.agg (baF x)] [] (fun r own' => own' = [] ∧ ((mayB x ∧ (encB x).length ≤ 20000 ∧ r = .tup [bS (encB x), vcb true]) ∨ (¬ (mayB x ∧ (encB x).length ≤ 20000) ∧ r = .tup [nilS, vcb false]))) := by
  have hL1 := encB1_len hx
  have hL2 := encB2_len hx
  obtain ⟨hok, hrl, hdl, hts, hsp⟩ := hx
  have er : IntKind.u32.wrap (x.runs.length : Int) = (x.runs.length : Int) := by rw [w_u32]; omega
  have ed : IntKind.u32.wrap (x.dels.length : Int) = (x.dels.length : Int) := by rw [w_u32]; omega
  refine callV_pure Tryd.func9 rfl ttok ftok rfl rfl rfl (Nat.le_of_ble_eq_true rfl) ?_
  conv => whnf
  refine call_pure (rmayb_c x hok) rfl ?_
  rintro _ ⟨b, hb, rfl⟩
  cases b with
  | false =>
    conv => whnf
    refine .inr ⟨fun e => absurd (hb.2 e.1) (by decide), ?_⟩
    try rfl
  | true =>
    have hmay := hb.1 rfl
    conv => whnf
    rw [er]
    refine call_frame2 [] rfl rfl rfl rfl (rput_c x.runs.length (by omega)) ?_
    rintro r own2 ⟨rfl, rfl⟩
    refine ⟨.c (.row 1), _, rfl, rfl, ?_⟩
    conv => whnf
    refine loopV ttok ftok (rbI x) (norm_weak [1, 5, 6] [some 0, some 1] rfl rfl) ⟨0, rfl, Nat.zero_le _, ?_⟩ ?_
    · rw [show encB1 x 0 = putN x.runs.length from by unfold encB1; simp]
      rfl
    rintro n st ⟨k, rfl, hk, rfl⟩
    have e1 : IntKind.i64.wrap ((k : Int) + 1) = ((k + 1 : Nat) : Int) := by rw [w_i64 (by omega) (by omega)]; omega
    conv => whnf
    refine onB_intro (fun h => ?_) (fun h => ?_)
    · have h := of_decide_eq_true h
      have hk2 : k < x.runs.length := by omega
      obtain ⟨r, hr⟩ : ∃ r, x.runs.getD k ru0 = r := ⟨_, rfl⟩
      have hmem : r ∈ x.runs := by rw [← hr, List.getD_eq_getElem?_getD, List.getElem?_eq_getElem hk2]; exact List.getElem_mem hk2
      have hrok := hok.1 r hmem
      have hrs := hts r hmem
      have hru := encRun_len hrok hrs
      have hen : encRun r = encI r.id ++ encI r.left ++ encI r.right ++ putT r.text := by unfold encRun encI encN idsOf; simp
      have hre : encB1 x k ++ encI r.id ++ encI r.left ++ encI r.right ++ putT r.text = encB1 x (k + 1) := by rw [encB1_snoc hk2 hr, hen]; simp only [List.append_assoc]
      have hl2 : (encB1 x k).length + (encI r.id).length + (encI r.left).length + (encI r.right).length + (putT r.text).length ≤ 20000000 := by
        have := congrArg List.length hre
        simp only [List.length_append] at this
        have := hL1 (k + 1)
        omega
      have g1 : (encB1 x k ++ encI r.id).length = (encB1 x k).length + (encI r.id).length := List.length_append
      have g2 : (encB1 x k ++ encI r.id ++ encI r.left).length = (encB1 x k).length + (encI r.id).length + (encI r.left).length := by simp only [List.length_append]
      have g3 : (encB1 x k ++ encI r.id ++ encI r.left ++ encI r.right).length = (encB1 x k).length + (encI r.id).length + (encI r.left).length + (encI r.right).length := by simp only [List.length_append]
      conv => whnf
      refine ⟨⟨by omega, by omega⟩, ?_⟩
      conv => whnf
      simp only [ti_nat, hr]
      refine call_pure (rid_c r.id hrok.1) rfl ?_
      rintro _ rfl
      conv => whnf
      refine ⟨⟨by omega, by simp only [show ti5.bytes = 1 from rfl]; omega⟩, ?_⟩
      conv => whnf
      refine app_two (encB1 x k) (encI r.id) rfl rfl (fun j hj => rfl) (fun j hj => rfl) ?_
      conv => whnf
      refine ⟨⟨by omega, by omega⟩, ?_⟩
      conv => whnf
      simp only [ti_nat, hr]
      refine call_pure (rid_c r.left hrok.2.1) rfl ?_
      rintro _ rfl
      conv => whnf
      refine ⟨⟨by omega, by simp only [show ti5.bytes = 1 from rfl]; omega⟩, ?_⟩
      conv => whnf
      refine app_two (encB1 x k ++ encI r.id) (encI r.left) rfl rfl (fun j hj => rfl) (fun j hj => rfl) ?_
      conv => whnf
      refine ⟨⟨by omega, by omega⟩, ?_⟩
      conv => whnf
      simp only [ti_nat, hr]
      refine call_pure (rid_c r.right hrok.2.2.1) rfl ?_
      rintro _ rfl
      conv => whnf
      refine ⟨⟨by omega, by simp only [show ti5.bytes = 1 from rfl]; omega⟩, ?_⟩
      conv => whnf
      refine app_two (encB1 x k ++ encI r.id ++ encI r.left) (encI r.right) rfl rfl (fun j hj => rfl) (fun j hj => rfl) ?_
      conv => whnf
      refine ⟨⟨by omega, by omega⟩, ?_⟩
      conv => whnf
      simp only [ti_nat, hr]
      refine call_pure (rptext_f r.text (by omega)) rfl ?_
      rintro _ rfl
      conv => whnf
      refine ⟨⟨by omega, by simp only [show ti5.bytes = 1 from rfl]; omega⟩, ?_⟩
      conv => whnf
      refine app_two (encB1 x k ++ encI r.id ++ encI r.left ++ encI r.right) (putT r.text) rfl rfl (fun j hj => rfl) (fun j hj => rfl) ?_
      conv => whnf
      rw [hre, e1]
      exact ⟨x.runs.length - (k + 1), _, by omega, norm_weak [1, 5, 6] [some 0, some 5] rfl rfl, k + 1, rfl, by omega, rfl⟩
    · have h := of_decide_eq_false h
      obtain rfl : k = x.runs.length := by omega
      have hl1 := hL1 x.runs.length
      have l1 := putN_le (v := x.dels.length) (by omega)
      conv => whnf
      rw [ed]
      refine call_pure (rput_f x.dels.length (by omega)) rfl ?_
      rintro _ rfl
      conv => whnf
      refine ⟨⟨by omega, by simp only [show ti5.bytes = 1 from rfl]; omega⟩, ?_⟩
      conv => whnf
      refine app_two (encB1 x x.runs.length) (putN x.dels.length) rfl rfl (fun j hj => rfl) (fun j hj => rfl) ?_
      conv => whnf
      refine loopV ttok ftok (rcI x) (norm_weak [1, 5, 7] [some 0, some 2] rfl rfl) ⟨0, rfl, Nat.zero_le _, ?_⟩ ?_
      · rw [show encB2 x 0 = encB1 x x.runs.length ++ putN x.dels.length from by unfold encB2; simp]
        rfl
      rintro n st ⟨k, rfl, hk, rfl⟩
      have e1 : IntKind.i64.wrap ((k : Int) + 1) = ((k + 1 : Nat) : Int) := by rw [w_i64 (by omega) (by omega)]; omega
      conv => whnf
      refine onB_intro (fun h => ?_) (fun h => ?_)
      · have h := of_decide_eq_true h
        have hk2 : k < x.dels.length := by omega
        obtain ⟨s, hs⟩ : ∃ s, x.dels.getD k sp0 = s := ⟨_, rfl⟩
        have hmem : s ∈ x.dels := by rw [← hs, List.getD_eq_getElem?_getD, List.getElem?_eq_getElem hk2]; exact List.getElem_mem hk2
        obtain ⟨⟨s1, s2⟩, ⟨s3, s4⟩, s5, s6⟩ := hsp s hmem
        have hl2 := hL2 k
        obtain ⟨c1, hc1⟩ : ∃ c : Nat, s.cl = c := ⟨s.cl.toNat, by omega⟩
        obtain ⟨c2, hc2⟩ : ∃ c : Nat, s.fr = c := ⟨s.fr.toNat, by omega⟩
        obtain ⟨c3, hc3⟩ : ∃ c : Nat, s.tz = c := ⟨s.tz.toNat, by omega⟩
        have l1 := putN_le (v := c1) (by omega)
        have l2 := putN_le (v := c2) (by omega)
        have l3 := putN_le (v := c3) (by omega)
        have hre : encB2 x k ++ putN c1 ++ putN c2 ++ putN c3 = encB2 x (k + 1) := by
          rw [encB2_snoc hk2 hs]; unfold encSp encN; rw [hc1, hc2, hc3]; simp [List.append_assoc]
        have g1 : (encB2 x k ++ putN c1).length = (encB2 x k).length + (putN c1).length := List.length_append
        have g2 : (encB2 x k ++ putN c1 ++ putN c2).length = (encB2 x k).length + (putN c1).length + (putN c2).length := by simp only [List.length_append]
        conv => whnf
        refine ⟨⟨by omega, by omega⟩, ?_⟩
        conv => whnf
        simp only [ti_nat, hs, hc1]
        refine call_pure (rput_f c1 (by omega)) rfl ?_
        rintro _ rfl
        conv => whnf
        refine ⟨⟨by omega, by simp only [show ti5.bytes = 1 from rfl]; omega⟩, ?_⟩
        conv => whnf
        refine app_two (encB2 x k) (putN c1) rfl rfl (fun j hj => rfl) (fun j hj => rfl) ?_
        conv => whnf
        refine ⟨⟨by omega, by omega⟩, ?_⟩
        conv => whnf
        simp only [ti_nat, hs, hc2]
        refine call_pure (rput_f c2 (by omega)) rfl ?_
        rintro _ rfl
        conv => whnf
        refine ⟨⟨by omega, by simp only [show ti5.bytes = 1 from rfl]; omega⟩, ?_⟩
        conv => whnf
        refine app_two (encB2 x k ++ putN c1) (putN c2) rfl rfl (fun j hj => rfl) (fun j hj => rfl) ?_
        conv => whnf
        refine ⟨⟨by omega, by omega⟩, ?_⟩
        conv => whnf
        simp only [ti_nat, hs, hc3]
        refine call_pure (rput_f c3 (by omega)) rfl ?_
        rintro _ rfl
        conv => whnf
        refine ⟨⟨by omega, by simp only [show ti5.bytes = 1 from rfl]; omega⟩, ?_⟩
        conv => whnf
        refine app_two (encB2 x k ++ putN c1 ++ putN c2) (putN c3) rfl rfl (fun j hj => rfl) (fun j hj => rfl) ?_
        conv => whnf
        rw [hre, e1]
        exact ⟨x.dels.length - (k + 1), _, by omega, norm_weak [1, 5, 7] [some 0, some 4] rfl rfl, k + 1, rfl, by omega, rfl⟩
      · have h := of_decide_eq_false h
        obtain rfl : k = x.dels.length := by omega
        conv => whnf
        by_cases hbig : (encB x).length ≤ 20000
        · rw [show decide (((encB2 x x.dels.length).length : Int) > 20000) = false from decide_eq_false (by unfold encB at hbig; omega)]
          conv => whnf
          refine ⟨fun _ _ => rfl, ?_⟩
          conv => whnf
          exact .inl ⟨hmay, hbig, rfl⟩
        · rw [show decide (((encB2 x x.dels.length).length : Int) > 20000) = true from decide_eq_true (by unfold encB at hbig; omega)]
          conv => whnf
          exact .inr ⟨fun e => hbig e.2, rfl⟩
end Go.Eng
