/- Runs' items. -/
import Derived.Test.YteglopjljejjkaaDoorBRuns2
set_option linter.unusedVariables false
set_option linter.unusedSimpArgs false
set_option maxRecDepth 100000
set_option maxHeartbeats 4000000
namespace Go.Eng
open Go Go.RowKit Go.Proofs
theorem drawV_cut {P : Program} [HasGl P] (S : St) {id : Nat} {ops : Array Oper} {K : St → Prop} {st : St} (h : DrawV P id ops (fun st' => Weak st' S) st) (hK : K S) : DrawV P id ops K st := by
  refine ⟨fun may w0 h0 a w hs => ?_⟩
  refine Code.wp_mono (fun e a' w' hh => ?_) (h.out may w0 h0 a w hs)
  obtain ⟨h1, st', h2, h3⟩ := hh
  exact ⟨h1, S, h3.out may w0 h0 a' w' h2, hK⟩
def clk (c : Int) (j : Nat) : Int := (c + j) % 4294967296
def chOf (r : Ru) : List Int := (charsF r.text).getD []
def leftAt (r : Ru) (j : Nat) : I2 := if j = 0 then r.left else (r.id.1, clk r.id.2 (j - 1))
def itAt (r : Ru) (l : List Int) (j : Nat) : It := ⟨(r.id.1, clk r.id.2 j), leftAt r j, r.right, l.getD j 0⟩
def itsR (r : Ru) : List It := (List.range (chOf r).length).map (itAt r (chOf r))
def itemsR (rs : List Ru) : List It := rs.flatMap itsR
theorem clk_0 {c : Int} (h : 0 ≤ c ∧ c ≤ 4294967295) : clk c 0 = c := by unfold clk; omega
theorem clk_s (c : Int) (j : Nat) : IntKind.u32.wrap (clk c j + 1) = clk c (j + 1) := by rw [w_u32]; unfold clk; omega
def imO (m : List Ru) (n : Nat) (st : St) : Prop := ∃ (k : Nat), n = m.length - k ∧ k ≤ m.length ∧ st = ⟨42, 0, [(3, .c (.row 0)), (10, ruS m), (11, vci .i64 m.length), (12, vci .i64 (k : Int))], [itRow (itemsR (m.take k))]⟩
theorem itsR_len (r : Ru) : (itsR r).length = (chOf r).length := by unfold itsR; simp
theorem chOf_len (r : Ru) : (chOf r).length ≤ r.text.size := by
  unfold chOf
  cases hc : charsF r.text with
  | none => simp
  | some l => exact Nat.le_trans (chars_len (s := r.text) r.text.size 0 l hc) (by omega)
theorem itemsR_len (B : Nat) : ∀ rs : List Ru, (∀ x, x ∈ rs → x.text.size ≤ B) → (itemsR rs).length ≤ rs.length * B
  | [], _ => by simp [itemsR]
  | r :: rs, h => by
    have h1 := itemsR_len B rs (fun x hx => h x (List.mem_cons_of_mem _ hx))
    have h2 := h r (List.mem_cons_self ..)
    have h3 := chOf_len r
    unfold itemsR at h1 ⊢
    rw [List.flatMap_cons, List.length_append, itsR_len, List.length_cons, Nat.succ_mul]
    omega
theorem itemsR_snoc (rs : List Ru) (r : Ru) : itemsR (rs ++ [r]) = itemsR rs ++ itsR r := by unfold itemsR; rw [List.flatMap_append]; simp
theorem chars_step {s : ByteArray} {f pos : Nat} {l : List Int} (hf : s.size - pos ≤ f) (h : charsR s f pos = some l) (hlt : pos < s.size) : ∃ v n l' g, l = v :: l' ∧ f = g + 1 ∧ Utf8.decode s pos = (v.toNat, n) ∧ pos + n ≤ s.size ∧ 1 ≤ n ∧ 0 ≤ v ∧ Utf8.valid v = true ∧ charsR s g (pos + n) = some l' := by
  obtain ⟨g, rfl⟩ : ∃ g, f = g + 1 := ⟨f - 1, by omega⟩
  unfold charsR at h
  rw [if_pos hlt] at h
  split at h
  · cases h
  · rename_i v n hc
    obtain ⟨h1, h2, h3, h4, h5⟩ := charR_dec hlt hc
    cases hr : charsR s g (pos + n) with
    | none => rw [hr] at h; cases h
    | some l' =>
      rw [hr] at h
      cases h
      exact ⟨v, n, l', g, rfl, rfl, h1, h2, h3, h4, h5, hr⟩
theorem chars_end {s : ByteArray} {f pos : Nat} {l : List Int} (h : charsR s f pos = some l) (hlt : ¬ pos < s.size) : l = [] := by
  cases f with
  | zero => cases h; rfl
  | succ f =>
    unfold charsR at h
    rw [if_neg hlt] at h
    cases h; rfl
theorem drop_head {α : Type} {l l' : List α} {j : Nat} {v d : α} (h : l.drop j = v :: l') : j < l.length ∧ l.getD j d = v ∧ l.drop (j + 1) = l' := by
  have hj : j < l.length := by
    false_or_by_contra
    rw [List.drop_eq_nil_of_le (by omega)] at h
    cases h
  rw [List.drop_eq_getElem_cons hj] at h
  injection h with h1 h2
  exact ⟨hj, by rw [List.getD_eq_getElem?_getD, List.getElem?_eq_getElem hj]; exact h1, h2⟩
theorem range_snoc {α : Type} (g : Nat → α) (j : Nat) (P : List α) : P ++ (List.range (j + 1)).map g = (P ++ (List.range j).map g) ++ [g j] := by
  rw [List.range_succ, List.map_append, List.append_assoc]
  rfl
/-- In the middle of a run. -/
def imI (m : List Ru) (k : Nat) (P : List It) (r : Ru) (n : Nat) (st : St) : Prop := ∃ (j pos f : Nat), n = r.text.size - pos ∧ j ≤ (chOf r).length ∧ pos ≤ r.text.size ∧ r.text.size - pos ≤ f ∧ charsR r.text f pos = some ((chOf r).drop j) ∧
  st = ⟨42, 0, [(3, .c (.row 0)), (5, .c (.own 1 0)), (6, .c (.own 2 0)), (7, .c (.own 3 0)), (10, ruS m), (11, vci .i64 m.length), (12, vci .i64 (k : Int)), (22, .c (.own 4 0))],
    [itRow (P ++ (List.range j).map (itAt r (chOf r))), some (.cells 49 (ruF r)), some (.cells 47 [vu r.id.1, vu (clk r.id.2 j)]), some (.cells 47 (idF (leftAt r j))), some (.iter r.text pos)]⟩
theorem items_c (m : List Ru) (hm : m.length ≤ 1000) (hok : ∀ x, x ∈ m → ruOk x ∧ (charsF x.text).isSome = true) : CallV Tryd.prog 24 [ruS m] [] (fun r own' => own' = [] ∧ r = itS (itemsR m)) := by
  refine callV_pure Tryd.func24 rfl ttok ftok rfl rfl rfl (Nat.le_of_ble_eq_true rfl) ?_
  conv => whnf
  refine loopV ttok ftok (imO m) ((nil_row 3 63 7 (fun k => itF (([] : List It).getD k it0)) rfl).trans (norm_weak [3, 10, 11, 12] [some 0] rfl rfl)) ⟨0, rfl, Nat.zero_le _, rfl⟩ ?_
  rintro n st ⟨k, rfl, hk, rfl⟩
  have e1 : IntKind.i64.wrap ((k : Int) + 1) = ((k + 1 : Nat) : Int) := by rw [w_i64 (by omega) (by omega)]; omega
  conv => whnf
  refine onB_intro (fun h => ?_) (fun h => ?_)
  · have h := of_decide_eq_true h
    have hk2 : k < m.length := by omega
    conv => whnf
    refine ⟨⟨by omega, by omega⟩, ?_⟩
    conv => whnf
    simp only [ti_nat]
    obtain ⟨r, hr⟩ : ∃ r, m.getD k ru0 = r := ⟨_, rfl⟩
    rw [hr]
    refine drawV_cut ⟨42, 0, [(3, .c (.row 0)), (5, .c (.own 1 0)), (6, .c (.own 2 0)), (7, .c (.own 3 0)), (10, ruS m), (11, vci .i64 m.length), (12, vci .i64 (k : Int))], [itRow (itemsR (m.take k)), some (.cells 49 (ruF r)), some (.cells 47 (idF r.id)), some (.cells 47 (idF r.left))]⟩ ?_ ?_
    · refine drawV_sched (.rd 0 (.rd 1 (.rd 2 (.rd 3 (.alt (.ef 4 (.ef 5 (.ef 6 (.ef 7 (.nil))))) (.ef 5 (.ef 4 (.ef 6 (.ef 7 (.nil)))))))))) [2, 3] mixed (by kernel_rfl) ttok ftok ?_
      conv => whnf
      refine ⟨?_, ?_⟩
      · conv => whnf
        exact norm_weak [3, 5, 6, 7, 10, 11, 12] [some 0, some 1, some 2, some 3] rfl rfl
      · conv => whnf
        exact norm_weak [3, 5, 6, 7, 10, 11, 12] [some 0, some 1, some 3, some 2] rfl rfl
    conv => whnf
    have hmem : r ∈ m := by rw [← hr, List.getD_eq_getElem?_getD, List.getElem?_eq_getElem hk2]; exact List.getElem_mem hk2
    obtain ⟨⟨hid, hlf, hrt, hsz⟩, hch⟩ := hok r hmem
    obtain ⟨L, hL⟩ : ∃ L, charsF r.text = some L := Option.isSome_iff_exists.1 hch
    have hLc : chOf r = L := by unfold chOf; rw [hL]; rfl
    have hP : (itemsR (m.take k)).length ≤ 1000 * 1048576 := by
      have := itemsR_len 1048576 (m.take k) (fun x hx => (hok x (List.mem_of_mem_take hx)).1.2.2.2)
      rw [List.length_take] at this
      refine Nat.le_trans this (Nat.mul_le_mul_right _ (by omega))
    have hcl := chOf_len r
    generalize hPP : itemsR (m.take k) = P at hP
    refine loopV ttok ftok (imI m k P r) (norm_weak [3, 5, 6, 7, 10, 11, 12, 22] [some 0, some 1, some 2, some 3, some 4] rfl rfl) ⟨0, 0, r.text.size, rfl, Nat.zero_le _, Nat.zero_le _, by omega, by rw [hLc, List.drop_zero]; exact hL, ?_⟩ ?_
    · rw [clk_0 hid.2]
      simp only [List.range_zero, List.map_nil, List.append_nil]
      rfl
    rintro n st ⟨j, pos, f, rfl, hj, hpos, hf, hrest, rfl⟩
    conv => whnf
    by_cases hlt : pos < r.text.size
    · obtain ⟨v, nn, l', g, hd, rfl, hdec, hfit, hn1, hv0, hval, hnext⟩ := chars_step hf hrest hlt
      obtain ⟨hjl, hgd, hdr⟩ := drop_head (d := 0) hd
      have hvr := valid_inv hval
      rw [decide_eq_true hlt, hdec]
      conv => whnf
      refine ⟨fun _ => itF (itAt r (chOf r) j), fun i hi => ?_, ?_⟩
      · obtain rfl : i = 0 := by omega
        show itF (itAt r (chOf r) j) = [vu r.id.1, vu (clk r.id.2 j), vu (leftAt r j).1, vu (leftAt r j).2, vu r.right.1, vu r.right.2, vr ((v.toNat : Nat) : Int)]
        rw [Int.toNat_of_nonneg hv0, ← hgd]
        rfl
      conv => whnf
      have hlen : (P ++ (List.range j).map (itAt r (chOf r))).length = P.length + j := by simp
      refine ⟨⟨by rw [hlen]; omega, by simp only [hlen, show ti63.bytes = 28 from rfl]; omega⟩, ?_⟩
      conv => whnf
      refine app1 (enc := itF) (d := it0) (itAt r (chOf r) j) (fun k hk => rfl) rfl ?_
      conv => whnf
      rw [clk_s, ← range_snoc]
      refine ⟨r.text.size - (pos + nn), _, by omega, norm_weak [3, 5, 6, 7, 10, 11, 12, 22] [some 6, some 1, some 2, some 3, some 4] rfl rfl, j + 1, pos + nn, g, rfl, by omega, by omega, by omega, by rw [hdr]; exact hnext, ?_⟩
      rfl
    · have hnil := chars_end hrest hlt
      have hjl : j = (chOf r).length := by
        have := congrArg List.length hnil
        rw [List.length_drop] at this
        simp at this
        omega
      rw [decide_eq_false hlt]
      conv => whnf
      rw [e1]
      refine ⟨m.length - (k + 1), _, by omega, norm_weak [3, 10, 11, 12] [some 0] rfl rfl, k + 1, rfl, by omega, ?_⟩
      rw [take_snoc hk2 (d := ru0), hr, itemsR_snoc, hPP, hjl]
      rfl
  · have h := of_decide_eq_false h
    obtain rfl : k = m.length := by omega
    rw [List.take_length]
    conv => whnf
    refine ⟨fun j hj => rfl, ?_⟩
    conv => whnf
    try rfl
end Go.Eng
