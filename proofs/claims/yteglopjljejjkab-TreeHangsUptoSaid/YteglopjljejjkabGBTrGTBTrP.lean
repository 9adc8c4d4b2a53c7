/- A part of the proof: what the functions of the program come to, told by a small reckoner of states. -/
import Derived.Test.YteglopjljejjkabGBTyTBTrM
/- The reference: on what items hang. -/
set_option linter.unusedVariables false
set_option linter.unusedSimpArgs false
set_option maxRecDepth 100000
set_option maxHeartbeats 4000000
namespace Go.Eng
open Go Go.RowKit Go.Proofs
abbrev itR (l : List It) : Nat → List IC := fun k => itF (l.getD k it0)
def hg0 : Hg := ⟨(0, 0), false⟩
abbrev hgR (l : List Hg) : Nat → List IC := fun k => hgF (l.getD k hg0)
abbrev hgS (l : List Hg) : AV := .c (.sl 3 l.length (hgR l))
/-- Items, in the order in which they came; on what they hang. -/
def itsH (hs : HS) : List It := (hs.map (fun p => p.1)).reverse
def hgsH (hs : HS) : List Hg := (hs.map (fun p => p.2)).reverse
theorem itsH_len (hs : HS) : (itsH hs).length = hs.length := by unfold itsH; rw [List.length_reverse, List.length_map]
theorem hgsH_len (hs : HS) : (hgsH hs).length = hs.length := by unfold hgsH; rw [List.length_reverse, List.length_map]
theorem itsH_cons (x : It) (h : Hg) (r : HS) : itsH ((x, h) :: r) = itsH r ++ [x] := by unfold itsH; rw [List.map_cons, List.reverse_cons]
theorem hgsH_cons (x : It) (h : Hg) (r : HS) : hgsH ((x, h) :: r) = hgsH r ++ [h] := by unfold hgsH; rw [List.map_cons, List.reverse_cons]
theorem its_at {hs : HS} {i : Nat} (hi : i < hs.length) : ((itsH hs).getD i it0, (hgsH hs).getD i hg0) ∈ hs := by
  have e1 : (itsH hs).getD i it0 = (hs[hs.length - 1 - i]).1 := by
    unfold itsH
    rw [List.getD_eq_getElem?_getD, List.getElem?_reverse (by simpa using hi), List.getElem?_map, List.length_map, List.getElem?_eq_getElem (by omega)]; rfl
  have e2 : (hgsH hs).getD i hg0 = (hs[hs.length - 1 - i]).2 := by
    unfold hgsH
    rw [List.getD_eq_getElem?_getD, List.getElem?_reverse (by simpa using hi), List.getElem?_map, List.length_map, List.getElem?_eq_getElem (by omega)]; rfl
  rw [e1, e2]
  exact List.getElem_mem _
theorem its_ex {hs : HS} {x : It} {h : Hg} (hm : (x, h) ∈ hs) : ∃ i, i < hs.length ∧ (itsH hs).getD i it0 = x ∧ (hgsH hs).getD i hg0 = h := by
  obtain ⟨j, hj, e⟩ := List.getElem_of_mem hm
  refine ⟨hs.length - 1 - j, by omega, ?_, ?_⟩
  · unfold itsH
    rw [List.getD_eq_getElem?_getD, List.getElem?_reverse (by simp; omega), List.getElem?_map, List.length_map, show hs.length - 1 - (hs.length - 1 - j) = j from by omega, List.getElem?_eq_getElem hj, e]; rfl
  · unfold hgsH
    rw [List.getD_eq_getElem?_getD, List.getElem?_reverse (by simp; omega), List.getElem?_map, List.length_map, show hs.length - 1 - (hs.length - 1 - j) = j from by omega, List.getElem?_eq_getElem hj, e]; rfl
/-- Where an Id's item is. -/
def fiE (l : List It) (a : I2) : Option Nat := l.findIdx? (fun e => e.id == a)
def fiN (l : List It) (a : I2) : Int := match fiE l a with
  | some k => (k : Int)
  | none => -1
theorem fiE_at {l : List It} {a : I2} {k : Nat} (hk : k < l.length) (h : ∀ j, j < k → (l.getD j it0).id ≠ a) (e : (l.getD k it0).id = a) : fiE l a = some k := by
  unfold fiE
  rw [List.findIdx?_eq_some_iff_getElem]
  refine ⟨hk, ?_, fun j hj => ?_⟩
  · rw [List.getD_eq_getElem?_getD, List.getElem?_eq_getElem hk] at e
    exact beq_iff_eq.2 e
  · have := h j hj
    rw [List.getD_eq_getElem?_getD, List.getElem?_eq_getElem (by omega)] at this
    simpa using this
theorem fiE_no {l : List It} {a : I2} (h : ∀ j, j < l.length → (l.getD j it0).id ≠ a) : fiE l a = none := by
  unfold fiE
  rw [List.findIdx?_eq_none_iff]
  intro x hx
  obtain ⟨j, hj, rfl⟩ := List.getElem_of_mem hx
  have := h j hj
  rw [List.getD_eq_getElem?_getD, List.getElem?_eq_getElem hj] at this
  simpa using this
theorem fiE_some {l : List It} {a : I2} {k : Nat} (h : fiE l a = some k) : k < l.length ∧ (l.getD k it0).id = a := by
  unfold fiE at h
  rw [List.findIdx?_eq_some_iff_getElem] at h
  obtain ⟨h1, h2, _⟩ := h
  refine ⟨h1, ?_⟩
  rw [List.getD_eq_getElem?_getD, List.getElem?_eq_getElem h1]
  exact beq_iff_eq.1 h2
theorem fiE_has {hs : HS} {a : I2} (ha : hasI hs a) : ∃ k, fiE (itsH hs) a = some k ∧ k < hs.length ∧ ((itsH hs).getD k it0).id = a ∧ ((itsH hs).getD k it0, (hgsH hs).getD k hg0) ∈ hs := by
  cases hf : fiE (itsH hs) a with
  | some k =>
    obtain ⟨h1, h2⟩ := fiE_some hf
    rw [itsH_len] at h1
    exact ⟨k, rfl, h1, h2, its_at h1⟩
  | none =>
    exfalso
    obtain ⟨⟨x, h⟩, hm, rfl⟩ := ha
    obtain ⟨i, hi, e, _⟩ := its_ex hm
    unfold fiE at hf
    rw [List.findIdx?_eq_none_iff] at hf
    have := hf _ (getD_mem (d := it0) (show i < (itsH hs).length by rw [itsH_len]; exact hi))
    rw [e] at this
    simp at this
theorem fiE_hasn {hs : HS} {a : I2} (ha : ¬ hasI hs a) : fiE (itsH hs) a = none := by
  cases hf : fiE (itsH hs) a with
  | none => rfl
  | some k =>
    obtain ⟨h1, h2⟩ := fiE_some hf
    rw [itsH_len] at h1
    exact absurd ⟨_, its_at h1, h2⟩ ha
def rfI (l : List It) (a : I2) (n : Nat) (st : St) : Prop := ∃ k : Nat, n = l.length - k ∧ k ≤ l.length ∧ (∀ j, j < k → (l.getD j it0).id ≠ a) ∧
  st = ⟨20, 0, [(0, itS l), (3, .c (.own 0 0)), (5, vci .i64 (k : Int))], [some (.cells 39 (idF a))]⟩
theorem rfind_c (l : List It) (hl : l.length ≤ 100000000) (a : I2) : CallV Try.prog 73 [itS l, idA a] [] (fun r own' => own' = [] ∧ r = vci .i64 (fiN l a)) := by
  refine callV_pure Try.func73 rfl ttok ftok rfl rfl rfl (Nat.le_of_ble_eq_true rfl) ?_
  conv => whnf
  refine loopV ttok ftok (rfI l a) (norm_weak [0, 3, 5] [some 0] rfl rfl) ⟨0, rfl, Nat.zero_le _, fun j hj => by omega, rfl⟩ ?_
  rintro n st ⟨k, rfl, hk, hj, rfl⟩
  have e1 := e64 (k := k) (by omega)
  conv => whnf
  refine onB_intro (fun h => ?_) (fun h => ?_)
  · have h := of_decide_eq_true h
    have hk2 : k < l.length := by omega
    conv => whnf
    refine drawV_join mixed (by kernel_rfl) ttok ?_
    conv => whnf
    refine ⟨⟨by omega, by omega⟩, ?_⟩
    conv => whnf
    rw [ti_nat]
    refine onB_intro (fun g => ?_) (fun g => ?_)
    · have g2 : (l.getD k it0).id = a := by
        simp only [Bool.and_true, Bool.and_eq_true, beq_iff_eq] at g
        exact Prod.ext g.1 g.2
      have := fiE_at hk2 hj g2
      conv => whnf
      unfold fiN
      rw [this]
    · have g2 : (l.getD k it0).id ≠ a := fun e => by
        rw [e] at g
        simp at g
      conv => whnf
      rw [e1]
      refine ⟨l.length - (k + 1), _, by omega, norm_weak [0, 3, 5] [some 0] rfl rfl, k + 1, rfl, by omega, fun j h2 => ?_, rfl⟩
      rcases Nat.lt_succ_iff_lt_or_eq.1 h2 with h3 | rfl
      · exact hj j h3
      · exact g2
  · have h := of_decide_eq_false h
    have := fiE_no (l := l) (a := a) (fun j h2 => hj j (by omega))
    conv => whnf
    unfold fiN
    rw [this]
theorem pth_len : ∀ (hs : HS) (a : I2), (pth hs a).length ≤ hs.length
  | [], a => Nat.le_refl _
  | (x, h) :: r, a => by
    unfold pth
    split
    · have := pth_len r h.on
      rw [List.length_append, List.length_singleton, List.length_cons]
      omega
    · have := pth_len r a
      rw [List.length_cons]
      omega
theorem bel_at {hs : HS} (ho : okH hs) {x : It} {h : Hg} (hm : (x, h) ∈ hs) (b : I2) : bel hs x.id b = (decide (h.on = b) || bel hs h.on b) := by
  unfold bel
  rw [und_at ho hm, und_at ho hm]
  by_cases e : h.on = b
  · rw [decide_eq_true e, Bool.true_or]
    obtain ⟨o, s⟩ := h
    simp only at e
    subst e
    cases s
    · rw [if_pos rfl]; rfl
    · rw [if_pos (show (⟨o, true⟩ : Hg) = ⟨o, true⟩ from rfl)]
      simp
  · rw [decide_eq_false e, Bool.false_or, if_neg (fun g => e (by rw [g])), if_neg (fun g => e (by rw [g]))]
theorem bel_no {hs : HS} {a b : I2} (ha : ¬ hasI hs a) : bel hs a b = false := by
  unfold bel
  rw [und_no ha, und_no ha]; rfl
def rbI (hs : HS) (a b : I2) (m : Nat) (st : St) : Prop := ∃ (c : I2) (n : Nat), m = hs.length + 1 - n ∧ (pth hs c).length + n ≤ hs.length ∧ bel hs c b = bel hs a b ∧
  st = ⟨41, 0, [(0, itS (itsH hs)), (1, hgS (hgsH hs)), (7, .c (.own 0 0)), (9, vci .i64 (fiN (itsH hs) c)), (10, vci .i64 (n : Int))], [some (.cells 39 (idF b))]⟩
theorem rbelow_c {hs : HS} (ho : okH hs) (hlen : hs.length ≤ 100000) (a b : I2) : CallV Try.prog 103 [itS (itsH hs), hgS (hgsH hs), idA a, idA b] [] (fun r own' => own' = [] ∧ r = vcb (belR hs a b)) := by
  have hil := itsH_len hs
  have hhl := hgsH_len hs
  have hcase : ∀ c, (hasI hs c ∧ ∃ k : Nat, fiN (itsH hs) c = (k : Int) ∧ k < hs.length ∧ ((itsH hs).getD k it0).id = c ∧ ((itsH hs).getD k it0, (hgsH hs).getD k hg0) ∈ hs) ∨ (¬ hasI hs c ∧ fiN (itsH hs) c = -1) := fun c => by
    by_cases hc : hasI hs c
    · obtain ⟨k, h1, h2, h3, h4⟩ := fiE_has hc
      exact .inl ⟨hc, k, by unfold fiN; rw [h1], h2, h3, h4⟩
    · exact .inr ⟨hc, by unfold fiN; rw [fiE_hasn hc]⟩
  refine callV_pure Try.func103 rfl ttok ftok rfl rfl rfl (Nat.le_of_ble_eq_true rfl) ?_
  conv => whnf
  unfold belR
  by_cases hz : b.1 = 0
  · rw [beq_iff_eq.2 hz]
    conv => whnf
    all_goals first | rfl | exact ⟨rfl, rfl⟩
  rw [beq_eq_false_iff_ne.2 hz]
  conv => whnf
  refine call_pure (rfind_c (itsH hs) (by omega) a) rfl ?_
  rintro _ rfl
  conv => whnf
  refine loopV ttok ftok (rbI hs a b) (norm_weak [0, 1, 7, 9, 10] [some 1] rfl rfl) ⟨a, 0, rfl, pth_len hs a, rfl, rfl⟩ ?_
  rintro m st ⟨c, n, rfl, hn, hb, rfl⟩
  have e1 := e64 (k := n) (by omega)
  rcases hcase c with ⟨hc, k, hk1, hk2, hk3, hk4⟩ | ⟨hc, hk1⟩
  · have hpl : 0 < (pth hs c).length := List.length_pos_iff.2 (pth_ne ho hc)
    have hba := bel_at ho hk4 b
    have hpa := pth_at ho hk4
    rw [hk3] at hba hpa
    rw [hk1]
    conv => whnf
    refine onB_intro (fun g => ?_) (fun g => ?_)
    rotate_left
    · exfalso
      simp [pickB, isLit, hil] at g
      omega
    conv => whnf
    refine drawV_join mixed (by kernel_rfl) ttok ?_
    conv => whnf
    refine ⟨⟨by omega, by omega⟩, ?_⟩
    conv => whnf
    rw [ti_nat]
    have hbe : (((hgsH hs).getD k hg0).on.1 == b.1 && (((hgsH hs).getD k hg0).on.2 == b.2 && true)) = decide (((hgsH hs).getD k hg0).on = b) := by
      rw [Bool.eq_iff_iff, decide_eq_true_iff, Bool.and_true, Bool.and_eq_true, beq_iff_eq, beq_iff_eq]
      exact ⟨fun e => Prod.ext e.1 e.2, fun e => by rw [e]; exact ⟨rfl, rfl⟩⟩
    rw [hbe]
    by_cases he : ((hgsH hs).getD k hg0).on = b
    · rw [decide_eq_true he] at hba ⊢
      conv => whnf
      rw [← hb, hba]
      all_goals first | rfl | exact ⟨rfl, rfl⟩
    · rw [decide_eq_false he] at hba ⊢
      rw [Bool.false_or, hb] at hba
      conv => whnf
      refine ⟨⟨by omega, by omega⟩, ?_⟩
      conv => whnf
      rw [ti_nat]
      refine call_pure (rfind_c (itsH hs) (by omega) ((hgsH hs).getD k hg0).on) rfl ?_
      rintro _ rfl
      conv => whnf
      rw [e1]
      refine ⟨hs.length + 1 - (n + 1), _, by omega, norm_weak [0, 1, 7, 9, 10] [some 0] rfl rfl, ((hgsH hs).getD k hg0).on, n + 1, rfl, ?_, hba.symm, rfl⟩
      rw [hpa] at hn
      rw [List.length_append, List.length_singleton] at hn
      omega
  · rw [hk1]
    conv => whnf
    refine onB_intro (fun g => ?_) (fun g => ?_)
    · exfalso
      simp [pickB, isLit] at g
    conv => whnf
    rw [← hb, bel_no hc]
    all_goals first | rfl | exact ⟨rfl, rfl⟩
theorem il_b (a b : I2) : (decide (a.1 < b.1) || (a.1 == b.1 && decide (a.2 < b.2))) = true ↔ il a b := by
  unfold il
  rw [Bool.or_eq_true, Bool.and_eq_true, decide_eq_true_iff, decide_eq_true_iff, beq_iff_eq]
instance (a b : I2) : Decidable (il a b) := inferInstanceAs (Decidable (_ ∨ _ ∧ _))
theorem rbefore_c (a b : I2) : CallV Try.prog 102 [idA a, idA b] [] (fun r own' => own' = [] ∧ r = vcb (decide (il a b))) := by
  have hd : decide (il a b) = (decide (a.1 < b.1) || (a.1 == b.1 && decide (a.2 < b.2))) := by
    rw [Bool.eq_iff_iff, decide_eq_true_iff]; exact (il_b a b).symm
  rw [hd]
  refine callV_pure Try.func102 rfl ttok ftok rfl rfl rfl (Nat.le_of_ble_eq_true rfl) ?_
  conv => whnf
  cases h1 : decide (a.1 < b.1) <;> cases h2 : (a.1 == b.1)
  all_goals first | rfl | exact ⟨rfl, rfl⟩
/-- On what an item hangs, told raw. -/
def hgP (hs : HS) (x : It) : Hg := if (x.right.1 != 0 && belR hs x.right x.left) = true then ⟨x.right, false⟩ else ⟨x.left, true⟩
theorem rplace_c {hs : HS} (ho : okH hs) (hlen : hs.length ≤ 100000) (x : It) : CallV Try.prog 77 [itS (itsH hs), hgS (hgsH hs), .agg (itF x)] [] (fun r own' => own' = [] ∧ r = hgA (hgP hs x)) := by
  refine callV_pure Try.func77 rfl ttok ftok rfl rfl rfl (Nat.le_of_ble_eq_true rfl) ?_
  conv => whnf
  refine call_pure (rbelow_c ho hlen x.right x.left) rfl ?_
  rintro _ rfl
  unfold hgP
  cases h1 : (x.right.1 != 0) <;> cases h2 : belR hs x.right x.left
  all_goals
    conv => whnf
    rw [h1]
    conv => whnf
    all_goals first | rfl | exact ⟨rfl, rfl⟩
/-- Each hangs where it should. -/
def bldH : HS → Prop
  | [] => True
  | (x, h) :: r => bldH r ∧ h = hgOf r x
theorem hgOf_raw (hs : HS) (x : It) : hgOf hs x = if x.left.1 = 0 ∧ (hgP hs x).right = true then rootH else hgP hs x := by
  unfold hgOf hgP
  by_cases h : (x.right.1 != 0 && belR hs x.right x.left) = true
  · rw [if_pos h, if_pos h, if_neg (fun g => by cases g.2)]
  · rw [if_neg h, if_neg h]
    by_cases h2 : x.left.1 = 0
    · rw [if_pos h2, if_pos ⟨h2, rfl⟩]
    · rw [if_neg h2, if_neg (fun g => h2 g.1)]
/-- The items that came first. -/
def firstH (hs : HS) (i : Nat) : HS := hs.drop (hs.length - i)
theorem firstH_len {hs : HS} {i : Nat} (hi : i ≤ hs.length) : (firstH hs i).length = i := by unfold firstH; rw [List.length_drop]; omega
theorem firstH_its {hs : HS} {i : Nat} (hi : i ≤ hs.length) : itsH (firstH hs i) = (itsH hs).take i := by
  unfold itsH firstH
  rw [List.map_drop, List.take_reverse, List.length_map]
theorem okH_drop : ∀ {hs : HS} (n : Nat), okH hs → okH (hs.drop n)
  | hs, 0, h => by rw [List.drop_zero]; exact h
  | [], n + 1, h => h
  | p :: r, n + 1, h => by rw [List.drop_succ_cons]; exact okH_drop n (by obtain ⟨x, g⟩ := p; exact h.1)
theorem bldH_drop : ∀ {hs : HS} (n : Nat), bldH hs → bldH (hs.drop n)
  | hs, 0, h => by rw [List.drop_zero]; exact h
  | [], n + 1, h => h
  | p :: r, n + 1, h => by rw [List.drop_succ_cons]; exact bldH_drop n (by obtain ⟨x, g⟩ := p; exact h.1)
theorem firstH_hgs {hs : HS} {i : Nat} (hi : i ≤ hs.length) : hgsH (firstH hs i) = (hgsH hs).take i := by
  unfold hgsH firstH
  rw [List.map_drop, List.take_reverse, List.length_map]
theorem firstH_at {hs : HS} (hb : bldH hs) {i : Nat} (hi : i < hs.length) : (hgsH hs).getD i hg0 = hgOf (firstH hs i) ((itsH hs).getD i it0) ∧ firstH hs (i + 1) = ((itsH hs).getD i it0, (hgsH hs).getD i hg0) :: firstH hs i := by
  have e1 : (itsH hs).getD i it0 = (hs[hs.length - 1 - i]).1 := by
    unfold itsH
    rw [List.getD_eq_getElem?_getD, List.getElem?_reverse (by simpa using hi), List.getElem?_map, List.length_map, List.getElem?_eq_getElem (by omega)]; rfl
  have e2 : (hgsH hs).getD i hg0 = (hs[hs.length - 1 - i]).2 := by
    unfold hgsH
    rw [List.getD_eq_getElem?_getD, List.getElem?_reverse (by simpa using hi), List.getElem?_map, List.length_map, List.getElem?_eq_getElem (by omega)]; rfl
  have e3 : firstH hs (i + 1) = hs[hs.length - 1 - i] :: firstH hs i := by
    unfold firstH
    rw [List.drop_eq_getElem_cons (by omega)]
    congr 1
    · congr 1; omega
    · congr 1; omega
  have e4 := bldH_drop (hs.length - (i + 1)) hb
  have e5 : hs.drop (hs.length - (i + 1)) = hs[hs.length - 1 - i] :: firstH hs i := e3
  rw [e5] at e4
  refine ⟨?_, by rw [e3, e1, e2]⟩
  rw [e1, e2]
  exact e4.2
def rhI (hs : HS) (n : Nat) (st : St) : Prop := ∃ i : Nat, n = hs.length - i ∧ i ≤ hs.length ∧
  st = ⟨39, 0, [(0, itS (itsH hs)), (3, .c (.row 0)), (4, vci .i64 (i : Int))], [some (.row 74 3 (hgsH (firstH hs i)).length (hgR (hgsH (firstH hs i))))]⟩
theorem rhangs_c {hs : HS} (ho : okH hs) (hb : bldH hs) (hlen : hs.length ≤ 100000) : CallV Try.prog 75 [itS (itsH hs)] [] (fun r own' => own' = [] ∧ r = hgS (hgsH hs)) := by
  have hil := itsH_len hs
  have hhl := hgsH_len hs
  refine callV_pure Try.func75 rfl ttok ftok rfl rfl rfl (Nat.le_of_ble_eq_true rfl) ?_
  conv => whnf
  refine loopV ttok ftok (rhI hs) ((nil_row 3 74 3 (hgR []) rfl).trans (norm_weak [0, 3, 4] [some 0] rfl rfl)) ⟨0, rfl, Nat.zero_le _, by rw [show firstH hs 0 = [] from by unfold firstH; rw [Nat.sub_zero, List.drop_length]]; rfl⟩ ?_
  rintro m st ⟨i, rfl, hi, rfl⟩
  have e1 := e64 (k := i) (by omega)
  have hF := firstH_len hi
  have hfi := firstH_its hi
  have hfl : (hgsH (firstH hs i)).length = i := by rw [hgsH_len, hF]
  have hoF : okH (firstH hs i) := okH_drop _ ho
  conv => whnf
  refine onB_intro (fun h => ?_) (fun h => ?_)
  · have h := of_decide_eq_true h
    have hil2 : i < hs.length := by omega
    obtain ⟨ha1, ha2⟩ := firstH_at hb hil2
    have hti : ((itsH hs).take i).length = i := by rw [List.length_take]; omega
    conv => whnf
    refine drawV_at ⟨39, 0, [(0, itS (itsH hs)), (3, .c (.row 0)), (4, vci .i64 (i : Int)), (5, .c (.own 1 0))], [some (.row 74 3 (hgsH (firstH hs i)).length (hgR (hgsH (firstH hs i)))), some (.cells 74 (hgF (hgP (firstH hs i) ((itsH hs).getD i it0))))]⟩ ?_ ?_
    · refine drawV_sched (.rd 0 (.rd 1 (.rd 2 (.rd 3 (.rd 4 (.rd 5 (.rd 6 (.rd 7 (.alt (.ef 8 (.ef 9 (.ef 10 (.nil)))) (.ef 9 (.ef 8 (.ef 10 (.nil))))))))))))) [0, 1] mixed (by kernel_rfl) ttok ftok ?_
      conv => whnf
      have hpl := rplace_c hoF (by omega) ((itsH hs).getD i it0)
      have hfil : (itsH (firstH hs i)).length = i := by rw [hfi, hti]
      refine ⟨by omega, (itsH (firstH hs i)).length, itR (itsH (firstH hs i)), by omega, fun k hk => ?_, ?_⟩
      · show itF ((itsH (firstH hs i)).getD k it0) = itF ((itsH hs).getD (0 + k) it0)
        rw [Nat.zero_add, hfi, getD_take _ _ _ _ (by omega)]
      conv => whnf
      refine ⟨by omega, ?_⟩
      conv => whnf
      rw [ti_nat]
      refine ⟨?_, ?_⟩
      · conv => whnf
        refine (callV_lendS 0 rfl (fun j hj => rfl) hpl rfl (fun r hr => by subst hr; rfl)).mono ?_
        rintro r own2 ⟨rfl, rfl⟩
        conv => whnf
        exact norm_weak [0, 3, 4, 5] [some 0, some 1] rfl rfl
      · conv => whnf
        refine (callV_lendS 0 rfl (fun j hj => rfl) hpl rfl (fun r hr => by subst hr; rfl)).mono ?_
        rintro r own2 ⟨rfl, rfl⟩
        conv => whnf
        exact norm_weak [0, 3, 4, 5] [some 0, some 1] rfl rfl
    · have hraw := hgOf_raw (firstH hs i) ((itsH hs).getD i it0)
      rw [← ha1] at hraw
      generalize hgP (firstH hs i) ((itsH hs).getD i it0) = p at hraw
      have hsn : hgsH (firstH hs (i + 1)) = hgsH (firstH hs i) ++ [(hgsH hs).getD i hg0] := by rw [ha2, hgsH_cons]
      conv => whnf
      refine ⟨by omega, ?_⟩
      conv => whnf
      rw [ti_nat]
      by_cases hz : ((itsH hs).getD i it0).left.1 = 0 ∧ p.right = true
      · rw [if_pos hz] at hraw
        obtain ⟨po, pr⟩ := p
        obtain ⟨hz1, hz2⟩ := hz
        simp only at hz2
        subst hz2
        rw [beq_iff_eq.2 hz1]
        conv => whnf
        refine ⟨fun _ => hgF rootH, fun j hj2 => ?_, ?_⟩
        · obtain rfl : j = 0 := by omega
          rfl
        conv => whnf
        refine ⟨⟨by omega, by show (List.length (hgsH (firstH hs i)) + 1) * 12 ≤ _; omega⟩, ?_⟩
        conv => whnf
        refine app1 (enc := hgF) (d := hg0) (l := hgsH (firstH hs i)) rootH (fun k hk => rfl) rfl ?_
        conv => whnf
        rw [hraw] at hsn
        rw [e1, ← hsn]
        exact ⟨hs.length - (i + 1), _, by omega, norm_weak [0, 3, 4] [some 3] rfl rfl, i + 1, rfl, by omega, rfl⟩
      · rw [if_neg hz] at hraw
        refine onB_intro (fun g => ?_) (fun g => ?_)
        · exfalso
          refine hz ?_
          cases h1 : (((itsH hs).getD i it0).left.1 == 0) <;> cases h2 : p.right <;> rw [h1, h2] at g <;> first | (cases g; done) | exact ⟨beq_iff_eq.1 h1, rfl⟩
        conv => whnf
        refine ⟨fun _ => hgF p, fun j hj2 => ?_, ?_⟩
        · obtain rfl : j = 0 := by omega
          rfl
        conv => whnf
        refine ⟨⟨by omega, by show (List.length (hgsH (firstH hs i)) + 1) * 12 ≤ _; omega⟩, ?_⟩
        conv => whnf
        refine app1 (enc := hgF) (d := hg0) (l := hgsH (firstH hs i)) p (fun k hk => rfl) rfl ?_
        conv => whnf
        rw [hraw] at hsn
        rw [e1, ← hsn]
        exact ⟨hs.length - (i + 1), _, by omega, norm_weak [0, 3, 4] [some 3] rfl rfl, i + 1, rfl, by omega, rfl⟩
  · have h := of_decide_eq_false h
    have : i = hs.length := by omega
    subst this
    rw [show firstH hs hs.length = hs from by unfold firstH; rw [Nat.sub_self, List.drop_zero]]
    conv => whnf
    refine ⟨fun _ _ => rfl, ?_⟩
    conv => whnf
    all_goals first | rfl | exact ⟨rfl, rfl⟩
end Go.Eng
/- The reference's walk: plain laws. -/
set_option linter.unusedVariables false
set_option linter.unusedSimpArgs false
namespace Go.Eng
theorem nodup_len {α : Type} [BEq α] [LawfulBEq α] : ∀ {l m : List α}, l.Nodup → (∀ a, a ∈ l → a ∈ m) → l.length ≤ m.length
  | [], m, _, _ => Nat.zero_le _
  | a :: l, m, hn, hs => by
    rw [List.nodup_cons] at hn
    have ha := hs a (List.mem_cons_self ..)
    have h1 : l.length ≤ (m.erase a).length := nodup_len hn.2 (fun b hb => (List.mem_erase_of_ne (fun e => hn.1 (by rw [← e]; exact hb))).2 (hs b (List.mem_cons_of_mem _ hb)))
    rw [List.length_erase_of_mem ha] at h1
    have : 0 < m.length := List.length_pos_of_mem ha
    rw [List.length_cons]
    omega
/-- All that hangs on h, with all below it, by rising keys. -/
structure wkP (hs : HS) (h : Hg) (w : List I2) : Prop where
  srt : w.Pairwise (fun a b => klt (kyO hs a) (kyO hs b))
  mem : ∀ e, e ∈ w ↔ (und hs e h).isSome = true
theorem srt_nodup {hs : HS} {w : List I2} (h : w.Pairwise (fun a b => klt (kyO hs a) (kyO hs b))) : w.Nodup := by
  refine List.Pairwise.imp (fun {a b} hab => ?_) h
  intro e
  subst e
  exact klt_irr _ hab
theorem wkP.len {hs : HS} {h : Hg} {w : List I2} (k : wkP hs h w) : w.length ≤ hs.length := by
  have := nodup_len (m := idsH hs) (srt_nodup k.srt) (fun a ha => mem_idsH.2 (by
    have h1 := (k.mem a).1 ha
    by_cases g : hasI hs a
    · exact g
    · rw [und_no g] at h1; cases h1))
  unfold idsH at this
  rwa [List.length_map] at this
theorem okOn_kid {hs : HS} (ho : okH hs) {x : It} {h : Hg} (hm : (x, h) ∈ hs) (s : Bool) : okOn hs ⟨x.id, s⟩ := .inr ⟨okH_none ho ⟨_, hm, rfl⟩, _, hm, rfl⟩
theorem und_kid {hs : HS} (ho : okH hs) {x : It} {h : Hg} (hm : (x, h) ∈ hs) (e : I2) : und hs e h = some x.id ↔ ((und hs e ⟨x.id, false⟩).isSome = true ∨ e = x.id ∨ (und hs e ⟨x.id, true⟩).isSome = true) := by
  have hoo := on_ok ho hm
  have hp := pth_at ho hm
  constructor
  · intro hu
    obtain ⟨t, ht⟩ := (und_iff ho hoo _).1 hu
    have ht2 : pth hs e = pth hs x.id ++ t := by rw [ht, hp, List.append_assoc]; rfl
    cases t with
    | nil =>
      rw [List.append_nil] at ht2
      have hx : hasI hs x.id := ⟨_, hm, rfl⟩
      exact .inr (.inl (pth_inj ho (hasI_of (by rw [ht2]; exact pth_ne ho hx)) hx ht2))
    | cons b t =>
      have hb := pth_side hs e b (by rw [ht2]; simp)
      rcases hb with hb | hb
      · have := (und_iff ho (okOn_kid ho hm false) b.2).2 ⟨t, by rw [ht2, show sideN ⟨x.id, false⟩ = 0 from rfl, ← hb]⟩
        exact .inl (by rw [this]; rfl)
      · have := (und_iff ho (okOn_kid ho hm true) b.2).2 ⟨t, by rw [ht2, show sideN ⟨x.id, true⟩ = 2 from rfl, ← hb]⟩
        exact .inr (.inr (by rw [this]; rfl))
  · have key : ∀ s, (und hs e ⟨x.id, s⟩).isSome = true → und hs e h = some x.id := fun s hi => by
      obtain ⟨k, hk⟩ := Option.isSome_iff_exists.1 hi
      obtain ⟨t, ht⟩ := (und_iff ho (okOn_kid ho hm s) k).1 hk
      refine (und_iff ho hoo _).2 ⟨(sideN ⟨x.id, s⟩, k) :: t, ?_⟩
      rw [ht]
      show pth hs x.id ++ _ = _
      rw [hp, List.append_assoc]; rfl
    rintro (h1 | rfl | h1)
    · exact key _ h1
    · rw [und_at ho hm, if_pos rfl]
    · exact key _ h1
theorem kid_lt {hs : HS} (ho : okH hs) {x : It} {h : Hg} (hm : (x, h) ∈ hs) {e : I2} (hi : (und hs e ⟨x.id, false⟩).isSome = true) : klt (kyO hs e) (kyO hs x.id) := by
  obtain ⟨k, hk⟩ := Option.isSome_iff_exists.1 hi
  obtain ⟨t, ht⟩ := (und_iff ho (okOn_kid ho hm false) k).1 hk
  unfold kyO
  rw [ht, List.append_assoc]
  exact klt_app _ (Or.inl (Or.inl (show (0 : Nat) < 1 by omega)))
theorem kid_gt {hs : HS} (ho : okH hs) {x : It} {h : Hg} (hm : (x, h) ∈ hs) {e : I2} (hi : (und hs e ⟨x.id, true⟩).isSome = true) : klt (kyO hs x.id) (kyO hs e) := by
  obtain ⟨k, hk⟩ := Option.isSome_iff_exists.1 hi
  obtain ⟨t, ht⟩ := (und_iff ho (okOn_kid ho hm true) k).1 hk
  unfold kyO
  rw [ht, List.append_assoc]
  exact klt_app _ (Or.inl (Or.inl (show (1 : Nat) < 2 by omega)))
theorem kids_lt {hs : HS} (ho : okH hs) {h : Hg} (hh : okOn hs h) {e1 e2 k1 k2 : I2} (h1 : und hs e1 h = some k1) (h2 : und hs e2 h = some k2) (hl : il k1 k2) : klt (kyO hs e1) (kyO hs e2) := by
  obtain ⟨t1, g1⟩ := (und_iff ho hh k1).1 h1
  obtain ⟨t2, g2⟩ := (und_iff ho hh k2).1 h2
  unfold kyO
  rw [g1, g2, List.append_assoc, List.append_assoc]
  exact klt_app _ (Or.inl (Or.inr ⟨rfl, hl⟩))
theorem its_inj {hs : HS} (ho : okH hs) {i j : Nat} (hi : i < hs.length) (hj : j < hs.length) (hne : i ≠ j) : ((itsH hs).getD i it0).id ≠ ((itsH hs).getD j it0).id := by
  have hn := idsH_nodup ho
  have e : ∀ k, k < hs.length → ((itsH hs).getD k it0).id = (idsH hs)[hs.length - 1 - k]'(by unfold idsH; rw [List.length_map]; omega) := fun k hk => by
    unfold itsH idsH
    rw [List.getD_eq_getElem?_getD, List.getElem?_reverse (by simpa using hk), List.getElem?_map, List.length_map, List.getElem?_eq_getElem (by omega), List.getElem_map]; rfl
  rw [e i hi, e j hj]
  intro g
  have := (List.getElem_inj hn).1 g
  omega
/-- Between two rounds: those of d are done. -/
structure wkI (hs : HS) (h : Hg) (d : List Bool) (w : List I2) (n : Nat) : Prop where
  dl : d.length = hs.length
  dk : ∀ i, i < hs.length → d.getD i false = true → (hgsH hs).getD i hg0 = h
  ws : w.Pairwise (fun a b => klt (kyO hs a) (kyO hs b))
  wm : ∀ e, e ∈ w ↔ ∃ i, i < hs.length ∧ d.getD i false = true ∧ und hs e h = some ((itsH hs).getD i it0).id
  lo : ∀ i j, i < hs.length → j < hs.length → d.getD i false = true → d.getD j false = false → (hgsH hs).getD j hg0 = h → il ((itsH hs).getD i it0).id ((itsH hs).getD j it0).id
  ct : d.countP (fun b => b) = n
theorem countP_set : ∀ {d : List Bool} {b : Nat}, b < d.length → d.getD b false = false → (d.set b true).countP (fun b => b) = d.countP (fun b => b) + 1
  | [], b, hb, _ => by cases hb
  | x :: d, 0, _, hx => by
    have : x = false := by simpa using hx
    subst this
    simp
  | x :: d, b + 1, hb, hx => by
    have h1 : (d.set b true).countP (fun b => b) = d.countP (fun b => b) + 1 := countP_set (by simpa using hb) (by simpa using hx)
    rw [List.set_cons_succ, List.countP_cons, List.countP_cons, h1]
    omega
theorem set_getD {d : List Bool} {b i : Nat} (hb : b < d.length) : (d.set b true).getD i false = if i = b then true else d.getD i false := by
  rw [List.getD_eq_getElem?_getD, List.getElem?_set]
  by_cases h : i = b
  · subst h; simp [hb]
  · rw [if_neg (Ne.symm h), if_neg h, ← List.getD_eq_getElem?_getD]
theorem wkI.step {hs : HS} (ho : okH hs) {h : Hg} {d : List Bool} {w : List I2} {n : Nat} (k : wkI hs h d w n) {b : Nat} (hb : b < hs.length) (hbk : (hgsH hs).getD b hg0 = h) (hbd : d.getD b false = false)
    (hmin : ∀ j, j < hs.length → (hgsH hs).getD j hg0 = h → d.getD j false = false → ¬ il ((itsH hs).getD j it0).id ((itsH hs).getD b it0).id)
    {wl wr : List I2} (hl : wkP hs ⟨((itsH hs).getD b it0).id, false⟩ wl) (hr : wkP hs ⟨((itsH hs).getD b it0).id, true⟩ wr) :
    wkI hs h (d.set b true) (w ++ wl ++ [((itsH hs).getD b it0).id] ++ wr) (n + 1) := by
  have hm : ((itsH hs).getD b it0, h) ∈ hs := by have := its_at hb; rwa [hbk] at this
  have hoo := on_ok ho hm
  have hbl : b < d.length := by rw [k.dl]; exact hb
  have hlt : ∀ e, e ∈ w → ∀ e2, und hs e2 h = some ((itsH hs).getD b it0).id → klt (kyO hs e) (kyO hs e2) := fun e he e2 h2 => by
    obtain ⟨i, hi, hd, hu⟩ := (k.wm e).1 he
    exact kids_lt ho hoo hu h2 (k.lo i b hi hb hd hbd hbk)
  have hul : ∀ e, e ∈ wl → und hs e h = some ((itsH hs).getD b it0).id := fun e he => (und_kid ho hm e).2 (.inl ((hl.mem e).1 he))
  have hur : ∀ e, e ∈ wr → und hs e h = some ((itsH hs).getD b it0).id := fun e he => (und_kid ho hm e).2 (.inr (.inr ((hr.mem e).1 he)))
  have hub : und hs ((itsH hs).getD b it0).id h = some ((itsH hs).getD b it0).id := (und_kid ho hm _).2 (.inr (.inl rfl))
  refine ⟨by rw [List.length_set]; exact k.dl, fun i hi hd => ?_, ?_, fun e => ?_, fun i j hi hj hd1 hd2 hk2 => ?_, by rw [countP_set hbl hbd, k.ct]⟩
  · rw [set_getD hbl] at hd
    split at hd
    · rename_i e; rw [e]; exact hbk
    · exact k.dk i hi hd
  · rw [List.pairwise_append]
    refine ⟨?_, hr.srt, fun a ha c hc => ?_⟩
    · rw [List.pairwise_append]
      refine ⟨?_, List.pairwise_singleton _ _, fun a ha c hc => ?_⟩
      · rw [List.pairwise_append]
        exact ⟨k.ws, hl.srt, fun a ha c hc => hlt a ha c (hul c hc)⟩
      · rw [List.mem_singleton] at hc
        subst hc
        rcases List.mem_append.1 ha with ha | ha
        · exact hlt a ha _ hub
        · exact kid_lt ho hm ((hl.mem a).1 ha)
    · have hg := kid_gt ho hm ((hr.mem c).1 hc)
      rcases List.mem_append.1 ha with ha | ha
      · rcases List.mem_append.1 ha with ha | ha
        · exact hlt a ha c (hur c hc)
        · exact klt_tr (kid_lt ho hm ((hl.mem a).1 ha)) hg
      · rw [List.mem_singleton] at ha
        subst ha
        exact hg
  · rw [List.mem_append, List.mem_append, List.mem_append, List.mem_singleton, k.wm e, hl.mem e, hr.mem e]
    constructor
    · rintro (((⟨i, hi, hd, hu⟩ | h1) | h1) | h1)
      · refine ⟨i, hi, ?_, hu⟩
        rw [set_getD hbl]
        split
        · rfl
        · exact hd
      · exact ⟨b, hb, by rw [set_getD hbl, if_pos rfl], (und_kid ho hm e).2 (.inl h1)⟩
      · exact ⟨b, hb, by rw [set_getD hbl, if_pos rfl], (und_kid ho hm e).2 (.inr (.inl h1))⟩
      · exact ⟨b, hb, by rw [set_getD hbl, if_pos rfl], (und_kid ho hm e).2 (.inr (.inr h1))⟩
    · rintro ⟨i, hi, hd, hu⟩
      rw [set_getD hbl] at hd
      split at hd
      · rename_i e2
        subst e2
        rcases (und_kid ho hm e).1 hu with h1 | h1 | h1
        · exact .inl (.inl (.inr h1))
        · exact .inl (.inr h1)
        · exact .inr h1
      · exact .inl (.inl (.inl ⟨i, hi, hd, hu⟩))
  · rw [set_getD hbl] at hd1 hd2
    split at hd2
    · cases hd2
    · rename_i hjb
      split at hd1
      · rename_i e
        subst e
        rcases il_tri (its_inj ho hj hi hjb) with g | g
        · exact absurd g (hmin j hj hk2 hd2)
        · exact g
      · exact k.lo i j hi hj hd1 hd2 hk2
theorem wkI.done {hs : HS} (ho : okH hs) {h : Hg} {d : List Bool} {w : List I2} {n : Nat} (k : wkI hs h d w n) (hall : ∀ j, j < hs.length → (hgsH hs).getD j hg0 = h → d.getD j false = true) : wkP hs h w := by
  refine ⟨k.ws, fun e => ?_⟩
  rw [k.wm e]
  constructor
  · rintro ⟨i, _, _, hu⟩
    rw [hu]; rfl
  · intro hi
    obtain ⟨q, hq⟩ := Option.isSome_iff_exists.1 hi
    obtain ⟨x, hx, rfl, _⟩ := und_some ho _ e h q rfl hq
    obtain ⟨i, hi, e1, e2⟩ := its_ex hx
    exact ⟨i, hi, hall i hi e2, by rw [hq, e1]⟩
theorem wkI.len {hs : HS} {h : Hg} {d : List Bool} {w : List I2} {n : Nat} (k : wkI hs h d w n) : w.length ≤ hs.length := by
  have := nodup_len (m := idsH hs) (srt_nodup k.ws) (fun a ha => mem_idsH.2 (by
    obtain ⟨i, _, _, hu⟩ := (k.wm a).1 ha
    by_cases g : hasI hs a
    · exact g
    · rw [und_no g] at hu; cases hu))
  unfold idsH at this
  rwa [List.length_map] at this
theorem wkI.full {hs : HS} {h : Hg} {d : List Bool} {w : List I2} (k : wkI hs h d w hs.length) : ∀ j, j < hs.length → d.getD j false = true := fun j hj => by
  have h1 : d.countP (fun b => b) = d.length := by rw [k.ct, k.dl]
  have h2 := List.countP_eq_length.1 h1
  have hjl : j < d.length := by rw [k.dl]; exact hj
  exact h2 _ (getD_mem hjl)
theorem wkP.ord {hs : HS} (ho : okH hs) {w : List I2} (k : wkP hs rootH w) : isOrd hs w := by
  refine ⟨?_, k.srt⟩
  have key : ∀ n (y : It) (g : Hg), (pth hs y.id).length = n → (y, g) ∈ hs → (und hs y.id rootH).isSome = true := by
    intro n
    induction n with
    | zero => intro y g hn hm; exact absurd (List.eq_nil_of_length_eq_zero hn) (pth_ne ho ⟨(y, g), hm, rfl⟩)
    | succ n ih =>
      intro y g hn hm
      rw [und_at ho hm]
      split
      · rfl
      · rename_i hg
        rcases on_ok ho hm with h1 | ⟨_, ⟨z, k⟩, hz, hze⟩
        · exact absurd h1 hg
        · rw [pth_at ho hm] at hn
          simp at hn
          rw [← hze]
          exact ih z k (by rw [hze]; exact hn) hz
  refine (List.perm_ext_iff_of_nodup (srt_nodup k.srt) (idsH_nodup ho)).2 (fun a => ?_)
  rw [k.mem a, mem_idsH]
  constructor
  · intro h
    by_cases g : hasI hs a
    · exact g
    · rw [und_no g] at h; cases h
  · rintro ⟨⟨y, g⟩, hm, rfl⟩
    exact key _ y g rfl hm
end Go.Eng
/- The reference: the order of items. -/
set_option linter.unusedVariables false
set_option linter.unusedSimpArgs false
set_option maxRecDepth 100000
set_option maxHeartbeats 4000000
namespace Go.Eng
open Go Go.RowKit Go.Proofs
abbrev blR (d : List Bool) : Nat → List IC := fun k => [.v (.bool (d.getD k false))]
def rwI (hs : HS) (h : Hg) (m : Nat) (st : St) : Prop := ∃ (n : Nat) (d : List Bool) (w : List I2), m = hs.length - n ∧ n ≤ hs.length ∧ wkI hs h d w n ∧
  st = ⟨92, 0, [(0, itS (itsH hs)), (1, hgS (hgsH hs)), (5, .c (.own 0 0)), (7, .c (.row 1)), (8, .c (.row 2)), (9, vci .i64 (n : Int))], [some (.cells 74 (hgF h)), some (.row 39 2 w.length (idR w)), some (.row 4 1 hs.length (blR d))]⟩
/-- The best so far. -/
def bsP (hs : HS) (h : Hg) (d : List Bool) (q : Nat) (b : Int) : Prop := (b = -1 ∧ ∀ j, j < q → (hgsH hs).getD j hg0 = h → d.getD j false = true) ∨
  (∃ p : Nat, b = (p : Int) ∧ p < q ∧ (hgsH hs).getD p hg0 = h ∧ d.getD p false = false ∧ ∀ j, j < q → (hgsH hs).getD j hg0 = h → d.getD j false = false → ¬ il ((itsH hs).getD j it0).id ((itsH hs).getD p it0).id)
def rwQ (hs : HS) (h : Hg) (d : List Bool) (w : List I2) (n : Nat) (m : Nat) (st : St) : Prop := ∃ (q : Nat) (b : Int), m = hs.length - q ∧ q ≤ hs.length ∧ bsP hs h d q b ∧
  st = ⟨92, 0, [(0, itS (itsH hs)), (1, hgS (hgsH hs)), (5, .c (.own 0 0)), (7, .c (.row 1)), (8, .c (.row 2)), (9, vci .i64 (n : Int)), (10, vci .i64 b), (11, vci .i64 (q : Int))], [some (.cells 74 (hgF h)), some (.row 39 2 w.length (idR w)), some (.row 4 1 hs.length (blR d))]⟩
def wkC (hs : HS) (h : Hg) : Prop := CallV Try.prog 74 [itS (itsH hs), hgS (hgsH hs), hgA h] [] (fun r own' => ∃ w : List I2, wkP hs h w ∧ r = .c (.row 0) ∧ own' = [some (.row 39 2 w.length (idR w))])
theorem rwalk_step {hs : HS} (ho : okH hs) (hlen : hs.length ≤ 100000) (h : Hg) (ih : ∀ x, (x, h) ∈ hs → ∀ s, wkC hs ⟨x.id, s⟩) : wkC hs h := by
  have hil := itsH_len hs
  have hhl := hgsH_len hs
  unfold wkC
  refine callV_own Try.func74 rfl ttok ftok rfl rfl rfl (Nat.le_of_ble_eq_true rfl) rfl ?_
  conv => whnf
  have hN : ((itsH hs).length : Int).toNat = hs.length := by rw [ti_nat, hil]
  refine ⟨⟨by omega, rfl, by show ((itsH hs).length : Int) * 1 ≤ _; omega, by omega⟩, hs.length, blR (List.replicate hs.length false), hN.symm, fun k hk => ?_, ?_⟩
  · show [IC.v (.bool ((List.replicate hs.length false).getD k false))] = [IC.v (.bool false)]
    rw [List.getD_eq_getElem?_getD, List.getElem?_replicate]
    split <;> rfl
  conv => whnf
  refine loopV_cut 0 (fun st => ∃ w, wkP hs h w ∧ st = ⟨92, 0, [(7, .c (.row 0))], [some (.row 39 2 w.length (idR w))]⟩) ?_ ?_
  · refine loopV ttok ftok (rwI hs h) ((nil_row 7 39 2 (idR []) rfl).trans (norm_weak [0, 1, 5, 7, 8, 9] [some 0, some 2, some 1] rfl rfl)) ⟨0, List.replicate hs.length false, [], rfl, Nat.zero_le _, ?_, rfl⟩ ?_
    · have hd0 : ∀ i, (List.replicate hs.length false).getD i false = false := fun i => by
        rw [List.getD_eq_getElem?_getD, List.getElem?_replicate]
        split <;> rfl
      refine ⟨List.length_replicate .., fun i hi hd => ?_, List.Pairwise.nil, fun e => ⟨fun he => (by cases he), fun ⟨i, hi, hd, _⟩ => ?_⟩, fun i j hi hj hd => ?_, ?_⟩
      · rw [hd0] at hd; cases hd
      · rw [hd0] at hd; cases hd
      · rw [hd0] at hd; cases hd
      · rw [List.countP_eq_zero]
        intro a ha
        rw [List.eq_of_mem_replicate ha]
        simp
    rintro m st ⟨n, d, w, rfl, hn, hW, rfl⟩
    have e1 := e64 (k := n) (by omega)
    have hwl := hW.len
    conv => whnf
    refine onB_intro (fun g => ?_) (fun g => ?_)
    rotate_left
    · have g := of_decide_eq_false g
      obtain rfl : n = hs.length := by omega
      conv => whnf
      exact ⟨rfl, _, norm_weak [7] [some 1] rfl rfl, w, hW.done ho (fun j hj _ => hW.full j hj), rfl⟩
    have g := of_decide_eq_true g
    have hnl : n < hs.length := by omega
    conv => whnf
    refine loopV_cut 2 (fun st => ∃ b, bsP hs h d hs.length b ∧ st = ⟨92, 0, [(0, itS (itsH hs)), (1, hgS (hgsH hs)), (5, .c (.own 0 0)), (7, .c (.row 1)), (8, .c (.row 2)), (9, vci .i64 (n : Int)), (10, vci .i64 b)], [some (.cells 74 (hgF h)), some (.row 39 2 w.length (idR w)), some (.row 4 1 hs.length (blR d))]⟩) ?_ ?_
    · refine loopV ttok ftok (rwQ hs h d w n) (norm_weak [0, 1, 5, 7, 8, 9, 10, 11] [some 0, some 1, some 2] rfl rfl) ⟨0, -1, rfl, Nat.zero_le _, .inl ⟨rfl, fun j hj => by omega⟩, rfl⟩ ?_
      rintro m st ⟨q, b, rfl, hq, hb, rfl⟩
      have e2 := e64 (k := q) (by omega)
      conv => whnf
      refine onB_intro (fun g2 => ?_) (fun g2 => ?_)
      rotate_left
      · have g2 := of_decide_eq_false g2
        obtain rfl : q = hs.length := by omega
        conv => whnf
        exact ⟨rfl, _, norm_weak [0, 1, 5, 7, 8, 9, 10] [some 0, some 1, some 2] rfl rfl, b, hb, rfl⟩
      have g2 := of_decide_eq_true g2
      have hql : q < hs.length := by omega
      conv => whnf
      refine drawV_join mixed (by kernel_rfl) ttok ?_
      conv => whnf
      refine ⟨⟨by omega, by omega⟩, ?_⟩
      conv => whnf
      refine ⟨?_, ?_⟩
      · conv => whnf
        intro g1
        conv => whnf
        omega
      conv => whnf
      rw [ti_nat, hg_beq]
      refine onB_intro (fun g3 => ?_) (fun g3 => ?_)
      · have g3 : (hgsH hs).getD q hg0 = h → d.getD q false = true := fun e => by
          rw [decide_eq_true e] at g3
          simpa [pickB, isLit] using g3
        conv => whnf
        rw [e2]
        refine ⟨hs.length - (q + 1), _, by omega, norm_weak [0, 1, 5, 7, 8, 9, 10, 11] [some 0, some 1, some 2] rfl rfl, q + 1, b, rfl, by omega, ?_, rfl⟩
        rcases hb with ⟨rfl, h1⟩ | ⟨p, rfl, h1, h2, h3, h4⟩
        · refine .inl ⟨rfl, fun j hj hk => ?_⟩
          rcases Nat.lt_succ_iff_lt_or_eq.1 hj with g4 | rfl
          · exact h1 j g4 hk
          · exact g3 hk
        · refine .inr ⟨p, rfl, by omega, h2, h3, fun j hj hk hd => ?_⟩
          rcases Nat.lt_succ_iff_lt_or_eq.1 hj with g4 | rfl
          · exact h4 j g4 hk hd
          · rw [g3 hk] at hd; cases hd
      have g4 : (hgsH hs).getD q hg0 = h ∧ d.getD q false = false := by
        by_cases e : (hgsH hs).getD q hg0 = h
        · rw [decide_eq_true e] at g3
          exact ⟨e, by simpa [pickB, isLit] using g3⟩
        · rw [decide_eq_false e] at g3
          simp [pickB, isLit] at g3
      obtain ⟨hqk, hqd⟩ := g4
      rcases hb with ⟨rfl, h1⟩ | ⟨p, rfl, h1, h2, h3, h4⟩
      · conv => whnf
        refine drawV_quiet mixed (by kernel_rfl) ttok ftok ?_
        conv => whnf
        refine ⟨⟨by omega, by omega⟩, ?_⟩
        conv => whnf
        rw [ti_nat]
        refine ⟨⟨by omega, by omega⟩, ?_⟩
        conv => whnf
        (try rw [ti_nat])
        refine callQ (rbefore_c ((itsH hs).getD q it0).id ((itsH hs).getD q it0).id) rfl rfl ?_
        rw [decide_eq_false (il_irr _)]
        conv => whnf
        rw [e2]
        refine ⟨hs.length - (q + 1), _, by omega, norm_weak [0, 1, 5, 7, 8, 9, 10, 11] [some 0, some 1, some 2] rfl rfl, q + 1, (q : Int), rfl, by omega, ?_, rfl⟩
        refine .inr ⟨q, rfl, by omega, hqk, hqd, fun j hj hk hd => ?_⟩
        rcases Nat.lt_succ_iff_lt_or_eq.1 hj with g5 | rfl
        · rw [h1 j g5 hk] at hd; cases hd
        · exact il_irr _
      · conv => whnf
        refine drawV_quiet mixed (by kernel_rfl) ttok ftok ?_
        conv => whnf
        refine ⟨⟨by omega, by omega⟩, ?_⟩
        conv => whnf
        rw [ti_nat]
        refine ⟨⟨by omega, by omega⟩, ?_⟩
        conv => whnf
        rw [ti_nat]
        refine callQ (rbefore_c ((itsH hs).getD q it0).id ((itsH hs).getD p it0).id) rfl rfl ?_
        by_cases hB : il ((itsH hs).getD q it0).id ((itsH hs).getD p it0).id
        · rw [decide_eq_true hB]
          conv => whnf
          rw [e2]
          refine ⟨hs.length - (q + 1), _, by omega, norm_weak [0, 1, 5, 7, 8, 9, 10, 11] [some 0, some 1, some 2] rfl rfl, q + 1, (q : Int), rfl, by omega, ?_, rfl⟩
          refine .inr ⟨q, rfl, by omega, hqk, hqd, fun j hj hk hd => ?_⟩
          rcases Nat.lt_succ_iff_lt_or_eq.1 hj with g5 | rfl
          · exact fun g6 => h4 j g5 hk hd (il_tr g6 hB)
          · exact il_irr _
        · rw [decide_eq_false hB]
          conv => whnf
          rw [e2]
          refine ⟨hs.length - (q + 1), _, by omega, norm_weak [0, 1, 5, 7, 8, 9, 10, 11] [some 0, some 1, some 2] rfl rfl, q + 1, (p : Int), rfl, by omega, ?_, rfl⟩
          refine .inr ⟨p, rfl, by omega, h2, h3, fun j hj hk hd => ?_⟩
          rcases Nat.lt_succ_iff_lt_or_eq.1 hj with g5 | rfl
          · exact h4 j g5 hk hd
          · exact hB
    · rintro st ⟨b, hb, rfl⟩
      rcases hb with ⟨rfl, h1⟩ | ⟨p, rfl, h1, h2, h3, h4⟩
      · conv => whnf
        exact ⟨rfl, _, norm_weak [7] [some 1] rfl rfl, w, hW.done ho h1, rfl⟩
      have hm : ((itsH hs).getD p it0, h) ∈ hs := by have := its_at h1; rwa [h2] at this
      have ihl := ih _ hm false
      have ihr := ih _ hm true
      have hst := fun {wl wr} hl hr => hW.step ho h1 h2 h3 h4 (wl := wl) (wr := wr) hl hr
      have hpl : p < (itsH hs).length := by omega
      unfold wkC at ihl ihr
      conv => whnf
      refine ⟨by omega, ?_⟩
      conv => whnf
      have hdl : d.length = hs.length := hW.dl
      refine ⟨blR (d.set p true), fun j hj => ?_, ?_⟩
      · show [IC.v (.bool ((d.set p true).getD j false))] = _
        rw [set_getD (by omega), ti_nat]
        split <;> rfl
      conv => whnf
      refine ⟨by omega, ?_⟩
      conv => whnf
      rw [ti_nat]
      refine call_frame2 [] rfl rfl rfl rfl ihl ?_
      rintro r own2 ⟨wl, hwL, rfl, rfl⟩
      have hwL2 := hwL.len
      refine ⟨.c (.row 3), [some (.cells 74 (hgF h)), some (.row 39 2 w.length (idR w)), some (.row 4 1 hs.length (blR (d.set p true))), some (.row 39 2 wl.length (idR wl))], rfl, rfl, ?_⟩
      conv => whnf
      refine ⟨⟨by omega, by show (w.length + wl.length) * 8 ≤ _; omega⟩, ?_⟩
      conv => whnf
      refine app_list (enc := idF) (d := (0, 0)) (l := w) (b := wl) (fun k hk => rfl) (fun k hk => rfl) ?_
      have hl1 : (w ++ wl).length = w.length + wl.length := List.length_append ..
      conv => whnf
      refine ⟨by omega, ?_⟩
      conv => whnf
      rw [ti_nat]
      refine ⟨fun _ => idF ((itsH hs).getD p it0).id, fun j hj2 => ?_, ?_⟩
      · obtain rfl : j = 0 := by omega
        rfl
      conv => whnf
      refine ⟨⟨by omega, by show ((w ++ wl).length + 1) * 8 ≤ _; omega⟩, ?_⟩
      conv => whnf
      refine app1 (enc := idF) (d := (0, 0)) (l := w ++ wl) ((itsH hs).getD p it0).id (fun k hk => rfl) rfl ?_
      have hl2 : (w ++ wl ++ [((itsH hs).getD p it0).id]).length = w.length + wl.length + 1 := by rw [List.length_append, hl1]; rfl
      conv => whnf
      refine ⟨by omega, ?_⟩
      conv => whnf
      rw [ti_nat]
      refine call_frame2 [] rfl rfl rfl rfl ihr ?_
      rintro r own2 ⟨wr, hwR, rfl, rfl⟩
      have hwR2 := hwR.len
      refine ⟨.c (.row 7), [some (.cells 74 (hgF h)), none, some (.row 4 1 hs.length (blR (d.set p true))), some (.row 39 2 wl.length (idR wl)), none, some (.row 39 2 1 fun _ => idF ((itsH hs).getD p it0).id), some (.row 39 2 (w ++ wl ++ [((itsH hs).getD p it0).id]).length (idR (w ++ wl ++ [((itsH hs).getD p it0).id]))), some (.row 39 2 wr.length (idR wr))], rfl, rfl, ?_⟩
      conv => whnf
      refine ⟨⟨by omega, by show ((w ++ wl ++ [((itsH hs).getD p it0).id]).length + wr.length) * 8 ≤ _; omega⟩, ?_⟩
      conv => whnf
      refine app_list (enc := idF) (d := (0, 0)) (l := w ++ wl ++ [((itsH hs).getD p it0).id]) (b := wr) (fun k hk => rfl) (fun k hk => rfl) ?_
      conv => whnf
      rw [e1]
      exact ⟨hs.length - (n + 1), _, by omega, norm_weak [0, 1, 5, 7, 8, 9] [some 0, some 8, some 2] rfl rfl, n + 1, _, _, rfl, by omega, hst hwL hwR, rfl⟩
  · rintro st ⟨w, hw, rfl⟩
    conv => whnf
    refine ⟨_, Weak.refl _, ?_⟩
    conv => whnf
    exact ⟨[some 0], rfl, rfl, w, hw, rfl, rfl⟩
end Go.Eng
/- The reference: the order of items, told. -/
set_option linter.unusedVariables false
set_option linter.unusedSimpArgs false
set_option maxRecDepth 100000
set_option maxHeartbeats 4000000
namespace Go.Eng
open Go Go.RowKit Go.Proofs
theorem rwalk_all {hs : HS} (ho : okH hs) (hlen : hs.length ≤ 100000) : ∀ (n : Nat) (h : Hg), hs.length < n + (pth hs h.on).length → wkC hs h := by
  intro n
  induction n with
  | zero => intro h hn; have := pth_len hs h.on; omega
  | succ n ih =>
    intro h hn
    refine rwalk_step ho hlen h (fun x hm s => ih _ ?_)
    show hs.length < n + (pth hs x.id).length
    rw [pth_at ho hm, List.length_append, List.length_singleton]
    omega
theorem rorder_c {hs : HS} (ho : okH hs) (hb : bldH hs) (hlen : hs.length ≤ 100000) : CallV Try.prog 36 [itS (itsH hs)] [] (fun r own' => ∃ o : List I2, isOrd hs o ∧ r = .c (.row 0) ∧ own' = [some (.row 39 2 o.length (idR o))]) := by
  have hw : wkC hs rootH := rwalk_all ho hlen (hs.length + 1) rootH (by omega)
  unfold wkC at hw
  refine callV_own Try.func36 rfl ttok ftok rfl rfl rfl (Nat.le_of_ble_eq_true rfl) rfl ?_
  conv => whnf
  refine call_pure (rhangs_c ho hb hlen) rfl ?_
  rintro _ rfl
  conv => whnf
  refine call_frame2 [] rfl rfl rfl rfl hw ?_
  rintro r own2 ⟨w, hwk, rfl, rfl⟩
  refine ⟨.c (.row 0), [some (.row 39 2 w.length (idR w))], rfl, rfl, ?_⟩
  conv => whnf
  refine ⟨_, Weak.refl _, ?_⟩
  conv => whnf
  exact ⟨[some 0], rfl, rfl, w, hwk.ord ho, rfl, rfl⟩
theorem valid_c (c : Int) : CallV Try.prog 65 [vci .i32 c] [] (fun r own' => own' = [] ∧ r = vcb (vldR c)) := by
  have hv : vldR c = (decide (c ≥ 0) && decide (c ≤ 1114111) && (decide (c < 55296) || decide (c > 57343))) := by
    unfold vldR
    rw [Bool.eq_iff_iff]
    simp only [Bool.or_eq_true, Bool.and_eq_true, decide_eq_true_eq]
    omega
  rw [hv]
  refine callV_pure Try.func65 rfl ttok ftok rfl rfl rfl (Nat.le_of_ble_eq_true rfl) ?_
  conv => whnf
  cases h1 : decide (c ≥ 0) <;> cases h2 : decide (c ≤ 1114111) <;> cases h3 : decide (c < 55296) <;> cases h4 : decide (c > 57343)
  all_goals first | rfl | exact ⟨rfl, rfl⟩ | (rw [h1] ; skip)
  all_goals
    conv => whnf
    all_goals first | rfl | exact ⟨rfl, rfl⟩
end Go.Eng
/- The reference: are items known? -/
set_option linter.unusedVariables false
set_option linter.unusedSimpArgs false
set_option maxRecDepth 100000
set_option maxHeartbeats 4000000
namespace Go.Eng
open Go Go.RowKit Go.Proofs
theorem fiN_lt0 (l : List It) (a : I2) : decide (fiN l a < 0) = (fiE l a).isNone := by
  unfold fiN
  cases fiE l a with
  | none => rfl
  | some k => show decide ((k : Int) < 0) = false; rw [decide_eq_false (by omega)]
theorem fiN_ge0 (l : List It) (a : I2) : decide (fiN l a ≥ 0) = (fiE l a).isSome := by
  unfold fiN
  cases fiE l a with
  | none => rfl
  | some k => show decide ((k : Int) ≥ 0) = true; rw [decide_eq_true (by omega)]
/-- May an item come behind these? -/
structure knA (l : List It) (x : It) : Prop where
  nz : x.id.1 ≠ 0
  new : (fiE l x.id).isSome = false
  left : x.left.1 = 0 ∨ (fiE l x.left).isNone = false
  right : x.right.1 = 0 ∨ (fiE l x.right).isNone = false
def knP (l : List It) : Prop := ∀ i, i < l.length → knA (l.take i) (l.getD i it0)
def rkI (l : List It) (n : Nat) (st : St) : Prop := ∃ k : Nat, n = l.length - k ∧ k ≤ l.length ∧ (∀ i, i < k → knA (l.take i) (l.getD i it0)) ∧ st = ⟨58, 0, [(0, itS l), (3, vci .i64 (k : Int))], []⟩
theorem rknown_c (l : List It) (hl : l.length ≤ 10000000) : CallV Try.prog 35 [itS l] [] (fun r own' => own' = [] ∧ ∃ b : Bool, (b = true ↔ knP l) ∧ r = vcb b) := by
  refine callV_pure Try.func35 rfl ttok ftok rfl rfl rfl (Nat.le_of_ble_eq_true rfl) ?_
  conv => whnf
  refine loopV ttok ftok (rkI l) (env_weak [0, 3] rfl) ⟨0, rfl, Nat.zero_le _, fun i hi => by omega, rfl⟩ ?_
  rintro n st ⟨k, rfl, hk, hP, rfl⟩
  have e1 := e64 (k := k) (by omega)
  conv => whnf
  refine onB_intro (fun g => ?_) (fun g => ?_)
  · have g := of_decide_eq_true g
    have hkl : k < l.length := by omega
    have htl : (l.take k).length = k := by rw [List.length_take]; omega
    have hbad : ¬ knA (l.take k) (l.getD k it0) → (false = true ↔ knP l) := fun h => ⟨fun e => (by cases e), fun h2 => absurd (h2 k hkl) h⟩
    have hA := fiN_ge0 (l.take k) (l.getD k it0).id
    have hB := fiN_lt0 (l.take k) (l.getD k it0).left
    have hC := fiN_lt0 (l.take k) (l.getD k it0).right
    conv => whnf
    refine ⟨by omega, ?_⟩
    conv => whnf
    rw [ti_nat]
    generalize hx : l.getD k it0 = x at hA hB hC hbad
    refine drawV_quiet mixed (by kernel_rfl) ttok ftok ?_
    conv => whnf
    by_cases hz : x.id.1 = 0
    · rw [beq_iff_eq.2 hz]
      conv => whnf
      exact ⟨_, hbad (fun h => h.nz hz), rfl⟩
    rw [beq_eq_false_iff_ne.2 hz]
    conv => whnf
    rw [ti_nat]
    refine ⟨by omega, (l.take k).length, itR (l.take k), by omega, fun q hq => ?_, ?_⟩
    · show itF ((l.take k).getD q it0) = itF (l.getD (0 + q) it0)
      rw [Nat.zero_add, getD_take _ _ _ _ (by omega)]
    conv => whnf
    refine callQ (rfind_c (l.take k) (by omega) x.id) rfl rfl ?_
    conv => whnf
    rw [hA]
    cases h1 : (fiE (l.take k) x.id).isSome with
    | true =>
      conv => whnf
      exact ⟨_, hbad (fun h => by rw [h.new] at h1; cases h1), rfl⟩
    | false =>
    by_cases hzl : x.left.1 = 0
    · conv => whnf
      rw [show (x.left.1 != 0) = false from by rw [hzl]; rfl]
      conv => whnf
      have hleft : x.left.1 = 0 ∨ (fiE (l.take k) x.left).isNone = false := .inl hzl
      by_cases hzr : x.right.1 = 0
      · rw [show (x.right.1 != 0) = false from by rw [hzr]; rfl]
        conv => whnf
        rw [e1]
        refine ⟨l.length - (k + 1), _, by omega, norm_weak [0, 3] [] rfl rfl, k + 1, rfl, by omega, fun i hi => ?_, rfl⟩
        rcases Nat.lt_succ_iff_lt_or_eq.1 hi with h | rfl
        · exact hP i h
        · rw [hx]; exact ⟨hz, h1, hleft, .inl hzr⟩
      · rw [show (x.right.1 != 0) = true from bne_iff_ne.2 hzr]
        conv => whnf
        rw [ti_nat]
        refine ⟨by omega, (l.take k).length, itR (l.take k), by omega, fun q hq => ?_, ?_⟩
        · show itF ((l.take k).getD q it0) = itF (l.getD (0 + q) it0)
          rw [Nat.zero_add, getD_take _ _ _ _ (by omega)]
        conv => whnf
        refine callQ (rfind_c (l.take k) (by omega) x.right) rfl rfl ?_
        conv => whnf
        rw [hC]
        cases h3 : (fiE (l.take k) x.right).isNone with
        | true =>
          conv => whnf
          exact ⟨_, hbad (fun h => by rcases h.right with h | h; exact hzr h; rw [h] at h3; cases h3), rfl⟩
        | false =>
          conv => whnf
          rw [e1]
          refine ⟨l.length - (k + 1), _, by omega, norm_weak [0, 3] [] rfl rfl, k + 1, rfl, by omega, fun i hi => ?_, rfl⟩
          rcases Nat.lt_succ_iff_lt_or_eq.1 hi with h | rfl
          · exact hP i h
          · rw [hx]; exact ⟨hz, h1, hleft, .inr h3⟩
    · conv => whnf
      rw [show (x.left.1 != 0) = true from bne_iff_ne.2 hzl]
      conv => whnf
      rw [ti_nat]
      refine ⟨by omega, (l.take k).length, itR (l.take k), by omega, fun q hq => ?_, ?_⟩
      · show itF ((l.take k).getD q it0) = itF (l.getD (0 + q) it0)
        rw [Nat.zero_add, getD_take _ _ _ _ (by omega)]
      conv => whnf
      refine callQ (rfind_c (l.take k) (by omega) x.left) rfl rfl ?_
      conv => whnf
      rw [hB]
      cases h2 : (fiE (l.take k) x.left).isNone with
      | true =>
        conv => whnf
        exact ⟨_, hbad (fun h => by rcases h.left with h | h; exact hzl h; rw [h] at h2; cases h2), rfl⟩
      | false =>
        conv => whnf
        have hleft : x.left.1 = 0 ∨ (fiE (l.take k) x.left).isNone = false := .inr h2
        by_cases hzr : x.right.1 = 0
        · rw [show (x.right.1 != 0) = false from by rw [hzr]; rfl]
          conv => whnf
          rw [e1]
          refine ⟨l.length - (k + 1), _, by omega, norm_weak [0, 3] [] rfl rfl, k + 1, rfl, by omega, fun i hi => ?_, rfl⟩
          rcases Nat.lt_succ_iff_lt_or_eq.1 hi with h | rfl
          · exact hP i h
          · rw [hx]; exact ⟨hz, h1, hleft, .inl hzr⟩
        · rw [show (x.right.1 != 0) = true from bne_iff_ne.2 hzr]
          conv => whnf
          rw [ti_nat]
          refine ⟨by omega, (l.take k).length, itR (l.take k), by omega, fun q hq => ?_, ?_⟩
          · show itF ((l.take k).getD q it0) = itF (l.getD (0 + q) it0)
            rw [Nat.zero_add, getD_take _ _ _ _ (by omega)]
          conv => whnf
          refine callQ (rfind_c (l.take k) (by omega) x.right) rfl rfl ?_
          conv => whnf
          rw [hC]
          cases h3 : (fiE (l.take k) x.right).isNone with
          | true =>
            conv => whnf
            exact ⟨_, hbad (fun h => by rcases h.right with h | h; exact hzr h; rw [h] at h3; cases h3), rfl⟩
          | false =>
            conv => whnf
            rw [e1]
            refine ⟨l.length - (k + 1), _, by omega, norm_weak [0, 3] [] rfl rfl, k + 1, rfl, by omega, fun i hi => ?_, rfl⟩
            rcases Nat.lt_succ_iff_lt_or_eq.1 hi with h | rfl
            · exact hP i h
            · rw [hx]; exact ⟨hz, h1, hleft, .inr h3⟩
  · have g := of_decide_eq_false g
    have : k = l.length := by omega
    subst this
    conv => whnf
    exact ⟨_, ⟨fun _ => hP, fun _ => rfl⟩, rfl⟩
end Go.Eng
/- Items as known ones. -/
set_option linter.unusedVariables false
set_option linter.unusedSimpArgs false
set_option maxRecDepth 100000
set_option maxHeartbeats 4000000
namespace Go.Eng
open Go Go.RowKit Go.Proofs
def k0I (l : List It) (n : Nat) (st : St) : Prop := ∃ (k : Nat) (out : List It), n = l.length - k ∧ k ≤ l.length ∧ out.length ≤ k ∧ knP out ∧ (∀ x, x ∈ out → vldR x.ch = true) ∧ st = ⟨37, 0, [(0, itS l), (3, itS out), (4, vci .i64 (k : Int))], []⟩
theorem known0_c (l : List It) (hl : l.length ≤ 2000000) : CallV Try.prog 31 [itS l] [] (fun r own' => own' = [] ∧ ∃ out : List It, out.length ≤ l.length ∧ knP out ∧ (∀ x, x ∈ out → vldR x.ch = true) ∧ r = itS out) := by
  refine callV_pure Try.func31 rfl ttok ftok rfl rfl rfl (Nat.le_of_ble_eq_true rfl) ?_
  conv => whnf
  refine loopV ttok ftok (k0I l) ((nil_sl 3 7 (itR []) rfl).trans (env_weak [0, 3, 4] rfl)) ⟨0, [], rfl, Nat.zero_le _, Nat.le_refl _, fun i hi => (by cases hi), fun x hx => (by cases hx), rfl⟩ ?_
  rintro n st ⟨k, out, rfl, hk, ho, hP, hV, rfl⟩
  have e1 := e64 (k := k) (by omega)
  conv => whnf
  refine onB_intro (fun g => ?_) (fun g => ?_)
  · have g := of_decide_eq_true g
    have hkl : k < l.length := by omega
    have hkn := rknown_c (out ++ [l.getD k it0]) (by rw [List.length_append, List.length_singleton]; omega)
    have hvl := valid_c (l.getD k it0).ch
    have hmv : ∀ y, vldR (l.getD k it0).ch = true → y ∈ out ++ [l.getD k it0] → vldR y.ch = true := fun y h hy => by
      rcases List.mem_append.1 hy with h2 | h2
      · exact hV y h2
      · rw [List.mem_singleton] at h2; rw [h2]; exact h
    conv => whnf
    refine drawV_at ⟨37, 0, [(0, itS l), (3, itS out), (4, vci .i64 (k : Int)), (5, .c (.row 0))], [some (.row 66 7 (out ++ [l.getD k it0]).length (itR (out ++ [l.getD k it0])))]⟩ ?_ ?_
    · refine drawV_sched (.rd 1 (.rd 3 (.rd 4 (.rd 5 (.rd 6 (.alt (.ef 0 (.alt (.ef 2 (.ef 7 (.ef 8 (.rd 9 (.nil))))) (.ef 7 (.ef 2 (.ef 8 (.rd 9 (.nil))))))) (.ef 7 (.ef 0 (.ef 2 (.ef 8 (.rd 9 (.nil)))))))))))) [0, 1, 2, 3] mixed (by kernel_rfl) ttok ftok ?_
      conv => whnf
      refine ⟨by omega, ?_⟩
      conv => whnf
      rw [ti_nat]
      refine ⟨?_, ?_⟩
      all_goals
        conv => whnf
        repeat' first
          | (refine ⟨fun _ => itF (l.getD k it0), fun j hj2 => (by obtain rfl : j = 0 := (by omega); rfl), ?_⟩; conv => whnf)
          | (refine ⟨⟨by omega, by show (0 + List.length out) * 28 ≤ _; omega⟩, ?_⟩; conv => whnf)
          | (refine ⟨⟨by show List.length out + 1 ≤ _; omega, by show (List.length out + 1) * 28 ≤ _; omega⟩, ?_⟩; conv => whnf)
          | exact norm_weak [0, 3, 4, 5] [some 3] rfl rfl
          | (refine app_list (enc := itF) (d := it0) (l := []) (b := out) (fun k hk => by cases hk) (fun k hk => rfl) ?_; conv => whnf)
          | (refine app1 (enc := itF) (d := it0) (l := out) (l.getD k it0) (fun k hk => rfl) rfl ?_; conv => whnf)
          | (refine ⟨?_, ?_⟩ <;> (conv => whnf))
    · generalize hx : l.getD k it0 = x at hkn hvl hmv
      conv => whnf
      refine ⟨by omega, ?_⟩
      conv => whnf
      rw [ti_nat, hx]
      refine call_pure hvl rfl ?_
      rintro _ rfl
      conv => whnf
      refine ⟨fun _ _ => rfl, ?_⟩
      conv => whnf
      refine call_pure hkn rfl ?_
      rintro _ ⟨b, hb, rfl⟩
      conv => whnf
      cases b <;> cases hv : vldR x.ch
      all_goals
        conv => whnf
        rw [e1]
        first
        | exact ⟨l.length - (k + 1), _, by omega, norm_weak [0, 3, 4] [] rfl rfl, k + 1, out, rfl, by omega, by omega, hP, hV, rfl⟩
        | exact ⟨l.length - (k + 1), _, by omega, norm_weak [0, 3, 4] [] rfl rfl, k + 1, out ++ [x], rfl, by omega, by rw [List.length_append, List.length_singleton]; omega, hb.1 rfl, fun y hy => hmv y hv hy, rfl⟩
  · have g := of_decide_eq_false g
    conv => whnf
    exact ⟨out, by omega, hP, hV, rfl⟩
end Go.Eng
/- Tree: are items known? -/
set_option linter.unusedVariables false
set_option linter.unusedSimpArgs false
set_option maxRecDepth 100000
set_option maxHeartbeats 4000000
namespace Go.Eng
open Go Go.RowKit Go.Proofs
theorem none_c (a : I2) : CallV Try.prog 72 [idA a] [] (fun r own' => own' = [] ∧ r = vcb (a.1 == 0)) := by
  refine callV_pure Try.func72 rfl ttok ftok rfl rfl rfl (Nat.le_of_ble_eq_true rfl) ?_
  conv => whnf
  try rfl
/-- Ids as keys. -/
def idV (a : I2) : Value := .agg [.int .u32 a.1, .int .u32 a.2].toArray
def DI (v : Value) : Prop := ∃ a : I2, v = idV a
theorem idV_inj {a b : I2} (h : idV a = idV b) : a = b := by
  unfold idV at h
  simp at h
  exact Prod.ext h.1 h.2
theorem keyId : KeyOk Try.prog tt 39 DI := by
  refine ⟨by rw [(ttok 39 ti39 rfl).und]; rfl, ?_, ?_, ?_⟩
  · rintro _ _ ⟨a, rfl⟩ ⟨b, rfl⟩
    refine ⟨(a.1 == b.1 && (a.2 == b.2 && true)), rfl, ?_⟩
    rw [Bool.and_true, Bool.and_eq_true, beq_iff_eq, beq_iff_eq]
    exact ⟨fun e => by rw [show a = b from Prod.ext e.1 e.2], fun e => by rw [idV_inj e]; exact ⟨rfl, rfl⟩⟩
  · rintro _ ⟨a, rfl⟩
    rfl
  · rintro _ ⟨a, rfl⟩
    unfold idV
    simp [Instr.sameBits]
/-- What has been seen. -/
abbrev seenE (l : List It) : List (Value × Value) := l.map (fun x => (idV x.id, .bool true))
abbrev knO (l : List It) : List (Option Ob) := [some (mpO (seenE l)), some (.cells 118 [.mp 0])]
theorem seen_mem {l : List It} {a : I2} {b : Value} (h : (idV a, b) ∈ seenE l) : b = .bool true ∧ ∃ x, x ∈ l ∧ x.id = a := by
  obtain ⟨x, hx, e⟩ := List.mem_map.1 h
  injection e with e1 e2
  exact ⟨e2.symm, x, hx, idV_inj e1⟩
theorem seen_DI (l : List It) : ∀ e, e ∈ seenE l → DI e.1 := fun e he => by
  obtain ⟨x, hx, rfl⟩ := List.mem_map.1 he
  exact ⟨_, rfl⟩
theorem fiE_mem {l : List It} {a : I2} : (fiE l a).isSome = true ↔ ∃ x, x ∈ l ∧ x.id = a := by
  constructor
  · intro h
    obtain ⟨k, hk⟩ := Option.isSome_iff_exists.1 h
    obtain ⟨h1, h2⟩ := fiE_some hk
    exact ⟨_, getD_mem h1, h2⟩
  · rintro ⟨x, hx, rfl⟩
    cases hf : fiE l x.id with
    | some k => rfl
    | none =>
      unfold fiE at hf
      rw [List.findIdx?_eq_none_iff] at hf
      have := hf x hx
      simp at this
/-- What is asked of it. -/
theorem seen_look (l : List It) (a : I2) : (∀ L h, Den1 L h (vcb (fiE l a).isSome) ti4.zero) ∧ (∀ e, e ∈ seenE l → e.1 ≠ idV a) ∨ (∃ b, (idV a, b) ∈ seenE l) ∧ ∀ b, (idV a, b) ∈ seenE l → ∀ L h, Den1 L h (vcb (fiE l a).isSome) b := by
  cases hf : (fiE l a).isSome with
  | false =>
    refine .inl ⟨fun L h => Den.v _ rfl, fun e he g => ?_⟩
    obtain ⟨x, hx, rfl⟩ := List.mem_map.1 he
    have := fiE_mem.2 ⟨x, hx, idV_inj g⟩
    rw [hf] at this
    cases this
  | true =>
    obtain ⟨x, hx, e⟩ := fiE_mem.1 hf
    refine .inr ⟨⟨_, List.mem_map.2 ⟨x, hx, by rw [e]⟩⟩, fun b hb L h => ?_⟩
    rw [(seen_mem hb).1]
    exact Den.v _ rfl
theorem has_c (l : List It) (a : I2) : CallV Try.prog 71 [idA a, .c (.own 1 0)] (knO l) (fun r own' => own' = knO l ∧ r = vcb (a.1 == 0 || (fiE l a).isSome)) := by
  refine callV_own Try.func71 rfl ttok ftok rfl rfl rfl (Nat.le_of_ble_eq_true rfl) rfl ?_
  conv => whnf
  refine call_pure (none_c a) rfl ?_
  rintro _ rfl
  conv => whnf
  by_cases hz : a.1 = 0
  · rw [beq_iff_eq.2 hz]
    conv => whnf
    refine ⟨_, Weak.refl _, ?_⟩
    conv => whnf
    exact ⟨[some 0, some 1], rfl, rfl, rfl, rfl⟩
  rw [beq_eq_false_iff_ne.2 hz]
  conv => whnf
  refine opV_lookup (ks := [.int .u32 a.1, .int .u32 a.2]) (vcb (fiE l a).isSome) ttok keyId rfl rfl rfl rfl rfl rfl ⟨a, rfl⟩ (seen_DI l) (seen_look l a) (fun _ _ _ h => h) ?_
  conv => whnf
  refine ⟨_, Weak.refl _, ?_⟩
  conv => whnf
  exact ⟨[some 0, some 1], rfl, rfl, rfl, rfl⟩
def tkI (l : List It) (n : Nat) (st : St) : Prop := ∃ k : Nat, n = l.length - k ∧ k ≤ l.length ∧ (∀ i, i < k → knA (l.take i) (l.getD i it0)) ∧ st = ⟨42, 0, [(3, .c (.own 1 0)), (4, .c (.fn 71 [(false, [.own 1 0])])), (9, itS l), (10, vci .i64 (l.length : Int)), (11, vci .i64 (k : Int))], knO (l.take k)⟩
theorem tknown_c (l : List It) (hl : l.length ≤ 10000000) : CallV Try.prog 33 [itS l] [] (fun r own' => own' = [] ∧ ∃ b : Bool, (b = true ↔ knP l) ∧ r = vcb b) := by
  refine callV_pure Try.func33 rfl ttok ftok rfl rfl rfl (Nat.le_of_ble_eq_true rfl) ?_
  conv => whnf
  refine opV_makeMap ?_
  conv => whnf
  refine loopV (n := l.length) (st1 := ⟨42, 0, [(3, .c (.own 1 0)), (4, .c (.fn 71 [(false, [.own 1 0])])), (9, itS l), (10, vci .i64 (l.length : Int)), (11, vci .i64 ((0 : Nat) : Int))], knO (l.take 0)⟩) ttok ftok (tkI l) (norm_weak [3, 4, 9, 10, 11] [some 0, some 1] rfl rfl) ⟨0, rfl, Nat.zero_le _, fun i hi => by omega, rfl⟩ ?_
  rintro n st ⟨k, rfl, hk, hP, rfl⟩
  have e1 := e64 (k := k) (by omega)
  conv => whnf
  refine onB_intro (fun g => ?_) (fun g => ?_)
  rotate_left
  · have g := of_decide_eq_false g
    have : k = l.length := by omega
    subst this
    conv => whnf
    exact ⟨_, ⟨fun _ => hP, fun _ => rfl⟩, rfl⟩
  have g := of_decide_eq_true g
  have hkl : k < l.length := by omega
  have hbad : ¬ knA (l.take k) (l.getD k it0) → (false = true ↔ knP l) := fun h => ⟨fun e => (by cases e), fun h2 => absurd (h2 k hkl) h⟩
  have hsn : l.take (k + 1) = l.take k ++ [l.getD k it0] := by
    rw [List.getD_eq_getElem?_getD, List.getElem?_eq_getElem hkl]
    exact (List.take_append_getElem hkl).symm
  conv => whnf
  refine ⟨by omega, ?_⟩
  conv => whnf
  rw [ti_nat]
  generalize hx : l.getD k it0 = x at hbad hsn
  refine call_pure (none_c x.id) rfl ?_
  rintro _ rfl
  conv => whnf
  by_cases hz : x.id.1 = 0
  · rw [beq_iff_eq.2 hz]
    conv => whnf
    exact ⟨_, hbad (fun h => h.nz hz), rfl⟩
  rw [beq_eq_false_iff_ne.2 hz]
  conv => whnf
  refine opV_lookup (ks := [.int .u32 x.id.1, .int .u32 x.id.2]) (vcb (fiE (l.take k) x.id).isSome) ttok keyId rfl rfl rfl rfl rfl rfl ⟨x.id, rfl⟩ (seen_DI (l.take k)) (seen_look (l.take k) x.id) (fun _ _ _ h => h) ?_
  conv => whnf
  cases h1 : (fiE (l.take k) x.id).isSome with
  | true =>
    conv => whnf
    exact ⟨_, hbad (fun h => by rw [h.new] at h1; cases h1), rfl⟩
  | false =>
  conv => whnf
  refine call_frame2 [some 0, some 1] rfl rfl rfl rfl (has_c (l.take k) x.left) ?_
  rintro r own2 ⟨rfl, rfl⟩
  refine ⟨_, _, rfl, rfl, ?_⟩
  have kL : (x.left.1 == 0 || (fiE (l.take k) x.left).isSome) = true ↔ (x.left.1 = 0 ∨ (fiE (l.take k) x.left).isNone = false) := by
    rw [Bool.or_eq_true, beq_iff_eq]
    cases fiE (l.take k) x.left <;> simp
  have kR : (x.right.1 == 0 || (fiE (l.take k) x.right).isSome) = true ↔ (x.right.1 = 0 ∨ (fiE (l.take k) x.right).isNone = false) := by
    rw [Bool.or_eq_true, beq_iff_eq]
    cases fiE (l.take k) x.right <;> simp
  have hrc := has_c (l.take k) x.right
  generalize (x.right.1 == 0 || (fiE (l.take k) x.right).isSome) = bR at kR hrc
  generalize (x.left.1 == 0 || (fiE (l.take k) x.left).isSome) = bL at kL
  cases bL with
  | false =>
    conv => whnf
    exact ⟨_, hbad (fun h => by have := kL.2 h.left; cases this), rfl⟩
  | true =>
  conv => whnf
  refine call_frame2 [some 0, some 1] rfl rfl rfl rfl hrc ?_
  rintro r own2 ⟨rfl, rfl⟩
  refine ⟨_, _, rfl, rfl, ?_⟩
  cases bR with
  | false =>
    conv => whnf
    exact ⟨_, hbad (fun h => by have := kR.2 h.right; cases this), rfl⟩
  | true =>
  conv => whnf
  refine opV_put (ks := [.int .u32 x.id.1, .int .u32 x.id.2]) (vb := .bool true) ttok keyId rfl rfl rfl rfl rfl ⟨x.id, rfl⟩ (seen_DI (l.take k)) (fun e he hk2 => ?_) rfl (fun L h v hv => den_one hv) ?_
  · obtain ⟨y, hy, rfl⟩ := List.mem_map.1 he
    have := fiE_mem.2 ⟨y, hy, idV_inj hk2⟩
    rw [h1] at this
    cases this
  · have hse : seenE (l.take (k + 1)) = seenE (l.take k) ++ [(idV x.id, .bool true)] := by rw [hsn]; unfold seenE; rw [List.map_append]; rfl
    conv => whnf
    rw [e1]
    refine ⟨l.length - (k + 1), _, by omega, norm_weak [3, 4, 9, 10, 11] [some 0, some 1] rfl rfl, k + 1, rfl, by omega, fun i hi => ?_, ?_⟩
    · rcases Nat.lt_succ_iff_lt_or_eq.1 hi with h | rfl
      · exact hP i h
      · rw [hx]; exact ⟨hz, h1, kL.1 rfl, kR.1 rfl⟩
    · unfold knO
      rw [hse]
      rfl
end Go.Eng
/- Tree: on what items hang. -/
set_option linter.unusedVariables false
set_option linter.unusedSimpArgs false
set_option maxRecDepth 100000
set_option maxHeartbeats 4000000
namespace Go.Eng
open Go Go.RowKit Go.Proofs
def hgV (h : Hg) : Value := .agg [.int .u32 h.on.1, .int .u32 h.on.2, .bool h.right].toArray
def hangE (hs : HS) : List (Value × Value) := (hs.map (fun p => (idV p.1.id, hgV p.2))).reverse
theorem hangE_cons (x : It) (h : Hg) (r : HS) : hangE ((x, h) :: r) = hangE r ++ [(idV x.id, hgV h)] := by unfold hangE; rw [List.map_cons, List.reverse_cons]
theorem hangE_mem {hs : HS} {a : I2} {b : Value} (h : (idV a, b) ∈ hangE hs) : ∃ x g, (x, g) ∈ hs ∧ x.id = a ∧ b = hgV g := by
  unfold hangE at h
  rw [List.mem_reverse, List.mem_map] at h
  obtain ⟨⟨x, g⟩, hm, e⟩ := h
  injection e with e1 e2
  exact ⟨x, g, hm, idV_inj e1, e2.symm⟩
theorem hangE_DI (hs : HS) : ∀ e, e ∈ hangE hs → DI e.1 := fun e he => by
  unfold hangE at he
  rw [List.mem_reverse, List.mem_map] at he
  obtain ⟨p, _, rfl⟩ := he
  exact ⟨_, rfl⟩
theorem okH_uniq {hs : HS} (ho : okH hs) {p q : It × Hg} (hp : p ∈ hs) (hq : q ∈ hs) (e : p.1.id = q.1.id) : p = q := by
  induction hs with
  | nil => cases hp
  | cons z r ih =>
    obtain ⟨y, g⟩ := z
    rcases List.mem_cons.1 hp with h1 | h1
    · rcases List.mem_cons.1 hq with h2 | h2
      · rw [h1, h2]
      · exact absurd (show q.1.id = y.id by rw [← e, h1]) (ho.2.2.1 q h2)
    · rcases List.mem_cons.1 hq with h2 | h2
      · exact absurd (show p.1.id = y.id by rw [e, h2]) (ho.2.2.1 p h1)
      · exact ih ho.1 h1 h2
/-- What an Id hangs on; of none: nothing. -/
theorem hang_look {hs : HS} (ho : okH hs) (a : I2) : ∃ g : Hg, ((hasI hs a ∧ ∃ x, (x, g) ∈ hs ∧ x.id = a) ∨ (¬ hasI hs a ∧ g = ⟨(0, 0), false⟩)) ∧
    ((∀ L h, Den1 L h (hgA g) ti72.zero) ∧ (∀ e, e ∈ hangE hs → e.1 ≠ idV a) ∨ (∃ b, (idV a, b) ∈ hangE hs) ∧ ∀ b, (idV a, b) ∈ hangE hs → ∀ L h, Den1 L h (hgA g) b) := by
  by_cases hh : hasI hs a
  · obtain ⟨⟨x, g⟩, hm, e⟩ := hh
    refine ⟨g, .inl ⟨⟨_, hm, e⟩, x, hm, e⟩, .inr ⟨⟨hgV g, ?_⟩, fun b hb L h => ?_⟩⟩
    · unfold hangE
      rw [List.mem_reverse, List.mem_map]
      exact ⟨_, hm, by rw [← e]⟩
    · obtain ⟨y, g2, hm2, e2, rfl⟩ := hangE_mem hb
      have := okH_uniq ho hm hm2 (e.trans e2.symm)
      cases this
      exact ⟨_, rfl, DenL.cons (Den.v _ rfl) (DenL.cons (Den.v _ rfl) (DenL.cons (Den.v _ rfl) DenL.nil))⟩
  · refine ⟨⟨(0, 0), false⟩, .inr ⟨hh, rfl⟩, .inl ⟨fun L h => ?_, fun e he g => ?_⟩⟩
    · exact ⟨[.int .u32 0, .int .u32 0, .bool false], rfl, DenL.cons (Den.v _ rfl) (DenL.cons (Den.v _ rfl) (DenL.cons (Den.v _ rfl) DenL.nil))⟩
    · obtain ⟨k, b⟩ := e
      simp only at g
      subst g
      obtain ⟨x, g2, hm, e2, _⟩ := hangE_mem he
      exact hh ⟨_, hm, e2⟩
def plI (hs : HS) (x : It) (m : Nat) (st : St) : Prop := ∃ c : I2, m = (pth hs c).length ∧ (x.left.1 ≠ 0 → bel hs c x.left = bel hs x.right x.left) ∧
  st = ⟨46, 1, [(0, .c (.mp 0)), (3, .c (.own 1 0)), (4, .c (.own 2 0)), (5, vcb (x.left.1 == 0)), (6, .c (.own 3 0))], [some (mpO (hangE hs)), some (.cells 66 (itF x)), some (.cells 72 [vu 0, vu 0, .v (.bool false)]), some (.cells 39 (idF c))]⟩
theorem place_c {hs : HS} (ho : okH hs) (x : It) : CallV Try.prog 76 [.c (.mp 0), .agg (itF x)] [some (mpO (hangE hs))] (fun r own' => own' = [some (mpO (hangE hs))] ∧ r = hgA (hgOf hs x)) := by
  refine callV_own Try.func76 rfl ttok ftok rfl rfl rfl (Nat.le_of_ble_eq_true rfl) rfl ?_
  conv => whnf
  refine call_pure (none_c x.left) rfl ?_
  rintro _ rfl
  conv => whnf
  refine call_pure (none_c x.right) rfl ?_
  rintro _ rfl
  conv => whnf
  have hfin : (x.right.1 != 0 && belR hs x.right x.left) = false → hgOf hs x = if x.left.1 = 0 then rootH else ⟨x.left, true⟩ := fun h => by unfold hgOf; rw [if_neg (by rw [h]; decide)]
  by_cases hz : x.right.1 = 0
  · rw [show (!(x.right.1 == 0)) = false from by rw [hz]; rfl]
    have hh := hfin (by rw [hz]; rfl)
    by_cases hl : x.left.1 = 0
    · rw [if_pos hl] at hh
      rw [beq_iff_eq.2 hl, hh]
      conv => whnf
      refine ⟨_, Weak.refl _, ?_⟩
      conv => whnf
      exact ⟨[some 0], rfl, rfl, rfl, rfl⟩
    · rw [if_neg hl] at hh
      rw [beq_eq_false_iff_ne.2 hl, hh]
      conv => whnf
      refine ⟨_, Weak.refl _, ?_⟩
      conv => whnf
      exact ⟨[some 0], rfl, rfl, rfl, rfl⟩
  · rw [show (!(x.right.1 == 0)) = true from by rw [beq_eq_false_iff_ne.2 hz]; rfl]
    have hne : (x.right.1 != 0) = true := bne_iff_ne.2 hz
    have hR : belR hs x.right x.left = true → hgOf hs x = ⟨x.right, false⟩ := fun h => by unfold hgOf; rw [if_pos (by rw [hne, h]; rfl)]
    have hN : x.left.1 ≠ 0 → bel hs x.right x.left = false → hgOf hs x = ⟨x.left, true⟩ := fun h0 h => by
      rw [hfin (by unfold belR; rw [hne, beq_eq_false_iff_ne.2 h0, h]; rfl), if_neg h0]
    conv => whnf
    refine loopV (n := (pth hs x.right).length) (st1 := ⟨46, 1, [(0, .c (.mp 0)), (3, .c (.own 1 0)), (4, .c (.own 2 0)), (5, vcb (x.left.1 == 0)), (6, .c (.own 3 0))], [some (mpO (hangE hs)), some (.cells 66 (itF x)), some (.cells 72 [vu 0, vu 0, .v (.bool false)]), some (.cells 39 (idF x.right))]⟩) ttok ftok (plI hs x)
      (norm_weak [0, 3, 4, 5, 6] [some 0, some 1, some 2, some 3] rfl rfl) ⟨x.right, rfl, fun _ => rfl, rfl⟩ ?_
    rintro m st ⟨c, rfl, hc, rfl⟩
    obtain ⟨g, hg, hlk⟩ := hang_look ho c
    have hlt : g.on.1 ≠ 0 → (pth hs g.on).length < (pth hs c).length := fun h => by
      rcases hg with ⟨_, y, hm, rfl⟩ | ⟨_, rfl⟩
      · rw [pth_at ho hm, List.length_append, List.length_singleton]; omega
      · exact absurd rfl h
    have hb : x.left.1 ≠ 0 → bel hs c x.left = (decide (g.on = x.left) || bel hs g.on x.left) := fun h0 => by
      rcases hg with ⟨_, y, hm, rfl⟩ | ⟨hno, rfl⟩
      · exact bel_at ho hm x.left
      · rw [bel_no hno, bel_no (fun h => okH_none ho h rfl), decide_eq_false (fun e => h0 (by rw [← e]))]; rfl
    conv => whnf
    refine opV_lookup (ks := [.int .u32 c.1, .int .u32 c.2]) (hgA g) ttok keyId rfl rfl rfl rfl rfl rfl ⟨c, rfl⟩ (hangE_DI hs) hlk (fun _ _ _ h => h) ?_
    by_cases hl : x.left.1 = 0
    · rw [beq_iff_eq.2 hl]
      conv => whnf
      refine call_pure (none_c g.on) rfl ?_
      rintro _ rfl
      conv => whnf
      by_cases hgz : g.on.1 = 0
      · rw [beq_iff_eq.2 hgz, hR (by unfold belR; rw [beq_iff_eq.2 hl]; rfl)]
        conv => whnf
        refine ⟨_, Weak.refl _, ?_⟩
        conv => whnf
        exact ⟨[some 0], rfl, rfl, rfl, rfl⟩
      · rw [beq_eq_false_iff_ne.2 hgz]
        conv => whnf
        refine call_pure (none_c g.on) rfl ?_
        rintro _ rfl
        rw [beq_eq_false_iff_ne.2 hgz]
        conv => whnf
        exact ⟨_, _, hlt hgz, norm_weak [0, 3, 4, 5, 6] [some 0, some 1, some 2, some 4] rfl rfl, g.on, rfl, fun h => absurd hl h, by rw [beq_iff_eq.2 hl]; exact rfl⟩
    · rw [beq_eq_false_iff_ne.2 hl]
      have hb := hb hl
      rw [hc hl] at hb
      conv => whnf
      rw [show (g.on.1 == x.left.1 && (g.on.2 == x.left.2 && true)) = decide (g.on = x.left) from by
        rw [Bool.eq_iff_iff, decide_eq_true_iff, Bool.and_true, Bool.and_eq_true, beq_iff_eq, beq_iff_eq]
        exact ⟨fun e => Prod.ext e.1 e.2, fun e => by rw [e]; exact ⟨rfl, rfl⟩⟩]
      by_cases he : g.on = x.left
      · rw [decide_eq_true he] at hb ⊢
        rw [hR (by unfold belR; rw [hb]; cases x.left.1 == 0 <;> rfl)]
        conv => whnf
        refine ⟨_, Weak.refl _, ?_⟩
        conv => whnf
        exact ⟨[some 0], rfl, rfl, rfl, rfl⟩
      · rw [decide_eq_false he] at hb ⊢
        rw [Bool.false_or] at hb
        conv => whnf
        refine call_pure (none_c g.on) rfl ?_
        rintro _ rfl
        by_cases hgz : g.on.1 = 0
        · rw [beq_iff_eq.2 hgz, hN hl (by rw [hb]; exact bel_no (fun h => okH_none ho h hgz))]
          conv => whnf
          refine ⟨_, Weak.refl _, ?_⟩
          conv => whnf
          exact ⟨[some 0], rfl, rfl, rfl, rfl⟩
        · rw [beq_eq_false_iff_ne.2 hgz]
          conv => whnf
          exact ⟨_, _, hlt hgz, norm_weak [0, 3, 4, 5, 6] [some 0, some 1, some 2, some 4] rfl rfl, g.on, rfl, fun h => hb.symm, by rw [beq_eq_false_iff_ne.2 hl]; exact rfl⟩
def hgI (hs : HS) (m : Nat) (st : St) : Prop := ∃ k : Nat, m = hs.length - k ∧ k ≤ hs.length ∧
  st = ⟨21, 0, [(3, .c (.mp 0)), (7, itS (itsH hs)), (8, vci .i64 ((itsH hs).length : Int)), (9, vci .i64 (k : Int))], [some (mpO (hangE (firstH hs k)))]⟩
theorem hangs_c {hs : HS} (ho : okH hs) (hb : bldH hs) (hlen : hs.length ≤ 10000000) : CallV Try.prog 66 [itS (itsH hs)] [] (fun r own' => own' = [some (mpO (hangE hs))] ∧ r = .c (.mp 0)) := by
  have hil := itsH_len hs
  have hf0 : firstH hs 0 = [] := by unfold firstH; rw [Nat.sub_zero, List.drop_length]
  have hfn : firstH hs hs.length = hs := by unfold firstH; rw [Nat.sub_self, List.drop_zero]
  refine callV_own Try.func66 rfl ttok ftok rfl rfl rfl (Nat.le_of_ble_eq_true rfl) rfl ?_
  conv => whnf
  refine opV_makeMap ?_
  conv => whnf
  refine loopV (n := hs.length) (st1 := ⟨21, 0, [(3, .c (.mp 0)), (7, itS (itsH hs)), (8, vci .i64 ((itsH hs).length : Int)), (9, vci .i64 ((0 : Nat) : Int))], [some (mpO [])]⟩) ttok ftok (hgI hs) (norm_weak [3, 7, 8, 9] [some 0] rfl rfl) ⟨0, rfl, Nat.zero_le _, by rw [hf0]; rfl⟩ ?_
  rintro m st ⟨k, rfl, hk, rfl⟩
  have e1 := e64 (k := k) (by omega)
  conv => whnf
  refine onB_intro (fun g => ?_) (fun g => ?_)
  rotate_left
  · have g := of_decide_eq_false g
    have : k = hs.length := by omega
    subst this
    rw [hfn]
    conv => whnf
    refine ⟨_, Weak.refl _, ?_⟩
    conv => whnf
    exact ⟨[some 0], rfl, rfl, rfl, rfl⟩
  have g := of_decide_eq_true g
  have hkl : k < hs.length := by omega
  obtain ⟨ha1, ha2⟩ := firstH_at hb hkl
  have hoF : okH (firstH hs k) := okH_drop _ ho
  have hoN : okH (firstH hs (k + 1)) := okH_drop _ ho
  rw [ha2] at hoN
  have hpl := place_c hoF ((itsH hs).getD k it0)
  rw [← ha1] at hpl
  have hse : hangE (firstH hs (k + 1)) = hangE (firstH hs k) ++ [(idV ((itsH hs).getD k it0).id, hgV ((hgsH hs).getD k hg0))] := by rw [ha2, hangE_cons]
  conv => whnf
  refine ⟨by omega, ?_⟩
  conv => whnf
  rw [ti_nat]
  generalize (itsH hs).getD k it0 = x at hpl hse hoN
  generalize (hgsH hs).getD k hg0 = h at hpl hse hoN
  refine drawV_sched (.rd 0 (.rd 1 (.rd 2 (.rd 3 (.rd 4 (.ef 5 (.ef 6 (.nil)))))))) [0] mixed (by kernel_rfl) ttok ftok ?_
  conv => whnf
  refine call_frame2 [some 0] rfl rfl rfl rfl hpl ?_
  rintro r own2 ⟨rfl, rfl⟩
  refine ⟨_, _, rfl, rfl, ?_⟩
  conv => whnf
  refine opV_put (ks := [.int .u32 x.id.1, .int .u32 x.id.2]) (vb := hgV h) ttok keyId rfl rfl rfl rfl rfl ⟨x.id, rfl⟩ (hangE_DI (firstH hs k)) (fun e he hk2 => ?_) rfl (fun L hh v hv => ?_) ?_
  · obtain ⟨q, b⟩ := e
    simp only at hk2
    rw [hk2] at he
    obtain ⟨y, g2, hm, e2, _⟩ := hangE_mem (a := x.id) he
    exact hoN.2.2.1 _ hm e2
  · obtain ⟨us, e, hd⟩ := hv
    rw [e, den_plain (ks := [.int .u32 h.on.1, .int .u32 h.on.2, .bool h.right]) hd]
    rfl
  · conv => whnf
    rw [e1]
    refine ⟨hs.length - (k + 1), _, by omega, norm_weak [3, 7, 8, 9] [some 0] rfl rfl, k + 1, rfl, by omega, ?_⟩
    rw [hse]
    rfl
end Go.Eng
/- Tree: a map of the call's own that holds rows of Ids of the call's own. -/
set_option linter.unusedVariables false
set_option linter.unusedSimpArgs false
set_option maxRecDepth 100000
set_option maxHeartbeats 4000000
namespace Go.Eng
open Go Go.RowKit Go.Proofs
def DH (v : Value) : Prop := ∃ h : Hg, v = hgV h
theorem hgV_inj {a b : Hg} (h : hgV a = hgV b) : a = b := by
  unfold hgV at h
  simp at h
  obtain ⟨⟨a1, a2⟩, a3⟩ := a
  obtain ⟨⟨b1, b2⟩, b3⟩ := b
  simp at h
  rw [h.1, h.2.1, h.2.2]
theorem keyHg : KeyOk Try.prog tt 72 DH := by
  refine ⟨by rw [(ttok 72 ti72 rfl).und]; rfl, ?_, ?_, ?_⟩
  · rintro _ _ ⟨a, rfl⟩ ⟨b, rfl⟩
    refine ⟨((a.on.1 == b.on.1 && (a.on.2 == b.on.2 && true)) && (a.right == b.right && true)), rfl, ?_⟩
    rw [hg_beq, decide_eq_true_iff]
    exact ⟨fun e => by rw [e], hgV_inj⟩
  · rintro _ ⟨a, rfl⟩
    rfl
  · rintro _ ⟨a, rfl⟩
    unfold hgV
    simp [Instr.sameBits]
def flatI (l : List I2) : List Value := l.flatMap (fun a => [.int .u32 a.1, .int .u32 a.2])
theorem flatI_len (l : List I2) : (flatI l).length = l.length * 2 := by
  induction l with
  | nil => rfl
  | cons a l ih => unfold flatI at *; rw [List.flatMap_cons, List.length_append, ih]; simp; omega
abbrev GS := List (Hg × List I2)
/-- A row of Ids may be taken out: it has place q, born at s, at v0. -/
abbrev Hole := Option (Nat × Nat × Value)
def kidsG (e : TypeId) (gs : GS) (ho : Hole) (m : Nat → Option Obj) (F : Nat → Prop) (w : World) (v : Value) : Prop :=
  ∃ r ents clock, v = .map (some r) ∧ F r ∧ w.heap[r]? = some (.map ents clock) ∧ gs.length = ents.size ∧
    (∀ (j : Nat) (x : MapEntry), ents[j]? = some x → x.born < clock) ∧ (∀ (i j : Nat) (x y : MapEntry), ents[i]? = some x → ents[j]? = some y → x.born = y.born → i = j) ∧
    (∀ (j : Nat) (g : Hg) (l : List I2) (x : MapEntry), gs[j]? = some (g, l) → ents[j]? = some x → x.key = hgV g) ∧
    (∀ (q s : Nat) (v0 : Value), ho = some (q, s, v0) → ∃ x : MapEntry, ents[q]? = some x ∧ x.born = s ∧ x.val = v0) ∧
    (∀ (j : Nat) (g : Hg) (l : List I2) (x : MapEntry), ho.map (·.1) ≠ some j → gs[j]? = some (g, l) → ents[j]? = some x → w.ownsRow 0 e 2 x.val l.length (flatI l) ∧ ∀ b, blk x.val = some b → F b ∧ b ≠ r) ∧
    (∀ (i j : Nat) (x y : MapEntry) (b : Nat), ho.map (·.1) ≠ some i → ho.map (·.1) ≠ some j → ents[i]? = some x → ents[j]? = some y → blk x.val = some b → blk y.val = some b → i = j)
theorem kidsG_stable (e : TypeId) (gs : GS) (ho : Hole) : Stable (kidsG e gs ho) := by
  refine ⟨fun m m' F w w' v ⟨r, ents, clock, h1, h2, h3, h4, h5, h6, h7, h8, h9, h10⟩ _ hw => ⟨r, ents, clock, h1, h2, by rw [hw r h2]; exact h3, h4, h5, h6, h7, h8, fun j g l x hj hg hx => ?_, h10⟩⟩
  obtain ⟨k1, k2⟩ := h9 j g l x hj hg hx
  exact ⟨ownsRow_move k1 (fun b hb => hw b (k2 b hb).1), k2⟩
abbrev kO (e : TypeId) (gs : GS) (ho : Hole) : Ob := .abs (kidsG e gs ho)
theorem upd_ne {α : Type} {L : Nat → α} {n : Nat} {v : α} {i : Nat} (h : i ≠ n) : upd L n v i = L i := by unfold upd; rw [if_neg h]
/-- An own object lets go of some blocks. -/
theorem mem_shrink {mine : Nat → Prop} {L : Nat → Value} {F : Nat → Nat → Prop} {h : Hp} {own : List (Option Ob)} {w : World} (hm : Mem mine L F h own w) {i : Nat} {o ob : Ob} (hi : own[i]? = some (some o)) {G1 : Nat → Prop} (h1 : ∀ b, G1 b → F i b) (hob : ObOk L h w (L i) G1 ob) :
    Mem mine L (upd F i G1) h (own.set i (some ob)) w := by
  have hlt : i < own.length := (List.getElem?_eq_some_iff.1 hi).1
  have g : ∀ j oj, (own.set i (some ob))[j]? = some (some oj) → (j = i ∧ oj = ob) ∨ (j ≠ i ∧ own[j]? = some (some oj)) := fun j oj hj => by
    by_cases hne : j = i
    · subst hne
      rw [List.getElem?_set_self hlt] at hj
      simp only [Option.some.injEq] at hj
      exact .inl ⟨rfl, hj.symm⟩
    · rw [List.getElem?_set_ne (Ne.symm hne)] at hj
      exact .inr ⟨hne, hj⟩
  have gF : ∀ j b, upd F i G1 j b → F j b := fun j b hb => by
    by_cases hne : j = i
    · subst hne; rw [upd_eq] at hb; exact h1 b hb
    · rwa [upd_ne hne] at hb
  have gO : ∀ j oj, (own.set i (some ob))[j]? = some (some oj) → ∃ oj2, own[j]? = some (some oj2) := fun j oj hj => by
    rcases g j oj hj with ⟨rfl, _⟩ | ⟨_, h⟩
    · exact ⟨_, hi⟩
    · exact ⟨_, h⟩
  refine ⟨by rw [List.length_set]; exact hm.hn, hm.hsub, fun j oj hj => ?_, fun j oj b hj hb => ?_, fun j k oj ok b hj hk hbj hbk => ?_⟩
  · rcases g j oj hj with ⟨rfl, rfl⟩ | ⟨hne, h3⟩
    · rw [upd_eq]; exact hob
    · rw [upd_ne hne]; exact hm.obs j oj h3
  · obtain ⟨oj2, h3⟩ := gO j oj hj
    exact hm.foot j oj2 b h3 (gF j b hb)
  · obtain ⟨oj2, h3⟩ := gO j oj hj
    obtain ⟨ok2, h4⟩ := gO k ok hk
    exact hm.dis j k oj2 ok2 b h3 h4 (gF j b hbj) (gF k b hbk)
/-- An own object is parted in two. -/
theorem mem_part {mine : Nat → Prop} {L : Nat → Value} {F : Nat → Nat → Prop} {h : Hp} {own : List (Option Ob)} {w : World} (hm : Mem mine L F h own w) {i : Nat} {o ob ob2 : Ob} (hi : own[i]? = some (some o)) {G1 G2 : Nat → Prop} (h1 : ∀ b, G1 b → F i b) (h2 : ∀ b, G2 b → F i b ∨ (b < w.heap.size ∧ h.m b = none ∧ mine b ∧ ¬ footOf F own b)) (h12 : ∀ b, G1 b → G2 b → False)
    {v2 : Value} (hob : ObOk L h w (L i) G1 ob) (hob2 : ∀ L' h', Sub h h' → (∀ j, j < h.n → L' j = L j) → ObOk L' h' w v2 G2 ob2) :
    Mem mine (upd L own.length v2) (upd (upd F i G1) own.length G2) (h.more 1) (own.set i (some ob) ++ [some ob2]) w := by
  have hm1 := mem_shrink hm hi h1 hob
  have hlen : (own.set i (some ob)).length = own.length := List.length_set
  have := mem_push (v := v2) (G := G2) (ob := ob2) hm1 (hob2 _ _ (sub_more h 1) (fun j hj => upd_lt (by have := hm1.hn; omega))) (fun b hb => by
    rcases h2 b hb with h3 | h3
    · exact hm.foot i o b hi h3
    · exact ⟨h3.1, h3.2.1, h3.2.2.1⟩) (fun b hb ⟨j, oj, hj, hbj⟩ => by
    by_cases hne : j = i
    · subst hne; rw [upd_eq] at hbj; exact h12 b hbj hb
    · rw [upd_ne hne] at hbj
      rw [List.getElem?_set_ne (Ne.symm hne)] at hj
      rcases h2 b hb with h3 | h3
      · exact hne (hm.dis j i oj o b hj hi hbj h3)
      · exact h3.2.2.2 ⟨j, oj, hj, hbj⟩)
  rw [hlen] at this
  exact this
theorem flatI_cons (a : I2) (l : List I2) : flatI (a :: l) = .int .u32 a.1 :: .int .u32 a.2 :: flatI l := rfl
theorem flatI_at : ∀ {l : List I2} {k : Nat}, k < l.length → (flatI l)[k * 2]? = some (.int .u32 (l.getD k (0, 0)).1) ∧ (flatI l)[k * 2 + 1]? = some (.int .u32 (l.getD k (0, 0)).2)
  | [], k, h => by cases h
  | a :: l, 0, _ => ⟨rfl, rfl⟩
  | a :: l, k + 1, h => by
    have := flatI_at (l := l) (k := k) (by simpa using h)
    rw [flatI_cons, show (k + 1) * 2 = k * 2 + 1 + 1 from by omega, List.getElem?_cons_succ, List.getElem?_cons_succ, List.getElem?_cons_succ]
    exact ⟨this.1, this.2⟩
theorem rowD_I (L : Nat → Value) (h : Hp) (l : List I2) : RowD L h 2 l.length (idR l) (flatI l) := by
  refine ⟨fun k hk => rfl, fun k hk j c hc => ?_⟩
  obtain ⟨h1, h2⟩ := flatI_at hk
  match j with
  | 0 => simp at hc; subst hc; exact ⟨_, h1, Den.v _ rfl⟩
  | 1 => simp at hc; subst hc; exact ⟨_, h2, Den.v _ rfl⟩
  | j + 2 => simp at hc
theorem row_I {L : Nat → Value} {h : Hp} {w : World} {e : TypeId} {v : Value} {l : List I2} {G : Nat → Prop} (hr : w.ownsRow 0 e 2 v l.length (flatI l)) (hb : ∀ b, blk v = some b → G b) : ObOk L h w v G (.row e 2 l.length (idR l)) :=
  ⟨flatI l, hr, hb, rowD_I L h l⟩
theorem row_slice {w : World} {e : TypeId} {sz n : Nat} {v : Value} {vs : List Value} (h : w.ownsRow 0 e sz v n vs) : ∃ A c, v = .slice A n c := by
  rcases h.2 with ⟨rfl, rfl⟩ | ⟨g, cap, cur, rfl, _⟩
  · exact ⟨_, _, rfl⟩
  · exact ⟨_, _, rfl⟩
def takeP (gs : GS) (g : Hg) (gs2 : GS) (q : Nat) (l : List I2) : Prop := gs2[q]? = some (g, l) ∧ (gs2 = gs ∨ gs2 = gs ++ [(g, [])] ∧ ∀ p, p ∈ gs → p.1 ≠ g)
theorem set_same {α : Type} {a : Array α} {i : Nat} {x : α} (h : a[i]? = some x) : a.setIfInBounds i x = a := by
  apply Array.ext_getElem?
  intro j
  rw [Array.getElem?_setIfInBounds]
  split
  · rename_i e
    subst e
    rw [h]
    split
    · rfl
    · rename_i g; exact absurd (Array.getElem?_eq_some_iff.1 h).1 g
  · rfl
theorem modify_same {a : Array MapEntry} {j : Nat} {x : MapEntry} {k : Value} (h : a[j]? = some x) (hk : x.key = k) : (a.modify j fun e => { e with key := k }) = a := by
  apply Array.ext_getElem?
  intro i
  rw [Array.getElem?_modify]
  split
  · rename_i e
    subst e
    rw [h]
    subst hk
    rfl
  · rfl
/-- What a map of rows is. -/
theorem kids_open {st : St} {may : Nat → Prop} {L : Nat → Value} {F : Nat → Nat → Prop} {h : Hp} {w : World} {a : Act} {m : Operand} {i : Nat} {p : (Nat → Option Obj) → (Nat → Prop) → World → Value → Prop} (hm : Mem may L F h st.own w) (ha : Agree L h st a) (he : ev st m = some (.c (.mp i))) (hi : st.own[i]? = some (some (.abs p))) :
    a.eval m = L i ∧ p h.m (F i) w (a.eval m) := by
  obtain ⟨_, h1⟩ := hm.obs i _ hi
  have hv : Den L h (.mp i) (a.eval m) := ev_eval ha he
  generalize a.eval m = v at hv
  cases hv with
  | mp _ r2 g1 g2 => rw [g2] at h1 ⊢; exact ⟨rfl, h1⟩
theorem opV_take {st : St} {K : St → Prop} {dst : Option Nat} {ty : TypeId} {pos : String} {after : Array Edge} {guard : Option (Nat × Bool)} {t et : TypeId} {ti te : TI} {m k : Operand} {i : Nat} {gs : GS} {g : Hg} {e : TypeId} (hl : tt.lookup t = some ti) (hd : ti.desc = .map 72 et) (hle : tt.lookup et = some te) (hze : te.zero = .slice none 0 0)
    (he : ev st m = some (.c (.mp i))) (hi : st.own[i]? = some (some (kO e gs none))) (hk : ev st k = some (hgA g))
    (h : ∀ gs2 q l s v0, takeP gs g gs2 q l → putK ⟨st.n, st.k, st.env, st.own.set i (some (kO e gs2 (some (q, s, v0)))) ++ [some (.row e 2 l.length (idR l))]⟩ dst (.tup [.c (.row st.own.length), .c (.v (.int .i64 (s : Int)))]) K) :
    OpV Try.prog ⟨dst, .mapEntry t m k, ty, pos, after, guard⟩ st K := by
  refine ⟨fun Q may w0 h0 a w hs => ?_⟩
  obtain ⟨⟨L, F, hh, hm, ha, hsub, hnew⟩, hk'⟩ := hs
  obtain ⟨hev, r, ents, clock, h1, h2, h3, h4, h5, h6, h7, h8, h9, h10⟩ := kids_open hm ha he hi
  obtain ⟨us, e1, e2⟩ : Den1 L hh (hgA g) (a.eval k) := ev_eval ha hk
  rw [den_plain (ks := [.int .u32 g.on.1, .int .u32 g.on.2, .bool g.right]) e2] at e1
  replace e1 : a.eval k = hgV g := e1
  have hu := (ttok _ _ hl).und
  rw [hd] at hu
  have hz := (ttok _ _ hle).zero w
  rw [hze] at hz
  have hc := keyHg.check ttok false w ⟨g, rfl⟩
  have hgo : (getObj r).run Try.prog w = .ok (.map ents clock) w := by simp [getObj, Sem.run, h3]
  have hlt := (Array.getElem?_eq_some_iff.1 h3).1
  have hil : i < st.own.length := (List.getElem?_eq_some_iff.1 hi).1
  have hkey : ∀ x, x ∈ ents.toList → ∃ j g2 l, j < ents.size ∧ gs[j]? = some (g2, l) ∧ ents[j]? = some x ∧ x.key = hgV g2 := fun x hx => by
    obtain ⟨j, hj, rfl⟩ := List.getElem_of_mem hx
    have hj2 : j < ents.size := by simpa using hj
    have hx2 : ents[j]? = some ents.toList[j] := by simp [hj2]
    have hg2 : gs[j]? = some gs[j] := List.getElem?_eq_getElem (by omega)
    exact ⟨j, gs[j].1, gs[j].2, hj2, hg2, hx2, h7 j _ _ _ hg2 hx2⟩
  rcases keyHg.find ttok w ⟨g, rfl⟩ ents.toList (fun x hx => by obtain ⟨_, g2, _, _, _, _, e⟩ := hkey x hx; exact ⟨g2, e⟩) with ⟨g1, g2⟩ | ⟨j, x, g1, g2, g3⟩
  · have hno : ∀ p, p ∈ gs → p.1 ≠ g := fun p hp e => by
      obtain ⟨j, hj, ep⟩ := List.getElem_of_mem hp
      have hj2 : j < ents.size := by omega
      have := h7 j p.1 p.2 ents[j] (by rw [List.getElem?_eq_getElem hj, ep]) (by simp [hj2])
      exact g2 ents[j] (by simp) (by rw [this, e])
    have hne : ∀ b, b ≠ r → (w.heap.setIfInBounds r (.map (ents.push ⟨hgV g, .slice none 0 0, clock⟩) (clock + 1)))[b]? = w.heap[b]? := fun b hb => by rw [Array.getElem?_setIfInBounds, if_neg (Ne.symm hb)]
    have hm1 := mem_set (w' := { w with heap := w.heap.setIfInBounds r (.map (ents.push ⟨hgV g, .slice none 0 0, clock⟩) (clock + 1)) }) hm hi (by simp) (fun b hb => hne b (fun e => hb (by rw [e]; exact h2))) (ob := kO e (gs ++ [(g, [])]) (some (gs.length, clock, .slice none 0 0))) (by
      refine ⟨kidsG_stable _ _ _, r, ents.push ⟨hgV g, .slice none 0 0, clock⟩, clock + 1, by rw [← hev]; exact h1, h2, by show (w.heap.setIfInBounds r _)[r]? = _; simp [hlt], by simp [h4], fun j x hx => ?_, fun i' j x y hx hy hb => ?_, fun j g' l x hg hx => ?_, fun q s v0 hq => ?_, fun j g' l x hj hg hx => ?_, fun i' j x y b hi' hj hx hy hbx hby => ?_⟩
      · rw [Array.getElem?_push] at hx
        split at hx
        · cases hx; exact Nat.lt_succ_self _
        · exact Nat.lt_succ_of_lt (h5 j x hx)
      · rw [Array.getElem?_push] at hx hy
        split at hx <;> split at hy
        · omega
        · cases hx; have := h5 j y hy; simp only at hb; omega
        · cases hy; have := h5 i' x hx; simp only at hb; omega
        · exact h6 i' j x y hx hy hb
      · rw [Array.getElem?_push] at hx
        split at hx
        · rename_i e'
          rw [e', ← h4, List.getElem?_append_right (Nat.le_refl _), Nat.sub_self] at hg
          cases hg
          cases hx
          rfl
        · rw [List.getElem?_append_left (by have := (Array.getElem?_eq_some_iff.1 hx).1; omega)] at hg
          exact h7 j g' l x hg hx
      · cases hq
        exact ⟨⟨hgV g, .slice none 0 0, clock⟩, by rw [h4]; simp, rfl, rfl⟩
      · have hj2 : j ≠ gs.length := fun e' => hj (by rw [e']; rfl)
        rw [Array.getElem?_push, if_neg (by omega)] at hx
        rw [List.getElem?_append_left (by have := (Array.getElem?_eq_some_iff.1 hx).1; omega)] at hg
        obtain ⟨q1, q2⟩ := h9 j g' l x (by simp) hg hx
        exact ⟨ownsRow_move q1 (fun b hb => hne b (q2 b hb).2), q2⟩
      · rw [Array.getElem?_push, if_neg (fun e' => hi' (by rw [e', ← h4]; rfl))] at hx
        rw [Array.getElem?_push, if_neg (fun e' => hj (by rw [e', ← h4]; rfl))] at hy
        exact h10 i' j x y b (by simp) (by simp) hx hy hbx hby)
    have hlen : (st.own.set i (some (kO e (gs ++ [(g, [])]) (some (gs.length, clock, .slice none 0 0))))).length = st.own.length := List.length_set
    have hm2 := mem_push (v := .slice none 0 0) (G := fun _ => False) (ob := .row e 2 ([] : List I2).length (idR [])) hm1 (row_I ⟨rfl, .inl ⟨rfl, rfl⟩⟩ (fun b hb => by cases hb)) (fun b hb => hb.elim) (fun b hb => hb.elim)
    rw [hlen] at hm2
    have hL : ∀ j, j < hh.n → upd L st.own.length (.slice none 0 0) j = L j := fun j hj => upd_lt (by have := hm.hn; omega)
    have hk1 : Keep may w0 { w with heap := w.heap.setIfInBounds r (.map (ents.push ⟨hgV g, .slice none 0 0, clock⟩) (clock + 1)) } := ⟨hk'.os, hk'.tape, hk'.output, by simpa using hk'.size, fun b hlt2 hno2 => by
      show (w.heap.setIfInBounds r _)[b]? = _
      rw [hne b (fun e => by
        subst e
        rcases (hm.foot i _ b hi h2).2.2 with h6 | h6
        · exact hno2 h6
        · omega)]
      exact hk'.block b hlt2 hno2⟩
    have := put_sat (st := ⟨st.n, st.k, st.env, st.own.set i (some (kO e (gs ++ [(g, [])]) (some (gs.length, clock, .slice none 0 0)))) ++ [some (.row e 2 ([] : List I2).length (idR []))]⟩) (av := .tup [.c (.row st.own.length), .c (.v (.int .i64 (clock : Int)))]) (v := .tuple #[.slice none 0 0, .int .i64 (clock : Int)])
      hm2 (agree_more ha hL (sub_more hh 1) rfl rfl) (hsub.step hL (sub_more hh 1)) hnew hk1 ⟨[_, _], rfl, rfl, fun j a' u ha' hu' => by
        match j with
        | 0 => simp at ha' hu'; subst ha' hu'; exact Den.row _ _ _ _ (by simp [Hp.more, hm.hn]) upd_eq
        | 1 => simp at ha' hu'; subst ha' hu'; exact Den.v _ rfl
        | j + 2 => simp at ha'⟩ (h (gs ++ [(g, [])]) gs.length [] clock (.slice none 0 0) ⟨by rw [List.getElem?_append_right (Nat.le_refl _), Nat.sub_self]; rfl, .inr ⟨rfl, hno⟩⟩)
    refine value_upon (v := .tuple #[.slice none 0 0, .int .i64 (clock : Int)]) ?_ this
    simp [execOp, Instr.mapEntry, run_underlying hu, h1, e1, hgo, hc, g1, hz, setObj, Sem.run, h3, goInt]
  · have hxe : ents[j]? = some x := by rw [← Array.getElem?_toList]; exact g2
    have hj2 : j < ents.size := (Array.getElem?_eq_some_iff.1 hxe).1
    have hgj : gs[j]? = some gs[j] := List.getElem?_eq_getElem (by omega)
    have hkey2 := h7 j _ _ x hgj hxe
    have hgg : gs[j].1 = g := hgV_inj (hkey2.symm.trans g3)
    obtain ⟨q1, q2⟩ := h9 j _ _ x (by simp) hgj hxe
    have hmod := modify_same (k := hgV g) hxe g3
    have hm2 := mem_part (o := kO e gs none) (ob := kO e gs (some (j, x.born, x.val))) (ob2 := .row e 2 gs[j].2.length (idR gs[j].2)) hm hi (G1 := fun b => F i b ∧ blk x.val ≠ some b) (G2 := fun b => blk x.val = some b) (fun b hb => hb.1) (fun b hb => .inl (q2 b hb).1) (fun b hb hb2 => hb.2 hb2) (v2 := x.val)
      (by
        refine ⟨kidsG_stable _ _ _, r, ents, clock, by rw [← hev]; exact h1, ⟨h2, fun e' => (q2 r e').2 rfl⟩, h3, h4, h5, h6, h7, fun q s v0 hq => ?_, fun j' g' l y hj' hg hy => ?_, fun i' j' y z b hi' hj' hy hz hby hbz => h10 i' j' y z b (by simp) (by simp) hy hz hby hbz⟩
        · cases hq
          exact ⟨x, hxe, rfl, rfl⟩
        · obtain ⟨k1, k2⟩ := h9 j' g' l y (by simp) hg hy
          exact ⟨k1, fun b hb => ⟨⟨(k2 b hb).1, fun hb2 => hj' (by rw [h10 j' j y x b (by simp) (by simp) hy hxe hb hb2]; rfl)⟩, (k2 b hb).2⟩⟩)
      (fun L' h' _ _ => row_I q1 (fun b hb => hb))
    have hL : ∀ j, j < hh.n → upd L st.own.length x.val j = L j := fun j hj => upd_lt (by have := hm.hn; omega)
    obtain ⟨A, c, hsl⟩ := row_slice q1
    have := put_sat (st := ⟨st.n, st.k, st.env, st.own.set i (some (kO e gs (some (j, x.born, x.val)))) ++ [some (.row e 2 gs[j].2.length (idR gs[j].2))]⟩) (av := .tup [.c (.row st.own.length), .c (.v (.int .i64 (x.born : Int)))]) (v := .tuple #[x.val, .int .i64 (x.born : Int)])
      hm2 (agree_more ha hL (sub_more hh 1) rfl rfl) (hsub.step hL (sub_more hh 1)) hnew hk' ⟨[_, _], rfl, rfl, fun j' a' u ha' hu' => by
        match j' with
        | 0 => simp at ha' hu'; subst ha' hu'; rw [hsl]; exact Den.row _ _ _ _ (by simp [Hp.more, hm.hn]) (by rw [hsl] at *; exact upd_eq)
        | 1 => simp at ha' hu'; subst ha' hu'; exact Den.v _ rfl
        | j' + 2 => simp at ha'⟩ (h gs j gs[j].2 x.born x.val ⟨by rw [hgj, ← hgg], .inl rfl⟩)
    refine value_upon (v := .tuple #[x.val, .int .i64 (x.born : Int)]) ?_ this
    have hso : (setObj r (.map ents clock)).run Try.prog w = .ok () w := by
      simp [setObj, Sem.run, h3, set_same h3]
    simp [execOp, Instr.mapEntry, run_underlying hu, h1, e1, hgo, hc, g1, hxe, g3, keyHg.stays w ⟨g, rfl⟩, hmod, hso, goInt]
/-- Two own objects are joined. -/
theorem mem_join {mine : Nat → Prop} {L : Nat → Value} {F : Nat → Nat → Prop} {h : Hp} {own : List (Option Ob)} {w : World} (hm : Mem mine L F h own w) {i j : Nat} {o o2 ob : Ob} (hi : own[i]? = some (some o)) (hj : own[j]? = some (some o2)) (hij : i ≠ j)
    (hob : ObOk L h w (L i) (fun b => F i b ∨ F j b) ob) : Mem mine L (upd F i (fun b => F i b ∨ F j b)) h ((own.set i (some ob)).set j none) w := by
  have hli : i < own.length := (List.getElem?_eq_some_iff.1 hi).1
  have hlj : j < own.length := (List.getElem?_eq_some_iff.1 hj).1
  have g : ∀ k ok, ((own.set i (some ob)).set j none)[k]? = some (some ok) → (k = i ∧ ok = ob) ∨ (k ≠ i ∧ k ≠ j ∧ own[k]? = some (some ok)) := fun k ok hk => by
    by_cases h1 : k = j
    · subst h1
      rw [List.getElem?_set_self (by rw [List.length_set]; exact hlj)] at hk
      cases hk
    · rw [List.getElem?_set_ne (Ne.symm h1)] at hk
      by_cases h2 : k = i
      · subst h2
        rw [List.getElem?_set_self hli] at hk
        cases hk
        exact .inl ⟨rfl, rfl⟩
      · rw [List.getElem?_set_ne (Ne.symm h2)] at hk
        exact .inr ⟨h2, h1, hk⟩
  have gF : ∀ k ok b, ((own.set i (some ob)).set j none)[k]? = some (some ok) → upd F i (fun b => F i b ∨ F j b) k b → ∃ k2 ok2, own[k2]? = some (some ok2) ∧ F k2 b ∧ (k2 = k ∨ k = i ∧ k2 = j) := fun k ok b hk hb => by
    rcases g k ok hk with ⟨rfl, _⟩ | ⟨h1, h2, h3⟩
    · rw [upd_eq] at hb
      rcases hb with hb | hb
      · exact ⟨k, o, hi, hb, .inl rfl⟩
      · exact ⟨j, o2, hj, hb, .inr ⟨rfl, rfl⟩⟩
    · rw [upd_ne h1] at hb
      exact ⟨k, ok, h3, hb, .inl rfl⟩
  refine ⟨by rw [List.length_set, List.length_set]; exact hm.hn, hm.hsub, fun k ok hk => ?_, fun k ok b hk hb => ?_, fun k k2 ok ok2 b hk hk2 hb hb2 => ?_⟩
  · rcases g k ok hk with ⟨rfl, rfl⟩ | ⟨h1, h2, h3⟩
    · rw [upd_eq]; exact hob
    · rw [upd_ne h1]; exact hm.obs k ok h3
  · obtain ⟨k2, ok2, h1, h2, _⟩ := gF k ok b hk hb
    exact hm.foot k2 ok2 b h1 h2
  · obtain ⟨k3, ok3, h1, h2, h3⟩ := gF k ok b hk hb
    obtain ⟨k4, ok4, h4, h5, h6⟩ := gF k2 ok2 b hk2 hb2
    have e := hm.dis k3 k4 ok3 ok4 b h1 h4 h2 h5
    have nk : k ≠ j := fun e' => by rcases g k ok hk with ⟨e2, _⟩ | ⟨_, e2, _⟩; exact hij (e2 ▸ e'); exact e2 e'
    have nk2 : k2 ≠ j := fun e' => by rcases g k2 ok2 hk2 with ⟨e2, _⟩ | ⟨_, e2, _⟩; exact hij (e2 ▸ e'); exact e2 e'
    rcases h3 with rfl | ⟨rfl, rfl⟩ <;> rcases h6 with rfl | ⟨rfl, rfl⟩
    · exact e
    · exact absurd e nk
    · exact absurd e.symm nk2
    · rfl
theorem rowD_ids {L : Nat → Value} {h : Hp} {l : List I2} {vs : List Value} (hr : RowD L h 2 l.length (idR l) vs) (hl : vs.length = l.length * 2) : vs = flatI l := by
  apply List.ext_getElem?
  intro q
  by_cases hq : q < l.length * 2
  · have hk : q / 2 < l.length := by omega
    obtain ⟨h1, h2⟩ := flatI_at hk
    rcases Nat.mod_two_eq_zero_or_one q with e | e
    · obtain ⟨u, k1, k2⟩ := hr.den (q / 2) hk 0 _ rfl
      have eq : q / 2 * 2 + 0 = q := by omega
      rw [eq] at k1
      rw [show q / 2 * 2 = q from by omega] at h1
      rw [k1, h1, den_one k2]
    · obtain ⟨u, k1, k2⟩ := hr.den (q / 2) hk 1 _ rfl
      have eq : q / 2 * 2 + 1 = q := by omega
      rw [eq] at k1
      rw [eq] at h2
      rw [k1, h2, den_one k2]
  · rw [List.getElem?_eq_none (by omega), List.getElem?_eq_none (by rw [flatI_len]; omega)]
theorem opV_give {st : St} {K : St → Prop} {ty : TypeId} {pos : String} {after : Array Edge} {guard : Option (Nat × Bool)} {t : TypeId} {m s x : Operand} {i j : Nat} {gs : GS} {g : Hg} {e : TypeId} {q sn : Nat} {v0 : Value} {l l0 : List I2}
    (he : ev st m = some (.c (.mp i))) (hi : st.own[i]? = some (some (kO e gs (some (q, sn, v0))))) (hs : ev st s = some (.c (.v (.int .i64 (sn : Int))))) (hx : ev st x = some (.c (.row j))) (hj : st.own[j]? = some (some (.row e 2 l.length (idR l)))) (hij : i ≠ j) (hg : gs[q]? = some (g, l0))
    (h : K ⟨st.n, st.k, st.env, (st.own.set i (some (kO e (gs.set q (g, l)) none))).set j none⟩) : OpV Try.prog ⟨none, .entryStore t m s x, ty, pos, after, guard⟩ st K := by
  refine ⟨fun Q may w0 h0 a w hsat => ?_⟩
  obtain ⟨⟨L, F, hh, hm, ha, hsub, hnew⟩, hk'⟩ := hsat
  obtain ⟨hev, r, ents, clock, h1, h2, h3, h4, h5, h6, h7, h8, h9, h10⟩ := kids_open hm ha he hi
  have hsv : a.eval s = .int .i64 (sn : Int) := den_one (ev_eval ha hs : Den L hh _ _)
  obtain ⟨vs, k1, k2, k3⟩ := hm.obs j _ hj
  have hvs := rowD_ids k3 k1.1
  subst hvs
  have hxv : a.eval x = L j := by
    have hv : Den L hh (.row j) (a.eval x) := ev_eval ha hx
    generalize a.eval x = v at hv
    cases hv with
    | row _ A n c p1 p2 => exact p2.symm
  obtain ⟨y, hy, hys, hyv⟩ := h8 q sn v0 rfl
  have hq : q < ents.size := (Array.getElem?_eq_some_iff.1 hy).1
  have hlt := (Array.getElem?_eq_some_iff.1 h3).1
  have hne : ∀ b, b ≠ r → (w.heap.setIfInBounds r (.map (ents.modify q fun z => { z with val := L j }) clock))[b]? = w.heap[b]? := fun b hb => by rw [Array.getElem?_setIfInBounds, if_neg (Ne.symm hb)]
  have hm1 := mem_set (w' := { w with heap := w.heap.setIfInBounds r (.map (ents.modify q fun z => { z with val := L j }) clock) }) hm hi (by simp) (fun b hb => hne b (fun e => hb (by rw [e]; exact h2))) (ob := .abs (fun _ _ _ _ => True)) ⟨⟨fun _ _ _ _ _ _ _ _ _ => trivial⟩, trivial⟩
  have hjr : ∀ b, F j b → b ≠ r := fun b hb e' => hij (hm.dis i j _ _ r hi hj h2 (e' ▸ hb))
  have hio : (st.own.set i (some (.abs (fun _ _ _ _ => True))))[i]? = some (some (.abs (fun _ _ _ _ => True))) := List.getElem?_set_self (List.getElem?_eq_some_iff.1 hi).1
  have hjo : (st.own.set i (some (.abs (fun _ _ _ _ => True))))[j]? = some (some (.row e 2 l.length (idR l))) := by rw [List.getElem?_set_ne hij]; exact hj
  have hmod : ∀ (p : Nat) (z : MapEntry), (ents.modify q fun z => { z with val := L j })[p]? = some z → (p = q ∧ z = { y with val := L j }) ∨ (p ≠ q ∧ ents[p]? = some z) := fun p z hz => by
    rw [Array.getElem?_modify] at hz
    split at hz
    · rename_i e'; subst e'; rw [hy] at hz; cases hz; exact .inl ⟨rfl, rfl⟩
    · rename_i e'; exact .inr ⟨Ne.symm e', hz⟩
  have hm2 := mem_join hm1 hio hjo hij (ob := kO e (gs.set q (g, l)) none) (by
    refine ⟨kidsG_stable _ _ _, r, ents.modify q (fun z => { z with val := L j }), clock, by rw [← hev]; exact h1, .inl h2, by show (w.heap.setIfInBounds r _)[r]? = _; simp [hlt], by simp [h4], fun p z hz => ?_, fun p p2 z z2 hz hz2 hb => ?_, fun p g' l' z hg' hz => ?_, fun q' s' v' e' => (by cases e'), fun p g' l' z _ hg' hz => ?_, fun p p2 z z2 b _ _ hz hz2 hb hb2 => ?_⟩
    · rcases hmod p z hz with ⟨rfl, rfl⟩ | ⟨_, hz⟩
      · exact h5 p y hy
      · exact h5 p z hz
    · rcases hmod p z hz with ⟨rfl, rfl⟩ | ⟨_, u1⟩ <;> rcases hmod p2 z2 hz2 with ⟨rfl, rfl⟩ | ⟨_, u2⟩
      · rfl
      · exact h6 p p2 y z2 hy u2 hb
      · exact h6 p p2 z y u1 hy hb
      · exact h6 p p2 z z2 u1 u2 hb
    · rw [List.getElem?_set] at hg'
      rcases hmod p z hz with ⟨rfl, rfl⟩ | ⟨hp, hz⟩
      · rw [if_pos rfl] at hg'
        split at hg'
        · cases hg'
          exact h7 p g l0 y hg hy
        · cases hg'
      · rw [if_neg (Ne.symm hp)] at hg'
        exact h7 p g' l' z hg' hz
    · rw [List.getElem?_set] at hg'
      rcases hmod p z hz with ⟨rfl, rfl⟩ | ⟨hp, hz⟩
      · rw [if_pos rfl] at hg'
        split at hg'
        · cases hg'
          exact ⟨ownsRow_move k1 (fun b hb => hne b (hjr b (k2 b hb))), fun b hb => ⟨.inr (k2 b hb), hjr b (k2 b hb)⟩⟩
        · cases hg'
      · rw [if_neg (Ne.symm hp)] at hg'
        obtain ⟨p1, p2⟩ := h9 p g' l' z (fun e' => hp (by cases e'; rfl)) hg' hz
        exact ⟨ownsRow_move p1 (fun b hb => hne b (p2 b hb).2), fun b hb => ⟨.inl (p2 b hb).1, (p2 b hb).2⟩⟩
    · have hrow : ∀ (p : Nat) (z : MapEntry), p ≠ q → ents[p]? = some z → ∀ b, blk z.val = some b → F i b := fun p z hp hz b hb => by
        have hpl : p < ents.size := (Array.getElem?_eq_some_iff.1 hz).1
        exact ((h9 p _ _ z (fun e' => hp (by cases e'; rfl)) (List.getElem?_eq_getElem (by omega)) hz).2 b hb).1
      rcases hmod p z hz with ⟨rfl, rfl⟩ | ⟨hp, u1⟩ <;> rcases hmod p2 z2 hz2 with ⟨rfl, rfl⟩ | ⟨hp2, u2⟩
      · rfl
      · exact absurd (hm.dis i j _ _ b hi hj (hrow p2 z2 hp2 u2 b hb2) (k2 b hb)) hij
      · exact absurd (hm.dis i j _ _ b hi hj (hrow p z hp u1 b hb) (k2 b hb2)) hij
      · exact h10 p p2 z z2 b (fun e' => hp (by cases e'; rfl)) (fun e' => hp2 (by cases e'; rfl)) u1 u2 hb hb2)
  rw [List.set_set] at hm2
  refine skip_upon (w' := { w with heap := w.heap.setIfInBounds r (.map (ents.modify q fun z => { z with val := L j }) clock) }) ?_ ?_
  · have hfi : ents.findIdx? (fun z => (z.born : Int) == (sn : Int)) = some q := by
      rw [Array.findIdx?_eq_some_iff_getElem]
      have hyq : ents[q] = y := by rw [Array.getElem?_eq_getElem hq] at hy; exact Option.some.inj hy
      refine ⟨hq, by rw [hyq, hys]; simp, fun p hp hb => ?_⟩
      simp only [beq_iff_eq] at hb
      have := h6 p q _ y (Array.getElem?_eq_getElem (by omega)) hy (by omega)
      omega
    have hgo : (getObj r).run Try.prog w = .ok (.map ents clock) w := by simp [getObj, Sem.run, h3]
    simp [execOp, Instr.entryStore, h1, hsv, hxv, asInt, asIntOf, hgo, hfi, setObj, Sem.run, h3]
  · refine ⟨_, set_own hm2 ha hsub hnew ⟨hk'.os, hk'.tape, hk'.output, by simpa using hk'.size, fun b hlt2 hno2 => ?_⟩, h⟩
    show (w.heap.setIfInBounds r _)[b]? = _
    rw [hne b (fun e => by
      subst e
      rcases (hm.foot i _ b hi h2).2.2 with h6 | h6
      · exact hno2 h6
      · omega)]
    exact hk'.block b hlt2 hno2
end Go.Eng
