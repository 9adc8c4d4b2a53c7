/- A part of the proof: what the functions of the program come to, told by a small reckoner of states. -/
import Derived.Test.YteglopjljejjkabGBTrQTBTr2
/- The order of items, whatever came first; the order of a beginning: plain laws. -/
set_option linter.unusedVariables false
set_option linter.unusedSimpArgs false
namespace Go.Eng
open Go Go.RowKit Go.Proofs
theorem hasI_sub {r hs : HS} (h : ∀ p, p ∈ r → p ∈ hs) {a : I2} (ha : hasI r a) : hasI hs a := by
  obtain ⟨p, hp, e⟩ := ha
  exact ⟨p, h p hp, e⟩
theorem pth_sub {r hs : HS} (hr : okH r) (ho : okH hs) (h : ∀ p, p ∈ r → p ∈ hs) : ∀ (n : Nat) (a : I2), (pth r a).length = n → hasI r a → pth hs a = pth r a := by
  intro n
  induction n with
  | zero => intro a hn ha; exact absurd (List.eq_nil_of_length_eq_zero hn) (pth_ne hr ha)
  | succ n ih =>
    intro a hn ha
    obtain ⟨⟨x, g⟩, hm, rfl⟩ := ha
    rw [pth_at hr hm] at hn ⊢
    rw [pth_at ho (h _ hm)]
    congr 1
    rcases on_ok hr hm with h1 | ⟨_, h1⟩
    · rw [h1, pth_no (fun e => okH_none ho e rfl), pth_no (fun e => okH_none hr e rfl)]
    · exact ih g.on (by simp at hn; exact hn) h1
theorem und_sub {r hs : HS} (hr : okH r) (ho : okH hs) (h : ∀ p, p ∈ r → p ∈ hs) (k : Hg) : ∀ (n : Nat) (a : I2), (pth r a).length = n → hasI r a → und hs a k = und r a k := by
  intro n
  induction n with
  | zero => intro a hn ha; exact absurd (List.eq_nil_of_length_eq_zero hn) (pth_ne hr ha)
  | succ n ih =>
    intro a hn ha
    obtain ⟨⟨x, g⟩, hm, rfl⟩ := ha
    rw [pth_at hr hm] at hn
    rw [und_at hr hm, und_at ho (h _ hm)]
    split
    · rfl
    · rcases on_ok hr hm with h1 | ⟨_, h1⟩
      · rw [h1, und_no (fun e => okH_none ho e rfl), und_no (fun e => okH_none hr e rfl)]
      · exact ih g.on (by simp at hn; exact hn) h1
theorem hgOf_sub {r hs : HS} (hr : okH r) (ho : okH hs) (h : ∀ p, p ∈ r → p ∈ hs) {x : It} (hx : hasI r x.right ∨ x.right.1 = 0) : hgOf hs x = hgOf r x := by
  rcases hx with hx | hx
  · have : belR hs x.right x.left = belR r x.right x.left := by
      unfold belR bel
      rw [und_sub hr ho h _ _ _ rfl hx, und_sub hr ho h _ _ _ rfl hx]
    unfold hgOf
    rw [this]
  · have : (x.right.1 != 0) = false := by rw [hx]; rfl
    unfold hgOf
    rw [this, Bool.false_and, Bool.false_and]
theorem atH : ∀ {hs : HS}, okH hs → bldH hs → clH hs → ∀ p, p ∈ hs → p.2 = hgOf hs p.1 ∧ (hasI hs p.1.right ∨ p.1.right.1 = 0) := by
  intro hs
  induction hs with
  | nil => intro _ _ _ p hp; cases hp
  | cons q r ih =>
    obtain ⟨y, g⟩ := q
    intro ho hb hc p hp
    have hsub : ∀ p, p ∈ r → p ∈ (y, g) :: r := fun p hp => List.mem_cons_of_mem _ hp
    rcases List.mem_cons.1 hp with e | hp
    · subst e
      exact ⟨by rw [hgOf_sub ho.1 ho hsub hc.2]; exact hb.2, hc.2.imp (hasI_sub hsub) id⟩
    · obtain ⟨h1, h2⟩ := ih ho.1 hb.1 hc.1 p hp
      exact ⟨by rw [hgOf_sub ho.1 ho hsub h2]; exact h1, h2.imp (hasI_sub hsub) id⟩
theorem sub_items {hs : HS} (ho : okH hs) (hb : bldH hs) (hc : clH hs) : ∀ {r : HS}, okH r → bldH r → clH r → (∀ p, p ∈ r → ∃ g, (p.1, g) ∈ hs) → ∀ p, p ∈ r → p ∈ hs := by
  intro r
  induction r with
  | nil => intro _ _ _ _ p hp; cases hp
  | cons q r ih =>
    obtain ⟨y, g⟩ := q
    intro hr hrb hrc hi p hp
    have ihr := ih hr.1 hrb.1 hrc.1 (fun p hp => hi p (List.mem_cons_of_mem _ hp))
    rcases List.mem_cons.1 hp with e | hp
    · subst e
      obtain ⟨g2, hg2⟩ := hi _ (List.mem_cons_self ..)
      have h1 := (atH ho hb hc _ hg2).1
      have h2 := hgOf_sub hr.1 ho ihr hrc.2
      have h3 : g = hgOf r y := hrb.2
      have h1' : g2 = hgOf hs y := h1
      have : g = g2 := by rw [h3, h1', h2]
      rw [this]
      exact hg2
    · exact ihr p hp
/-- **One order, whatever came first.** -/
theorem ord_same {h1 h2 : HS} (o1 : okH h1) (b1 : bldH h1) (c1 : clH h1) (o2 : okH h2) (b2 : bldH h2) (c2 : clH h2) (h12 : ∀ p, p ∈ h1 → ∃ g, (p.1, g) ∈ h2) (h21 : ∀ p, p ∈ h2 → ∃ g, (p.1, g) ∈ h1) {w1 w2 : List I2} (hw1 : isOrd h1 w1) (hw2 : isOrd h2 w2) : w1 = w2 := by
  have s12 := sub_items o2 b2 c2 o1 b1 c1 h12
  have s21 := sub_items o1 b1 c1 o2 b2 c2 h21
  have hp : w1.Perm w2 := (List.perm_ext_iff_of_nodup (hw1.nodup o1) (hw2.nodup o2)).2 (fun a => by rw [hw1.has, hw2.has]; exact ⟨hasI_sub s12, hasI_sub s21⟩)
  have hky : ∀ a, hasI h2 a → kyO h1 a = kyO h2 a := fun a ha => by unfold kyO; rw [pth_sub o2 o1 s21 _ _ rfl ha]
  have hs2 : w2.Pairwise (fun a b => klt (kyO h1 a) (kyO h1 b)) := hw2.srt.imp_of_mem (fun {a b} ha hb hab => by rw [hky a (hw2.has.1 ha), hky b (hw2.has.1 hb)]; exact hab)
  exact pw_uniq (fun a b h1 h2 => klt_irr _ (klt_tr h1 h2)) hp hw1.srt hs2
/-- The order of a beginning is that of all, with the others left out. -/
theorem ord_first {hs : HS} (ho : okH hs) {w : List I2} (hw : isOrd hs w) {j : Nat} {w2 : List I2} (hw2 : isOrd (firstH hs j) w2) {left : List I2} (hsub : left.Sublist w) (hmem : ∀ a, a ∈ left ↔ hasI (firstH hs j) a) : left = w2 := by
  have hoF : okH (firstH hs j) := okH_drop _ ho
  have hss : ∀ p, p ∈ firstH hs j → p ∈ hs := fun p hp => List.mem_of_mem_drop hp
  have hp : left.Perm w2 := (List.perm_ext_iff_of_nodup ((hw.nodup ho).sublist hsub) (hw2.nodup hoF)).2 (fun a => by rw [hmem, hw2.has])
  have hky : ∀ a, hasI (firstH hs j) a → kyO hs a = kyO (firstH hs j) a := fun a ha => by unfold kyO; rw [pth_sub hoF ho hss _ _ rfl ha]
  have hs2 : w2.Pairwise (fun a b => klt (kyO hs a) (kyO hs b)) := hw2.srt.imp_of_mem (fun {a b} ha hb hab => by rw [hky a (hw2.has.1 ha), hky b (hw2.has.1 hb)]; exact hab)
  exact pw_uniq (fun a b h1 h2 => klt_irr _ (klt_tr h1 h2)) hp (hw.srt.sublist hsub) hs2
theorem knP_uniq {K : List It} (hk : knP K) {i j : Nat} (hi : i < K.length) (hj : j < K.length) (e : (K.getD i it0).id = (K.getD j it0).id) : i = j := by
  have key : ∀ i j, i < j → j < K.length → (K.getD i it0).id = (K.getD j it0).id → False := fun i j hij hj e => by
    have h := (hk j hj).new
    have hne : fiE (K.take j) (K.getD j it0).id ≠ none := fun g => by
      unfold fiE at g
      rw [List.findIdx?_eq_none_iff] at g
      have hm : (K.getD i it0) ∈ K.take j := by
        rw [List.getD_eq_getElem?_getD, List.getElem?_eq_getElem (by omega)]
        exact List.mem_iff_getElem.2 ⟨i, by rw [List.length_take]; omega, by rw [List.getElem_take]; rfl⟩
      have := g _ hm
      rw [e] at this
      simp at this
    cases hf : fiE (K.take j) (K.getD j it0).id with
    | none => exact hne hf
    | some k => rw [hf] at h; cases h
  rcases Nat.lt_trichotomy i j with g | g | g
  · exact (key i j g hj e).elim
  · exact g
  · exact (key j i g hi e.symm).elim
theorem mem_its {hs : HS} {x : It} : x ∈ itsH hs ↔ ∃ h, (x, h) ∈ hs := by
  unfold itsH
  rw [List.mem_reverse, List.mem_map]
  constructor
  · rintro ⟨⟨y, h⟩, hm, rfl⟩; exact ⟨h, hm⟩
  · rintro ⟨h, hm⟩; exact ⟨_, hm, rfl⟩
theorem first_in (K : List It) (p : It → Prop) [DecidablePred p] : ∀ q, q ≤ K.length → (∀ j, j < q → ¬ p (K.getD j it0)) ∨ ∃ q0, q0 < q ∧ p (K.getD q0 it0) ∧ ∀ j, j < q0 → ¬ p (K.getD j it0)
  | 0, _ => .inl (fun j hj => by omega)
  | q + 1, h => by
    rcases first_in K p q (by omega) with g | ⟨q0, h1, h2, h3⟩
    · by_cases e : p (K.getD q it0)
      · exact .inr ⟨q, by omega, e, g⟩
      · refine .inl (fun j hj => ?_)
        rcases Nat.lt_succ_iff_lt_or_eq.1 hj with h4 | rfl
        · exact g j h4
        · exact e
    · exact .inr ⟨q0, by omega, h2, h3⟩
theorem knP_nodup {K : List It} (hk : knP K) : K.Nodup := by
  rw [List.Nodup, List.pairwise_iff_getElem]
  intro i j hi hj hij e
  have := knP_uniq hk hi hj (by
    rw [List.getD_eq_getElem?_getD, List.getD_eq_getElem?_getD, List.getElem?_eq_getElem hi, List.getElem?_eq_getElem hj]
    show K[i].id = K[j].id
    rw [e])
  omega
theorem try_all {n p : Nat} (hp : p < n) {t : Nat} (ht : t < n) : ∃ k, k < n ∧ (p + k) % n = t := by
  rcases Nat.lt_or_ge t p with g | g
  · refine ⟨t + n - p, by omega, ?_⟩
    rw [show p + (t + n - p) = t + n from by omega, Nat.add_mod_right, Nat.mod_eq_of_lt ht]
  · exact ⟨t - p, by omega, by rw [show p + (t - p) = t from by omega, Nat.mod_eq_of_lt ht]⟩
def outA (l : List It) (k : Nat) : List It := l.take k ++ l.drop (k + 1)
theorem outA_len {l : List It} {k : Nat} (hk : k < l.length) : (outA l k).length + 1 = l.length := by
  unfold outA
  rw [List.length_append, List.length_take, List.length_drop]; omega
theorem outA_perm {l : List It} {k : Nat} (hk : k < l.length) : l.Perm (l.getD k it0 :: outA l k) := by
  unfold outA
  have e : l = l.take k ++ l.getD k it0 :: l.drop (k + 1) := by
    rw [List.getD_eq_getElem?_getD, List.getElem?_eq_getElem hk]
    show l = l.take k ++ l[k] :: l.drop (k + 1)
    rw [List.getElem_cons_drop, List.take_append_drop]
  refine List.Perm.trans (l₂ := l.take k ++ l.getD k it0 :: l.drop (k + 1)) (by rw [← e]) List.perm_middle
theorem knP_snoc {K : List It} (hk : knP K) {x : It} : knP (K ++ [x]) ↔ knA K x := by
  constructor
  · intro h
    have := h K.length (by rw [List.length_append, List.length_singleton]; omega)
    rw [List.take_left, List.getD_eq_getElem?_getD, List.getElem?_append_right (Nat.le_refl _), Nat.sub_self] at this
    exact this
  · intro h i hi
    rw [List.length_append, List.length_singleton] at hi
    rcases Nat.lt_or_ge i K.length with h1 | h1
    · rw [List.take_append_of_le_length (by omega), List.getD_eq_getElem?_getD, List.getElem?_append_left h1, ← List.getD_eq_getElem?_getD]
      exact hk i h1
    · obtain rfl : i = K.length := by omega
      rw [List.take_left, List.getD_eq_getElem?_getD, List.getElem?_append_right (Nat.le_refl _), Nat.sub_self]
      exact h
/-- Of items that have not come yet one can come. -/
theorem some_kn {K other rest : List It} (hk : knP K) (hp : (other ++ rest).Perm K) (hr : 0 < rest.length) : ∃ t, t < rest.length ∧ knA other (rest.getD t it0) := by
  classical
  have hnd : (other ++ rest).Nodup := hp.nodup_iff.2 (knP_nodup hk)
  obtain ⟨q, hq, hqr, hqm⟩ : ∃ q, q < K.length ∧ K.getD q it0 ∈ rest ∧ ∀ j, j < q → ¬ K.getD j it0 ∈ rest := by
    rcases first_in K (fun x => x ∈ rest) K.length (Nat.le_refl _) with g | g
    · exfalso
      have h0 : rest.getD 0 it0 ∈ K := hp.mem_iff.1 (List.mem_append_right _ (getD_mem hr))
      obtain ⟨j, hj, e⟩ := mem_getDl (d := it0) h0
      exact g j hj (by rw [e]; exact getD_mem hr)
    · exact g
  obtain ⟨t, ht, e⟩ := mem_getDl (d := it0) hqr
  refine ⟨t, ht, ?_⟩
  rw [e]
  obtain ⟨h1, h2, h3, h4⟩ := hk q hq
  have key : ∀ a, (a.1 = 0 ∨ (fiE (K.take q) a).isNone = false) → a.1 = 0 ∨ (fiE other a).isNone = false := fun a h => by
    rcases h with h | h
    · exact .inl h
    · cases hf : fiE (K.take q) a with
      | none => rw [hf] at h; cases h
      | some j =>
        obtain ⟨g1, g2⟩ := fiE_some hf
        have g3 : j < q := by rw [List.length_take] at g1; omega
        rw [getD_take _ _ _ _ g3] at g2
        have hm : K.getD j it0 ∈ other ++ rest := hp.mem_iff.2 (getD_mem (by omega))
        rcases List.mem_append.1 hm with h5 | h5
        · have := fiE_mem.2 ⟨_, h5, g2⟩
          right
          cases hf2 : fiE other a with
          | none => rw [hf2] at this; cases this
          | some _ => rfl
        · exact absurd h5 (hqm j g3)
  refine ⟨h1, ?_, key _ h3, key _ h4⟩
  cases hf : (fiE other (K.getD q it0).id).isSome with
  | false => rfl
  | true =>
    exfalso
    obtain ⟨x, hx, he⟩ := fiE_mem.1 hf
    have hxK : x ∈ K := hp.mem_iff.1 (List.mem_append_left _ hx)
    obtain ⟨j, hj, ej⟩ := mem_getDl (d := it0) hxK
    have := knP_uniq hk hj hq (by rw [ej]; exact he)
    subst this
    rw [ej] at hqr
    exact (List.nodup_append.1 hnd).2.2 x hx x hqr rfl
end Go.Eng
/- The law TreeHangs. -/
set_option linter.unusedVariables false
set_option linter.unusedSimpArgs false
set_option maxRecDepth 100000
set_option maxHeartbeats 4000000
namespace Go.Eng
open Go Go.RowKit Go.Proofs
abbrev nmS (l : List Int) : AV := .c (.sl 1 l.length fun k => [vi (l.getD k 0)])
def i64L (n : Int) : Prop := -9223372036854775808 ≤ n ∧ n ≤ 9223372036854775807
theorem frz_exit (l : List Nat) {st : St} {J : St → Prop} (hp : frzL l st fun st1 => ∃ st2, Weak st1 st2 ∧ J st2) : ∃ st2, Weak st st2 ∧ J st2 := by
  obtain ⟨st1, h1, st2, h2, h3⟩ := frzL_ex l hp
  exact ⟨st2, h1.trans h2, h3⟩
abbrev thE (o : List I2) (picks : List Int) (n : Int) (rest other : List It) (i : Nat) (t : List (Nat × AV)) : List (Nat × AV) := (1, nmS picks) :: (2, vci .i64 n) :: (7, vcb true) :: (9, idS o) :: (10, itS rest) :: (11, itS other) :: (12, vci .i64 (i : Int)) :: t
def thA (K : List It) (o : List I2) (picks : List Int) (n : Int) (m : Nat) (st : St) : Prop := ∃ other rest : List It, m = rest.length ∧ knP other ∧ (other ++ rest).Perm K ∧ st = ⟨153, 0, thE o picks n rest other other.length [], []⟩
def thB (o : List I2) (picks : List Int) (n : Int) (rest other : List It) (p : Nat) (m : Nat) (st : St) : Prop := ∃ k : Nat, m = rest.length - k ∧ k ≤ rest.length ∧ (∀ q, q < k → ¬ knA other (rest.getD ((p + q) % rest.length) it0)) ∧
  st = ⟨153, 0, thE o picks n rest other other.length [(13, vci .i64 (p : Int)), (14, vci .i64 (k : Int))], []⟩
def hitN (few : List It) (a : I2) : Bool := few.any (fun x => x.id == a)
def oneI (b : Bool) (a : I2) : List I2 := if b then [a] else []
def kept (few : List It) (l : List I2) : List I2 := l.filter (hitN few)
def thC (o : List I2) (few : List It) (m : Nat) (st : St) : Prop := ∃ i : Nat, m = o.length - i ∧ i ≤ o.length ∧ (kept few (o.take i)).length ≤ i ∧ st = ⟨153, 0, [(7, vcb true), (9, idS o), (17, vcb true), (18, itS few), (19, .c (.row 0)), (20, vci .i64 (i : Int))], [some (.row 39 2 (kept few (o.take i)).length (idR (kept few (o.take i))))]⟩
def thD (o : List I2) (few : List It) (i : Nat) (m : Nat) (st : St) : Prop := ∃ (k : Nat) (cur : List I2), m = few.length - k ∧ k ≤ few.length ∧ cur = kept few (o.take i) ++ oneI (hitN (few.take k) (o.getD i (0, 0))) (o.getD i (0, 0)) ∧ st = ⟨153, 0, [(7, vcb true), (9, idS o), (17, vcb true), (18, itS few), (19, .c (.row 0)), (20, vci .i64 (i : Int)), (21, vci .i64 (k : Int))], [some (.row 39 2 cur.length (idR cur))]⟩
theorem take_snocT {α : Type} {l : List α} {k : Nat} {d : α} (h : k < l.length) : l.take (k + 1) = l.take k ++ [l.getD k d] := by
  rw [List.take_succ_eq_append_getElem h, List.getD_eq_getElem?_getD, List.getElem?_eq_getElem h]; rfl
theorem knP_takeT {K : List It} (hk : knP K) (j : Nat) : knP (K.take j) := fun i hi => by
  rw [List.length_take] at hi
  have h := hk i (by omega)
  rw [List.take_take, show min i j = i by omega, getD_take _ _ _ _ (by omega)]
  exact h
theorem hitN_hit {few : List It} (hk : knP few) {k : Nat} (h : k < few.length) : hitN (few.take k) (few.getD k it0).id = false := by
  rw [Bool.eq_false_iff]
  intro e
  unfold hitN at e
  obtain ⟨x, hx, e⟩ := List.any_eq_true.1 e
  obtain ⟨j, hj, rfl⟩ := mem_getDl (d := it0) hx
  rw [List.length_take] at hj
  rw [getD_take _ _ _ _ (by omega)] at e
  have := knP_uniq hk (i := j) (j := k) (by omega) h (by simpa using e)
  omega
theorem hitN_snoc {few : List It} {k : Nat} (h : k < few.length) (a : I2) : hitN (few.take (k + 1)) a = (hitN (few.take k) a || (few.getD k it0).id == a) := by
  unfold hitN
  rw [take_snocT (d := it0) h, List.any_append, List.any_cons, List.any_nil, Bool.or_false]
theorem kept_snoc {few : List It} {o : List I2} {i : Nat} (h : i < o.length) : kept few (o.take (i + 1)) = kept few (o.take i) ++ oneI (hitN few (o.getD i (0, 0))) (o.getD i (0, 0)) := by
  unfold kept oneI
  rw [take_snocT (d := ((0, 0) : I2)) h, List.filter_append]
  congr 1
  generalize o.getD i (0, 0) = a
  cases hh : hitN few a <;> simp [List.filter, hh]
theorem oneI_len (b : Bool) (a : I2) : (oneI b a).length ≤ 1 := by cases b <;> simp [oneI]
theorem id_beqT (x a : I2) : (x.1 == a.1 && (x.2 == a.2 && true)) = (x == a) := by
  obtain ⟨x1, x2⟩ := x
  obtain ⟨a1, a2⟩ := a
  rw [Bool.eq_iff_iff]
  simp
theorem thangs_c (l : List It) (picks : List Int) (n : Int) (hl : l.length ≤ 1048576) (hpl : picks.length ≤ 1048576) (hpi : ∀ x, x ∈ picks → i64L x) (hn : i64L n) : CallV Try.prog 6 [itS l, nmS picks, vci .i64 n] [] (fun r own' => own' = [] ∧ r = vcb true) := by
  refine callV_pure Try.func6 rfl ttok ftok rfl rfl rfl (Nat.le_of_ble_eq_true rfl) ?_
  conv => whnf
  refine call_pure up_c rfl ?_
  rintro _ rfl
  conv => whnf
  refine onB_intro (fun g => ?_) (fun g => ?_)
  · conv => whnf
    all_goals first | rfl | exact ⟨rfl, rfl⟩
  have g := of_decide_eq_false g
  have hl2 : l.length ≤ 40 := by omega
  conv => whnf
  refine call_pure (known0_c l (by omega)) rfl ?_
  rintro _ ⟨K, hK, hP, hV, rfl⟩
  obtain ⟨hs, hsK, ho, hb, hc⟩ := hs_all hP
  have hil := itsH_len hs
  rw [hsK] at hil
  have hord := order_c ho hb (by omega)
  rw [hsK] at hord
  conv => whnf
  refine call_pure hord rfl ?_
  rintro _ ⟨o, hO, rfl⟩
  have hol : o.length = K.length := by
    have := hO.perm.length_eq
    unfold idsH at this
    rw [this, List.length_map, hil]
  conv => whnf
  rw [show ((o.length : Int) != (K.length : Int)) = false from by rw [hol]; exact bne_self_eq_false _]
  conv => whnf
  refine ⟨⟨by omega, by show (0 + K.length) * 28 ≤ _; omega⟩, ?_⟩
  conv => whnf
  refine ⟨K.length, itR K, by omega, fun k hk => by omega, fun k hk => by rw [Nat.zero_add], ?_⟩
  conv => whnf
  refine loopV_frz [1] ?_
  conv => whnf
  refine ⟨fun _ _ => rfl, ?_⟩
  refine loopV_cut 0 (fun st => ∃ other : List It, knP other ∧ other.Perm K ∧ st = ⟨153, 0, [(2, vci .i64 n), (7, vcb true), (9, idS o), (11, itS other)], []⟩) ?_ ?_
  · refine loopV (n := K.length) (st1 := ⟨153, 0, thE o picks n K [] 0 [], []⟩) ttok ftok (thA K o picks n) ((nil_sl 11 7 (itR []) rfl).trans (norm_weak [1, 2, 7, 9, 10, 11, 12] [] rfl rfl)) ⟨[], K, rfl, fun i hi => (by cases hi), List.Perm.refl _, rfl⟩ ?_
    rintro m st ⟨other, rest, rfl, hko, hp, rfl⟩
    have hlen := hp.length_eq
    rw [List.length_append] at hlen
    have e1 := e64 (k := other.length) (by omega)
    conv => whnf
    refine onB_intro (fun g => ?_) (fun g => ?_)
    rotate_left
    · have g := of_decide_eq_false g
      obtain rfl := List.eq_nil_of_length_eq_zero (show rest.length = 0 by omega)
      rw [List.append_nil] at hp
      conv => whnf
      exact ⟨rfl, _, norm_weak [2, 7, 9, 11] [] rfl rfl, other, hko, hp, rfl⟩
    have g := of_decide_eq_true g
    have hr0 : 0 < rest.length := by omega
    conv => whnf
    refine onB_intro (fun h2 => ?_) (fun h2 => ?_)
    · have h2 := of_decide_eq_true h2
      have hil2 : other.length < picks.length := by omega
      have hpk2 := hpi _ (getD_mem (d := 0) hil2)
      obtain ⟨p, hp1, hpe⟩ := mod_atT hr0 (picks.getD other.length 0)
      have hpc := pick_c (picks.getD other.length 0) rest.length hpk2 (by omega)
      rw [hpe] at hpc
      conv => whnf
      refine ⟨⟨by omega, by omega⟩, ?_⟩
      conv => whnf
      rw [ti_nat]
      refine call_pure hpc rfl ?_
      rintro _ rfl
      conv => whnf
      refine loopV_cut 2 (fun st => ∃ a : Nat, a < rest.length ∧ knA other (rest.getD a it0) ∧ st = ⟨153, 0, thE o picks n (outA rest a) (other ++ [rest.getD a it0]) other.length [], []⟩) ?_ ?_
      · refine loopV (n := rest.length) (st1 := ⟨153, 0, thE o picks n rest other other.length [(13, vci .i64 (p : Int)), (14, vci .i64 ((0 : Nat) : Int))], []⟩) ttok ftok (thB o picks n rest other p) (norm_weak [1, 2, 7, 9, 10, 11, 12, 13, 14] [] rfl rfl) ⟨0, rfl, Nat.zero_le _, fun q hq => by omega, rfl⟩ ?_
        rintro m st ⟨k, rfl, hk, hno, rfl⟩
        have e2 := e64 (k := k) (by omega)
        conv => whnf
        refine onB_intro (fun g => ?_) (fun g => ?_)
        rotate_left
        · exfalso
          have g := of_decide_eq_false g
          obtain ⟨t, ht, hok⟩ := some_kn hP hp hr0
          obtain ⟨q, hq, e⟩ := try_all hp1 ht
          exact hno q (by omega) (by rw [e]; exact hok)
        have g := of_decide_eq_true g
        have hkl : k < rest.length := by omega
        obtain ⟨a, hal, hae, hrem⟩ : ∃ a : Nat, a < rest.length ∧ (p + k) % rest.length = a ∧ (IntKind.i64.wrap ((p : Int) + (k : Int))).tmod (rest.length : Int) = (a : Int) := by
          refine ⟨_, Nat.mod_lt (p + k) hr0, rfl, ?_⟩
          rw [show IntKind.i64.wrap ((p : Int) + (k : Int)) = ((p + k : Nat) : Int) from by rw [w_i64 (by omega) (by omega)]; omega]
          exact (Int.ofNat_tmod _ _).symm
        have hnew : ¬ knA other (rest.getD a it0) → ∀ q, q < k + 1 → ¬ knA other (rest.getD ((p + q) % rest.length) it0) := fun h q hq => by
          rcases Nat.lt_succ_iff_lt_or_eq.1 hq with h4 | rfl
          · exact hno q h4
          · rw [hae]; exact h
        clear hae
        have hkn := tknown_c (other ++ [rest.getD a it0]) (by rw [List.length_append, List.length_singleton]; omega)
        have hol2 : (other ++ [rest.getD a it0]).length = other.length + 1 := by rw [List.length_append]; rfl
        conv => whnf
        refine ⟨by omega, ?_⟩
        refine Eq.mpr (congrArg _ (show (vci .i64 ((IntKind.i64.wrap ((p : Int) + (k : Int))).tmod (rest.length : Int)) : AV) = vci .i64 (a : Int) from by rw [hrem])) ?_
        clear hrem
        conv => whnf
        refine drawV_at ⟨153, 0, thE o picks n rest other other.length [(13, vci .i64 (p : Int)), (14, vci .i64 (k : Int)), (15, vci .i64 (a : Int)), (16, .c (.row 0))], [some (.row 66 7 (other ++ [rest.getD a it0]).length (itR (other ++ [rest.getD a it0])))]⟩ ?_ ?_
        · clear hnew hno hkn
          refine drawV_sched (.rd 1 (.rd 3 (.rd 4 (.rd 5 (.rd 6 (.alt (.ef 0 (.alt (.ef 2 (.ef 7 (.ef 8 (.rd 9 (.nil))))) (.ef 7 (.ef 2 (.ef 8 (.rd 9 (.nil))))))) (.ef 7 (.ef 0 (.ef 2 (.ef 8 (.rd 9 (.nil)))))))))))) [0, 1, 2, 3] mixed (by kernel_rfl) ttok ftok ?_
          conv => whnf
          repeat' first
            | (refine ⟨⟨by omega, by omega⟩, ?_⟩; conv => whnf)
            | (refine ⟨fun _ => itF (rest.getD a it0), fun j hj2 => (by obtain rfl : j = 0 := (by omega); rfl), ?_⟩; conv => whnf)
            | (refine ⟨⟨by omega, by show (0 + List.length other) * 28 ≤ _; omega⟩, ?_⟩; conv => whnf)
            | (refine ⟨⟨by show List.length other + 1 ≤ _; omega, by show (List.length other + 1) * 28 ≤ _; omega⟩, ?_⟩; conv => whnf)
            | (refine app_list (enc := itF) (d := it0) (l := []) (b := other) (fun k hk => by cases hk) (fun k hk => rfl) ?_; conv => whnf)
            | (refine app1 (enc := itF) (d := it0) (l := other) (rest.getD a it0) (fun k hk => rfl) rfl ?_; conv => whnf)
            | exact norm_weak [1, 2, 7, 9, 10, 11, 12, 13, 14, 15, 16] [some 3] rfl rfl
            | (refine ⟨?_, ?_⟩ <;> (conv => whnf))
        · conv => whnf
          refine ⟨fun _ _ => rfl, ?_⟩
          conv => whnf
          refine call_pure hkn rfl ?_
          rintro _ ⟨b, hb1, rfl⟩
          cases b with
          | false =>
            have hno2 : ¬ knA other (rest.getD a it0) := fun h => by have := hb1.2 ((knP_snoc hko).2 h); cases this
            conv => whnf
            rw [e2]
            exact ⟨rest.length - (k + 1), _, by omega, norm_weak [1, 2, 7, 9, 10, 11, 12, 13, 14] [] rfl rfl, k + 1, rfl, by omega, hnew hno2, rfl⟩
          | true =>
            have hka : knA other (rest.getD a it0) := (knP_snoc hko).1 (hb1.1 rfl)
            have hol := outA_len hal
            conv => whnf
            refine drawV_at ⟨153, 0, [(1, nmS picks), (2, vci .i64 n), (7, vcb true), (9, idS o), (10, .c (.row 0)), (11, itS (other ++ [rest.getD a it0])), (12, vci .i64 (other.length : Int))], [some (.row 66 7 (outA rest a).length (itR (outA rest a)))]⟩ ?_ ?_
            · clear hnew hno hkn
              refine drawV_sched (.rd 1 (.rd 2 (.rd 3 (.rd 5 (.rd 6 (.rd 7 (.rd 8 (.ef 0 (.ef 4 (.ef 9 (.rd 10 (.nil)))))))))))) [1, 2, 3] mixed (by kernel_rfl) ttok ftok ?_
              conv => whnf
              have htl : (rest.take a).length = a := by rw [List.length_take]; omega
              have hdr : (rest.drop (a + 1)).length = rest.length - (a + 1) := List.length_drop
              have hw : IntKind.i64.wrap ((a : Int) + 1) = ((a + 1 : Nat) : Int) := by rw [w_i64 (by omega) (by omega)]; omega
              refine ⟨⟨by omega, by omega, by omega, by omega⟩, ?_⟩
              refine ⟨(rest.take a).length, itR (rest.take a), by rw [htl, ti_nat]; rfl, fun q hq => ?_, ?_⟩
              · show itF _ = itF (rest.getD (Int.toNat 0 + q) it0)
                rw [getD_take _ _ _ _ (by omega), show Int.toNat 0 + q = q from Nat.zero_add q]
              conv => whnf
              refine ⟨⟨by rw [hw]; omega, by rw [hw]; omega, by omega, by omega⟩, ?_⟩
              refine ⟨(rest.drop (a + 1)).length, itR (rest.drop (a + 1)), by rw [hw, ti_nat, ti_nat]; omega, fun q hq => ?_, ?_⟩
              · show itF _ = itF (rest.getD ((IntKind.i64.wrap ((a : Int) + 1)).toNat + q) it0)
                rw [getD_drop, hw, ti_nat]
              conv => whnf
              refine ⟨⟨by omega, by show (0 + (rest.take a).length) * 28 ≤ _; omega⟩, ?_⟩
              conv => whnf
              refine ⟨(rest.take a).length, itR (rest.take a), by omega, fun k hk => by omega, fun k hk => by rw [Nat.zero_add], ?_⟩
              conv => whnf
              refine ⟨⟨by omega, by show ((rest.take a).length + (rest.drop (a + 1)).length) * 28 ≤ _; omega⟩, ?_⟩
              conv => whnf
              refine app_list (enc := itF) (d := it0) (l := rest.take a) (b := rest.drop (a + 1)) (fun k hk => rfl) (fun k hk => rfl) ?_
              conv => whnf
              exact norm_weak [1, 2, 7, 9, 10, 11, 12] [some 3] rfl rfl
            · conv => whnf
              refine ⟨rfl, frz_exit [0] ?_⟩
              conv => whnf
              refine ⟨fun _ _ => rfl, ?_⟩
              exact ⟨_, norm_weak [1, 2, 7, 9, 10, 11, 12] [] rfl rfl, a, hal, hka, rfl⟩
      · rintro st ⟨a, hal, hka, rfl⟩
        have hol := outA_len hal
        have hol2 : (other ++ [rest.getD a it0]).length = other.length + 1 := by rw [List.length_append]; rfl
        conv => whnf
        rw [e1]
        rw [show ((((other ++ [rest.getD a it0]).length : Nat) : Int) != ((other.length + 1 : Nat) : Int)) = false from by rw [hol2]; exact bne_self_eq_false _]
        conv => whnf
        rw [e1]
        refine ⟨(outA rest a).length, _, by omega, norm_weak [1, 2, 7, 9, 10, 11, 12] [] rfl rfl, other ++ [rest.getD a it0], outA rest a, rfl, (knP_snoc hko).2 hka, ?_, by rw [← hol2]; rfl⟩
        rw [List.append_assoc]
        exact ((outA_perm hal).symm.append_left other).trans hp
    · have hp1 : (0 : Nat) < rest.length := hr0
      conv => whnf
      refine loopV_cut 2 (fun st => ∃ a : Nat, a < rest.length ∧ knA other (rest.getD a it0) ∧ st = ⟨153, 0, thE o picks n (outA rest a) (other ++ [rest.getD a it0]) other.length [], []⟩) ?_ ?_
      · refine loopV (n := rest.length) (st1 := ⟨153, 0, thE o picks n rest other other.length [(13, vci .i64 ((0 : Nat) : Int)), (14, vci .i64 ((0 : Nat) : Int))], []⟩) ttok ftok (thB o picks n rest other (0 : Nat)) (norm_weak [1, 2, 7, 9, 10, 11, 12, 13, 14] [] rfl rfl) ⟨0, rfl, Nat.zero_le _, fun q hq => by omega, rfl⟩ ?_
        rintro m st ⟨k, rfl, hk, hno, rfl⟩
        have e2 := e64 (k := k) (by omega)
        conv => whnf
        refine onB_intro (fun g => ?_) (fun g => ?_)
        rotate_left
        · exfalso
          have g := of_decide_eq_false g
          obtain ⟨t, ht, hok⟩ := some_kn hP hp hr0
          obtain ⟨q, hq, e⟩ := try_all hp1 ht
          exact hno q (by omega) (by rw [e]; exact hok)
        have g := of_decide_eq_true g
        have hkl : k < rest.length := by omega
        obtain ⟨a, hal, hae, hrem⟩ : ∃ a : Nat, a < rest.length ∧ ((0 : Nat) + k) % rest.length = a ∧ (IntKind.i64.wrap (((0 : Nat) : Int) + (k : Int))).tmod (rest.length : Int) = (a : Int) := by
          refine ⟨_, Nat.mod_lt ((0 : Nat) + k) hr0, rfl, ?_⟩
          rw [show IntKind.i64.wrap (((0 : Nat) : Int) + (k : Int)) = (((0 : Nat) + k : Nat) : Int) from by rw [w_i64 (by omega) (by omega)]; omega]
          exact (Int.ofNat_tmod _ _).symm
        have hnew : ¬ knA other (rest.getD a it0) → ∀ q, q < k + 1 → ¬ knA other (rest.getD (((0 : Nat) + q) % rest.length) it0) := fun h q hq => by
          rcases Nat.lt_succ_iff_lt_or_eq.1 hq with h4 | rfl
          · exact hno q h4
          · rw [hae]; exact h
        clear hae
        have hkn := tknown_c (other ++ [rest.getD a it0]) (by rw [List.length_append, List.length_singleton]; omega)
        have hol2 : (other ++ [rest.getD a it0]).length = other.length + 1 := by rw [List.length_append]; rfl
        conv => whnf
        refine ⟨by omega, ?_⟩
        refine Eq.mpr (congrArg _ (show (vci .i64 ((IntKind.i64.wrap (((0 : Nat) : Int) + (k : Int))).tmod (rest.length : Int)) : AV) = vci .i64 (a : Int) from by rw [hrem])) ?_
        clear hrem
        conv => whnf
        refine drawV_at ⟨153, 0, thE o picks n rest other other.length [(13, vci .i64 ((0 : Nat) : Int)), (14, vci .i64 (k : Int)), (15, vci .i64 (a : Int)), (16, .c (.row 0))], [some (.row 66 7 (other ++ [rest.getD a it0]).length (itR (other ++ [rest.getD a it0])))]⟩ ?_ ?_
        · clear hnew hno hkn
          refine drawV_sched (.rd 1 (.rd 3 (.rd 4 (.rd 5 (.rd 6 (.alt (.ef 0 (.alt (.ef 2 (.ef 7 (.ef 8 (.rd 9 (.nil))))) (.ef 7 (.ef 2 (.ef 8 (.rd 9 (.nil))))))) (.ef 7 (.ef 0 (.ef 2 (.ef 8 (.rd 9 (.nil)))))))))))) [0, 1, 2, 3] mixed (by kernel_rfl) ttok ftok ?_
          conv => whnf
          repeat' first
            | (refine ⟨⟨by omega, by omega⟩, ?_⟩; conv => whnf)
            | (refine ⟨fun _ => itF (rest.getD a it0), fun j hj2 => (by obtain rfl : j = 0 := (by omega); rfl), ?_⟩; conv => whnf)
            | (refine ⟨⟨by omega, by show (0 + List.length other) * 28 ≤ _; omega⟩, ?_⟩; conv => whnf)
            | (refine ⟨⟨by show List.length other + 1 ≤ _; omega, by show (List.length other + 1) * 28 ≤ _; omega⟩, ?_⟩; conv => whnf)
            | (refine app_list (enc := itF) (d := it0) (l := []) (b := other) (fun k hk => by cases hk) (fun k hk => rfl) ?_; conv => whnf)
            | (refine app1 (enc := itF) (d := it0) (l := other) (rest.getD a it0) (fun k hk => rfl) rfl ?_; conv => whnf)
            | exact norm_weak [1, 2, 7, 9, 10, 11, 12, 13, 14, 15, 16] [some 3] rfl rfl
            | (refine ⟨?_, ?_⟩ <;> (conv => whnf))
        · conv => whnf
          refine ⟨fun _ _ => rfl, ?_⟩
          conv => whnf
          refine call_pure hkn rfl ?_
          rintro _ ⟨b, hb1, rfl⟩
          cases b with
          | false =>
            have hno2 : ¬ knA other (rest.getD a it0) := fun h => by have := hb1.2 ((knP_snoc hko).2 h); cases this
            conv => whnf
            rw [e2]
            exact ⟨rest.length - (k + 1), _, by omega, norm_weak [1, 2, 7, 9, 10, 11, 12, 13, 14] [] rfl rfl, k + 1, rfl, by omega, hnew hno2, rfl⟩
          | true =>
            have hka : knA other (rest.getD a it0) := (knP_snoc hko).1 (hb1.1 rfl)
            have hol := outA_len hal
            conv => whnf
            refine drawV_at ⟨153, 0, [(1, nmS picks), (2, vci .i64 n), (7, vcb true), (9, idS o), (10, .c (.row 0)), (11, itS (other ++ [rest.getD a it0])), (12, vci .i64 (other.length : Int))], [some (.row 66 7 (outA rest a).length (itR (outA rest a)))]⟩ ?_ ?_
            · clear hnew hno hkn
              refine drawV_sched (.rd 1 (.rd 2 (.rd 3 (.rd 5 (.rd 6 (.rd 7 (.rd 8 (.ef 0 (.ef 4 (.ef 9 (.rd 10 (.nil)))))))))))) [1, 2, 3] mixed (by kernel_rfl) ttok ftok ?_
              conv => whnf
              have htl : (rest.take a).length = a := by rw [List.length_take]; omega
              have hdr : (rest.drop (a + 1)).length = rest.length - (a + 1) := List.length_drop
              have hw : IntKind.i64.wrap ((a : Int) + 1) = ((a + 1 : Nat) : Int) := by rw [w_i64 (by omega) (by omega)]; omega
              refine ⟨⟨by omega, by omega, by omega, by omega⟩, ?_⟩
              refine ⟨(rest.take a).length, itR (rest.take a), by rw [htl, ti_nat]; rfl, fun q hq => ?_, ?_⟩
              · show itF _ = itF (rest.getD (Int.toNat 0 + q) it0)
                rw [getD_take _ _ _ _ (by omega), show Int.toNat 0 + q = q from Nat.zero_add q]
              conv => whnf
              refine ⟨⟨by rw [hw]; omega, by rw [hw]; omega, by omega, by omega⟩, ?_⟩
              refine ⟨(rest.drop (a + 1)).length, itR (rest.drop (a + 1)), by rw [hw, ti_nat, ti_nat]; omega, fun q hq => ?_, ?_⟩
              · show itF _ = itF (rest.getD ((IntKind.i64.wrap ((a : Int) + 1)).toNat + q) it0)
                rw [getD_drop, hw, ti_nat]
              conv => whnf
              refine ⟨⟨by omega, by show (0 + (rest.take a).length) * 28 ≤ _; omega⟩, ?_⟩
              conv => whnf
              refine ⟨(rest.take a).length, itR (rest.take a), by omega, fun k hk => by omega, fun k hk => by rw [Nat.zero_add], ?_⟩
              conv => whnf
              refine ⟨⟨by omega, by show ((rest.take a).length + (rest.drop (a + 1)).length) * 28 ≤ _; omega⟩, ?_⟩
              conv => whnf
              refine app_list (enc := itF) (d := it0) (l := rest.take a) (b := rest.drop (a + 1)) (fun k hk => rfl) (fun k hk => rfl) ?_
              conv => whnf
              exact norm_weak [1, 2, 7, 9, 10, 11, 12] [some 3] rfl rfl
            · conv => whnf
              refine ⟨rfl, frz_exit [0] ?_⟩
              conv => whnf
              refine ⟨fun _ _ => rfl, ?_⟩
              exact ⟨_, norm_weak [1, 2, 7, 9, 10, 11, 12] [] rfl rfl, a, hal, hka, rfl⟩
      · rintro st ⟨a, hal, hka, rfl⟩
        have hol := outA_len hal
        have hol2 : (other ++ [rest.getD a it0]).length = other.length + 1 := by rw [List.length_append]; rfl
        conv => whnf
        rw [e1]
        rw [show ((((other ++ [rest.getD a it0]).length : Nat) : Int) != ((other.length + 1 : Nat) : Int)) = false from by rw [hol2]; exact bne_self_eq_false _]
        conv => whnf
        rw [e1]
        refine ⟨(outA rest a).length, _, by omega, norm_weak [1, 2, 7, 9, 10, 11, 12] [] rfl rfl, other ++ [rest.getD a it0], outA rest a, rfl, (knP_snoc hko).2 hka, ?_, by rw [← hol2]; rfl⟩
        rw [List.append_assoc]
        exact ((outA_perm hal).symm.append_left other).trans hp
  · rintro st ⟨other, hko, hp, rfl⟩
    conv => whnf
    obtain ⟨hs2, hsK2, ho2, hb2, hc2⟩ := hs_all hko
    have hil2 := itsH_len hs2
    rw [hsK2] at hil2
    have hlen := hp.length_eq
    have hord2 := order_c ho2 hb2 (by omega)
    rw [hsK2] at hord2
    refine call_pure hord2 rfl ?_
    rintro _ ⟨o2, hO2, rfl⟩
    obtain rfl : o = o2 := ord_same ho hb hc ho2 hb2 hc2 (fun p h => mem_its.1 (by rw [hsK2]; exact hp.mem_iff.2 (by rw [← hsK]; exact mem_its.2 ⟨p.2, h⟩))) (fun p h => mem_its.1 (by rw [hsK]; exact hp.mem_iff.1 (by rw [← hsK2]; exact mem_its.2 ⟨p.2, h⟩))) hO hO2
    clear hord hord2
    conv => whnf
    refine call_pure (sameids_c o (by omega)) rfl ?_
    rintro _ rfl
    conv => whnf
    have hwr := e64 (k := other.length) (by omega)
    obtain ⟨j, hj0, hje⟩ := mod_atT (n := other.length + 1) (by omega) n
    have hjo : j ≤ other.length := by omega
    have hpc := pick_c n ((other.length + 1 : Nat) : Int) hn (by omega)
    rw [hje] at hpc
    rw [hwr]
    refine call_pure hpc rfl ?_
    rintro _ rfl
    conv => whnf
    have hfl : (other.take j).length = j := by rw [List.length_take]; omega
    refine ⟨⟨by omega, by omega, by omega, by omega⟩, (other.take j).length, itR (other.take j), by rw [hfl, ti_nat]; rfl, fun q hq => (by show itF _ = itF (other.getD (Int.toNat 0 + q) it0); rw [getD_take _ _ _ _ (by omega), show Int.toNat 0 + q = q from Nat.zero_add q]), ?_⟩
    conv => whnf
    obtain ⟨few, hfe⟩ : ∃ few, few = other.take j := ⟨_, rfl⟩
    rw [← hfe] at hfl ⊢
    have hkf : knP few := by rw [hfe]; exact knP_takeT hko j
    refine loopV_cut 4 (fun st => st = ⟨153, 0, [(7, vcb true), (17, vcb true), (18, itS few), (19, idS (kept few o))], []⟩) ?_ ?_
    · refine loopV (n := o.length) (st1 := ⟨153, 0, [(7, vcb true), (9, idS o), (17, vcb true), (18, itS few), (19, .c (.row 0)), (20, vci .i64 ((0 : Nat) : Int))], [some (.row 39 2 0 (idR []))]⟩) ttok ftok (thC o few) ((nil_row 19 39 2 (idR []) rfl).trans (norm_weak [7, 9, 17, 18, 19, 20] [some 0] rfl rfl)) ⟨0, rfl, Nat.zero_le _, Nat.zero_le _, rfl⟩ ?_
      rintro m st ⟨i, rfl, hi, hki, rfl⟩
      have e1 := e64 (k := i) (by omega)
      conv => whnf
      refine onB_intro (fun g => ?_) (fun g => ?_)
      rotate_left
      · have g := of_decide_eq_false g
        obtain rfl : i = o.length := by omega
        conv => whnf
        refine ⟨rfl, frz_exit [0] ?_⟩
        conv => whnf
        refine ⟨fun _ _ => rfl, ?_⟩
        refine ⟨_, norm_weak [7, 17, 18, 19] [] rfl rfl, ?_⟩
        rw [List.take_length]
        rfl
      have g := of_decide_eq_true g
      have hil : i < o.length := by omega
      conv => whnf
      refine loopV_cut 6 (fun st => st = ⟨153, 0, [(7, vcb true), (9, idS o), (17, vcb true), (18, itS few), (19, .c (.row 0)), (20, vci .i64 (i : Int))], [some (.row 39 2 (kept few (o.take (i + 1))).length (idR (kept few (o.take (i + 1)))))]⟩) ?_ ?_
      · refine loopV (n := few.length) (st1 := ⟨153, 0, [(7, vcb true), (9, idS o), (17, vcb true), (18, itS few), (19, .c (.row 0)), (20, vci .i64 (i : Int)), (21, vci .i64 ((0 : Nat) : Int))], [some (.row 39 2 (kept few (o.take i)).length (idR (kept few (o.take i))))]⟩) ttok ftok (thD o few i) (norm_weak [7, 9, 17, 18, 19, 20, 21] [some 0] rfl rfl) ⟨0, kept few (o.take i), rfl, Nat.zero_le _, by rw [List.take_zero, show hitN [] (o.getD i (0, 0)) = false from rfl, show oneI false (o.getD i (0, 0)) = [] from rfl, List.append_nil], rfl⟩ ?_
        rintro m st ⟨k, cur, rfl, hk, hcur, rfl⟩
        have hcl : cur.length ≤ i + 1 := by
          rw [hcur, List.length_append]
          have := oneI_len (hitN (few.take k) (o.getD i (0, 0))) (o.getD i (0, 0))
          omega
        have e2 := e64 (k := k) (by omega)
        conv => whnf
        refine onB_intro (fun g => ?_) (fun g => ?_)
        rotate_left
        · have g := of_decide_eq_false g
          obtain rfl : k = few.length := by omega
          conv => whnf
          refine ⟨rfl, _, norm_weak [7, 9, 17, 18, 19, 20] [some 0] rfl rfl, ?_⟩
          rw [hcur, List.take_length, ← kept_snoc hil]
          rfl
        have g := of_decide_eq_true g
        have hkl : k < few.length := by omega
        conv => whnf
        refine drawV_join mixed (by kernel_rfl) ttok ?_
        conv => whnf
        refine ⟨⟨by omega, by omega⟩, ?_⟩
        conv => whnf
        refine ⟨⟨by omega, by omega⟩, ?_⟩
        conv => whnf
        simp only [ti_nat]
        rw [id_beqT]
        have hsn := hitN_snoc hkl (o.getD i (0, 0))
        by_cases hh : (few.getD k it0).id = o.getD i (0, 0)
        · have h0 : hitN (few.take k) (o.getD i (0, 0)) = false := by rw [← hh]; exact hitN_hit hkf hkl
          rw [h0] at hcur hsn
          rw [beq_iff_eq.2 hh] at hsn ⊢
          conv => whnf
          refine ⟨by omega, ?_⟩
          conv => whnf
          rw [ti_nat]
          refine ⟨fun _ => idF (o.getD i (0, 0)), fun j hj2 => (by obtain rfl : j = 0 := (by omega); rfl), ?_⟩
          conv => whnf

          refine ⟨⟨by show List.length cur + 1 ≤ _; omega, by show (List.length cur + 1) * 8 ≤ _; omega⟩, ?_⟩
          conv => whnf
          refine app1 (enc := idF) (d := (0, 0)) (l := cur) (o.getD i (0, 0)) (fun k hk => rfl) rfl ?_
          conv => whnf
          rw [e2]
          refine ⟨few.length - (k + 1), _, by omega, norm_weak [7, 9, 17, 18, 19, 20, 21] [some 2] rfl rfl, k + 1, cur ++ [o.getD i (0, 0)], rfl, by omega, ?_, rfl⟩
          rw [hsn, hcur, show oneI false (o.getD i (0, 0)) = [] from rfl, List.append_nil]
          rfl
        · rw [beq_eq_false_iff_ne.2 hh] at hsn ⊢
          rw [Bool.or_false] at hsn
          conv => whnf
          rw [e2]
          exact ⟨few.length - (k + 1), _, by omega, norm_weak [7, 9, 17, 18, 19, 20, 21] [some 0] rfl rfl, k + 1, cur, rfl, by omega, by rw [hsn]; exact hcur, rfl⟩
      · rintro st rfl
        conv => whnf
        rw [e1]
        refine ⟨o.length - (i + 1), _, by omega, norm_weak [7, 9, 17, 18, 19, 20] [some 0] rfl rfl, i + 1, rfl, by omega, ?_, rfl⟩
        rw [kept_snoc hil, List.length_append]
        have := oneI_len (hitN few (o.getD i (0, 0))) (o.getD i (0, 0))
        omega
    · rintro st rfl
      have hle2 : j ≤ hs2.length := by omega
      have hoF := okH_drop (hs2.length - j) ho2
      have hbF := bldH_drop (hs2.length - j) hb2
      have hFl : (hs2.drop (hs2.length - j)).length = j := by rw [List.length_drop]; omega
      have hfi : itsH (hs2.drop (hs2.length - j)) = few := by rw [hfe, ← hsK2]; exact firstH_its hle2
      have hord3 := order_c hoF hbF (by omega)
      rw [hfi] at hord3
      conv => whnf
      refine call_pure hord3 rfl ?_
      rintro _ ⟨o3, hO3, rfl⟩
      have hkeq : kept few o = o3 := by
        refine ord_first (j := j) ho2 hO2 hO3 List.filter_sublist (fun a => ?_)
        unfold kept
        rw [List.mem_filter]
        unfold hitN
        rw [List.any_eq_true]
        constructor
        · rintro ⟨h1, x, hx, e⟩
          have hxs : x ∈ itsH (hs2.drop (hs2.length - j)) := by rw [hfi]; exact hx
          obtain ⟨g, hg⟩ := mem_its.1 hxs
          exact ⟨(x, g), hg, by simpa using e⟩
        · rintro ⟨⟨x, g⟩, hg, rfl⟩
          refine ⟨hO2.has.2 ⟨(x, g), List.mem_of_mem_drop hg, rfl⟩, x, ?_, by simp⟩
          rw [← hfi]
          exact mem_its.2 ⟨g, hg⟩
      have ho3l : o3.length = few.length := by
        have := hO3.perm.length_eq
        unfold idsH at this
        rw [this, List.length_map, hFl, hfl]
      rw [hkeq]
      conv => whnf
      refine call_pure (sameids_c o3 (by omega)) rfl ?_
      rintro _ rfl
      conv => whnf
      rw [ho3l, beq_self_eq_true]
      rfl
theorem rd_nmsX {B d : Nat} {a : AV} (h : RdA tt B (d + 2) 61 a) : ∃ l : List Int, l.length ≤ B ∧ (∀ x, x ∈ l → i64L x) ∧ ∀ (L : Nat → Value) (hp : Hp) v, DenA L hp a v → DenA L hp (nmS l) v := by
  obtain ⟨c, ⟨n, f, hn, hf, e⟩, rfl⟩ := h
  cases e
  obtain ⟨l, hl, hf2, hR⟩ := list_of (enc := fun x : Int => [vi x]) (R := i64L) 0 (fun k hk => by obtain ⟨v, wv, hx⟩ := hf k hk; exact ⟨v, wf_i64 wv, hx⟩)
  refine ⟨l, by omega, fun s hs => ?_, fun L hp v hd => ?_⟩
  · obtain ⟨j, hj, rfl⟩ := mem_getDl (d := (0 : Int)) hs
    exact hR j (by omega)
  subst hl
  exact den_sl_ext hd (fun k hk => (hf2 k hk).symm)
theorem treeHangs_law : ∀ avs, RdArgs tt 1048576 30 [60, 61, 3] avs → CallV Try.prog 6 avs [] (fun r own' => own' = [] ∧ r = vcb true) := by
  rintro avs ⟨a0, r0, h0, ⟨a1, r1, h1, ⟨a2, r2, h2, rfl, rfl⟩, rfl⟩, rfl⟩
  obtain ⟨L, hL, hdL⟩ := rd_itsX h0
  obtain ⟨g, hg, hgi, hdg⟩ := rd_nmsX h1
  obtain ⟨c2, ⟨n, wn, e2⟩, rfl⟩ := h2
  cases e2
  refine callV_args (argsLe_cons hdL (argsLe_cons hdg (argsLe_refl _))) ?_
  exact thangs_c L g n hL hg hgi (wf_i64 wn)
end Go.Eng
