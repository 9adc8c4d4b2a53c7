/- A part of the proof: what the functions of the program come to, told by a small reckoner of states. -/
import Derived.Test.YteglopjljejjkaaDoorA7
set_option linter.unusedVariables false
set_option linter.unusedSimpArgs false
namespace Go.Eng
open Go Go.RowKit

/-- Where own object i goes. -/
def idx? : List (Option Nat) → Nat → Option Nat
  | [], _ => none
  | none :: r, i => match idx? r i with | some j => some (j + 1) | none => none
  | some x :: r, i => match Nat.beq x i with | true => some 0 | false => match idx? r i with | some j => some (j + 1) | none => none
def nodupB : List (Option Nat) → Bool
  | [] => true
  | none :: r => nodupB r
  | some x :: r => (match idx? r x with | none => true | some _ => false) && nodupB r
def renT (ob : List (Option Nat)) : IC → IC
  | .own i off => match idx? ob i with | some j => .own j off | none => .any
  | .row i => match idx? ob i with | some j => .row j | none => .any
  | .rel i sz k off => match idx? ob i with | some j => .rel j sz k off | none => .any
  | .view i sz k n c => match idx? ob i with | some j => .view j sz k n c | none => .any
  | .mp i => match idx? ob i with | some j => .mp j | none => .any
  | .ifc t c => match clo0 c with | true => .ifc t c | false => .any
  | .fn f cs => match cs.all (fun x => x.2.all clo0) with | true => .fn f cs | false => .any
  | c => c
def sel {α : Type} (L : Nat → α) (ob : List (Option Nat)) (j : Nat) : α := match ob[j]? with | some (some i) => L i | _ => L j
def normEnv (st : St) (s : IC → IC) : List Nat → Option (List (Nat × AV))
  | [] => some []
  | t :: r => match st.env.lookup t, normEnv st s r with
    | some a, some l => some ((t, sbA s a) :: l)
    | _, _ => none
def pickOwn (own : List (Option Ob)) (s : IC → IC) : Option Nat → Option Ob
  | some i => match own[i]? with | some (some o) => some (sbObj s o) | _ => none
  | none => none
def headOk (k : Nat) (ob : List (Option Nat)) : Bool := (List.range k).all fun i => match ob[i]? with | some (some j) => Nat.beq i j | some none => true | none => false
/-- Only these slots, and these objects, under their places in the list. -/
def normSt (slots : List Nat) (ob : List (Option Nat)) (st : St) : Option St :=
  match normEnv st (up (renT ob)) slots, headOk st.k ob with
  | some e, true => some ⟨st.n, st.k, e, ob.map (pickOwn st.own (up (renT ob)))⟩
  | _, _ => none
theorem idx_some : ∀ {ob : List (Option Nat)} {i j : Nat}, idx? ob i = some j → ob[j]? = some (some i)
  | [], i, j, h => by cases h
  | none :: r, i, j, h => by
    unfold idx? at h
    split at h
    · rename_i j' hj
      cases h
      simpa using idx_some hj
    · cases h
  | some x :: r, i, j, h => by
    unfold idx? at h
    split at h
    · rename_i e
      cases h
      have : x = i := Nat.eq_of_beq_eq_true e
      simp [this]
    · split at h
      · rename_i j' hj
        cases h
        simpa using idx_some hj
      · cases h
theorem idx_of : ∀ {ob : List (Option Nat)} {i j : Nat}, ob[j]? = some (some i) → ∃ k, idx? ob i = some k
  | [], i, j, h => by simp at h
  | none :: r, i, j, h => by
    cases j with
    | zero => simp at h
    | succ j =>
      obtain ⟨k, hk⟩ := idx_of (ob := r) (by simpa using h)
      exact ⟨k + 1, by simp [idx?, hk]⟩
  | some x :: r, i, j, h => by
    cases hx : Nat.beq x i with
    | true => exact ⟨0, by simp [idx?, hx]⟩
    | false =>
      cases j with
      | zero =>
        simp at h
        subst h
        simp at hx
      | succ j =>
        obtain ⟨k, hk⟩ := idx_of (ob := r) (by simpa using h)
        exact ⟨k + 1, by simp [idx?, hx, hk]⟩
theorem nodup_inj : ∀ {ob : List (Option Nat)} (hd : nodupB ob = true) {i j x : Nat}, ob[i]? = some (some x) → ob[j]? = some (some x) → i = j
  | [], _, i, j, x, h, _ => by simp at h
  | none :: r, hd, i, j, x, h, k => by
    cases i with
    | zero => simp at h
    | succ i =>
      cases j with
      | zero => simp at k
      | succ j =>
        have := nodup_inj (ob := r) hd (i := i) (j := j) (by simpa using h) (by simpa using k)
        omega
  | some y :: r, hd, i, j, x, h, k => by
    unfold nodupB at hd
    rw [Bool.and_eq_true] at hd
    cases i with
    | zero =>
      cases j with
      | zero => rfl
      | succ j =>
        simp at h
        subst h
        obtain ⟨m, hm⟩ := idx_of (ob := r) (j := j) (by simpa using k)
        rw [hm] at hd
        simp at hd
    | succ i =>
      cases j with
      | zero =>
        simp at k
        subst k
        obtain ⟨m, hm⟩ := idx_of (ob := r) (j := i) (by simpa using h)
        rw [hm] at hd
        simp at hd
      | succ j =>
        have := nodup_inj (ob := r) hd.2 (i := i) (j := j) (by simpa using h) (by simpa using k)
        omega
structure Weak (st st' : St) : Prop where
  out : ∀ {P : Program} [HasGl P] (may : Nat → Prop) (w0 : World) (h0 : Base P) (a : Act) (w : World), Sat may w0 h0 st a w → Sat may w0 h0 st' a w
theorem Weak.refl (st : St) : Weak st st := ⟨fun _ _ _ _ _ h => h⟩
theorem Weak.trans {a b c : St} (h : Weak a b) (k : Weak b c) : Weak a c := ⟨fun m w0 h0 x w hs => k.out m w0 h0 x w (h.out m w0 h0 x w hs)⟩
section
variable {P : Program} {T : TT} {mine may : Nat → Prop} {L : Nat → Value} {F : Nat → Nat → Prop} {h h' : Hp} {st : St} {a : Act} {w w0 : World} {own : List (Option Ob)} {ob : List (Option Nat)}
theorem sel_at {α : Type} {L : Nat → α} {i j : Nat} (h : idx? ob i = some j) : sel L ob j = L i ∧ j < ob.length := by
  have := idx_some h
  refine ⟨?_, (List.getElem?_eq_some_iff.1 this).1⟩
  unfold sel
  rw [this]
theorem ren_ok (L : Nat → Value) (h : Hp) (ob : List (Option Nat)) : SubstOk L (sel L ob) h ⟨h.m, ob.length⟩ (renT ob) := by
  refine ⟨fun c v hd => ?_⟩
  have h1 := hd.one
  cases hd with
  | own i off a k1 k2 =>
    simp only [renT]
    split
    · rename_i j hj
      obtain ⟨e1, e2⟩ := sel_at (L := L) hj
      exact .own _ _ a e2 (e1.trans k2)
    · exact .any _ h1
  | row i A n c k1 k2 =>
    simp only [renT]
    split
    · rename_i j hj
      obtain ⟨e1, e2⟩ := sel_at (L := L) hj
      exact .row _ A n c e2 (e1.trans k2)
    · exact .any _ h1
  | rel i sz k off a k1 k2 k3 =>
    simp only [renT]
    split
    · rename_i j hj
      obtain ⟨e1, e2⟩ := sel_at (L := L) hj
      exact .rel _ _ _ _ a e2 (by rw [e1]; exact k2) (by rw [e1]; exact k3)
    · exact .any _ h1
  | view i sz k n c a b k1 k2 k3 k4 k5 =>
    simp only [renT]
    split
    · rename_i j hj
      obtain ⟨e1, e2⟩ := sel_at (L := L) hj
      exact .view _ _ _ _ _ a b e2 (e1.trans k2) k3 k4 k5
    · exact .any _ h1
  | mp i r k1 k2 =>
    simp only [renT]
    split
    · rename_i j hj
      obtain ⟨e1, e2⟩ := sel_at (L := L) hj
      exact .mp _ r e2 (e1.trans k2)
    · exact .any _ h1
  | ifc t c v hr =>
    simp only [renT]
    split
    · rename_i e; exact (Den.ifc t c v hr).clo _ e
    · exact .any _ h1
  | fn f cs vs g hl hv h2 hr =>
    simp only [renT]
    split
    · rename_i e; exact (Den.fn f cs vs g hl hv h2 hr).clo _ e
    · exact .any _ h1
  | v _ h2 => exact .v _ h2
  | sl sz n f A c ad g hc hm hA hg hl hclo hr => exact (Den.sl sz n f A c ad g hc hm hA hg hl hclo hr).clo _ rfl
  | fp cs ad g hclo hg hr => exact (Den.fp cs ad g hclo hg hr).clo _ rfl
  | any _ h2 => exact .any _ h2
/-- Own cells under one round of the same: captured ones and those in interfaces too. -/
theorem renU_ok (L : Nat → Value) (h : Hp) (ob : List (Option Nat)) : SubstOk L (sel L ob) h ⟨h.m, ob.length⟩ (up (renT ob)) := (ren_ok L h ob).up
theorem normEnv_ok {s : IC → IC} {L' : Nat → Value} (hs : SubstOk L L' h h' s) (ha : Agree L h st a) : ∀ {slots : List Nat} {e : List (Nat × AV)}, normEnv st s slots = some e → ∀ t av, e.lookup t = some av → DenA L' h' av (a.tmps.getD t undef)
  | [], e, hn, t, av, hl => by cases hn; cases hl
  | x :: r, e, hn, t, av, hl => by
    unfold normEnv at hn
    split at hn
    · rename_i a0 l hx hr
      cases hn
      rw [List.lookup_cons] at hl
      by_cases et : t = x
      · subst et
        simp at hl
        subst hl
        exact hs.denA (ha.env t a0 hx)
      · have e' : (t == x) = false := by simpa using et
        rw [e'] at hl
        exact normEnv_ok hs ha hr t av hl
    · cases hn
theorem pick_some {s : IC → IC} {j : Nat} {o' : Ob} (hj : (ob.map (pickOwn own s))[j]? = some (some o')) : ∃ i o, ob[j]? = some (some i) ∧ own[i]? = some (some o) ∧ o' = sbObj s o := by
  rw [List.getElem?_map] at hj
  cases hb : ob[j]? with
  | none => rw [hb] at hj; cases hj
  | some x =>
    rw [hb] at hj
    simp only [Option.map_some, Option.some.injEq] at hj
    cases x with
    | none => cases hj
    | some i =>
      simp only [pickOwn] at hj
      split at hj
      · rename_i o ho
        cases hj
        exact ⟨i, o, rfl, ho, rfl⟩
      · cases hj
theorem mem_norm (hd : nodupB ob = true) (hm : Mem mine L F h own w) : Mem mine (sel L ob) (sel F ob) ⟨h.m, ob.length⟩ (ob.map (pickOwn own (up (renT ob)))) w := by
  have hsel : ∀ {α : Type} (M : Nat → α) (j i : Nat), ob[j]? = some (some i) → sel M ob j = M i := fun M j i hj => by unfold sel; rw [hj]
  refine ⟨by simp, hm.hsub, fun j o' hj => ?_, fun j o' b hj hb => ?_, fun i j oi oj b hi hj hbi hbj => ?_⟩
  · obtain ⟨i, o, h1, h2, rfl⟩ := pick_some hj
    rw [hsel L j i h1, hsel F j i h1]
    exact (renU_ok L h ob).obOk (fun _ _ e => e) (hm.obs i o h2)
  · obtain ⟨i, o, h1, h2, rfl⟩ := pick_some hj
    rw [hsel F j i h1] at hb
    exact hm.foot i o b h2 hb
  · obtain ⟨i', o1, h1, h2, rfl⟩ := pick_some hi
    obtain ⟨j', o2, k1, k2, rfl⟩ := pick_some hj
    rw [hsel F i i' h1] at hbi
    rw [hsel F j j' k1] at hbj
    have := hm.dis i' j' o1 o2 b h2 k2 hbi hbj
    subst this
    exact nodup_inj hd h1 k1
theorem subB_norm [HasGl P] {h0 : Base P} {k : Nat} (hh : headOk k ob = true) (hsub : SubB h0 k L h) : SubB h0 k (sel L ob) ⟨h.m, ob.length⟩ := by
  have key : ∀ i, i < k → ob[i]? = some (some i) ∨ ob[i]? = some none := fun i hi => by
    have := List.all_eq_true.1 hh i (List.mem_range.2 hi)
    split at this
    · rename_i j hj
      have : i = j := Nat.eq_of_beq_eq_true this
      rw [hj, this]; exact .inl rfl
    · rename_i hj; exact .inr hj
    · cases this
  refine ⟨⟨hsub.sub.m, ?_⟩, fun i hi => ?_, hsub.kk⟩
  · rw [← hsub.kk]
    show k ≤ ob.length
    rcases Nat.eq_zero_or_pos k with h0' | hp
    · omega
    · rcases key (k - 1) (by omega) with h1 | h1
      · have := (List.getElem?_eq_some_iff.1 h1).1; omega
      · have := (List.getElem?_eq_some_iff.1 h1).1; omega
  · have hk := hsub.kk
    have : sel L ob i = L i := by
      unfold sel
      rcases key i (by omega) with h1 | h1 <;> rw [h1]
    rw [this]
    exact hsub.at_ i hi
theorem norm_weak (slots : List Nat) (ob : List (Option Nat)) {st st' : St} (hn : normSt slots ob st = some st') (hd : nodupB ob = true) : Weak st st' := by
  refine ⟨fun may w0 h0 a w hs => ?_⟩
  obtain ⟨⟨L, F, h, hm, ha, hsub, hnew⟩, hk⟩ := hs
  unfold normSt at hn
  split at hn
  · rename_i e he hh
    cases hn
    exact ⟨⟨_, _, _, mem_norm hd hm, ⟨ha.size, fun t av ht => normEnv_ok (renU_ok L h ob) ha he t av ht, ha.defers⟩, subB_norm hh hsub, hnew⟩, hk⟩
  · cases hn
/-- A slot that holds nil may be taken for an own row without elements. -/
theorem nil_row (t : Nat) (e : TypeId) (sz : Nat) (f : Nat → List IC) {st : St} (hl : st.env.lookup t = some (.c (.v (.slice none 0 0)))) : Weak st ⟨st.n, st.k, (t, .c (.row st.own.length)) :: st.env, st.own ++ [some (.row e sz 0 f)]⟩ := by
  refine ⟨fun may w0 h0 a w hs => ?_⟩
  obtain ⟨⟨L, F, h, hm, ha, hsub, hnew⟩, hk⟩ := hs
  have hn := hm.hn
  have hL : ∀ i, i < h.n → upd L st.own.length (.slice none 0 0) i = L i := fun i hi => upd_lt (by omega)
  have hm' := mem_push (v := .slice none 0 0) (G := fun _ => False) (ob := .row e sz 0 f) hm ⟨[], World.ownsRow_nil w 0 e sz, (fun b hb => by cases hb), ⟨fun k hk => by omega, fun k hk => by omega⟩⟩ (fun b hb => hb.elim) (fun b hb => hb.elim)
  have ha' : Agree (upd L st.own.length (.slice none 0 0)) (h.more 1) st a := agree_more ha hL (sub_more h 1) rfl rfl
  refine ⟨⟨_, _, _, hm', ⟨ha'.size, fun t' av ht => ?_, ha'.defers⟩, hsub.step hL (sub_more h 1), hnew⟩, hk⟩
  have ht : ((t, AV.c (.row st.own.length)) :: st.env).lookup t' = some av := ht
  rw [List.lookup_cons] at ht
  by_cases et : t' = t
  · subst et
    simp at ht
    subst ht
    have := den_one (ha.env t' _ hl)
    show Den _ _ _ _
    rw [this]
    exact .row _ none 0 0 (by simp [Hp.more, hn]) upd_eq
  · have e' : (t' == t) = false := by simpa using et
    rw [e'] at ht
    exact ha'.env t' av ht
/-- .. and so may a cell of an own object. -/
theorem nil_cell (i j : Nat) (e : TypeId) (sz : Nat) (f : Nat → List IC) {st : St} {t : TypeId} {cs : List IC} (hi : st.own[i]? = some (some (.cells t cs))) (hj : cs[j]? = some (.v (.slice none 0 0))) :
    Weak st ⟨st.n, st.k, st.env, st.own.set i (some (.cells t (cs.set j (.row st.own.length)))) ++ [some (.row e sz 0 f)]⟩ := by
  refine ⟨fun may w0 h0 a w hs => ?_⟩
  obtain ⟨⟨L, F, h, hm, ha, hsub, hnew⟩, hk⟩ := hs
  have hn := hm.hn
  have hil : i < st.own.length := (List.getElem?_eq_some_iff.1 hi).1
  have hL : ∀ i, i < h.n → upd L st.own.length (.slice none 0 0) i = L i := fun i hi => upd_lt (by omega)
  have hm' := mem_push (v := .slice none 0 0) (G := fun _ => False) (ob := .row e sz 0 f) hm ⟨[], World.ownsRow_nil w 0 e sz, (fun b hb => by cases hb), ⟨fun k hk => by omega, fun k hk => by omega⟩⟩ (fun b hb => hb.elim) (fun b hb => hb.elim)
  have hi' : (st.own ++ [some (.row e sz 0 f)])[i]? = some (some (.cells t cs)) := by rw [List.getElem?_append_left hil]; exact hi
  have hm2 := mem_set (w' := w) (ob := .cells t (cs.set j (.row st.own.length))) hm' hi' rfl (fun _ _ => rfl) (by
    obtain ⟨b, vs, e1, e2, e3, e4⟩ := hm'.obs i _ hi'
    refine ⟨b, vs, e1, e2, e3, by rw [List.length_set]; exact e4.1, fun j' c u hc hu => ?_⟩
    rw [List.getElem?_set] at hc
    split at hc
    · rename_i ej
      subst ej
      split at hc
      · cases hc
        have := den_one (e4.2 j _ u hj hu)
        rw [this]
        exact .row _ none 0 0 (by simp [Hp.more, hn]) upd_eq
      · cases hc
    · exact e4.2 j' c u hc hu)
  rw [List.set_append, if_pos hil] at hm2
  exact ⟨⟨_, _, _, hm2, agree_more ha hL (sub_more h 1) rfl rfl, hsub.step hL (sub_more h 1), hnew⟩, hk⟩
/-- A row, told otherwise. -/
theorem row_ext (i : Nat) {st : St} {e : TypeId} {sz n : Nat} {f f' : Nat → List IC} (hi : st.own[i]? = some (some (.row e sz n f))) (hf : ∀ k, k < n → f' k = f k) : Weak st ⟨st.n, st.k, st.env, st.own.set i (some (.row e sz n f'))⟩ := by
  refine ⟨fun may w0 h0 a w hs => ?_⟩
  obtain ⟨⟨L, F, h, hm, ha, hsub, hnew⟩, hk⟩ := hs
  refine ⟨⟨L, F, h, mem_set hm hi rfl (fun _ _ => rfl) ?_, ⟨ha.size, ha.env, ha.defers⟩, hsub, hnew⟩, hk⟩
  obtain ⟨vs, h1, h2, h3⟩ := hm.obs i _ hi
  exact ⟨vs, h1, h2, ⟨fun k hk => by rw [hf k hk]; exact h3.len k hk, fun k hk j c hc => by rw [hf k hk] at hc; exact h3.den k hk j c hc⟩⟩
theorem frz_weak (i : Nat) {st st' : St} (hf : ∀ K : St → Prop, K st' → frzK st i K) : Weak st st' := by
  refine ⟨fun may w0 h0 a w hs => ?_⟩
  obtain ⟨st2, h1, h2⟩ := frz_sat (hf (fun x => x = st') rfl) hs
  subst h2
  exact h1
end
end Go.Eng
