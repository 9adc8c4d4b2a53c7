/- A part of the proof: what the functions of the program come to, told by a small reckoner of states. -/
import Derived.Test.YteglopjljejjkaaEng9
import Derived.LoopN
set_option linter.unusedVariables false
set_option linter.unusedSimpArgs false
namespace Go.Eng
open Go Go.RowKit

/-! ### Forgetting slots and objects; loops -/
structure Weak (st1 st2 : St) : Prop where
  out : ∀ (may : Nat → Prop) (w0 : World) (h0 : Base) (a : Act) (w : World), Sat may w0 h0 st1 a w → Sat may w0 h0 st2 a w
theorem Weak.refl (st : St) : Weak st st := ⟨fun _ _ _ _ _ h => h⟩
theorem Weak.trans {a b c : St} (h : Weak a b) (k : Weak b c) : Weak a c := ⟨fun _ _ _ _ _ s => k.out _ _ _ _ _ (h.out _ _ _ _ _ s)⟩
def idx? (ob : List Nat) (i : Nat) : Option Nat := match ob with
  | [] => none
  | x :: r => match Nat.beq x i with
    | true => some 0
    | false => match idx? r i with
      | some j => some (j + 1)
      | none => none
def renC (ob : List Nat) : Cell → Option Cell
  | .own i off => match idx? ob i with | some j => some (.own j off) | none => none
  | .row i => match idx? ob i with | some j => some (.row j) | none => none
  | .rel i sz k off => match idx? ob i with | some j => some (.rel j sz k off) | none => none
  | c => some c
def renCs (ob : List Nat) : List Cell → Option (List Cell)
  | [] => some []
  | c :: r => match renC ob c, renCs ob r with | some c, some r => some (c :: r) | _, _ => none
def ren1 (ob : List Nat) : AV → Option AV
  | .c x => match renC ob x with | some x => some (.c x) | none => none
  | .agg xs => match renCs ob xs with | some xs => some (.agg xs) | none => none
  | .tup _ => none
def ren1s (ob : List Nat) : List AV → Option (List AV)
  | [] => some []
  | c :: r => match ren1 ob c, ren1s ob r with | some c, some r => some (c :: r) | _, _ => none
def renA (ob : List Nat) : AV → Option AV
  | .tup as => match ren1s ob as with | some as => some (.tup as) | none => none
  | a => ren1 ob a
def renOb (ob : List Nat) : Ob → Option Ob
  | .cells t cs => match renCs ob cs with | some cs => some (.cells t cs) | none => none
  | .row e sz xs => some (.row e sz xs)
def normEnv (st : St) (ob : List Nat) : List Nat → Option (List (Nat × AV))
  | [] => some []
  | t :: r => match st.env.lookup t, normEnv st ob r with
    | some a, some l => (match renA ob a with | some a => some ((t, a) :: l) | none => none)
    | _, _ => none
def normOwn (st : St) (ob : List Nat) : List Nat → Option (List (Option Ob))
  | [] => some []
  | i :: r => match st.own[i]?, normOwn st ob r with
    | some (some o), some l => (match renOb ob o with | some o => some (some o :: l) | none => none)
    | _, _ => none
def headOk (k : Nat) (ob : List Nat) : Bool := (List.range k).all fun i => match ob[i]? with | some j => Nat.beq i j | none => false
/-- Only these slots, and these objects, under their places in the list. -/
def normSt (slots ob : List Nat) (st : St) : Option St :=
  match normEnv st ob slots, normOwn st ob ob, headOk st.k ob with
  | some e, some o, true => some ⟨st.n, st.k, e, o⟩
  | _, _, _ => none
section
variable {P : Program} {T : TT} {F : FL} {mine may : Nat → Prop} {L : Nat → Value} {h : Hp} {h0 : Base} {st : St} {a : Act} {w w0 : World} {ob : List Nat}
def sel (L : Nat → Value) (ob : List Nat) : Nat → Value := fun j => L (ob.getD j 0)
theorem idx_some : ∀ {ob : List Nat} {i j : Nat}, idx? ob i = some j → ob[j]? = some i
  | [], i, j, h => by cases h
  | x :: r, i, j, h => by
    unfold idx? at h
    split at h
    · rename_i e
      cases h
      have : x = i := Nat.eq_of_beq_eq_true e
      simp [this]
    · split at h
      · rename_i j' hj
        cases h
        simpa using idx_some hj
      · cases h
theorem sel_at {i j : Nat} (h : idx? ob i = some j) : sel L ob j = L i ∧ j < ob.length := by
  have := idx_some h
  refine ⟨?_, (List.getElem?_eq_some_iff.1 this).1⟩
  unfold sel
  rw [List.getD_eq_getElem?_getD, this]
  rfl
theorem okC_closed {c : Cell} {n : Nat} (hok : OkC h c) (hc : closedC c = true) : OkC ⟨h.m, n⟩ c :=
  OkC.sub (h := ⟨h.m, 0⟩) (h' := ⟨h.m, n⟩) ⟨fun _ _ e => e, Nat.zero_le _⟩ (okC_zero hok hc)
theorem okC_closed' {c : Cell} {n : Nat} (hok : OkC h c) (hc : Closed c) : OkC ⟨h.m, n⟩ c :=
  okC_closed hok (by cases c <;> simp_all [Closed, closedC])
theorem renC_ok {c c' : Cell} (hr : renC ob c = some c') (hok : OkC h c) : denC (sel L ob) c' = denC L c ∧ OkC ⟨h.m, ob.length⟩ c' := by
  cases c with
  | own i off =>
    simp only [renC] at hr
    split at hr
    · rename_i j hj
      cases hr
      obtain ⟨h1, h2⟩ := sel_at (L := L) hj
      exact ⟨by simp [denC, h1], .own _ _ h2⟩
    · cases hr
  | row i =>
    simp only [renC] at hr
    split at hr
    · rename_i j hj
      cases hr
      obtain ⟨h1, h2⟩ := sel_at (L := L) hj
      exact ⟨by simp [denC, h1], .row _ h2⟩
    · cases hr
  | rel i sz k off =>
    simp only [renC] at hr
    split at hr
    · rename_i j hj
      cases hr
      obtain ⟨h1, h2⟩ := sel_at (L := L) hj
      exact ⟨by simp [denC, h1], .rel _ _ _ _ h2⟩
    · cases hr
  | v x => cases hr; exact ⟨rfl, okC_closed hok rfl⟩
  | sl s sz n f => cases hr; exact ⟨rfl, okC_closed hok rfl⟩
  | el s sz n f k off =>
    cases hr
    refine ⟨rfl, ?_⟩
    cases hok with
    | el _ _ _ _ _ _ k0 k1 k2 k3 =>
      refine .el _ _ _ _ _ _ k0 ?_ k2 (fun x hx c hc => ?_)
      · obtain ⟨⟨A, c, e, hc, hm, hr⟩, hl⟩ := k1
        exact ⟨⟨A, c, e, hc, hm, hr⟩, hl⟩
      · exact okC_closed' (k3 x hx c hc) (k2 x hx c hc)
theorem renCs_ok : ∀ {cs cs' : List Cell}, renCs ob cs = some cs' → (∀ c, c ∈ cs → OkC h c) → cs'.map (denC (sel L ob)) = cs.map (denC L) ∧ ∀ c, c ∈ cs' → OkC ⟨h.m, ob.length⟩ c
  | [], cs', hr, _ => by cases hr; exact ⟨rfl, fun _ hm => nomatch hm⟩
  | c :: r, cs', hr, hok => by
    unfold renCs at hr
    split at hr
    · rename_i c2 r2 h1 h2
      cases hr
      obtain ⟨k1, k2⟩ := renC_ok (L := L) h1 (hok c (by simp))
      obtain ⟨k3, k4⟩ := renCs_ok h2 (fun c hc => hok c (by simp [hc]))
      refine ⟨by rw [List.map_cons, List.map_cons, k1, k3], fun x hx => ?_⟩
      rcases List.mem_cons.1 hx with rfl | hx
      · exact k2
      · exact k4 x hx
    · cases hr
def Ok1 (h : Hp) : AV → Prop
  | .c x => OkC h x
  | .agg xs => ∀ x, x ∈ xs → OkC h x
  | .tup _ => True
theorem okA_tup {as : List AV} : OkA h (.tup as) ↔ ∀ a, a ∈ as → Ok1 h a := by
  constructor
  · intro k a ha
    have := k a ha
    cases a <;> exact this
  · intro k a ha
    have := k a ha
    cases a <;> exact this
theorem ren1_ok {a a' : AV} (hr : ren1 ob a = some a') (hok : Ok1 h a) : den1 (sel L ob) a' = den1 L a ∧ Ok1 ⟨h.m, ob.length⟩ a' ∧ (∀ as, a' ≠ .tup as) ∧ (∀ as, a ≠ .tup as) := by
  cases a with
  | c x =>
    simp only [ren1] at hr
    split at hr
    · rename_i y hy
      cases hr
      obtain ⟨k1, k2⟩ := renC_ok (L := L) hy hok
      exact ⟨k1, k2, (fun _ e => by cases e), (fun _ e => by cases e)⟩
    · cases hr
  | agg xs =>
    simp only [ren1] at hr
    split at hr
    · rename_i y hy
      cases hr
      obtain ⟨k1, k2⟩ := renCs_ok (L := L) hy hok
      exact ⟨by simp only [den1, k1], k2, (fun _ e => by cases e), (fun _ e => by cases e)⟩
    · cases hr
  | tup as => cases hr
theorem ren1s_ok : ∀ {as as' : List AV}, ren1s ob as = some as' → OkA h (.tup as) → as'.map (den1 (sel L ob)) = as.map (den1 L) ∧ OkA ⟨h.m, ob.length⟩ (.tup as')
  | [], as', hr, _ => by cases hr; exact ⟨rfl, fun _ hm => nomatch hm⟩
  | x :: r, as', hr, hok => by
    unfold ren1s at hr
    split at hr
    · rename_i c2 r2 h1 h2
      cases hr
      have hok := okA_tup.1 hok
      obtain ⟨k1, k2, _⟩ := ren1_ok (L := L) h1 (hok x (by simp))
      obtain ⟨k3, k4⟩ := ren1s_ok h2 (okA_tup.2 (fun c hc => hok c (by simp [hc])))
      refine ⟨by rw [List.map_cons, List.map_cons, k1, k3], okA_tup.2 (fun y hy => ?_)⟩
      rcases List.mem_cons.1 hy with rfl | hy
      · exact k2
      · exact okA_tup.1 k4 y hy
    · cases hr
theorem renA_ok {a a' : AV} (hr : renA ob a = some a') (hok : OkA h a) : den (sel L ob) a' = den L a ∧ OkA ⟨h.m, ob.length⟩ a' := by
  cases a with
  | c x =>
    obtain ⟨k1, k2, k3, k4⟩ := ren1_ok (L := L) (a := .c x) hr hok
    cases a' with
    | c y => exact ⟨k1, k2⟩
    | agg ys => exact ⟨k1, k2⟩
    | tup as => exact absurd rfl (k3 as)
  | agg xs =>
    obtain ⟨k1, k2, k3, k4⟩ := ren1_ok (L := L) (a := .agg xs) hr hok
    cases a' with
    | c y => exact ⟨k1, k2⟩
    | agg ys => exact ⟨k1, k2⟩
    | tup as => exact absurd rfl (k3 as)
  | tup as =>
    simp only [renA] at hr
    split at hr
    · rename_i bs hb
      cases hr
      obtain ⟨k1, k2⟩ := ren1s_ok (L := L) hb hok
      exact ⟨by simp only [den, k1], k2⟩
    · cases hr
theorem obRen_ok {o o' : Ob} {v : Value} (hr : renOb ob o = some o') (hob : ObOk mine L h w v o) : ObOk mine (sel L ob) ⟨h.m, ob.length⟩ w v o' := by
  cases o with
  | cells t cs =>
    simp only [renOb] at hr
    split at hr
    · rename_i cs' hc
      cases hr
      obtain ⟨h1, h2⟩ := hob
      obtain ⟨k1, k2⟩ := renCs_ok (L := L) hc h2
      refine ⟨?_, k2⟩
      rw [k1]
      exact h1
    · cases hr
  | row e sz xs =>
    cases hr
    obtain ⟨h1, h2, h3⟩ := hob
    have e1 : xs.flatten.map (denC (sel L ob)) = xs.flatten.map (denC L) := List.map_congr_left (fun c hc => by
      obtain ⟨x, hx, hcx⟩ := List.mem_flatten.1 hc
      exact denC_closed ((h3 x hx).2 c hcx).1 _ _)
    refine ⟨by rw [e1]; exact h1, h2, fun x hx => ⟨(h3 x hx).1, fun c hc => ⟨((h3 x hx).2 c hc).1, ?_⟩⟩⟩
    exact okC_closed' ((h3 x hx).2 c hc).2 ((h3 x hx).2 c hc).1
theorem normEnv_ok {L' : Nat → Value} (ha : Agree L h st a) : ∀ {slots : List Nat} {e : List (Nat × AV)}, normEnv st ob slots = some e → ∀ t av, e.lookup t = some av → a.tmps.getD t undef = den (sel L ob) av ∧ OkA ⟨h.m, ob.length⟩ av
  | [], e, hn, t, av, hl => by cases hn; cases hl
  | s :: r, e, hn, t, av, hl => by
    unfold normEnv at hn
    split at hn
    · rename_i x l hx hr
      split at hn
      · rename_i y hy
        cases hn
        rw [List.lookup_cons] at hl
        by_cases et : t = s
        · subst et
          simp at hl
          subst hl
          obtain ⟨h1, h2⟩ := ha.env t x hx
          obtain ⟨k1, k2⟩ := renA_ok (L := L) hy h2
          exact ⟨h1.trans k1.symm, k2⟩
        · have e' : (t == s) = false := by simpa using et
          rw [e'] at hl
          exact normEnv_ok (L' := L') ha hr t av hl
      · cases hn
    · cases hn
theorem normOwn_ok : ∀ {is : List Nat} {l : List (Option Ob)}, normOwn st ob is = some l → l.length = is.length ∧ ∀ (j : Nat) (o' : Ob), l[j]? = some (some o') → ∃ i o, is[j]? = some i ∧ st.own[i]? = some (some o) ∧ renOb ob o = some o'
  | [], l, hn => by cases hn; exact ⟨rfl, fun j o' hj => by simp at hj⟩
  | i :: r, l, hn => by
    unfold normOwn at hn
    split at hn
    · rename_i o l' ho hr
      split at hn
      · rename_i o2 ho2
        cases hn
        obtain ⟨h1, h2⟩ := normOwn_ok hr
        refine ⟨by simp [h1], fun j o' hj => ?_⟩
        cases j with
        | zero =>
          simp only [List.getElem?_cons_zero, Option.some.injEq] at hj
          subst hj
          exact ⟨i, o, rfl, ho, ho2⟩
        | succ j =>
          simp only [List.getElem?_cons_succ] at hj ⊢
          exact h2 j o' hj
      · cases hn
    · cases hn
theorem norm_weak (slots ob : List Nat) {st st' : St} (hn : normSt slots ob st = some st') (hd : ob.Nodup) : Weak st st' := by
  refine ⟨fun may w0 h0 a w hs => ?_⟩
  obtain ⟨⟨L, h, hm, ha, hsub, hnew⟩, hk⟩ := hs
  unfold normSt at hn
  split at hn
  · rename_i e o he ho hh
    cases hn
    obtain ⟨hl, hob⟩ := normOwn_ok ho
    have hhead : ∀ i, i < st.k → ob[i]? = some i := fun i hi => by
      have := List.all_eq_true.1 hh i (List.mem_range.2 hi)
      split at this
      · rename_i j hj
        have : i = j := Nat.eq_of_beq_eq_true this
        rw [hj, this]
      · cases this
    refine ⟨⟨sel L ob, ⟨h.m, ob.length⟩, ⟨hl.symm, hm.hsub, fun j o' hj => ?_, fun i j oi oj b hi hj hbi hbj => ?_⟩, ⟨ha.size, fun t av ht => normEnv_ok (L' := L) ha he t av ht, ha.defers⟩, ⟨⟨hsub.sub.m, ?_⟩, fun i hi => ?_, hsub.kk⟩, hnew⟩, hk⟩
    · obtain ⟨i, o2, h1, h2, h3⟩ := hob j o' hj
      have e1 : sel L ob j = L i := by unfold sel; rw [List.getD_eq_getElem?_getD, h1]; rfl
      rw [e1]
      exact obRen_ok h3 (hm.obs i o2 h2)
    · obtain ⟨i', o2, h1, h2, h3⟩ := hob i oi hi
      obtain ⟨j', o3, k1, k2, k3⟩ := hob j oj hj
      have e1 : sel L ob i = L i' := by unfold sel; rw [List.getD_eq_getElem?_getD, h1]; rfl
      have e2 : sel L ob j = L j' := by unfold sel; rw [List.getD_eq_getElem?_getD, k1]; rfl
      rw [e1] at hbi
      rw [e2] at hbj
      have := hm.dis i' j' o2 o3 b h2 k2 hbi hbj
      subst this
      have hi2 := (List.getElem?_eq_some_iff.1 h1)
      have hj2 := (List.getElem?_eq_some_iff.1 k1)
      exact (List.getElem?_inj hi2.1 hd).1 (h1.trans k1.symm)
    · rw [← hsub.kk]
      rcases Nat.eq_zero_or_pos st.k with h0' | hp
      · simp; omega
      · have := (List.getElem?_eq_some_iff.1 (hhead (st.k - 1) (by omega))).1
        simp; omega
    · rw [← hsub.kk] at hi
      have : sel L ob i = L i := by unfold sel; rw [List.getD_eq_getElem?_getD, hhead i hi]; rfl
      rw [this]
      exact hsub.at_ i (by rw [← hsub.kk]; exact hi)
  · cases hn
theorem exists_least {R : Nat → Prop} (h : ∃ n, R n) : ∃ n, R n ∧ ∀ m, R m → n ≤ m := by
  obtain ⟨n, hn⟩ := h
  induction n using Nat.strongRecOn with
  | ind n ih =>
    by_cases hl : ∃ m, m < n ∧ R m
    · obtain ⟨m, h1, h2⟩ := hl
      exact ih m h1 h2
    · exact ⟨n, hn, fun m hm => Nat.le_of_not_lt (fun h => hl ⟨m, h, hm⟩)⟩
theorem least_ex (R : Nat → Prop) : ∃ n, (∃ m, R m) → R n ∧ ∀ m, R m → n ≤ m := by
  by_cases h : ∃ m, R m
  · obtain ⟨n, hn⟩ := exists_least h
    exact ⟨n, fun _ => hn⟩
  · exact ⟨0, fun k => absurd k h⟩
/-- **A loop**, by what holds at the head of each round (n goes down). -/
theorem loopV (hT : TTok P T) (hF : FTok P F) {c : Code} {Q : Ex → St → Prop} (I : Nat → St → Prop) {n : Nat} {st st1 : St} (hw : Weak st st1) (hI : I n st1)
    (hs : ∀ n st, I n st → vc P T F c (fun e st' => match e with | .normal => ∃ m st'', m < n ∧ Weak st' st'' ∧ I m st'' | .exit i => Q (.exit i) st' | .ret => Q .ret st') st) : LoopV P c Q st := by
  refine ⟨fun may w0 h0 a w hsat => ?_⟩
  let R : Nat → Act → World → Prop := fun n a w => ∃ st, I n st ∧ Sat may w0 h0 st a w
  have hR : ∃ n, R n a w := ⟨n, st1, hI, hw.out _ _ _ _ _ hsat⟩
  refine wp_loop (fun a w => ∃ n, R n a w) (fun a w => Classical.choose (least_ex fun n => R n a w)) hR (fun a w hex => ?_)
  obtain ⟨st2, h1, h2⟩ := (Classical.choose_spec (least_ex fun n => R n a w) hex).1
  refine Code.wp_mono (fun e a' w' hh => ?_) (vc_ok hT hF c _ st2 a w (hs _ st2 h1) h2)
  obtain ⟨e', st', rfl, k1, k2⟩ := hh
  cases e' with
  | normal =>
    obtain ⟨m, st'', hlt, hwk, hI2⟩ := k2
    have hm : R m a' w' := ⟨st'', hI2, hwk.out _ _ _ _ _ k1⟩
    exact ⟨⟨m, hm⟩, Nat.lt_of_le_of_lt ((Classical.choose_spec (least_ex fun n => R n a' w') ⟨m, hm⟩).2 m hm) hlt⟩
  | exit i => exact ⟨.exit i, st', rfl, k1, k2⟩
  | ret => exact ⟨.ret, st', rfl, k1, k2⟩

/-- A loop that goes round fewer than n times. -/
def vcR (P : Program) (T : TT) (F : FL) (c : Code) (Q : Ex → St → Prop) (n : Nat) : St → Prop :=
  Nat.rec (motive := fun _ => St → Prop) (fun _ => False)
    (fun _ ih st => vc P T F c (fun e st' => match e with | .normal => ih st' | .exit i => Q (.exit i) st' | .ret => Q .ret st') st) n
theorem loop_rounds (n : Nat) (hT : TTok P T) (hF : FTok P F) {c : Code} {Q : Ex → St → Prop} {st : St} (hp : vcR P T F c Q n st) : LoopV P c Q st := by
  refine ⟨fun may w0 h0 a w hsat => wp_loop_rounds n ?_⟩
  induction n generalizing st a w with
  | zero => exact hp.elim
  | succ n ih =>
    refine Code.wp_mono (fun e a' w' hh => ?_) (vc_ok hT hF c _ st a w hp hsat)
    obtain ⟨e', st', rfl, k1, k2⟩ := hh
    cases e' with
    | normal => exact ih k2 a' w' k1
    | exit i => exact ⟨.exit i, st', rfl, k1, k2⟩
    | ret => exact ⟨.ret, st', rfl, k1, k2⟩
end
end Go.Eng
