/- A part of the proof: what the functions of the program come to, told by a small reckoner of states. -/
import Derived.Test.YteglopjljejjkaaDoorA15
set_option linter.unusedVariables false
set_option linter.unusedSimpArgs false
namespace Go.Eng
open Go Go.RowKit

/-! ### Calls beside other own objects -/
def backI (ob : List (Option Nat)) (m j : Nat) : Nat := match ob[j]? with | some (some i) => i | _ => m + (j - ob.length)
def backT (ob : List (Option Nat)) (m : Nat) : IC → IC
  | .own j off => .own (backI ob m j) off
  | .row j => .row (backI ob m j)
  | .rel j sz k off => .rel (backI ob m j) sz k off
  | .view j sz k n c => .view (backI ob m j) sz k n c
  | .mp j => .mp (backI ob m j)
  | .ifc t c => match clo0 c with | true => .ifc t c | false => .any
  | .fn f cs => match cs.all (fun x => x.2.all clo0) with | true => .fn f cs | false => .any
  | c => c
def backO (ob : List (Option Nat)) (m : Nat) : Option Ob → Option Ob
  | some o => some (sbObj (up (backT ob m)) o)
  | none => none
def mergeOwn (ob : List (Option Nat)) (m : Nat) (own2 : List (Option Ob)) : Nat → List (Option Ob) → List (Option Ob)
  | _, [] => []
  | i, o :: r => (match idx? ob i with | some j => backO ob m (own2.getD j none) | none => o) :: mergeOwn ob m own2 (i + 1) r
def frameOwn (ob : List (Option Nat)) (own own2 : List (Option Ob)) : List (Option Ob) := mergeOwn ob own.length own2 0 own ++ (own2.drop ob.length).map (backO ob own.length)
def allSome (ob : List (Option Nat)) : Bool := ob.all fun x => x.isSome
/-- Each place is one of the caller's objects. -/
def inB (m : Nat) : List (Option Nat) → Bool
  | [] => true
  | some i :: r => Nat.blt i m && inB m r
  | none :: r => false
section
variable {P : Program} {mine : Nat → Prop} {L L2 : Nat → Value} {F F2 : Nat → Nat → Prop} {h h2 : Hp} {own own2 : List (Option Ob)} {w w' : World} {ob : List (Option Nat)} {m : Nat}
theorem inB_lt : ∀ {ob : List (Option Nat)}, inB m ob = true → ∀ j : Nat, j < ob.length → ∃ i, ob[j]? = some (some i) ∧ i < m
  | [], _, j, hj => by simp at hj
  | some i :: r, hb, j, hj => by
    unfold inB at hb
    rw [Bool.and_eq_true] at hb
    cases j with
    | zero => exact ⟨i, rfl, by have := hb.1; unfold Nat.blt at this; exact Nat.le_of_ble_eq_true this⟩
    | succ j =>
      obtain ⟨i', h1, h2⟩ := inB_lt hb.2 j (by simpa using hj)
      exact ⟨i', by simpa using h1, h2⟩
  | none :: r, hb, j, hj => by cases hb
theorem mergeOwn_get : ∀ (own : List (Option Ob)) (i k : Nat), (mergeOwn ob m own2 i own)[k]? = own[k]?.map fun o => match idx? ob (i + k) with | some j => backO ob m (own2.getD j none) | none => o
  | [], i, k => by simp [mergeOwn]
  | o :: r, i, 0 => by simp [mergeOwn]
  | o :: r, i, k + 1 => by
    simp only [mergeOwn, List.getElem?_cons_succ]
    rw [mergeOwn_get r (i + 1) k]
    have e : i + 1 + k = i + (k + 1) := by omega
    rw [e]
theorem mergeOwn_len : ∀ (own : List (Option Ob)) (i : Nat), (mergeOwn ob m own2 i own).length = own.length
  | [], i => rfl
  | o :: r, i => by simp [mergeOwn, mergeOwn_len r (i + 1)]
/-- The place of each object, with the caller. -/
def frameL (L L2 : Nat → Value) (ob : List (Option Nat)) (m : Nat) (i : Nat) : Value := if i < m then L i else L2 (i - m + ob.length)
def frameF (F F2 : Nat → Nat → Prop) (ob : List (Option Nat)) (m : Nat) (i : Nat) : Nat → Prop := match idx? ob i with | some j => F2 j | none => if i < m then F i else F2 (i - m + ob.length)
theorem frame_back (hob : inB m ob = true) (hL : ∀ j, j < ob.length → L2 j = sel L ob j) {j : Nat} : frameL L L2 ob m (backI ob m j) = L2 j := by
  rcases Nat.lt_or_ge j ob.length with hj | hj
  · obtain ⟨i, h1, h2⟩ := inB_lt hob j hj
    have e : backI ob m j = i := by unfold backI; rw [h1]
    rw [e]
    unfold frameL
    rw [if_pos h2, hL j hj]
    unfold sel
    rw [h1]
  · have e : backI ob m j = m + (j - ob.length) := by unfold backI; rw [List.getElem?_eq_none hj]
    rw [e]
    unfold frameL
    rw [if_neg (by omega)]
    congr 1
    omega
theorem backI_lt (hob : inB m ob = true) {j n : Nat} (hj : j < n) (hn : ob.length ≤ n) : backI ob m j < m + (n - ob.length) := by
  rcases Nat.lt_or_ge j ob.length with hlt | hge
  · obtain ⟨i, h1, h2⟩ := inB_lt hob j hlt
    have e : backI ob m j = i := by unfold backI; rw [h1]
    omega
  · have e : backI ob m j = m + (j - ob.length) := by unfold backI; rw [List.getElem?_eq_none hge]
    omega
theorem back_ok (hob : inB m ob = true) (hL : ∀ j, j < ob.length → L2 j = sel L ob j) (hn : ob.length ≤ h2.n) : SubstOk L2 (frameL L L2 ob m) h2 ⟨h2.m, m + (h2.n - ob.length)⟩ (backT ob m) := by
  refine ⟨fun c v hd => ?_⟩
  have h1 := hd.one
  cases hd with
  | own i off a k1 k2 => exact .own _ _ a (backI_lt hob k1 hn) ((frame_back hob hL).trans k2)
  | row i A n c k1 k2 => exact .row _ A n c (backI_lt hob k1 hn) ((frame_back hob hL).trans k2)
  | rel i sz k off a k1 k2 k3 => exact .rel _ _ _ _ a (backI_lt hob k1 hn) (by rw [frame_back hob hL]; exact k2) (by rw [frame_back hob hL]; exact k3)
  | view i sz k n c a b k1 k2 k3 k4 k5 => exact .view _ _ _ _ _ a b (backI_lt hob k1 hn) ((frame_back hob hL).trans k2) k3 k4 k5
  | mp i r k1 k2 => exact .mp _ r (backI_lt hob k1 hn) ((frame_back hob hL).trans k2)
  | ifc t c v hr =>
    simp only [backT]
    split
    · rename_i e; exact (Den.ifc t c v hr).clo _ e
    · exact .any _ h1
  | fn f cs vs g hl hv h3 hr =>
    simp only [backT]
    split
    · rename_i e; exact (Den.fn f cs vs g hl hv h3 hr).clo _ e
    · exact .any _ h1
  | v _ h2 => exact .v _ h2
  | sl sz n f A c ad g hc hm hA hg hl hclo hr => exact (Den.sl sz n f A c ad g hc hm hA hg hl hclo hr).clo _ rfl
  | fp cs ad g hclo hg hr => exact (Den.fp cs ad g hclo hg hr).clo _ rfl
  | any _ h2 => exact .any _ h2
theorem backO_some {o : Option Ob} {o2 : Ob} (h : backO ob m o = some o2) : ∃ o', o = some o' ∧ o2 = sbObj (up (backT ob m)) o' := by
  cases o with
  | none => cases h
  | some o' => cases h; exact ⟨o', rfl, rfl⟩
theorem idx_lt {i j : Nat} (h : idx? ob i = some j) : j < ob.length := (List.getElem?_eq_some_iff.1 (idx_some h)).1
theorem idx_back (hd : nodupB ob = true) {i j : Nat} (h : ob[j]? = some (some i)) : idx? ob i = some j := by
  obtain ⟨k, hk⟩ := idx_of h
  rw [hk, nodup_inj hd (idx_some hk) h]
/-- **A call of a function that is handed some of the own objects**, those at the places ob. -/
theorem call_frame [HasGl P] {f : FuncId} {args args' : List AV} {own0 : List (Option Ob)} {Q : AV → List (Option Ob) → Prop} {K : AV → List (Option Ob) → Prop} (ob : List (Option Nat)) (hd : nodupB ob = true) (hob : inB own.length ob = true)
    (h0 : ob.map (pickOwn own (up (renT ob))) = own0) (ha : args.map (sbA (up (renT ob))) = args')
    (hc : CallV P f args' own0 Q) (hK : ∀ r own2, Q r own2 → K (sbA (up (backT ob own.length)) r) (frameOwn ob own own2)) : CallV P f args own K := by
  subst h0 ha
  refine ⟨fun mine L F h w vs hgl hm hden => ?_⟩
  have hren := renU_ok L h ob
  have hm0 := mem_norm hd hm
  have hargs : DenAs (sel L ob) ⟨h.m, ob.length⟩ (args.map (sbA (up (renT ob)))) vs := by
    refine ⟨by rw [List.length_map]; exact hden.len, fun j a v hj hv => ?_⟩
    rw [List.getElem?_map] at hj
    cases hx : args[j]? with
    | none => rw [hx] at hj; cases hj
    | some a0 => rw [hx] at hj; cases hj; exact hren.denA (hden.den j a0 v hx hv)
  refine (hc.out mine (sel L ob) (sel F ob) ⟨h.m, ob.length⟩ w vs hgl hm0 hargs).mono ?_
  rintro e w' ⟨r, v, L2, F2, h2, own2, rfl, e2, e3, e4, e5, e6, e7, e8⟩
  have hlen : ob.length ≤ h2.n := e6.n
  have hn2 : h2.n = own2.length := e4.hn
  have hback := (back_ok (L := L) hob e3 hlen).up
  -- the blocks of what is handed in
  have hfoot0 : ∀ b, footOf (sel F ob) (ob.map (pickOwn own (up (renT ob)))) b → ∃ (i j : Nat) (o : Ob), ob[j]? = some (some i) ∧ own[i]? = some (some o) ∧ F i b := fun b ⟨j, o', hj, hb⟩ => by
    obtain ⟨i, o, k1, k2, rfl⟩ := pick_some hj
    have : sel F ob j = F i := by unfold sel; rw [k1]
    rw [this] at hb
    exact ⟨i, j, o, k1, k2, hb⟩
  have key : ∀ (i : Nat) (o : Ob), (frameOwn ob own own2)[i]? = some (some o) → (∃ j o2, own2[j]? = some (some o2) ∧ o = sbObj (up (backT ob own.length)) o2 ∧ frameL L L2 ob own.length i = L2 j ∧ frameF F F2 ob own.length i = F2 j ∧ backI ob own.length j = i) ∨
      (i < own.length ∧ own[i]? = some (some o) ∧ (∀ j : Nat, ob[j]? ≠ some (some i)) ∧ frameL L L2 ob own.length i = L i ∧ frameF F F2 ob own.length i = F i) := by
    intro i o hi
    unfold frameOwn at hi
    rcases Nat.lt_or_ge i own.length with hlt | hge
    · rw [List.getElem?_append_left (by rw [mergeOwn_len]; exact hlt), mergeOwn_get, Nat.zero_add] at hi
      rw [List.getElem?_eq_getElem hlt] at hi
      simp only [Option.map_some, Option.some.injEq] at hi
      split at hi
      · rename_i j hj
        have hij := idx_some hj
        obtain ⟨o2, ho2, rfl⟩ := backO_some hi
        refine .inl ⟨j, o2, ?_, rfl, ?_, ?_, ?_⟩
        · rw [List.getD_eq_getElem?_getD] at ho2
          cases hx : own2[j]? with
          | none => rw [hx] at ho2; cases ho2
          | some y => rw [hx] at ho2; simp only [Option.getD_some] at ho2; rw [ho2]
        · unfold frameL
          rw [if_pos hlt, e3 j (idx_lt hj)]
          unfold sel; rw [hij]
        · unfold frameF; rw [hj]
        · unfold backI; rw [hij]
      · rename_i hj
        refine .inr ⟨hlt, by rw [List.getElem?_eq_getElem hlt, hi], fun j hx => ?_, by unfold frameL; rw [if_pos hlt], by unfold frameF; rw [hj]; simp [hlt]⟩
        rw [idx_back hd hx] at hj; cases hj
    · rw [List.getElem?_append_right (by rw [mergeOwn_len]; exact hge), mergeOwn_len, List.getElem?_map, List.getElem?_drop] at hi
      cases hx : own2[ob.length + (i - own.length)]? with
      | none => rw [hx] at hi; cases hi
      | some y =>
        rw [hx] at hi
        simp only [Option.map_some, Option.some.injEq] at hi
        obtain ⟨o2, rfl, rfl⟩ := backO_some hi
        have hno : idx? ob i = none := by
          cases hh : idx? ob i with
          | none => rfl
          | some j =>
            obtain ⟨i', k1, k2⟩ := inB_lt hob j (idx_lt hh)
            rw [idx_some hh] at k1
            cases k1
            omega
        refine .inl ⟨_, o2, hx, rfl, ?_, ?_, ?_⟩
        · unfold frameL
          rw [if_neg (by omega)]
          congr 1
          omega
        · unfold frameF
          rw [hno]
          simp only
          rw [if_neg (by omega)]
          congr 1
          omega
        · unfold backI
          rw [List.getElem?_eq_none (by omega)]
          simp only
          omega
  have hout : ∀ (i : Nat) (o : Ob) (b : Nat), own[i]? = some (some o) → (∀ j : Nat, ob[j]? ≠ some (some i)) → F i b → ¬ footOf (sel F ob) (ob.map (pickOwn own (up (renT ob)))) b := fun i o b hi hno hb hf => by
    obtain ⟨i', j, o', k1, k2, k3⟩ := hfoot0 b hf
    have := hm.dis i i' o o' b hi k2 hb k3
    subst this
    exact hno j k1
  have hmine : ∀ b, mineOf (footOf (sel F ob) (ob.map (pickOwn own (up (renT ob))))) w b → mineOf (footOf F own) w b := fun b hb => by
    rcases hb with hb | hb
    · obtain ⟨i, j, o, k1, k2, k3⟩ := hfoot0 b hb
      exact .inl ⟨i, o, k2, k3⟩
    · exact .inr hb
  refine ⟨sbA (up (backT ob own.length)) r, v, frameL L L2 ob own.length, frameF F F2 ob own.length, ⟨h2.m, own.length + (h2.n - ob.length)⟩, frameOwn ob own own2, rfl, hback.denA e2, fun i hi => ?_, ⟨?_, e4.hsub, fun i o hi => ?_, fun i o b hi hb => ?_, fun i j oi oj b hi hj hbi hbj => ?_⟩, ⟨e5.os, e5.tape, e5.output, e5.size, fun k hk hno => ?_⟩, ⟨e6.m, ?_⟩, fun k hk => ?_, hK r own2 e8⟩
  · have : i < own.length := by have := hm.hn; omega
    unfold frameL
    rw [if_pos this]
  · show own.length + (h2.n - ob.length) = (frameOwn ob own own2).length
    unfold frameOwn
    rw [List.length_append, mergeOwn_len, List.length_map, List.length_drop, hn2]
  · rcases key i o hi with ⟨j, o2, k1, rfl, k3, k4, k5⟩ | ⟨k1, k2, k3, k4, k5⟩
    · rw [k3, k4]
      exact hback.obOk (fun _ _ e => e) (e4.obs j o2 k1)
    · rw [k4, k5]
      have ho := hm.obs i o k2
      refine obOk_move ho (fun b hb => e5.block b (hm.foot i o b k2 hb).1 (hout i o b k2 k3 hb)) (fun i' hi' => ?_) ⟨e6.m, ?_⟩
      · have : i' < own.length := by have := hm.hn; omega
        unfold frameL
        rw [if_pos this]
      · have := hm.hn
        show h.n ≤ own.length + (h2.n - ob.length)
        omega
  · rcases key i o hi with ⟨j, o2, k1, rfl, k3, k4, k5⟩ | ⟨k1, k2, k3, k4, k5⟩
    · rw [k4] at hb
      obtain ⟨q1, q2, q3⟩ := e4.foot j o2 b k1 hb
      exact ⟨q1, q2, hmine b q3⟩
    · rw [k5] at hb
      obtain ⟨q1, q2, q3⟩ := hm.foot i o b k2 hb
      refine ⟨Nat.lt_of_lt_of_le q1 e5.size, ?_, .inl ⟨i, o, k2, hb⟩⟩
      show h2.m b = none
      cases hx : h2.m b with
      | none => rfl
      | some x =>
        rcases e7 b (by rw [hx]; simp) with h9 | h9 | h9
        · exact absurd q2 h9
        · exact absurd h9 (hout i o b k2 k3 hb)
        · omega
  · rcases key i oi hi with ⟨j1, o1, k1, rfl, k3, k4, k5⟩ | ⟨k1, k2, k3, k4, k5⟩ <;> rcases key j oj hj with ⟨j2, o2, q1, rfl, q3, q4, q5⟩ | ⟨q1, q2, q3, q4, q5⟩
    · rw [k4] at hbi; rw [q4] at hbj
      have := e4.dis j1 j2 o1 o2 b k1 q1 hbi hbj
      rw [← k5, ← q5, this]
    · rw [k4] at hbi; rw [q5] at hbj
      have hlt := (hm.foot j oj b q2 hbj).1
      rcases (e4.foot j1 o1 b k1 hbi).2.2 with h9 | h9
      · exact absurd h9 (hout j oj b q2 q3 hbj)
      · omega
    · rw [k5] at hbi; rw [q4] at hbj
      have hlt := (hm.foot i oi b k2 hbi).1
      rcases (e4.foot j2 o2 b q1 hbj).2.2 with h9 | h9
      · exact absurd h9 (hout i oi b k2 k3 hbi)
      · omega
    · rw [k5] at hbi; rw [q5] at hbj
      exact hm.dis i j oi oj b k2 q2 hbi hbj
  · refine e5.block k hk (fun hx => hno ?_)
    obtain ⟨i, j, o, g1, g2, g3⟩ := hfoot0 k hx
    exact ⟨i, o, g2, g3⟩
  · have := hm.hn
    show h.n ≤ own.length + (h2.n - ob.length)
    omega
  · rcases e7 k hk with h9 | h9
    · exact .inl h9
    · exact .inr (hmine k h9)
end
end Go.Eng
