/- A part of the proof: what the functions of the program come to, told by a small reckoner of states. -/
import Derived.Test.YteglopjljejjkaaEng3
import Derived.Laws.CopyRow
set_option linter.unusedVariables false
set_option linter.unusedSimpArgs false
namespace Go.Eng
open Go Go.RowKit
def upd (L : Nat → Value) (n : Nat) (v : Value) : Nat → Value := fun i => if i = n then v else L i
theorem denC_upd {L L' : Nat → Value} {h : Hp} {c : Cell} (hok : OkC h c) (hL : ∀ i, i < h.n → L' i = L i) : denC L' c = denC L c := by
  cases hok <;> simp_all [denC]
theorem map_denC_upd {L L' : Nat → Value} {h : Hp} {cs : List Cell} (hok : ∀ c, c ∈ cs → OkC h c) (hL : ∀ i, i < h.n → L' i = L i) : cs.map (denC L') = cs.map (denC L) :=
  List.map_congr_left (fun c hc => denC_upd (hok c hc) hL)
theorem den1_upd {L L' : Nat → Value} {h : Hp} {a : AV} (hok : match a with | .c x => OkC h x | .agg xs => ∀ x, x ∈ xs → OkC h x | .tup _ => True) (hL : ∀ i, i < h.n → L' i = L i) : den1 L' a = den1 L a := by
  cases a with
  | c x => exact denC_upd hok hL
  | agg xs => simp only [den1]; rw [map_denC_upd hok hL]
  | tup _ => rfl
theorem den_upd {L L' : Nat → Value} {h : Hp} {a : AV} (hok : OkA h a) (hL : ∀ i, i < h.n → L' i = L i) : den L' a = den L a := by
  cases a with
  | c x => exact denC_upd hok hL
  | agg xs => simp only [den, den1]; rw [map_denC_upd hok hL]
  | tup as =>
    simp only [den]
    rw [List.map_congr_left (g := den1 L) (fun a ha => den1_upd (hok a ha) hL)]
theorem ownsRow_move {w w1 : World} {base : Nat} {e : TypeId} {size n : Nat} {v : Value} {xs : List Value} (h : w.ownsRow base e size v n xs) (hm : ∀ k, blk v = some k → w1.heap[k]? = w.heap[k]?) : w1.ownsRow base e size v n xs := by
  obtain ⟨hl, hr⟩ := h
  refine ⟨hl, ?_⟩
  rcases hr with hr | ⟨g, cap, cur, e1, e2, e3, e4, e5, e6, e7⟩
  · exact .inl hr
  · refine .inr ⟨g, cap, cur, e1, e2, ?_, e4, e5, e6, e7⟩
    rw [hm g (by rw [e1]; rfl)]
    exact e3
theorem obOk_move {mine mine' : Nat → Prop} {L L' : Nat → Value} {h h' : Hp} {w w' : World} {v : Value} {ob : Ob} (hob : ObOk mine L h w v ob) (hb : ∀ b, blk v = some b → mine b → h.m b = none → w'.heap[b]? = w.heap[b]? ∧ h'.m b = none ∧ mine' b)
    (hL : ∀ i, i < h.n → L' i = L i) (hs : Sub h h') : ObOk mine' L' h' w' v ob := by
  cases ob with
  | cells t cs =>
    obtain ⟨⟨b, h1, h2, h3, h4⟩, h5⟩ := hob
    obtain ⟨k1, k2, k3⟩ := hb b (by rw [h1]; rfl) h4 h3
    refine ⟨⟨b, h1, by rw [k1, map_denC_upd h5 hL]; exact h2, k2, k3⟩, fun c hc => (h5 c hc).sub hs⟩
  | row e sz xs =>
    obtain ⟨h1, h2, h3⟩ := hob
    refine ⟨?_, fun b hbv => ?_, fun x hx => ⟨(h3 x hx).1, fun c hc => ⟨((h3 x hx).2 c hc).1, ((h3 x hx).2 c hc).2.sub hs⟩⟩⟩
    · have e1 : xs.flatten.map (denC L') = xs.flatten.map (denC L) := map_denC_upd (fun c hc => by
        obtain ⟨x, hx, hcx⟩ := List.mem_flatten.1 hc
        exact ((h3 x hx).2 c hcx).2) hL
      rw [e1]
      exact ownsRow_move h1 (fun k hk => (hb k hk (h2 k hk).2 (h2 k hk).1).1)
    · obtain ⟨k1, k2⟩ := h2 b hbv
      obtain ⟨j1, j2, j3⟩ := hb b hbv k2 k1
      exact ⟨j2, j3⟩
/-- An object's block lies in the heap. -/
theorem obOk_lt {mine : Nat → Prop} {L : Nat → Value} {h : Hp} {w : World} {v : Value} {ob : Ob} (hob : ObOk mine L h w v ob) {b : Nat} (hb : blk v = some b) : b < w.heap.size ∧ mine b ∧ h.m b = none := by
  cases ob with
  | cells t cs =>
    obtain ⟨⟨b', h1, h2, h3, h4⟩, h5⟩ := hob
    rw [h1] at hb
    cases hb
    exact ⟨(Array.getElem?_eq_some_iff.1 h2).1, h4, h3⟩
  | row e sz xs =>
    obtain ⟨h1, h2, h3⟩ := hob
    refine ⟨?_, (h2 b hb).2, (h2 b hb).1⟩
    obtain ⟨hl, hr⟩ := h1
    rcases hr with ⟨e1, _⟩ | ⟨g, cap, cur, e1, e2, e3, _⟩
    · rw [e1] at hb; cases hb
    · rw [e1] at hb; cases hb; exact (Array.getElem?_eq_some_iff.1 e3).1
def Hp.more (h : Hp) (k : Nat) : Hp := ⟨h.m, h.n + k⟩
theorem sub_more (h : Hp) (k : Nat) : Sub h (h.more k) := ⟨fun _ _ e => e, Nat.le_add_right _ _⟩
theorem hp_new {h : Hp} {w : World} (hs : ∀ k o, h.m k = some o → w.heap[k]? = some o) {b : Nat} (hb : w.heap.size ≤ b) : h.m b = none := by
  cases hm : h.m b with
  | none => rfl
  | some o =>
    have := hs b o hm
    have := (Array.getElem?_eq_some_iff.1 this).1
    omega
/-- A new object beside the others. -/
theorem mem_push {mine : Nat → Prop} {L : Nat → Value} {h : Hp} {own : List (Option Ob)} {w w' : World} (hm : Mem mine L h own w) (hw : ∀ k, k < w.heap.size → w'.heap[k]? = w.heap[k]?) {v : Value} {ob : Ob}
    (hob : ObOk mine (upd L own.length v) (h.more 1) w' v ob) (hv : ∀ b, blk v = some b → w.heap.size ≤ b) : Mem mine (upd L own.length v) (h.more 1) (own ++ [some ob]) w' := by
  have hL : ∀ i, i < h.n → upd L own.length v i = L i := fun i hi => by
    have := hm.hn
    unfold upd
    rw [if_neg (by omega)]
  have key : ∀ i oi, (own ++ [some ob])[i]? = some (some oi) → (i < own.length ∧ own[i]? = some (some oi) ∧ upd L own.length v i = L i) ∨ (i = own.length ∧ oi = ob ∧ upd L own.length v i = v) := by
    intro i oi hi
    rcases Nat.lt_trichotomy i own.length with hlt | heq | hgt
    · rw [List.getElem?_append_left hlt] at hi
      exact .inl ⟨hlt, hi, hL i (by rw [hm.hn]; exact hlt)⟩
    · subst heq
      rw [List.getElem?_append_right (Nat.le_refl _)] at hi
      simp at hi
      exact .inr ⟨rfl, hi.symm, by simp [upd]⟩
    · rw [List.getElem?_eq_none (by simp; omega)] at hi
      cases hi
  refine ⟨by simp [Hp.more, hm.hn], fun k o hk => ?_, fun i oi hi => ?_, fun i j oi oj b hi hj hbi hbj => ?_⟩
  · have := hm.hsub k o hk
    rw [hw k (Array.getElem?_eq_some_iff.1 this).1]
    exact this
  · rcases key i oi hi with ⟨hlt, hi', e⟩ | ⟨rfl, rfl, e⟩
    · rw [e]
      have ho := hm.obs i oi hi'
      refine obOk_move ho (fun b hb hmine hn => ?_) hL (sub_more h 1)
      exact ⟨hw b (obOk_lt ho hb).1, hn, hmine⟩
    · rw [e]; exact hob
  · rcases key i oi hi with ⟨hlt, hi', e⟩ | ⟨rfl, rfl, e⟩ <;> rcases key j oj hj with ⟨hlt', hj', e'⟩ | ⟨rfl, rfl, e'⟩
    · rw [e] at hbi; rw [e'] at hbj; exact hm.dis i j oi oj b hi' hj' hbi hbj
    · rw [e] at hbi; rw [e'] at hbj
      have := (obOk_lt (hm.obs i oi hi') hbi).1
      have := hv b hbj
      omega
    · rw [e] at hbi; rw [e'] at hbj
      have := (obOk_lt (hm.obs j oj hj') hbj).1
      have := hv b hbi
      omega
    · rfl
theorem agree_more {L L' : Nat → Value} {h h' : Hp} {st st' : St} {a : Act} (ha : Agree L h st a) (hL : ∀ i, i < h.n → L' i = L i) (hs : Sub h h') (hn : st'.n = st.n) (he : st'.env = st.env) : Agree L' h' st' a :=
  ⟨by rw [hn]; exact ha.size, fun t av ht => by
    rw [he] at ht
    obtain ⟨h1, h2⟩ := ha.env t av ht
    exact ⟨by rw [h1, den_upd h2 hL], h2.sub hs⟩, ha.defers⟩
end Go.Eng
