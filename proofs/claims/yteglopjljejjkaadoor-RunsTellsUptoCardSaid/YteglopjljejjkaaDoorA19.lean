/- A call beside a nil slice in an own object's cell: taken for an own row without elements. -/
import Derived.Test.YteglopjljejjkaaDoorA18
set_option linter.unusedVariables false
set_option linter.unusedSimpArgs false
namespace Go.Eng
open Go
section
variable {P : Program}
theorem callV_nil [HasGl P] (i j : Nat) (e : TypeId) (sz : Nat) (f : Nat → List IC) {g : FuncId} {own : List (Option Ob)} {args : List AV} {K : AV → List (Option Ob) → Prop} {t : TypeId} {cs : List IC} (hi : own[i]? = some (some (.cells t cs))) (hj : cs[j]? = some (.v (.slice none 0 0)))
    (hc : CallV P g args (own.set i (some (.cells t (cs.set j (.row own.length)))) ++ [some (.row e sz 0 f)]) K) : CallV P g args own K := by
  refine ⟨fun mine L F h w vs hgl hm hden => ?_⟩
  have hn := hm.hn
  have hil : i < own.length := (List.getElem?_eq_some_iff.1 hi).1
  have hL : ∀ i, i < h.n → upd L own.length (.slice none 0 0) i = L i := fun i hi => upd_lt (by omega)
  have hm' := mem_push (v := .slice none 0 0) (G := fun _ => False) (ob := .row e sz 0 f) hm ⟨[], World.ownsRow_nil w 0 e sz, (fun b hb => by cases hb), ⟨fun k hk => by omega, fun k hk => by omega⟩⟩ (fun b hb => hb.elim) (fun b hb => hb.elim)
  have hi' : (own ++ [some (.row e sz 0 f)])[i]? = some (some (.cells t cs)) := by rw [List.getElem?_append_left hil]; exact hi
  have hm2 := mem_set (w' := w) (ob := .cells t (cs.set j (.row own.length))) hm' hi' rfl (fun _ _ => rfl) (by
    obtain ⟨b, vs, e1, e2, e3, e4⟩ := hm'.obs i _ hi'
    refine ⟨b, vs, e1, e2, e3, by rw [List.length_set]; exact e4.1, fun j' c u hc hu => ?_⟩
    rw [List.getElem?_set] at hc
    split at hc
    · rename_i ej
      subst ej
      split at hc
      · cases hc
        have := den_one (e4.2 j _ u hj hu)
        rw [this]
        exact .row _ none 0 0 (by simp [Hp.more, hn]) upd_eq
      · cases hc
    · exact e4.2 j' c u hc hu)
  rw [List.set_append, if_pos hil] at hm2
  have hS : Sub h (h.more 1) := sub_more h 1
  have hfoot : ∀ b, footOf (upd F own.length fun _ => False) (own.set i (some (.cells t (cs.set j (.row own.length)))) ++ [some (.row e sz 0 f)]) b → footOf F own b := by
    rintro b ⟨k, ob, hk, hb⟩
    by_cases e1 : k = own.length
    · subst e1; rw [upd_eq] at hb; exact hb.elim
    · have hk2 : k < own.length := by
        have := (List.getElem?_eq_some_iff.1 hk).1
        simp at this; omega
      rw [upd_lt hk2] at hb
      rw [List.getElem?_append_left (by simpa using hk2), List.getElem?_set] at hk
      split at hk
      · rename_i e2; subst e2; exact ⟨i, _, hi, hb⟩
      · exact ⟨k, ob, hk, hb⟩
  have hmine : ∀ b, mineOf (footOf (upd F own.length fun _ => False) (own.set i (some (.cells t (cs.set j (.row own.length)))) ++ [some (.row e sz 0 f)])) w b → mineOf (footOf F own) w b := fun b hb => hb.imp (hfoot b) id
  refine (hc.out mine _ _ (h.more 1) w vs hgl hm2 ⟨hden.len, fun k a v ha hv => (hden.den k a v ha hv).mono hS hL⟩).mono ?_
  rintro e' w' ⟨r, v, L', F', h', own', e1, e2, e3, e4, e5, e6, e7, e8⟩
  refine ⟨r, v, L', F', h', own', e1, e2, fun x hx => (e3 x (Nat.lt_of_lt_of_le hx hS.n)).trans (hL x hx), e4.mine_mono (fun b ⟨k, ob, hk, hb⟩ => hmine b (e4.foot k ob b hk hb).2.2), ⟨e5.os, e5.tape, e5.output, e5.size, fun k hk hno => e5.block k hk (fun hb => hno (hfoot k hb))⟩, hS.trans e6, fun k hk => (e7 k hk).imp id (hmine k), e8⟩
end
end Go.Eng
