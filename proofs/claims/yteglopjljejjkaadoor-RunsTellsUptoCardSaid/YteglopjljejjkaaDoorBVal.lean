/- A part of the proof: what the functions of the program come to, told by a small reckoner of states. -/
import Derived.Test.YteglopjljejjkaaDoorBFt
import Derived.Test.YteglopjljejjkaaDoorBLib
set_option linter.unusedVariables false
namespace Go.Eng
open Go Go.RowKit Go.Proofs
abbrev vu (n : Int) : IC := .v (.int .u32 n)
abbrev vi (n : Int) : IC := .v (.int .i64 n)
abbrev vr (n : Int) : IC := .v (.int .i32 n)
abbrev vci (k : IntKind) (n : Int) : AV := .c (.v (.int k n))
abbrev vcb (b : Bool) : AV := .c (.v (.bool b))
abbrev vcs (s : ByteArray) : AV := .c (.v (.string s))
abbrev nilS : AV := .c (.v (.slice none 0 0))
abbrev rns (l : List Int) : AV := .c (.sl 1 l.length (runeF l))
theorem getD_take {α : Type} (l : List α) (n j : Nat) (d : α) (h : j < n) : (l.take n).getD j d = l.getD j d := by simp only [List.getD_eq_getElem?_getD, List.getElem?_take, if_pos h]
theorem getD_drop {α : Type} (l : List α) (i j : Nat) (d : α) : (l.drop i).getD j d = l.getD (i + j) d := by simp only [List.getD_eq_getElem?_getD, List.getElem?_drop]
theorem ti_nat (n : Nat) : (n : Int).toNat = n := Int.toNat_natCast n
/-- An append of one element. -/
theorem app1 {α : Type} {enc : α → List IC} {d : α} {l : List α} {f g : Nat → List IC} {K : Nat → (Nat → List IC) → Prop} (a : α) (hf : ∀ k, k < l.length → f k = enc (l.getD k d)) (hg : g 0 = enc a) (h : K (l ++ [a]).length fun k => enc ((l ++ [a]).getD k d)) :
    ∃ (n' : Nat) (f' : Nat → List IC), n' = l.length + 1 ∧ (∀ k, k < l.length → f' k = f k) ∧ (∀ k, k < 1 → f' (l.length + k) = g k) ∧ K n' f' := by
  refine ⟨_, _, by simp, fun k hk => ?_, fun k hk => ?_, h⟩
  · rw [hf k hk]
    simp [List.getD_eq_getElem?_getD, List.getElem?_append_left hk]
  · obtain rfl : k = 0 := by omega
    rw [hg]
    simp [List.getD_eq_getElem?_getD]
theorem frz_two (i j : Nat) {st st1 st' : St} (h1 : ∀ K : St → Prop, K st1 → frzK st i K) (h2 : ∀ K : St → Prop, K st' → frzK st1 j K) : Weak st st' := (frz_weak i h1).trans (frz_weak j h2)
end Go.Eng
