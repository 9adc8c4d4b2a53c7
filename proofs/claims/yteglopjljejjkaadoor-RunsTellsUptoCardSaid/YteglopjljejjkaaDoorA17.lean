/- What is handed in, read as the reckoner's values. -/
import Derived.Test.YteglopjljejjkaaDoorA16
set_option linter.unusedVariables false
namespace Go.Eng
open Go
section
variable {L : Nat → Value} {h : Hp}
theorem denAs_nil : DenAs L h [] [] := ⟨rfl, fun j a v h1 _ => by simp at h1⟩
theorem denAs_cons {a : AV} {v : Value} {as : List AV} {vs : List Value} (h1 : DenA L h a v) (h2 : DenAs L h as vs) : DenAs L h (a :: as) (v :: vs) := by
  refine ⟨by simp [h2.len], fun j b u e1 e2 => ?_⟩
  cases j with
  | zero => simp at e1 e2; subst e1 e2; exact h1
  | succ j => exact h2.den j b u (by simpa using e1) (by simpa using e2)
theorem denA_v {x : Value} (h1 : x.oneCell' = true) : DenA L h (.c (.v x)) x := Den.v x h1
end
theorem ba_len (s : ByteArray) : s.data.toList.length = s.size := by rw [Array.length_toList]; rfl
end Go.Eng
