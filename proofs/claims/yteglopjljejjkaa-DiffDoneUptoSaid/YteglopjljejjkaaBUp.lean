/- up, func 10. -/
import Derived.Test.YteglopjljejjkaaBDiff3
set_option linter.unusedVariables false
set_option linter.unusedSimpArgs false
set_option maxRecDepth 100000
set_option maxHeartbeats 4000000
namespace Go.Eng
open Go Go.RowKit Go.Proofs
abbrev sAbc : ByteArray := ⟨#[97, 98, 99]⟩
abbrev sAxc : ByteArray := ⟨#[97, 120, 99]⟩
abbrev edX : Ed := ⟨1, 1, ⟨#[120]⟩⟩
theorem abc_l : (runesL sAbc).length ≤ 100000000 := of_decide_eq_true (by kernel_rfl)
theorem axc_l : (runesL sAxc).length ≤ 100000000 := of_decide_eq_true (by kernel_rfl)
theorem ne_x : (sAbc = sAxc) → False := by decide
theorem ed_x : edF (edOf (runesL sAbc) (runesL sAxc)) = edF edX := by kernel_rfl
theorem do_x : doV (runesL sAbc) edX = .tup [vcs sAxc, nilI] := by kernel_rfl
theorem edok_x : EdOk edX := ⟨by decide, by decide, by decide, by decide, by decide⟩
theorem up_c : CallV Try.prog 10 [] [] (fun r own' => own' = [] ∧ r = vcb true) := by
  refine callV_pure Try.func10 rfl ttok ftok rfl rfl rfl (Nat.le_of_ble_eq_true rfl) ?_
  conv => whnf
  refine call_pure (of_c sAbc sAxc abc_l axc_l) rfl ?_
  rintro r (⟨h, _⟩ | ⟨_, rfl⟩)
  · exact absurd h ne_x
  rw [ed_x]
  conv => whnf
  refine call_pure (do_c sAbc abc_l edX edok_x) rfl ?_
  rintro _ rfl
  rw [do_x]
  conv => whnf
  all_goals exact ⟨rfl, rfl⟩
end Go.Eng
