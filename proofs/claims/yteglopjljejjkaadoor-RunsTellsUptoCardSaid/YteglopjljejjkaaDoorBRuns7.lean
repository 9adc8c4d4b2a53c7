/- The example at the head of the runs' laws. -/
import Derived.Test.YteglopjljejjkaaDoorBRuns6
set_option linter.unusedVariables false
set_option linter.unusedSimpArgs false
set_option maxRecDepth 100000
set_option maxHeartbeats 4000000
namespace Go.Eng
open Go Go.RowKit Go.Proofs
def ru1 : Ru := ⟨(1, 0), (0, 0), (0, 0), ⟨#[97, 98]⟩⟩
def li1 : List It := [⟨(1, 0), (0, 0), (0, 0), 97⟩, ⟨(1, 1), (1, 0), (0, 0), 98⟩]
theorem ch_ab : charsF ⟨#[97, 98]⟩ = some [97, 98] := by decide
theorem its_1 : itemsR [ru1] = li1 := by
  rw [itemsR_one]
  unfold itsR chOf
  rw [show charsF ru1.text = some [97, 98] from ch_ab]
  rfl
theorem ruOk_1 : ruOk ru1 := ⟨⟨⟨by decide, by decide⟩, by decide, by decide⟩, ⟨⟨by decide, by decide⟩, by decide, by decide⟩, ⟨⟨by decide, by decide⟩, by decide, by decide⟩, by decide⟩
theorem may_1 : mayR ru1 = true := by rw [mayR_some (l := [97, 98]) ch_ab]; decide
def ru2 : Ru := ⟨(0, 0), (0, 0), (0, 0), ⟨#[97]⟩⟩
theorem ruOk_2 : ruOk ru2 := ⟨⟨⟨by decide, by decide⟩, by decide, by decide⟩, ⟨⟨by decide, by decide⟩, by decide, by decide⟩, ⟨⟨by decide, by decide⟩, by decide, by decide⟩, by decide⟩
theorem may_2 : mayR ru2 = false := by rw [mayR_some (l := [97]) (by decide)]; decide
theorem of_1 : (ofK li1 li1.length).length = 1 := by
  show (ofK li1 2).length = 1
  rw [ofK_yes (k := 1) (x := ⟨(1, 1), (1, 0), (0, 0), 98⟩) rfl (by decide) (by unfold onR; decide), addT_len, ofK_no (k := 0) (x := ⟨(1, 0), (0, 0), (0, 0), 97⟩) rfl (fun h => absurd h.1 (by decide))]
  rfl
theorem okli : ∀ x, x ∈ li1 → itOk x := by
  intro x hx
  unfold li1 at hx
  rcases List.mem_cons.1 hx with rfl | hx
  · exact ⟨⟨⟨by decide, by decide⟩, by decide, by decide⟩, ⟨⟨by decide, by decide⟩, by decide, by decide⟩, ⟨⟨by decide, by decide⟩, by decide, by decide⟩⟩
  · rw [List.mem_singleton.1 hx]
    exact ⟨⟨⟨by decide, by decide⟩, by decide, by decide⟩, ⟨⟨by decide, by decide⟩, by decide, by decide⟩, ⟨⟨by decide, by decide⟩, by decide, by decide⟩⟩
theorem one_ru (a : Ru) : ∀ k, k < 1 → (fun k => ruF ([a].getD k ru0)) k = [ruF a].getD k [] := fun k hk => by
  obtain rfl : k = 0 := by omega
  rfl
theorem up_c : CallV Tryd.prog 19 [] [] (fun r own' => own' = [] ∧ r = vcb true) := by
  refine callV_pure Tryd.func19 rfl ttok ftok rfl rfl rfl (Nat.le_of_ble_eq_true rfl) ?_
  conv => whnf
  refine ⟨fun k => ruF ([ru1].getD k ru0), one_ru ru1, ?_⟩
  conv => whnf
  refine ⟨fun _ _ => rfl, ?_⟩
  conv => whnf
  refine call_pure (items_c [ru1] (by decide) (fun x hx => by rw [List.mem_singleton.1 hx]; exact ⟨ruOk_1, by decide⟩)) rfl ?_
  rintro _ rfl
  rw [its_1]
  conv => whnf
  refine drawV_sched (.rd 0 (.rd 1 (.rd 2 (.ef 3 (.rd 4 (.rd 5 (.rd 6 (.rd 7 (.rd 8 (.rd 9 (.rd 10 (.rd 11 (.rd 12 (.rd 13 (.rd 14 (.rd 15 (.rd 16 (.ef 17 (.rd 18 (.rd 19 (.rd 20 (.rd 21 (.rd 22 (.ef 23 (.rd 24 (.rd 25 (.rd 26 (.nil)))))))))))))))))))))))))))) [] mixed (by kernel_rfl) ttok ftok ?_
  conv => whnf
  refine ⟨⟨by decide, by decide⟩, ?_⟩
  conv => whnf
  refine call_pure (may_c ru1 ruOk_1) rfl ?_
  rintro _ rfl
  rw [may_1]
  conv => whnf
  refine ⟨⟨by decide, by decide⟩, ?_⟩
  conv => whnf
  refine ⟨⟨by decide, by decide⟩, ?_⟩
  conv => whnf
  refine call_pure (of_c li1 (by decide) okli) rfl ?_
  rintro _ rfl
  obtain ⟨q, hq⟩ := List.length_eq_one_iff.1 of_1
  rw [hq]
  conv => whnf
  refine call_pure (may_c ru2 ruOk_2) rfl ?_
  rintro _ rfl
  rw [may_2]
  all_goals first | rfl | exact ⟨rfl, rfl⟩
end Go.Eng
