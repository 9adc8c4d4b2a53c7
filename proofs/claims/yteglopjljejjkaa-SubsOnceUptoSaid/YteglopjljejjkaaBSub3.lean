/- up, func 17. -/
import Derived.Test.YteglopjljejjkaaBSub2
set_option linter.unusedVariables false
set_option linter.unusedSimpArgs false
set_option maxRecDepth 100000
set_option maxHeartbeats 4000000
namespace Go.Eng
open Go Go.RowKit Go.Proofs
theorem code_1 : CallV Try.prog 16 [.c (.v (.iface 76 (.int .i64 1)))] [] (fun r own' => own' = [] ∧ r = vci .i64 1) := by
  refine callV_pure Try.func16 rfl ttok ftok rfl rfl rfl (Nat.le_of_ble_eq_true rfl) ?_
  conv => whnf
  refine loop_rounds 8 ttok ftok ?_
  conv => whnf
  try rfl
def m1 : Ms := ⟨1, false, ⟨#[]⟩, 0, 0, ⟨#[]⟩⟩
theorem sup_c : CallV Try.prog 17 [] [] (fun r own' => own' = [] ∧ r = vcb true) := by
  refine callV_pure Try.func17 rfl ttok ftok rfl rfl rfl (Nat.le_of_ble_eq_true rfl) ?_
  conv => whnf
  refine call_frame2 [] rfl rfl rfl rfl (new_c 1 (by decide) (by decide)) ?_
  rintro r own2 (⟨h, _⟩ | ⟨_, rfl, rfl⟩)
  · omega
  refine ⟨.tup [.c (.own 0 0), .c (.v .nilIface)], [some (.cells 78 [.v (.slice none 0 0), vi 1, .v (.bool false)])], rfl, rfl, ?_⟩
  conv => whnf
  refine call_frame2 [] rfl rfl rfl rfl (new_c 0 (by decide) (by decide)) ?_
  rintro r own2 (⟨_, rfl, rfl⟩ | ⟨h, _⟩)
  rotate_left
  · omega
  refine ⟨.tup [.c (.v (.pointer none)), .c (.v (.iface 76 (.int .i64 1)))], [some (.cells 78 [.v (.slice none 0 0), vi 1, .v (.bool false)])], rfl, rfl, ?_⟩
  conv => whnf
  refine callV_nil 0 0 48 6 (msR []) rfl rfl ?_
  refine call_frame2 [some 0, some 1] rfl rfl rfl rfl (push_c [] (by simp) 1 false ⟨1, false, ⟨#[]⟩, 0, 0, ⟨#[]⟩⟩) ?_
  rintro r own2 (⟨h, _⟩ | ⟨_, rfl, rfl⟩)
  · simp at h
  refine ⟨vcb true, qN 78 [m1] 1 false, rfl, rfl, ?_⟩
  conv => whnf
  refine call_frame2 [some 0, some 2] rfl rfl rfl rfl (push_c [m1] (by simp) 1 false ⟨2, false, ⟨#[]⟩, 0, 0, ⟨#[]⟩⟩) ?_
  rintro r own2 (⟨_, rfl, rfl⟩ | ⟨h, _⟩)
  rotate_left
  · simp at h
  refine ⟨vcb false, qN 78 [m1] 1 true, rfl, rfl, ?_⟩
  conv => whnf
  refine call_frame2 [some 0, some 2] rfl rfl rfl rfl (drain_c [m1] (by simp) 1 true 3 ⟨#[97]⟩) ?_
  rintro r own2 (⟨_, rfl, rfl⟩ | ⟨h, _⟩)
  rotate_left
  · cases h
  refine ⟨.c (.row 3), [some (.cells 78 [.v (.slice none 0 0), vi 1, .v (.bool false)]), none, none, some (.row 48 6 2 (msR ([m1] ++ [msW 3 ⟨#[97]⟩])))], rfl, rfl, ?_⟩
  conv => whnf
  refine ⟨⟨by decide, by decide⟩, ?_⟩
  conv => whnf
  refine ⟨⟨by decide, by decide⟩, ?_⟩
  conv => whnf
  refine call_pure code_1 rfl ?_
  rintro _ rfl
  conv => whnf
  all_goals first | rfl | exact ⟨rfl, rfl⟩
end Go.Eng
