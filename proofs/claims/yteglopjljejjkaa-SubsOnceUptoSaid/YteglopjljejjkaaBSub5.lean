/- The law SubsPlays, of what is handed in. -/
import Derived.Test.YteglopjljejjkaaBSub4
import Derived.Test.YteglopjljejjkaaA21
set_option linter.unusedVariables false
set_option linter.unusedSimpArgs false
set_option maxRecDepth 100000
set_option maxHeartbeats 4000000
namespace Go.Eng
open Go Go.RowKit Go.Proofs
theorem rd_msg {B d : Nat} {cs : List IC} (h : Rd tt B (d + 3) 48 cs) : ∃ a : Ms, True ∧ cs = msF a := by
  obtain ⟨x1, y1, ⟨v, _, rfl⟩, ⟨x2, y2, ⟨w, rfl⟩, ⟨x3, y3, ⟨t, _, rfl⟩, ⟨x4, y4, ⟨x5, y5, ⟨a, _, rfl⟩, ⟨x6, y6, ⟨e, _, rfl⟩, ⟨x7, y7, ⟨i, _, rfl⟩, rfl, rfl⟩, rfl⟩, rfl⟩, rfl, rfl⟩, rfl⟩, rfl⟩, rfl⟩ := h
  exact ⟨⟨v, w, t, a, e, i⟩, trivial, rfl⟩
theorem rd_deed {B d : Nat} {cs : List IC} (h : Rd tt B (d + 4) 50 cs) : ∃ a : Dd, True ∧ cs = ddF a := by
  obtain ⟨x1, y1, ⟨v, _, rfl⟩, ⟨x2, y2, hm, rfl, rfl⟩, rfl⟩ := h
  obtain ⟨m, _, rfl⟩ := rd_msg hm
  exact ⟨⟨v, m⟩, trivial, rfl⟩
theorem subsPlays_law : ∀ avs, RdArgs tt 1048576 30 [3, 38] avs → CallV Try.prog 5 avs [] (fun r own' => own' = [] ∧ r = vcb true) := by
  rintro avs ⟨a0, r0, ⟨c0, ⟨room, wr, e0⟩, rfl⟩, ⟨a1, r1, ⟨c1, ⟨n, f, hn, hf, e1⟩, rfl⟩, rfl, rfl⟩, rfl⟩
  cases e0
  cases e1
  have wr := wf_i64 wr
  obtain ⟨l, hl, hf2, _⟩ := list_of (R := fun _ => True) dd0 (fun k hk => rd_deed (hf k hk))
  refine callV_args (argsLe_same (argsLe_sl hl hf2 (argsLe_refl _))) ?_
  exact subsplays_c room wr.1 wr.2 l (by omega) (ddR l) (fun k hk => rfl)
end Go.Eng
