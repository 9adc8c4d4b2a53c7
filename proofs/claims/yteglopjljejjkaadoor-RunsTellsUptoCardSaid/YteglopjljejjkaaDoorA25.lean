/- A call that hands back an own row, told as one that hands back a slice that stays. -/
import Derived.Test.YteglopjljejjkaaDoorA24
set_option linter.unusedVariables false
set_option linter.unusedSimpArgs false
namespace Go.Eng
open Go Go.RowKit
theorem callV_frzR {P : Program} [HasGl P] {f : FuncId} {args : List AV} {i : Nat} {e : TypeId} {sz m : Nat} {g : Nat → List IC} (hcl : ∀ j, j < m → (g j).all clo = true)
    (hc : CallV P f args [] (fun r own' => r = .c (.row i) ∧ own'[i]? = some (some (.row e sz m g)))) : CallV P f args [] (fun r own' => own' = [] ∧ r = .c (.sl sz m g)) := by
  refine ⟨fun mine L F h w vs hgl hm hden => ?_⟩
  refine (hc.out mine L F h w vs hgl hm hden).mono ?_
  rintro x w' ⟨r, v, L', F', h', own', h1, h2, h3, h4, h5, h6, h7, rfl, hi⟩
  obtain ⟨h'', s1, s2, s3, s4, s5⟩ := frz_row h4 hi hcl
  have hd : Den L' h' (.row i) v := h2
  have hd2 := s4.out _ _ hd
  have hsb : sbR i sz m g (.row i) = .sl sz m g := by
    unfold sbR
    simp only [show Nat.beq i i = true from Nat.beq_refl i]
  rw [hsb] at hd2
  have h0n : h.n = 0 := hm.hn
  have hclo : clo (.sl sz m g) = true := rfl
  refine ⟨.c (.sl sz m g), v, L', F', ⟨h''.m, 0⟩, [], h1, hd2.clo 0 hclo, fun i hi => by omega, ⟨rfl, s3.hsub, fun i ob hi => by simp at hi, fun i ob b hi => by simp at hi, fun i j oi oj b hi => by simp at hi⟩, h5, ⟨fun k o hk => s1.m k o (h6.m k o hk), by rw [h0n]; exact Nat.le_refl _⟩, fun k hk => ?_, rfl, rfl⟩
  rcases s5 k hk with h9 | h9
  · exact h7 k h9
  · exact .inr h9
end Go.Eng
