/- Runs and items: items with rising Ids; runs' items. -/
import Derived.Test.YteglopjljejjkaaDoorBRuns
set_option linter.unusedVariables false
set_option linter.unusedSimpArgs false
set_option maxRecDepth 100000
set_option maxHeartbeats 4000000
namespace Go.Eng
open Go Go.RowKit Go.Proofs
abbrev itRow (l : List It) : Option Ob := some (.row 63 7 l.length fun k => itF (l.getD k it0))
def goodIt (x : It) : Prop := Utf8.valid x.ch = true ∧ x.id.1 ≠ 0 ∧ x.id.2 ≤ lastC
def risOk (l : List It) : Prop := (∀ j, j < l.length → goodIt (l.getD j it0)) ∧ ∀ j, j + 1 < l.length → beforeR (l.getD j it0).id (l.getD (j + 1) it0).id
theorem take_snoc {α : Type} {l : List α} {k : Nat} {d : α} (h : k < l.length) : l.take (k + 1) = l.take k ++ [l.getD k d] := by
  rw [List.take_add_one, List.getElem?_eq_getElem h]
  simp [List.getD_eq_getElem?_getD, List.getElem?_eq_getElem h]
def risL (m x : List It) : Prop := risOk x ∧ (∀ y, y ∈ x → itOk y)
theorem ris_snoc {m x : List It} {a : It} (h : risL m x) (ha : itOk a) (hg : goodIt a) (hb : x ≠ [] → beforeR (x.getD (x.length - 1) it0).id a.id) : risL m (x ++ [a]) := by
  have e1 : ∀ j, j < x.length → (x ++ [a]).getD j it0 = x.getD j it0 := fun j hj => by
    rw [List.getD_eq_getElem?_getD, List.getElem?_append_left hj, ← List.getD_eq_getElem?_getD]
  have e2 : (x ++ [a]).getD x.length it0 = a := by
    rw [List.getD_eq_getElem?_getD, List.getElem?_append_right (Nat.le_refl _), Nat.sub_self]
    rfl
  refine ⟨⟨fun j hj => ?_, fun j hj => ?_⟩, fun y hy => ?_⟩
  · rw [List.length_append, List.length_singleton] at hj
    rcases Nat.lt_succ_iff_lt_or_eq.1 hj with h2 | rfl
    · rw [e1 j h2]; exact h.1.1 j h2
    · rw [e2]; exact hg
  · rw [List.length_append, List.length_singleton] at hj
    rcases Nat.lt_succ_iff_lt_or_eq.1 hj with h2 | h2
    · rw [e1 j (by omega), e1 (j + 1) h2]; exact h.1.2 j h2
    · rw [e1 j (by omega), h2, e2]
      have := hb (fun e => by rw [e] at h2; cases h2)
      rw [show x.length - 1 = j from by omega] at this
      exact this
  · rcases List.mem_append.1 hy with hy | hy
    · exact h.2 y hy
    · rw [List.mem_singleton.1 hy]; exact ha
theorem itOk_at {m : List It} (hok : ∀ x, x ∈ m → itOk x) {k : Nat} (hk : k < m.length) : itOk (m.getD k it0) := by
  rw [List.getD_eq_getElem?_getD, List.getElem?_eq_getElem hk]
  exact hok _ (List.getElem_mem hk)
theorem one_at (c : List IC) : ∀ k, k < 1 → (fun _ : Nat => c) k = [c].getD k [] := fun k hk => by
  obtain rfl : k = 0 := by omega
  rfl
def riI (m : List It) (n : Nat) (st : St) : Prop := ∃ (k : Nat) (x : List It), n = m.length - k ∧ k ≤ m.length ∧ x.length ≤ k ∧ risL m x ∧ st = ⟨65, 0, [(0, itS m), (3, .c (.row 0)), (4, vci .i64 (k : Int))], [itRow x]⟩
theorem rising_c (m : List It) (hm : m.length ≤ 1000000) (hok : ∀ x, x ∈ m → itOk x) : CallV Tryd.prog 22 [itS m] [] (fun r own' => own' = [] ∧ ∃ x : List It, x.length ≤ m.length ∧ risL m x ∧ r = itS x) := by
  refine callV_pure Tryd.func22 rfl ttok ftok rfl rfl rfl (Nat.le_of_ble_eq_true rfl) ?_
  conv => whnf
  refine loopV ttok ftok (riI m) ((nil_row 3 63 7 (fun k => itF (([] : List It).getD k it0)) rfl).trans (norm_weak [0, 3, 4] [some 0] rfl rfl)) ⟨0, [], rfl, Nat.zero_le _, Nat.zero_le _, ⟨⟨fun j hj => by simp at hj, fun j hj => by simp at hj⟩, fun y hy => by simp at hy⟩, rfl⟩ ?_
  rintro n st ⟨k, x, rfl, hk, hx, hr, rfl⟩
  have e1 : IntKind.i64.wrap ((k : Int) + 1) = ((k + 1 : Nat) : Int) := by rw [w_i64 (by omega) (by omega)]; omega
  conv => whnf
  refine onB_intro (fun h => ?_) (fun h => ?_)
  · have h := of_decide_eq_true h
    have hk2 : k < m.length := by omega
    conv => whnf
    refine ⟨⟨by omega, by omega⟩, ?_⟩
    conv => whnf
    simp only [ti_nat]
    obtain ⟨a, ha⟩ : ∃ a, m.getD k it0 = a := ⟨_, rfl⟩
    have haok : itOk a := ha ▸ itOk_at hok hk2
    rw [ha]
    refine call_pure (rvalid_c a.ch) rfl ?_
    rintro _ rfl
    conv => whnf
    refine ⟨⟨by omega, by omega⟩, ?_⟩
    conv => whnf
    simp only [ti_nat]
    rw [ha]
    conv => whnf
    refine ⟨?_, ?_⟩
    · conv => whnf
      intro g1
      conv => whnf
      omega
    conv => whnf
    refine onB_intro (fun g => ?_) (fun g => ?_)
    · conv => whnf
      rw [e1]
      exact ⟨m.length - (k + 1), _, by omega, norm_weak [0, 3, 4] [some 0] rfl rfl, k + 1, x, rfl, by omega, by omega, hr, rfl⟩
    have hg : goodIt a := by
      try simp only [ti_nat, ha] at g
      simp [pickB, isLit] at g
      exact ⟨g.2, g.1.1, by unfold lastC; omega⟩
    clear g
    conv => whnf
    by_cases hx0 : x.length = 0
    · rw [show decide (((x.length : Nat) : Int) > 0) = false from decide_eq_false (by omega)]
      conv => whnf
      refine ⟨⟨by omega, by omega⟩, ?_⟩
      conv => whnf
      simp only [ti_nat, ha]
      refine ⟨fun _ => itF a, one_at _, ?_⟩
      conv => whnf
      refine ⟨⟨by omega, by simp only [show ti63.bytes = 28 from rfl]; omega⟩, ?_⟩
      conv => whnf
      refine app1 (enc := itF) (d := it0) a (fun k hk => rfl) rfl ?_
      conv => whnf
      rw [e1]
      exact ⟨m.length - (k + 1), _, by omega, norm_weak [0, 3, 4] [some 2] rfl rfl, k + 1, x ++ [a], rfl, by omega, by simp; omega, ris_snoc hr haok hg (fun h => absurd hx0 (fun _ => h (List.length_eq_zero_iff.1 hx0))), rfl⟩
    · rw [show decide (((x.length : Nat) : Int) > 0) = true from decide_eq_true (by omega)]
      conv => whnf
      have e2 : IntKind.i64.wrap ((x.length : Int) - 1) = ((x.length - 1 : Nat) : Int) := by rw [w_i64 (by omega) (by omega)]; omega
      refine drawV_sched (.rd 0 (.rd 1 (.rd 2 (.rd 3 (.rd 4 (.rd 5 (.rd 6 (.rd 7 (.rd 8 (.rd 9 (.rd 10 (.rd 11 (.ef 12 (.rd 13 (.nil))))))))))))))) [] mixed (by kernel_rfl) ttok ftok ?_
      conv => whnf
      simp only [e2]
      refine ⟨⟨by omega, by omega⟩, ?_⟩
      conv => whnf
      refine ⟨⟨by omega, by omega⟩, ?_⟩
      conv => whnf
      simp only [ti_nat, ha]
      refine call_pure (before_c (x.getD (x.length - 1) it0).id a.id) rfl ?_
      rintro _ rfl
      by_cases hb : beforeR (x.getD (x.length - 1) it0).id a.id
      · rw [decide_eq_true hb]
        conv => whnf
        refine ⟨⟨by omega, by omega⟩, ?_⟩
        conv => whnf
        simp only [ti_nat, ha]
        refine ⟨fun _ => itF a, one_at _, ?_⟩
        conv => whnf
        refine ⟨⟨by omega, by simp only [show ti63.bytes = 28 from rfl]; omega⟩, ?_⟩
        conv => whnf
        refine app1 (enc := itF) (d := it0) a (fun k hk => rfl) rfl ?_
        conv => whnf
        rw [e1]
        exact ⟨m.length - (k + 1), _, by omega, norm_weak [0, 3, 4] [some 2] rfl rfl, k + 1, x ++ [a], rfl, by omega, by simp; omega, ris_snoc hr haok hg (fun _ => hb), rfl⟩
      · rw [decide_eq_false hb]
        conv => whnf
        rw [e1]
        exact ⟨m.length - (k + 1), _, by omega, norm_weak [0, 3, 4] [some 0] rfl rfl, k + 1, x, rfl, by omega, by omega, hr, rfl⟩
  · have h := of_decide_eq_false h
    conv => whnf
    refine ⟨fun j hj => rfl, ?_⟩
    conv => whnf
    exact ⟨x, by omega, hr, rfl⟩
end Go.Eng
