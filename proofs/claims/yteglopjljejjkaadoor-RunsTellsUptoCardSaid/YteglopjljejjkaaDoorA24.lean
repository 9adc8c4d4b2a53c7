/- What the kit's shelf proves of a call, as the engine wants it. -/
import Derived.Test.YteglopjljejjkaaDoorA23
import Derived.Shelf.Unicode.DecodeSlow
set_option linter.unusedVariables false
set_option linter.unusedSimpArgs false
namespace Go.Eng
open Go Go.RowKit
/-- The two tables of the decoder lie where they lie. -/
def okTabs (g3 g4 : Nat) (m : Nat → Option Obj) : Prop := ∀ w : World, (∀ k o, m k = some o → w.heap[k]? = some o) → Lib.Utf8Tabs g3 g4 w
theorem okTabs_mono {g3 g4 : Nat} {m m' : Nat → Option Obj} (h : okTabs g3 g4 m) (hs : ∀ k o, m k = some o → m' k = some o) : okTabs g3 g4 m' := fun w hw => h w (fun k o hk => hw k o (hs k o hk))
theorem cell_heap {w w' : World} {b o : Nat} {v : Value} (hs : ∀ (k : Nat) (x : Obj), w.heap[k]? = some x → w'.heap[k]? = some x) (h : w.cell? ⟨b, o, none⟩ = some v) : w'.cell? ⟨b, o, none⟩ = some v := by
  unfold World.cell? at *
  cases hx : w.heap[b]? with
  | none => simp [hx] at h
  | some x => rw [hs b x hx]; rw [hx] at h; exact h
theorem okTabs_of {g3 g4 : Nat} {W : World} (h : Lib.Utf8Tabs g3 g4 W) : okTabs g3 g4 (fun k => W.heap[k]?) :=
  fun w hw => ⟨fun c hc => cell_heap hw (h.1 c hc), fun i hi => ⟨cell_heap hw (h.2 i hi).1, cell_heap hw (h.2 i hi).2⟩⟩
section
variable {P : Program} [HasGl P]
/-- A call at plain values that leaves alone what was there. -/
theorem callV_calls {f : FuncId} {vs : List Value} {u : Value} (hv : ∀ v, v ∈ vs → v.oneCell' = true) (hu : u.oneCell' = true)
    (hC : ∀ (m : Nat → Option Obj) (w : World), HasGl.ok P m → (∀ k o, m k = some o → w.heap[k]? = some o) → Calls P f vs.toArray w (fun e w' => e = .returned u ∧ Below w.heap.size w w')) :
    CallV P f (vs.map fun v => .c (.v v)) [] (fun r own' => own' = [] ∧ r = .c (.v u)) := by
  refine ⟨fun mine L F h w ws hgl hm hden => ?_⟩
  have e : ws = vs := by
    refine List.ext_getElem? (fun j => ?_)
    have hl := hden.len
    rw [List.length_map] at hl
    rcases Nat.lt_or_ge j vs.length with hj | hj
    · have h1 : (vs.map fun v => AV.c (.v v))[j]? = some (.c (.v vs[j])) := by rw [List.getElem?_map, List.getElem?_eq_getElem hj]; rfl
      have h2 : ws[j]? = some (ws[j]'(by omega)) := List.getElem?_eq_getElem (by omega)
      have h3 := hden.den j _ _ h1 h2
      have h4 : ws[j]'(by omega) = vs[j] := by
        have : Den L h (.v vs[j]) (ws[j]'(by omega)) := h3
        generalize ws[j]'(by omega) = x at this
        cases this; rfl
      rw [h2, h4, List.getElem?_eq_getElem hj]
    · rw [List.getElem?_eq_none (by omega), List.getElem?_eq_none (by omega)]
  subst e
  refine (hC h.m w hgl hm.hsub).mono ?_
  rintro e w' ⟨rfl, hb⟩
  have hob : ∀ (i : Nat) (ob : Ob), ([] : List (Option Ob))[i]? ≠ some (some ob) := fun i ob hi => by simp at hi
  refine ⟨.c (.v u), u, L, F, h, [], rfl, Den.v _ hu, fun _ _ => rfl, ⟨hm.hn, fun k o hk => ?_, fun i ob hi => (hob i ob hi).elim, fun i ob b hi => (hob i ob hi).elim, fun i j oi oj b hi => (hob i oi hi).elim⟩,
    ⟨hb.os, hb.tape, hb.output, hb.size, fun k hk _ => hb.block k hk⟩, Sub.refl h, fun k hk => .inl hk, rfl, rfl⟩
  have h1 := hm.hsub k o hk
  rw [hb.block k (Array.getElem?_eq_some_iff.1 h1).1]
  exact h1
end
end Go.Eng
