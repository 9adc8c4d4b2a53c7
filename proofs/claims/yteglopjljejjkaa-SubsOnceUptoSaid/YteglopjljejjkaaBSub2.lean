/- Two lists of messages, whether they are the same. -/
import Derived.Test.YteglopjljejjkaaBSub1
set_option linter.unusedVariables false
set_option linter.unusedSimpArgs false
set_option maxRecDepth 100000
set_option maxHeartbeats 4000000
namespace Go.Eng
open Go Go.RowKit Go.Proofs
abbrev msS (l : List Ms) : AV := .c (.sl 6 l.length (msR l))
def saI (x y : List Ms) (n : Nat) (st : St) : Prop := ∃ k : Nat, n = x.length - k ∧ k ≤ x.length ∧ (∀ j, j < k → x.getD j ms0 = y.getD j ms0) ∧
  st = ⟨26, 0, [(0, msS x), (1, msS y), (5, vci .i64 (k : Int))], []⟩
theorem bb_eq {s t : ByteArray} : (s == t) = true ↔ s = t := by
  rcases s with ⟨u⟩
  rcases t with ⟨v⟩
  constructor
  · intro h
    have h : (u == v) = true := h
    rw [eq_of_beq h]
  · intro h
    have e : u = v := congrArg ByteArray.data h
    show (u == v) = true
    rw [e]; exact beq_self_eq_true v
def msB (a b : Ms) : Bool := a.v == b.v && (a.w == b.w && (a.t == b.t && ((a.at_ == b.at_ && (a.del == b.del && (a.ins == b.ins && true))) && true)))
theorem msB_eq {a b : Ms} : msB a b = true ↔ a = b := by
  cases a; cases b
  simp [msB, bb_eq]
theorem list_eq {x y : List Ms} (hl : x.length = y.length) (h : ∀ j, j < x.length → x.getD j ms0 = y.getD j ms0) : x = y := by
  refine List.ext_getElem hl (fun i h1 h2 => ?_)
  have := h i h1
  rw [List.getD_eq_getElem?_getD, List.getD_eq_getElem?_getD, List.getElem?_eq_getElem h1, List.getElem?_eq_getElem h2] at this
  exact this
theorem same_c (x y : List Ms) (hx : x.length ≤ 100000) (hy : y.length ≤ 100000) : CallV Try.prog 20 [msS x, msS y] [] (fun r own' => own' = [] ∧ ((x = y ∧ r = vci .i64 1) ∨ (x ≠ y ∧ r = vci .i64 0))) := by
  refine callV_pure Try.func20 rfl ttok ftok rfl rfl rfl (Nat.le_of_ble_eq_true rfl) ?_
  conv => whnf
  refine onB_intro (fun h => ?_) (fun h => ?_)
  · conv => whnf
    have h : ((x.length : Int) != y.length) = true := h
    simp at h
    exact .inr ⟨fun e => h (by rw [e]), rfl⟩
  · have hlen : x.length = y.length := by
      have h : ((x.length : Int) != y.length) = false := h
      simp at h
      omega
    conv => whnf
    refine loopV ttok ftok (saI x y) (norm_weak [0, 1, 5] [] rfl rfl) ⟨0, rfl, Nat.zero_le _, fun j hj => by omega, rfl⟩ ?_
    rintro n st ⟨k, rfl, hk, he, rfl⟩
    conv => whnf
    refine onB_intro (fun h => ?_) (fun h => ?_)
    · have h := of_decide_eq_true h
      conv => whnf
      refine drawV_join mixed (by kernel_rfl) ttok ?_
      conv => whnf
      refine ⟨⟨by omega, by omega⟩, ?_⟩
      conv => whnf
      refine ⟨⟨by omega, by omega⟩, ?_⟩
      conv => whnf
      refine onB_intro (fun h2 => ?_) (fun h2 => ?_)
      · conv => whnf
        have h2 : (!msB (x.getD k ms0) (y.getD k ms0)) = true := h2
        refine .inr ⟨fun e => ?_, rfl⟩
        rw [e, msB_eq.2 rfl] at h2
        cases h2
      · have h2 : (!msB (x.getD k ms0) (y.getD k ms0)) = false := h2
        have h3 : x.getD k ms0 = y.getD k ms0 := msB_eq.1 (by simpa using h2)
        conv => whnf
        refine ⟨x.length - (k + 1), _, by omega, norm_weak [0, 1, 5] [] rfl rfl, k + 1, rfl, by omega, fun j hj => ?_, ?_⟩
        · rcases Nat.lt_succ_iff_lt_or_eq.1 hj with hj | rfl
          · exact he j hj
          · exact h3
        · rw [show (((k + 1 : Nat)) : Int) = IntKind.i64.wrap ((k : Int) + 1) from by rw [w_i64 (by omega) (by omega)]; omega]
          rfl
    · have h := of_decide_eq_false h
      conv => whnf
      exact .inl ⟨list_eq hlen (fun j hj => he j (by omega)), rfl⟩
end Go.Eng
