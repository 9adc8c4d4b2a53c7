/- A part of the proof: what the functions of the program come to, told by a small reckoner of states. -/
import Derived.Test.YteglopjljejjkabGBTyTBRngA
import Derived.Lib.Walk
import Derived.Shelf.SlSortCmp.WholeK
import Derived.WalkKit
import Derived.LoopN
import Derived.Test.YteglopjljejjkabProg
import Derived.Ground.NamesProg
import Derived.Ground.SlsfProg
import Derived.Shelf.SlLaysF0
import Derived.Shelf.Lays8
import Derived.Shelf.Lays
/- The reference's sets: of any spans; asking; counting. -/
set_option linter.unusedVariables false
set_option linter.unusedSimpArgs false
set_option maxRecDepth 100000
set_option maxHeartbeats 4000000
namespace Go.Eng
open Go Go.RowKit Go.Proofs
theorem layG_len : ∀ (l a b : List Sp) (s : Sp), (layG l (a, b, s)).1.length + (layG l (a, b, s)).2.1.length ≤ a.length + b.length + l.length
  | [], a, b, s => by simp [layG]
  | x :: l, a, b, s => by
    unfold layG
    split
    · have := layG_len l (a ++ [x]) b s; simp at *; omega
    split
    · have := layG_len l a (b ++ [x]) s; simp at *; omega
    · have := layG_len l a b ⟨s.cl, min s.fr x.fr, max s.tz x.tz⟩; simp at *; omega
theorem layL_len (l : List Sp) (s : Sp) : (layL l s).length ≤ l.length + 1 := by
  have := layG_len l [] [] s
  unfold layL
  simp at *
  omega
theorem setL_len (l : List Sp) : (setL l).length ≤ l.length := by
  suffices h : ∀ (n : Nat) (l : List Sp), l.length = n → (setL l).length ≤ l.length from h _ l rfl
  intro n
  induction n with
  | zero =>
    intro l hl
    obtain rfl := List.eq_nil_of_length_eq_zero hl
    exact Nat.le_refl _
  | succ n ih =>
    intro l hl
    rcases snoc_cases l with rfl | ⟨l, s, rfl⟩
    · cases hl
    have := ih l (by simpa using hl)
    rw [setL_snoc]
    split
    · have := layL_len (setL l) s; simp; omega
    · simp; omega
theorem take_snoc {l : List Sp} {k : Nat} (h : k < l.length) : l.take (k + 1) = l.take k ++ [l.getD k sp0] := by
  rw [List.take_add_one, List.getD_eq_getElem?_getD, List.getElem?_eq_getElem h]; rfl
def soI (l : List Sp) (m : Nat) (st : St) : Prop := ∃ k : Nat, m = l.length - k ∧ k ≤ l.length ∧ st = ⟨37, 0, [(0, spS l), (3, spS (setL (l.take k))), (4, vci .i64 (k : Int))], []⟩
theorem setof_c (l : List Sp) (hl : l.length ≤ 1000000) : CallV Try.prog 40 [spS l] [] (fun r own' => own' = [] ∧ r = spS (setL l)) := by
  refine callV_pure Try.func40 rfl ttok ftok rfl rfl rfl (Nat.le_of_ble_eq_true rfl) ?_
  conv => whnf
  refine loopV ttok ftok (soI l) ((nil_sl 3 3 (spR []) rfl).trans (env_weak [0, 3, 4] rfl)) ⟨0, rfl, Nat.zero_le _, rfl⟩ ?_
  rintro m st ⟨k, rfl, hk, rfl⟩
  have e1 := i64_s (k := k) (by omega)
  have hsl := setL_len (l.take k)
  rw [List.length_take] at hsl
  conv => whnf
  refine onB_intro (fun h => ?_) (fun h => ?_)
  · have h := of_decide_eq_true h
    have hkl : k < l.length := by omega
    have ht := setL_snoc (l.take k) (l.getD k sp0)
    rw [← take_snoc hkl] at ht
    conv => whnf
    refine drawV_join mixed (by kernel_rfl) ttok ?_
    conv => whnf
    refine ⟨by omega, ?_⟩
    conv => whnf
    refine ⟨?_, ?_⟩
    · conv => whnf
      intro g1
      conv => whnf
      omega
    conv => whnf
    refine ⟨?_, ?_⟩
    · conv => whnf
      intro g1
      conv => whnf
      omega
    conv => whnf
    rw [ti_nat]
    refine onB_intro (fun g => ?_) (fun g => ?_)
    · have g : valS (l.getD k sp0) := by
        simp [pickB, isLit, - List.getD_eq_getElem?_getD] at g
        exact g
      rw [if_pos g] at ht
      conv => whnf
      refine ⟨⟨by omega, by omega⟩, ?_⟩
      conv => whnf
      rw [ti_nat]
      refine call_pure (lay_c (setL (l.take k)) (by omega) (l.getD k sp0)) rfl ?_
      rintro _ rfl
      conv => whnf
      rw [e1, ← ht]
      exact ⟨l.length - (k + 1), _, by omega, env_weak [0, 3, 4] rfl, k + 1, rfl, by omega, rfl⟩
    · have g : ¬ valS (l.getD k sp0) := fun e => by
        unfold valS at e
        simp [pickB, isLit, - List.getD_eq_getElem?_getD] at g
        omega
      rw [if_neg g] at ht
      conv => whnf
      rw [e1]
      refine ⟨l.length - (k + 1), _, by omega, env_weak [0, 3, 4] rfl, k + 1, rfl, by omega, ?_⟩
      rw [ht]
  · have h := of_decide_eq_false h
    have hk2 : k = l.length := by omega
    subst hk2
    conv => whnf
    rw [List.take_length]
    all_goals first | rfl | exact ⟨rfl, rfl⟩
def rhI (l : List Sp) (a : I2) (m : Nat) (st : St) : Prop := ∃ k : Nat, m = l.length - k ∧ k ≤ l.length ∧ (∀ j, j < k → ¬ inS (l.getD j sp0) a.1 a.2) ∧ st = ⟨40, 0, [(0, spS l), (3, .c (.own 0 0)), (5, vci .i64 (k : Int))], [some (.cells 39 (idF a))]⟩
theorem hasS_at {l : List Sp} {c x : Int} : hasS l c x ↔ ∃ k, k < l.length ∧ inS (l.getD k sp0) c x := by
  have hg : ∀ j (hj : j < l.length), l.getD j sp0 = l[j] := fun j hj => by rw [List.getD_eq_getElem?_getD, List.getElem?_eq_getElem hj]; rfl
  constructor
  · rintro ⟨s, hs, h⟩
    obtain ⟨k, hk, rfl⟩ := List.getElem_of_mem hs
    exact ⟨k, hk, by rw [hg k hk]; exact h⟩
  · rintro ⟨k, hk, h⟩
    rw [hg k hk] at h
    exact ⟨_, List.getElem_mem hk, h⟩
theorem rhas_c (l : List Sp) (hl : l.length ≤ 1000000) (a : I2) : CallV Try.prog 47 [spS l, idA a] [] (fun r own' => own' = [] ∧ ∃ b : Bool, (b = true ↔ hasS l a.1 a.2) ∧ r = vcb b) := by
  refine callV_pure Try.func47 rfl ttok ftok rfl rfl rfl (Nat.le_of_ble_eq_true rfl) ?_
  conv => whnf
  refine loopV ttok ftok (rhI l a) (norm_weak [0, 3, 5] [some 0] rfl rfl) ⟨0, rfl, Nat.zero_le _, fun j hj => by omega, rfl⟩ ?_
  rintro m st ⟨k, rfl, hk, hj, rfl⟩
  have e1 := i64_s (k := k) (by omega)
  conv => whnf
  refine onB_intro (fun h => ?_) (fun h => ?_)
  · have h := of_decide_eq_true h
    have hkl : k < l.length := by omega
    conv => whnf
    refine drawV_join mixed (by kernel_rfl) ttok ?_
    conv => whnf
    refine ⟨by omega, ?_⟩
    conv => whnf
    refine ⟨?_, ?_⟩
    · conv => whnf
      intro g1
      conv => whnf
      omega
    conv => whnf
    refine ⟨?_, ?_⟩
    · conv => whnf
      intro g1
      conv => whnf
      omega
    conv => whnf
    rw [ti_nat]
    refine onB_intro (fun g => ?_) (fun g => ?_)
    · have g : inS (l.getD k sp0) a.1 a.2 := by
        simp [pickB, isLit, - List.getD_eq_getElem?_getD] at g
        unfold inS; omega
      conv => whnf
      exact ⟨true, ⟨fun _ => hasS_at.2 ⟨k, hkl, g⟩, fun _ => rfl⟩, rfl⟩
    · have g : ¬ inS (l.getD k sp0) a.1 a.2 := fun e => by
        unfold inS at e
        simp [pickB, isLit, - List.getD_eq_getElem?_getD] at g
        omega
      conv => whnf
      rw [e1]
      refine ⟨l.length - (k + 1), _, by omega, norm_weak [0, 3, 5] [some 0] rfl rfl, k + 1, rfl, by omega, fun j h2 => ?_, rfl⟩
      rcases Nat.lt_succ_iff_lt_or_eq.1 h2 with h3 | rfl
      · exact hj j h3
      · exact g
  · have h := of_decide_eq_false h
    conv => whnf
    refine ⟨false, ⟨fun e => (nomatch e), fun e => ?_⟩, rfl⟩
    obtain ⟨j, h1, h2⟩ := hasS_at.1 e
    exact (hj j (by omega) h2).elim
def sz64 (l : List Sp) : Int := sizeS l % 18446744073709551616
theorem sizeS_snoc {l : List Sp} {k : Nat} (h : k < l.length) : sizeS (l.take (k + 1)) = sizeS (l.take k) + ((l.getD k sp0).tz - (l.getD k sp0).fr) := by
  rw [take_snoc h, sizeS_append]; simp [sizeS]
def rcI (l : List Sp) (m : Nat) (st : St) : Prop := ∃ k : Nat, m = l.length - k ∧ k ≤ l.length ∧ st = ⟨27, 0, [(0, spS l), (3, vci .u64 (sz64 (l.take k))), (4, vci .i64 (k : Int))], []⟩
theorem rcount_c (l : List Sp) (hl : l.length ≤ 1000000) (ho : ∀ s, s ∈ l → spOk s) : CallV Try.prog 49 [spS l] [] (fun r own' => own' = [] ∧ r = vci .u64 (sz64 l)) := by
  refine callV_pure Try.func49 rfl ttok ftok rfl rfl rfl (Nat.le_of_ble_eq_true rfl) ?_
  conv => whnf
  refine loopV ttok ftok (rcI l) (env_weak [0, 3, 4] rfl) ⟨0, rfl, Nat.zero_le _, rfl⟩ ?_
  rintro m st ⟨k, rfl, hk, rfl⟩
  have e1 := i64_s (k := k) (by omega)
  conv => whnf
  refine onB_intro (fun h => ?_) (fun h => ?_)
  · have h := of_decide_eq_true h
    have hkl : k < l.length := by omega
    have hs := sizeS_snoc hkl
    have hm : spOk (l.getD k sp0) := ho _ (by rw [List.getD_eq_getElem?_getD, List.getElem?_eq_getElem hkl]; exact List.getElem_mem hkl)
    obtain ⟨_, ⟨f1, f2⟩, t1, t2⟩ := hm
    conv => whnf
    refine drawV_join mixed (by kernel_rfl) ttok ?_
    conv => whnf
    refine ⟨⟨by omega, by omega⟩, ?_⟩
    conv => whnf
    refine ⟨⟨by omega, by omega⟩, ?_⟩
    conv => whnf
    rw [e1, ti_nat]
    refine ⟨l.length - (k + 1), _, by omega, env_weak [0, 3, 4] rfl, k + 1, rfl, by omega, ?_⟩
    have e2 : IntKind.u64.wrap (IntKind.u64.wrap (sz64 (l.take k) + IntKind.u64.wrap (l.getD k sp0).tz) - IntKind.u64.wrap (l.getD k sp0).fr) = sz64 (l.take (k + 1)) := by
      simp only [w_u64]
      unfold sz64
      rw [hs]
      omega
    rw [← e2]
  · have h := of_decide_eq_false h
    have hk2 : k = l.length := by omega
    subst hk2
    conv => whnf
    rw [List.take_length]
    all_goals first | rfl | exact ⟨rfl, rfl⟩
def cnI (l : List Sp) (m : Nat) (st : St) : Prop := ∃ k : Nat, m = l.length - k ∧ k ≤ l.length ∧ st = ⟨22, 0, [(3, vci .u64 (sz64 (l.take k))), (6, spS l), (7, vci .i64 (l.length : Int)), (8, vci .i64 (k : Int))], []⟩
theorem count_c (l : List Sp) (hl : l.length ≤ 1000000) (ho : ∀ s, s ∈ l → spOk s) (hv : ∀ s, s ∈ l → s.fr ≤ s.tz) : CallV Try.prog 48 [spS l] [] (fun r own' => own' = [] ∧ r = vci .u64 (sz64 l)) := by
  refine callV_pure Try.func48 rfl ttok ftok rfl rfl rfl (Nat.le_of_ble_eq_true rfl) ?_
  conv => whnf
  refine loopV ttok ftok (cnI l) (env_weak [3, 6, 7, 8] rfl) ⟨0, rfl, Nat.zero_le _, rfl⟩ ?_
  rintro m st ⟨k, rfl, hk, rfl⟩
  have e1 := i64_s (k := k) (by omega)
  conv => whnf
  refine onB_intro (fun h => ?_) (fun h => ?_)
  · have h := of_decide_eq_true h
    have hkl : k < l.length := by omega
    have hs := sizeS_snoc hkl
    have hin : l.getD k sp0 ∈ l := by rw [List.getD_eq_getElem?_getD, List.getElem?_eq_getElem hkl]; exact List.getElem_mem hkl
    have hvv := hv _ hin
    obtain ⟨_, ⟨f1, f2⟩, t1, t2⟩ := ho _ hin
    conv => whnf
    refine ⟨⟨by omega, by omega⟩, ?_⟩
    conv => whnf
    rw [e1, ti_nat]
    refine ⟨l.length - (k + 1), _, by omega, norm_weak [3, 6, 7, 8] [] rfl rfl, k + 1, rfl, by omega, ?_⟩
    have e2 : IntKind.u64.wrap (sz64 (l.take k) + IntKind.u64.wrap (IntKind.u32.wrap ((l.getD k sp0).tz - (l.getD k sp0).fr))) = sz64 (l.take (k + 1)) := by
      simp only [w_u64, w_u32]
      unfold sz64
      rw [hs]
      omega
    rw [← e2]
    all_goals rfl
  · have h := of_decide_eq_false h
    have hk2 : k = l.length := by omega
    subst hk2
    conv => whnf
    rw [List.take_length]
    all_goals first | rfl | exact ⟨rfl, rfl⟩
end Go.Eng
/- ranges.Of: what is no span goes. -/
set_option linter.unusedVariables false
set_option linter.unusedSimpArgs false
set_option maxRecDepth 100000
set_option maxHeartbeats 4000000
namespace Go.Eng
open Go Go.RowKit Go.Proofs
theorem of1_c (s : Sp) : CallV Try.prog 81 [.agg (spF s)] [] (fun r own' => own' = [] ∧ r = vcb (!decide (valS s))) := by
  refine callV_pure Try.func81 rfl ttok ftok rfl rfl rfl (Nat.le_of_ble_eq_true rfl) ?_
  conv => whnf
  have e : pickB (s.cl == 0) (Operand.const (Value.bool true)) (Operand.tmp 11) true (decide (s.fr ≥ s.tz)) = !decide (valS s) := by
    unfold valS
    simp only [pickB, isLit]
    by_cases h : s.cl = 0
    · simp [h]
    · by_cases h2 : s.fr < s.tz
      · simp [h, h2]
      · simp [h, h2]; omega
  rw [e]
def ixI (l : List Sp) (c n : Nat) (st : St) : Prop := ∃ k : Nat, n = l.length - k ∧ k ≤ l.length ∧ (∀ j, j < k → valS (l.getD j sp0)) ∧
  st = ⟨19, 2, [(0, .c (.view 1 3 0 l.length c)), (1, .c (.fn 81 [])), (7, vci .i64 l.length), (8, vci .i64 (k : Int))], [none, some (.arr 87 3 c l.length (spR l))]⟩
theorem ixf_v (l : List Sp) (c : Nat) (hc : l.length ≤ c) (hl : l.length ≤ 1000000) : CallV Try.prog 104 [.c (.view 1 3 0 l.length c), .c (.fn 81 [])] [none, some (.arr 87 3 c l.length (spR l))]
    (fun r own' => ((∃ k : Nat, k < l.length ∧ ¬ valS (l.getD k sp0) ∧ (∀ j, j < k → valS (l.getD j sp0)) ∧ r = vci .i64 k) ∨ ((∀ j, j < l.length → valS (l.getD j sp0)) ∧ r = vci .i64 (-1))) ∧ own' = [none, some (.arr 87 3 c l.length (spR l))]) := by
  refine callV_own Try.func104 rfl ttok ftok rfl rfl rfl (Nat.le_of_ble_eq_true rfl) rfl ?_
  conv => whnf
  refine loopV ttok ftok (ixI l c) (env_weak [0, 1, 7, 8] rfl) ⟨0, rfl, Nat.zero_le _, fun j hj => by omega, rfl⟩ ?_
  rintro n st ⟨k, rfl, hk, hj, rfl⟩
  have e1 := i64_s (k := k) (by omega)
  conv => whnf
  refine onB_intro (fun h => ?_) (fun h => ?_)
  · have h := of_decide_eq_true h
    have hkl : k < l.length := by omega
    conv => whnf
    refine ⟨⟨by omega, by omega⟩, ?_⟩
    conv => whnf
    rw [ti_nat]
    refine ⟨by omega, ?_⟩
    conv => whnf
    rw [show 0 + k = k from Nat.zero_add k]
    refine call_pure (of1_c (l.getD k sp0)) rfl ?_
    rintro _ rfl
    conv => whnf
    by_cases hv : valS (l.getD k sp0)
    · rw [show (!decide (valS (l.getD k sp0))) = false from by rw [decide_eq_true hv]; rfl]
      conv => whnf
      rw [e1]
      refine ⟨l.length - (k + 1), _, by omega, env_weak [0, 1, 7, 8] rfl, k + 1, rfl, by omega, fun j h2 => ?_, rfl⟩
      rcases Nat.lt_succ_iff_lt_or_eq.1 h2 with h3 | rfl
      · exact hj j h3
      · exact hv
    · rw [show (!decide (valS (l.getD k sp0))) = true from by rw [decide_eq_false hv]; rfl]
      conv => whnf
      refine ⟨_, Weak.refl _, ?_⟩
      conv => whnf
      exact ⟨[none, some 1], rfl, rfl, .inl ⟨k, hkl, hv, hj, rfl⟩, rfl⟩
  · have h := of_decide_eq_false h
    conv => whnf
    refine ⟨_, Weak.refl _, ?_⟩
    conv => whnf
    exact ⟨[none, some 1], rfl, rfl, .inr ⟨fun j hj2 => hj j (by omega), rfl⟩, rfl⟩
theorem ixf_n : CallV Try.prog 104 [.c (.v (.slice none 0 0)), .c (.fn 81 [])] [] (fun r own' => own' = [] ∧ r = vci .i64 (-1)) := by
  refine callV_pure Try.func104 rfl ttok ftok rfl rfl rfl (Nat.le_of_ble_eq_true rfl) ?_
  conv => whnf
  refine ⟨by omega, ?_⟩
  conv => whnf
  refine loop_rounds 1 ttok ftok ?_
  conv => whnf
  all_goals first | rfl | exact ⟨rfl, rfl⟩
theorem valid_all {l : List Sp} (h : ∀ j, j < l.length → valS (l.getD j sp0)) : valid l = l := by
  refine List.filter_eq_self.2 fun s hs => ?_
  obtain ⟨k, hk, rfl⟩ := List.getElem_of_mem hs
  have := h k hk
  rw [List.getD_eq_getElem?_getD, List.getElem?_eq_getElem hk] at this
  exact decide_eq_true this
def deI (l : List Sp) (c n : Nat) (st : St) : Prop := ∃ (j i : Nat) (f : Nat → Sp), n = l.length - j ∧ j ≤ l.length ∧ i < j ∧ (valid (l.take j)).length = i ∧ (∀ q, q < i → f q = (valid (l.take j)).getD q sp0) ∧ (∀ q, j ≤ q → q < l.length → f q = l.getD q sp0) ∧
  st = ⟨42, 2, [(0, .c (.view 1 3 0 l.length c)), (1, .c (.fn 81 [])), (5, vci .i64 (i : Int)), (6, vci .i64 (j : Int))], [none, some (.arr 87 3 c l.length fun q => spF (f q))]⟩
theorem delf_c (l : List Sp) (hl : l.length ≤ 1000000) : CallV Try.prog 79 [.c (.row 0), .c (.fn 81 [])] [some (.row 87 3 l.length (spR l))]
    (fun r own' => r = .c (.row 2) ∧ own' = [none, none, some (.row 87 3 (valid l).length (spR (valid l)))]) := by
  refine callV_view 0 rfl (fun h0 => ?_) (fun c hc hc2 => ?_)
  · obtain rfl : l = [] := List.eq_nil_of_length_eq_zero h0
    show CallV Try.prog 79 [.c (.v (.slice none 0 0)), .c (.fn 81 [])] [none] _
    refine callV_own Try.func79 rfl ttok ftok rfl rfl rfl (Nat.le_of_ble_eq_true rfl) rfl ?_
    conv => whnf
    refine call_pure ixf_n rfl ?_
    rintro _ rfl
    conv => whnf
    refine ⟨_, nil_row 4 87 3 (spR []) rfl, ?_⟩
    conv => whnf
    exact ⟨[none, none, some 1], rfl, rfl, rfl, rfl⟩
  show CallV Try.prog 79 [.c (.view 1 3 0 l.length c), .c (.fn 81 [])] [none, some (.arr 87 3 c l.length (spR l))] _
  refine callV_own Try.func79 rfl ttok ftok rfl rfl rfl (Nat.le_of_ble_eq_true rfl) rfl ?_
  conv => whnf
  refine (ixf_v l c hc hl).mono ?_
  rintro r own' ⟨h, rfl⟩
  rcases h with ⟨i, hi, hv, hj, rfl⟩ | ⟨hj, rfl⟩
  rotate_left
  · conv => whnf
    refine ⟨_, view_row 4 1 (n := l.length) rfl rfl rfl rfl (Nat.le_refl _) rfl, ?_⟩
    conv => whnf
    rw [valid_all hj]
    exact ⟨[none, none, some 2], rfl, rfl, rfl, rfl⟩
  conv => whnf
  rw [show ((i : Int) == -1) = false from beq_eq_false_iff_ne.2 (by omega)]
  conv => whnf
  have hvi : valid (l.take (i + 1)) = l.take i := by
    rw [take_snoc hi, valid_append, valid_all (l := l.take i) (fun j hj2 => by rw [List.length_take] at hj2; rw [getD_take _ _ _ _ (by omega)]; exact hj j (by omega))]
    simp [valid, hv, - List.getD_eq_getElem?_getD]
  rw [i64_s (by omega)]
  refine loopV ttok ftok (deI l c) (env_weak [0, 1, 5, 6] rfl) ⟨i + 1, i, fun q => l.getD q sp0, rfl, by omega, by omega, by rw [hvi, List.length_take]; omega, fun q hq => by rw [hvi]; exact (getD_take _ _ _ _ hq).symm, fun q hq _ => rfl, rfl⟩ ?_
  rintro n st ⟨j, i, f, rfl, hjl, hij, hi, hf1, hf2, rfl⟩
  have e1 := i64_s (k := j) (by omega)
  have e2 := i64_s (k := i) (by omega)
  conv => whnf
  refine onB_intro (fun h => ?_) (fun h => ?_)
  · have h := of_decide_eq_true h
    have hkl : j < l.length := by omega
    conv => whnf
    refine ⟨⟨by omega, by omega⟩, ?_⟩
    conv => whnf
    rw [ti_nat]
    refine ⟨by omega, ?_⟩
    rw [show 0 + j = j from Nat.zero_add j]
    have hfj := hf2 j (Nat.le_refl _) hkl
    conv => whnf
    refine call_pure (of1_c (f j)) rfl ?_
    rintro _ rfl
    have ht := take_snoc hkl
    rw [← hfj] at ht
    by_cases hv : valS (f j)
    · rw [show (!decide (valS (f j))) = false from by rw [decide_eq_true hv]; rfl]
      have hva : valid (l.take (j + 1)) = valid (l.take j) ++ [f j] := by rw [ht, valid_append, show valid [f j] = [f j] from by simp [valid, hv, - List.getD_eq_getElem?_getD]]
      conv => whnf
      refine ⟨⟨by omega, by omega⟩, ?_⟩
      conv => whnf
      rw [ti_nat]
      refine ⟨by omega, ?_⟩
      conv => whnf
      refine ⟨fun q => spF (if q = i then f j else f q), fun q _ => ?_, ?_⟩
      · show spF (if q = i then f j else f q) = _
        by_cases hq : q = i
        · rw [if_pos hq, if_pos (by omega)]
        · rw [if_neg hq, if_neg (by omega)]
      conv => whnf
      rw [e1, e2]
      exact ⟨l.length - (j + 1), _, by omega, norm_weak [0, 1, 5, 6] [none, some 1] rfl rfl, j + 1, i + 1, fun q => if q = i then f j else f q, rfl, by omega, by omega, by rw [hva, List.length_append, hi]; rfl, fun q hq => by
        rw [hva]
        show (if q = i then f j else f q) = _
        by_cases hqi : q = i
        · rw [if_pos hqi, List.getD_eq_getElem?_getD, List.getElem?_append_right (by omega), hqi, hi, Nat.sub_self]; rfl
        · rw [if_neg hqi, List.getD_eq_getElem?_getD, List.getElem?_append_left (by omega), ← List.getD_eq_getElem?_getD]; exact hf1 q (by omega), fun q hq hq2 => by
        show (if q = i then f j else f q) = _
        rw [if_neg (by omega)]; exact hf2 q (by omega) hq2, rfl⟩
    · rw [show (!decide (valS (f j))) = true from by rw [decide_eq_false hv]; rfl]
      have hva : valid (l.take (j + 1)) = valid (l.take j) := by rw [ht, valid_append, show valid [f j] = [] from by simp [valid, hv, - List.getD_eq_getElem?_getD], List.append_nil]
      conv => whnf
      rw [e1]
      exact ⟨l.length - (j + 1), _, by omega, norm_weak [0, 1, 5, 6] [none, some 1] rfl rfl, j + 1, i, f, rfl, by omega, by omega, by rw [hva]; exact hi, fun q hq => by rw [hva]; exact hf1 q hq, fun q hq hq2 => hf2 q (by omega) hq2, rfl⟩
  · have h := of_decide_eq_false h
    have hjl2 : j = l.length := by omega
    subst hjl2
    rw [List.take_length] at hi hf1
    conv => whnf
    refine ⟨⟨by omega, by omega, by omega, by omega⟩, ?_⟩
    conv => whnf
    simp only [ti_nat]
    refine ⟨by omega, (valid l).length, spR (valid l), fun q hq => .inr ⟨.inl (by omega), by omega, ?_⟩, ?_⟩
    · show spF _ = spF (f q)
      rw [hf1 q (by omega)]
    conv => whnf
    refine ⟨⟨by omega, by omega, by omega, by omega⟩, ?_⟩
    conv => whnf
    refine ⟨_, view_row 4 1 (n := (valid l).length) rfl rfl (by rfl) (by omega) (by omega) (by omega), ?_⟩
    conv => whnf
    exact ⟨[none, none, some 2], rfl, rfl, rfl, rfl⟩
end Go.Eng
/- What two keys, one behind the other, order: cmp.Or of two cmp.Compare, walked by the kit's own tactics. -/
set_option maxRecDepth 100000
set_option maxHeartbeats 4000000
set_option linter.unusedVariables false
set_option linter.unusedSimpArgs false
namespace Go.Proofs
open Go.Shelf Go.RowKit Go.Lib Go.Sort Go.Eng
def cmpI' (x y : Int) : Int := if x < y then -1 else if y < x then 1 else 0
theorem isNaN_w (x : Int) (w : World) : Calls Try.prog 106 #[.int .u32 x] w fun e w' => e = .returned (.bool false) ∧ w' = w := by
  go_enter Try.func106, (show Try.f106.ntmps = 6 from rfl)
  go_wp2
  go_ret
  exact ⟨by simp, rfl⟩
theorem compare_w (x y : Int) (w : World) : Calls Try.prog 85 #[.int .u32 x, .int .u32 y] w fun e w' => e = .returned (.int .i64 (cmpI' x y)) ∧ w' = w := by
  have e7 : ∀ args w, (callFunc 106 args).run Try.prog w = .ok (.enter 106 args) w := enters_of Try.func106 (by kernel_rfl) rfl
  go_enter Try.func85, (show Try.f85.ntmps = 20 from rfl)
  go_wp2_with (go_at_fn 106; refine (isNaN_w _ _).mono ?_; rintro e w' ⟨rfl, hw⟩; rw [hw])
  all_goals (go_ret; refine ⟨?_, rfl⟩; unfold cmpI'; (repeat' split) <;> first | rfl | (exfalso; omega))
theorem compare_g (x y : Int) (w : World) : Calls Try.prog 85 #[.int .u32 x, .int .u32 y] w fun e w' => e = .returned (.int .i64 (cmpI' x y)) ∧ ∃ q os', w' = grow (w.drewN q) os' :=
  (compare_w x y w).mono fun e w' ⟨h1, h2⟩ => ⟨h1, 0, #[], by rw [h2, grow_empty]; rfl⟩
theorem or_w (a b : Int) (blk : Nat) (w : World) (h0 : w.cell? ⟨blk, 0, none⟩ = some (.int .i64 a)) (h1 : w.cell? ⟨blk, 1, none⟩ = some (.int .i64 b)) :
    Calls Try.prog 84 #[.slice (some ⟨blk, 0, none⟩) 2 2] w fun e w' => e = .returned (.int .i64 (if a = 0 then b else a)) ∧ w' = w := by
  obtain ⟨r, hr⟩ : ∃ r, (if a = 0 then b else a) = r := ⟨_, rfl⟩
  rw [hr]
  go_enter Try.func84, (show Try.f84.ntmps = 18 from rfl)
  go_wp2
  refine wp_loop_rounds 3 ?_
  unfold Code.rounds
  by_cases ha : a = 0
  · rw [if_pos ha] at hr
    subst ha
    subst hr
    have e0 : (((0 : Int) != 0)) = false := rfl
    go_wp2
    unfold Code.rounds
    by_cases hb : b = 0
    · subst hb
      go_wp2
      unfold Code.rounds
      go_wp2
      go_ret
      exact ⟨rfl, rfl⟩
    · have e1 : (b != 0) = true := bne_iff_ne.2 hb
      go_wp2
      go_ret
      exact ⟨rfl, rfl⟩
  · rw [if_neg ha] at hr
    subst hr
    have e0 : (a != 0) = true := bne_iff_ne.2 ha
    go_wp2
    go_ret
    exact ⟨rfl, rfl⟩
theorem ofc_w (x y : Int × Int × Int) (W : World) : Calls Try.prog 83 #[.agg #[.int .u32 x.1, .int .u32 x.2.1, .int .u32 x.2.2], .agg #[.int .u32 y.1, .int .u32 y.2.1, .int .u32 y.2.2]] W fun e w' => e = .returned (.int .i64 (if cmpI' x.1 y.1 = 0 then cmpI' x.2.1 y.2.1 else cmpI' x.1 y.1)) ∧ ∃ q os', w' = grow (W.drewN q) os' := by
  have e7 : ∀ args w, (callFunc 85 args).run Try.prog w = .ok (.enter 85 args) w := enters_of Try.func85 (by kernel_rfl) rfl
  have e8 : ∀ args w, (callFunc 84 args).run Try.prog w = .ok (.enter 84 args) w := enters_of Try.func84 (by kernel_rfl) rfl
  have mixed : Try.prog.follows .mixedOrders = true := by kernel_rfl
  obtain ⟨r, hr⟩ : ∃ r, (if cmpI' x.1 y.1 = 0 then cmpI' x.2.1 y.2.1 else cmpI' x.1 y.1) = r := ⟨_, rfl⟩
  rw [hr]
  go_enter Try.func83, (show Try.f83.ntmps = 17 from rfl)
  go_wp2
  obtain ⟨W2, hW2⟩ : ∃ W2, W2 = ((W.alloc (Obj.cells #[.int .u32 x.1, .int .u32 x.2.1, .int .u32 x.2.2] 87)).alloc (Obj.cells #[.int .u32 y.1, .int .u32 y.2.1, .int .u32 y.2.2] 87)) := ⟨_, rfl⟩
  have c0 : ∀ n os, (grow (W2.drewN n) os).cell? ⟨W.heap.size, 0, none⟩ = some (.int .u32 x.1) := fun n os => cell_grown (by subst hW2; simp <;> omega) (by subst hW2; simp) n os
  have c1 : ∀ n os, (grow (W2.drewN n) os).cell? ⟨W.heap.size, 1, none⟩ = some (.int .u32 x.2.1) := fun n os => cell_grown (by subst hW2; simp <;> omega) (by subst hW2; simp) n os
  have c2 : ∀ n os, (grow (W2.drewN n) os).cell? ⟨W.heap.size + 1, 0, none⟩ = some (.int .u32 y.1) := fun n os => cell_grown (by subst hW2; simp <;> omega) (by subst hW2; simp) n os
  have c3 : ∀ n os, (grow (W2.drewN n) os).cell? ⟨W.heap.size + 1, 1, none⟩ = some (.int .u32 y.2.1) := fun n os => cell_grown (by subst hW2; simp <;> omega) (by subst hW2; simp) n os
  have hfin : ∃ q os', W2 = grow (W.drewN q) os' := ⟨0, _, by rw [hW2, alloc_eq_grow, alloc_eq_grow, grow_grow]; rfl⟩
  rw [← hW2]
  clear hW2
  refine wp_region_mix (k := 10) (C := fun w' => ∃ p : GrownBy, w' = grow (W2.drewN p.n) p.os) mixed (by kernel_rfl) ⟨⟨1, #[]⟩, by rw [grow_empty]; rfl⟩ ?_
  simp only [List.take_succ_cons, List.take_zero, List.drop_succ_cons, List.drop_zero]
  repeat (quiet_step (exact Calls.grown_of (compare_g _ _ _)))
  refine wpQuiet_nil ?_
  intro _ hw'
  obtain ⟨⟨nq, osq⟩, rfl⟩ := hw'
  obtain ⟨q1, os1, hfin⟩ := hfin
  have hfin3 : ∃ q os', grow (W2.drewN nq) osq = grow (W.drewN q) os' := ⟨q1 + nq, os1 ++ osq, by rw [hfin]; show grow (grow ((W.drewN q1).drewN nq) os1) osq = _; rw [grow_grow, World.drewN_drewN]⟩
  clear hfin c0 c1 c2 c3
  show wpList _ _ _ _ _ (grow (W2.drewN nq) osq)
  generalize grow (W2.drewN nq) osq = W3 at hfin3 ⊢
  generalize cmpI' x.1 y.1 = a at hr ⊢
  generalize cmpI' x.2.1 y.2.1 = b at hr ⊢
  go_wp2_with (go_at_fn 84; refine (or_w a b W3.heap.size _ (by simp) (by simp)).mono ?_; rintro e w' ⟨rfl, hw⟩; rw [hw, hr])
  go_ret
  obtain ⟨q, os', rfl⟩ := hfin3
  exact ⟨rfl, q, os' ++ #[_], by rw [alloc_eq_grow, grow_grow]⟩
theorem idc_w (x y : Int × Int) (W : World) : Calls Try.prog 68 #[.agg #[.int .u32 x.1, .int .u32 x.2], .agg #[.int .u32 y.1, .int .u32 y.2]] W fun e w' => e = .returned (.int .i64 (if cmpI' x.1 y.1 = 0 then cmpI' x.2 y.2 else cmpI' x.1 y.1)) ∧ ∃ q os', w' = grow (W.drewN q) os' := by
  have e7 : ∀ args w, (callFunc 85 args).run Try.prog w = .ok (.enter 85 args) w := enters_of Try.func85 (by kernel_rfl) rfl
  have e8 : ∀ args w, (callFunc 84 args).run Try.prog w = .ok (.enter 84 args) w := enters_of Try.func84 (by kernel_rfl) rfl
  have mixed : Try.prog.follows .mixedOrders = true := by kernel_rfl
  obtain ⟨r, hr⟩ : ∃ r, (if cmpI' x.1 y.1 = 0 then cmpI' x.2 y.2 else cmpI' x.1 y.1) = r := ⟨_, rfl⟩
  rw [hr]
  go_enter Try.func68, (show Try.f68.ntmps = 17 from rfl)
  go_wp2
  obtain ⟨W2, hW2⟩ : ∃ W2, W2 = ((W.alloc (Obj.cells #[.int .u32 x.1, .int .u32 x.2] 39)).alloc (Obj.cells #[.int .u32 y.1, .int .u32 y.2] 39)) := ⟨_, rfl⟩
  have c0 : ∀ n os, (grow (W2.drewN n) os).cell? ⟨W.heap.size, 0, none⟩ = some (.int .u32 x.1) := fun n os => cell_grown (by subst hW2; simp <;> omega) (by subst hW2; simp) n os
  have c1 : ∀ n os, (grow (W2.drewN n) os).cell? ⟨W.heap.size, 1, none⟩ = some (.int .u32 x.2) := fun n os => cell_grown (by subst hW2; simp <;> omega) (by subst hW2; simp) n os
  have c2 : ∀ n os, (grow (W2.drewN n) os).cell? ⟨W.heap.size + 1, 0, none⟩ = some (.int .u32 y.1) := fun n os => cell_grown (by subst hW2; simp <;> omega) (by subst hW2; simp) n os
  have c3 : ∀ n os, (grow (W2.drewN n) os).cell? ⟨W.heap.size + 1, 1, none⟩ = some (.int .u32 y.2) := fun n os => cell_grown (by subst hW2; simp <;> omega) (by subst hW2; simp) n os
  have hfin : ∃ q os', W2 = grow (W.drewN q) os' := ⟨0, _, by rw [hW2, alloc_eq_grow, alloc_eq_grow, grow_grow]; rfl⟩
  rw [← hW2]
  clear hW2
  refine wp_region_mix (k := 10) (C := fun w' => ∃ p : GrownBy, w' = grow (W2.drewN p.n) p.os) mixed (by kernel_rfl) ⟨⟨1, #[]⟩, by rw [grow_empty]; rfl⟩ ?_
  simp only [List.take_succ_cons, List.take_zero, List.drop_succ_cons, List.drop_zero]
  repeat (quiet_step (exact Calls.grown_of (compare_g _ _ _)))
  refine wpQuiet_nil ?_
  intro _ hw'
  obtain ⟨⟨nq, osq⟩, rfl⟩ := hw'
  obtain ⟨q1, os1, hfin⟩ := hfin
  have hfin3 : ∃ q os', grow (W2.drewN nq) osq = grow (W.drewN q) os' := ⟨q1 + nq, os1 ++ osq, by rw [hfin]; show grow (grow ((W.drewN q1).drewN nq) os1) osq = _; rw [grow_grow, World.drewN_drewN]⟩
  clear hfin c0 c1 c2 c3
  show wpList _ _ _ _ _ (grow (W2.drewN nq) osq)
  generalize grow (W2.drewN nq) osq = W3 at hfin3 ⊢
  generalize cmpI' x.1 y.1 = a at hr ⊢
  generalize cmpI' x.2 y.2 = b at hr ⊢
  go_wp2_with (go_at_fn 84; refine (or_w a b W3.heap.size _ (by simp) (by simp)).mono ?_; rintro e w' ⟨rfl, hw⟩; rw [hw, hr])
  go_ret
  obtain ⟨q, os', rfl⟩ := hfin3
  exact ⟨rfl, q, os' ++ #[_], by rw [alloc_eq_grow, grow_grow]⟩
theorem lt_lex {α : Type} (f g : α → Int) (x y : α) : ltOf (fun x y : α => if cmpI' (f x) (f y) = 0 then cmpI' (g x) (g y) else cmpI' (f x) (f y)) x y = decide (f x < f y ∨ f x = f y ∧ g x < g y) := by
  simp only [ltOf, cmpI']
  congr 1
  repeat' split
  all_goals (simp only [eq_iff_iff]; omega)
theorem swo_lex {α : Type} (f g : α → Int) : SWO (ltOf fun x y : α => if cmpI' (f x) (f y) = 0 then cmpI' (g x) (g y) else cmpI' (f x) (f y)) := by
  refine ⟨fun x => ?_, fun x y z h1 h2 => ?_, fun x y z h1 h2 => ?_⟩
  all_goals
    rw [lt_lex] at *
    try rw [lt_lex] at h1
    try rw [lt_lex] at h2
    simp only [decide_eq_true_eq, decide_eq_false_iff_not] at *
    omega
end Go.Proofs
/-
  DERIVED: THE SHELF's CONTRACTS AT THIS DUMP, IN PLAIN WORDS (tools/lay-plain.mjs out of 'Lay.lean', which tools/lay-shelf.mjs wrote): THE SAME DECLARATIONS UNDER THE SAME NAMES: 'import', 'namespace', 'open', 'def', 'theorem' AND NOTHING ELSE: no command of the shelf's: FOR A HAND-IN. Each laying: the table of numbers ('.._ren') and one theorem, a field a fact of the dump's own or the kernel's comparison; each contract: ONE APPLICATION.
-/
set_option maxRecDepth 100000
namespace Go.Proofs
open Go.Shelf
def Try.sortId_ren : Go.Shelf.Ren := ⟨fun | 6 => 67 | 15 => 101 | 14 => 100 | 28 => 125 | 29 => 126 | 20 => 117 | 21 => 118 | 22 => 119 | 23 => 120 | 24 => 121 | 25 => 122 | 26 => 123 | 27 => 124 | 46 => 138 | 47 => 139 | 48 => 140 | 49 => 141 | 50 => 142 | 57 => 148 | n => n, fun | 22 => 63 | 24 => 39 | 25 => 115 | 3 => 3 | 39 => 147 | 0 => 0 | 53 => 37 | 55 => 83 | 4 => 4 | 46 => 165 | 45 => 164 | 50 => 45 | 5 => 5 | 9 => 9 | 66 => 179 | 70 => 183 | 76 => 189 | 77 => 190 | n => n, fun | n => n⟩
theorem Try.sortId : Go.Proofs.SlLaysF0.n6 Try.prog Try.sortId_ren := {
  mixed := by kernel_rfl
  f6 := ⟨Try.f67.name, by decide, Try.func67.trans (congrArg some (by kernel_rfl))⟩
  f14 := ⟨Try.f100.name, by decide, Try.func100.trans (congrArg some (by kernel_rfl))⟩
  f15 := Try.func101.trans (congrArg some (by kernel_rfl))
  f20 := ⟨Try.f117.name, by decide, Try.func117.trans (congrArg some (by kernel_rfl))⟩
  f21 := ⟨Try.f118.name, by decide, Try.func118.trans (congrArg some (by kernel_rfl))⟩
  f22 := ⟨Try.f119.name, by decide, Try.func119.trans (congrArg some (by kernel_rfl))⟩
  f23 := ⟨Try.f120.name, by decide, Try.func120.trans (congrArg some (by kernel_rfl))⟩
  f24 := ⟨Try.f121.name, by decide, Try.func121.trans (congrArg some (by kernel_rfl))⟩
  f25 := ⟨Try.f122.name, by decide, Try.func122.trans (congrArg some (by kernel_rfl))⟩
  f26 := ⟨Try.f123.name, by decide, Try.func123.trans (congrArg some (by kernel_rfl))⟩
  f27 := ⟨Try.f124.name, by decide, Try.func124.trans (congrArg some (by kernel_rfl))⟩
  f28 := Try.func125.trans (congrArg some (by kernel_rfl))
  f29 := Try.func126.trans (congrArg some (by kernel_rfl))
  f46 := ⟨Try.f138.name, by decide, Try.func138.trans (congrArg some (by kernel_rfl))⟩
  f47 := Try.func139.trans (congrArg some (by kernel_rfl))
  f48 := Try.func140.trans (congrArg some (by kernel_rfl))
  f49 := ⟨Try.f141.name, by decide, Try.func141.trans (congrArg some (by kernel_rfl))⟩
  f50 := ⟨Try.f142.name, by decide, Try.func142.trans (congrArg some (by kernel_rfl))⟩
  f57 := ⟨Try.f148.name, by decide, Try.func148.trans (congrArg some (by kernel_rfl))⟩
  t0 := Try.underlying0
  a0 := Try.isAgg0
  z0 := Try.sizeOf0
  v0 := Try.zeroValue0
  t3 := Try.underlying3
  a3 := Try.isAgg3
  z3 := Try.sizeOf3
  v3 := Try.zeroValue3
  t4 := Try.underlying4
  a4 := Try.isAgg4
  z4 := Try.sizeOf4
  v4 := Try.zeroValue4
  t5 := Try.underlying5
  a5 := Try.isAgg5
  z5 := Try.sizeOf5
  v5 := Try.zeroValue5
  t9 := Try.underlying9
  a9 := Try.isAgg9
  z9 := Try.sizeOf9
  v9 := Try.zeroValue9
  t22 := Try.underlying63
  a22 := Try.isAgg63
  z22 := Try.sizeOf63
  v22 := Try.zeroValue63
  t25 := Try.underlying115
  a25 := Try.isAgg115
  z25 := Try.sizeOf115
  v25 := Try.zeroValue115
  t39 := Try.underlying147
  a39 := Try.isAgg147
  z39 := Try.sizeOf147
  v39 := Try.zeroValue147
  t45 := Try.underlying164
  a45 := Try.isAgg164
  z45 := Try.sizeOf164
  v45 := Try.zeroValue164
  t46 := Try.underlying165
  a46 := Try.isAgg165
  z46 := Try.sizeOf165
  v46 := Try.zeroValue165
  t50 := Try.underlying45
  a50 := Try.isAgg45
  z50 := Try.sizeOf45
  v50 := Try.zeroValue45
  t53 := Try.underlying37
  a53 := Try.isAgg37
  z53 := Try.sizeOf37
  v53 := Try.zeroValue37
  t55 := Try.underlying83
  a55 := Try.isAgg83
  z55 := Try.sizeOf83
  v55 := Try.zeroValue83
  t66 := Try.underlying179
  a66 := Try.isAgg179
  z66 := Try.sizeOf179
  v66 := Try.zeroValue179
  t70 := Try.underlying183
  a70 := Try.isAgg183
  z70 := Try.sizeOf183
  v70 := Try.zeroValue183
  t76 := Try.underlying189
  a76 := Try.isAgg189
  z76 := Try.sizeOf189
  v76 := Try.zeroValue189
  t77 := Try.underlying190
  a77 := Try.isAgg190
  z77 := Try.sizeOf190
  v77 := Try.zeroValue190 }
def Try.sortSpan_ren : Go.Shelf.Ren := ⟨fun | 6 => 82 | 15 => 101 | 14 => 105 | 28 => 125 | 29 => 126 | 20 => 127 | 21 => 128 | 22 => 129 | 23 => 130 | 24 => 131 | 25 => 132 | 26 => 133 | 27 => 134 | 46 => 143 | 47 => 139 | 48 => 140 | 49 => 144 | 50 => 145 | 57 => 149 | n => n, fun | 22 => 77 | 24 => 87 | 25 => 132 | 3 => 3 | 39 => 147 | 0 => 0 | 53 => 37 | 55 => 83 | 4 => 4 | 46 => 165 | 45 => 164 | 50 => 45 | 5 => 5 | 9 => 9 | 66 => 179 | 70 => 183 | 76 => 189 | 77 => 190 | n => n, fun | n => n⟩
theorem Try.sortSpan : Go.Proofs.SlLaysF0.n6 Try.prog Try.sortSpan_ren := {
  mixed := by kernel_rfl
  f6 := ⟨Try.f82.name, by decide, Try.func82.trans (congrArg some (by kernel_rfl))⟩
  f14 := ⟨Try.f105.name, by decide, Try.func105.trans (congrArg some (by kernel_rfl))⟩
  f15 := Try.func101.trans (congrArg some (by kernel_rfl))
  f20 := ⟨Try.f127.name, by decide, Try.func127.trans (congrArg some (by kernel_rfl))⟩
  f21 := ⟨Try.f128.name, by decide, Try.func128.trans (congrArg some (by kernel_rfl))⟩
  f22 := ⟨Try.f129.name, by decide, Try.func129.trans (congrArg some (by kernel_rfl))⟩
  f23 := ⟨Try.f130.name, by decide, Try.func130.trans (congrArg some (by kernel_rfl))⟩
  f24 := ⟨Try.f131.name, by decide, Try.func131.trans (congrArg some (by kernel_rfl))⟩
  f25 := ⟨Try.f132.name, by decide, Try.func132.trans (congrArg some (by kernel_rfl))⟩
  f26 := ⟨Try.f133.name, by decide, Try.func133.trans (congrArg some (by kernel_rfl))⟩
  f27 := ⟨Try.f134.name, by decide, Try.func134.trans (congrArg some (by kernel_rfl))⟩
  f28 := Try.func125.trans (congrArg some (by kernel_rfl))
  f29 := Try.func126.trans (congrArg some (by kernel_rfl))
  f46 := ⟨Try.f143.name, by decide, Try.func143.trans (congrArg some (by kernel_rfl))⟩
  f47 := Try.func139.trans (congrArg some (by kernel_rfl))
  f48 := Try.func140.trans (congrArg some (by kernel_rfl))
  f49 := ⟨Try.f144.name, by decide, Try.func144.trans (congrArg some (by kernel_rfl))⟩
  f50 := ⟨Try.f145.name, by decide, Try.func145.trans (congrArg some (by kernel_rfl))⟩
  f57 := ⟨Try.f149.name, by decide, Try.func149.trans (congrArg some (by kernel_rfl))⟩
  t0 := Try.underlying0
  a0 := Try.isAgg0
  z0 := Try.sizeOf0
  v0 := Try.zeroValue0
  t3 := Try.underlying3
  a3 := Try.isAgg3
  z3 := Try.sizeOf3
  v3 := Try.zeroValue3
  t4 := Try.underlying4
  a4 := Try.isAgg4
  z4 := Try.sizeOf4
  v4 := Try.zeroValue4
  t5 := Try.underlying5
  a5 := Try.isAgg5
  z5 := Try.sizeOf5
  v5 := Try.zeroValue5
  t9 := Try.underlying9
  a9 := Try.isAgg9
  z9 := Try.sizeOf9
  v9 := Try.zeroValue9
  t22 := Try.underlying77
  a22 := Try.isAgg77
  z22 := Try.sizeOf77
  v22 := Try.zeroValue77
  t25 := Try.underlying132
  a25 := Try.isAgg132
  z25 := Try.sizeOf132
  v25 := Try.zeroValue132
  t39 := Try.underlying147
  a39 := Try.isAgg147
  z39 := Try.sizeOf147
  v39 := Try.zeroValue147
  t45 := Try.underlying164
  a45 := Try.isAgg164
  z45 := Try.sizeOf164
  v45 := Try.zeroValue164
  t46 := Try.underlying165
  a46 := Try.isAgg165
  z46 := Try.sizeOf165
  v46 := Try.zeroValue165
  t50 := Try.underlying45
  a50 := Try.isAgg45
  z50 := Try.sizeOf45
  v50 := Try.zeroValue45
  t53 := Try.underlying37
  a53 := Try.isAgg37
  z53 := Try.sizeOf37
  v53 := Try.zeroValue37
  t55 := Try.underlying83
  a55 := Try.isAgg83
  z55 := Try.sizeOf83
  v55 := Try.zeroValue83
  t66 := Try.underlying179
  a66 := Try.isAgg179
  z66 := Try.sizeOf179
  v66 := Try.zeroValue179
  t70 := Try.underlying183
  a70 := Try.isAgg183
  z70 := Try.sizeOf183
  v70 := Try.zeroValue183
  t76 := Try.underlying189
  a76 := Try.isAgg189
  z76 := Try.sizeOf189
  v76 := Try.zeroValue189
  t77 := Try.underlying190
  a77 := Try.isAgg190
  z77 := Try.sizeOf190
  v77 := Try.zeroValue190 }
def Try.growSpan_ren : Go.Shelf.Ren := ⟨fun | 4 => 107 | n => n, fun | 22 => 77 | 25 => 87 | 3 => 3 | 4 => 4 | 9 => 9 | 20 => 20 | 0 => 0 | n => n, fun | n => n⟩
theorem Try.growSpan : Go.Proofs.Lays8.n4 Try.prog Try.growSpan_ren := {
  mixed := by kernel_rfl
  f4 := ⟨Try.f107.name, by decide, Try.func107.trans (congrArg some (by kernel_rfl))⟩
  t0 := Try.underlying0
  a0 := Try.isAgg0
  z0 := Try.sizeOf0
  v0 := Try.zeroValue0
  t3 := Try.underlying3
  a3 := Try.isAgg3
  z3 := Try.sizeOf3
  v3 := Try.zeroValue3
  t4 := Try.underlying4
  a4 := Try.isAgg4
  z4 := Try.sizeOf4
  v4 := Try.zeroValue4
  t9 := Try.underlying9
  a9 := Try.isAgg9
  z9 := Try.sizeOf9
  v9 := Try.zeroValue9
  t20 := Try.underlying20
  a20 := Try.isAgg20
  z20 := Try.sizeOf20
  v20 := Try.zeroValue20
  t22 := Try.underlying77
  a22 := Try.isAgg77
  z22 := Try.sizeOf77
  v22 := Try.zeroValue77 }
end Go.Proofs
/- Sorting spans: by client, then by where they begin. -/
set_option linter.unusedVariables false
set_option linter.unusedSimpArgs false
set_option maxRecDepth 100000
set_option maxHeartbeats 4000000
namespace Go.Eng
open Go Go.RowKit Go.Proofs Go.Sort
instance : Inhabited Sp := ⟨sp0⟩
def encSp (s : Sp) : List Value := [.int .u32 s.cl, .int .u32 s.fr, .int .u32 s.tz]
theorem span_sort (l : List Sp) (hl : l.length ≤ 1000000) : CallV Try.prog 82 [.c (.row 0), .c (.fn 83 [])] [some (.row 87 3 l.length (spR l))]
    (fun r own' => ∃ ys : List Sp, ys.Perm l ∧ ys.Pairwise lexS ∧ r = .tup [] ∧ own' = [some (.row 87 3 ys.length (spR ys))]) := by

  have h := callV_sort (α := Sp) Try.sortSpan 3 (fun _ => by kernel_rfl) (fun _ => by kernel_rfl) encSp (fun _ => rfl) (fun x v hv => by
      simp only [encSp, List.mem_cons, List.not_mem_nil, or_false] at hv
      rcases hv with rfl | rfl | rfl <;> rfl) _ (swo_lex Sp.cl Sp.fr) 83 (enters_of Try.func83 (by kernel_rfl) rfl) (fun x y W => ofc_w (x.cl, x.fr, x.tz) (y.cl, y.fr, y.tz) W) 87 l (by omega)
  refine CallV.mono h ?_
  rintro r own' ⟨ys, h1, h2, h3, h4⟩
  refine ⟨ys, h1, List.pairwise_iff_getElem.2 fun i j hi hj hij => ?_, h3, h4⟩
  have := h2 i j hij hj
  rw [lt_lex, List.getD_eq_getElem?_getD, List.getD_eq_getElem?_getD, List.getElem?_eq_getElem hi, List.getElem?_eq_getElem hj] at this
  simp only [Option.getD_some, decide_eq_false_iff_not] at this
  unfold lexS
  omega
end Go.Eng
/- ranges.Of: sorted, and merged. -/
set_option linter.unusedVariables false
set_option linter.unusedSimpArgs false
set_option maxRecDepth 100000
set_option maxHeartbeats 4000000
namespace Go.Eng
open Go Go.RowKit Go.Proofs
/-- slices.Clone. -/
theorem spClone (l : List Sp) (hl : l.length ≤ 1000000000) : CallV Try.prog 80 [.c (.sl 3 l.length fun k => spF (l.getD k sp0))] []
    (fun r own' => r = .c (.row 0) ∧ own' = [some (.row 87 3 l.length fun k => spF (l.getD k sp0))]) := by
  refine callV_own Try.func80 rfl ttok ftok rfl rfl rfl (Nat.le_of_ble_eq_true rfl) rfl ?_
  conv => whnf
  intro b hb
  cases b with
  | true =>
    have h0 := hb rfl
    obtain rfl : l = [] := List.eq_nil_of_length_eq_zero h0
    conv => whnf
    refine ⟨_, nil_row 2 87 3 (fun k => spF (([] : List Sp).getD k sp0)) rfl, ?_⟩
    conv => whnf
    exact ⟨[some 0], rfl, rfl, rfl, rfl⟩
  | false =>
    clear hb
    conv => whnf
    refine ⟨⟨by omega, by show (0 + l.length) * 12 ≤ _; omega⟩, ?_⟩
    conv => whnf
    refine ⟨l.length, fun k => spF (l.getD k sp0), by omega, fun k hk => by omega, fun k hk => by rw [Nat.zero_add], ?_⟩
    conv => whnf
    refine ⟨_, Weak.refl _, ?_⟩
    conv => whnf
    exact ⟨[some 1], rfl, rfl, rfl, rfl⟩
def ofI (ys : List Sp) (m : Nat) (st : St) : Prop := ∃ (k : Nat) (o : List Sp), m = ys.length - k ∧ k ≤ ys.length ∧ o = mrgL (ys.take k) ∧ o.length ≤ k ∧
  st = ⟨64, 0, [(3, .c (.row 1)), (12, .c (.row 0)), (13, vci .i64 (ys.length : Int)), (14, vci .i64 (k : Int))], [some (.row 87 3 ys.length (spR ys)), some (.row 87 3 o.length (spR o))]⟩
theorem of_c (l : List Sp) (hl : l.length ≤ 100000) : CallV Try.prog 42 [spS l] [] (fun r own' => own' = [] ∧ ∃ o : List Sp, ofS l o ∧ r = spS o) := by
  refine callV_pure Try.func42 rfl ttok ftok rfl rfl rfl (Nat.le_of_ble_eq_true rfl) ?_
  conv => whnf
  refine call_frame2 [] rfl rfl rfl rfl (spClone l (by omega)) ?_
  rintro r own2 ⟨rfl, rfl⟩
  refine ⟨.c (.row 0), [some (.row 87 3 l.length (spR l))], rfl, rfl, ?_⟩
  conv => whnf
  refine call_frame2 [some 0] rfl rfl rfl rfl (delf_c l (by omega)) ?_
  rintro r own2 ⟨rfl, rfl⟩
  refine ⟨.c (.row 2), [none, none, some (.row 87 3 (valid l).length (spR (valid l)))], rfl, rfl, ?_⟩
  conv => whnf
  have hvl : (valid l).length ≤ l.length := List.length_filter_le _ _
  refine call_frame2 [some 2] rfl rfl rfl rfl (span_sort (valid l) (by omega)) ?_
  rintro r own2 ⟨ys, hp, hs, rfl, rfl⟩
  have hlen := hp.length_eq
  refine ⟨.tup [], [none, none, some (.row 87 3 ys.length (spR ys))], rfl, rfl, ?_⟩
  conv => whnf
  refine loopV ttok ftok (ofI ys) ((nil_row 3 87 3 (spR []) rfl).trans (norm_weak [3, 12, 13, 14] [some 2, some 3] rfl rfl)) ⟨0, [], rfl, Nat.zero_le _, rfl, Nat.le_refl _, rfl⟩ ?_
  rintro m st ⟨k, o, rfl, hk, ho, hol, rfl⟩
  have e1 := i64_s (k := k) (by omega)
  conv => whnf
  refine onB_intro (fun h => ?_) (fun h => ?_)
  · have h := of_decide_eq_true h
    have hkl : k < ys.length := by omega
    have hnx := mrgL_snoc (ys.take k) (ys.getD k sp0)
    rw [← take_snoc hkl, ← ho] at hnx
    rcases snoc_cases o with rfl | ⟨o, t, rfl⟩
    · conv => whnf
      refine ⟨by omega, ?_⟩
      conv => whnf
      refine drawV_join mixed (by kernel_rfl) ttok ?_
      conv => whnf
      refine ⟨?_, ?_⟩
      · conv => whnf
        intro g1
        exact absurd (of_decide_eq_true g1) (by decide)
      conv => whnf
      refine ⟨?_, ?_⟩
      · conv => whnf
        intro g1
        simp [pickB, isLit] at g1
      conv => whnf
      rw [ti_nat]
      refine ⟨fun _ => spF (ys.getD k sp0), fun j hj2 => ?_, ?_⟩
      · obtain rfl : j = 0 := by omega
        rfl
      conv => whnf
      refine ⟨⟨by (try simp only [List.length_append, List.length_singleton]); omega, by show (List.length ([] : List Sp) + 1) * 12 ≤ _; (try simp only [List.length_append, List.length_singleton]); omega⟩, ?_⟩
      conv => whnf
      refine app1 (enc := spF) (d := sp0) (l := ([] : List Sp)) (ys.getD k sp0) (fun k hk => rfl) rfl ?_
      conv => whnf
      rw [e1]
      exact ⟨ys.length - (k + 1), _, by omega, norm_weak [3, 12, 13, 14] [some 0, some 4] rfl rfl, k + 1, [] ++ [ys.getD k sp0], rfl, by omega, hnx.symm, by simp, rfl⟩
    have hlt : (o ++ [t]).length = o.length + 1 := by simp
    rw [mrg_last] at hnx
    conv => whnf
    refine ⟨by omega, ?_⟩
    conv => whnf
    refine drawV_join mixed (by kernel_rfl) ttok ?_
    conv => whnf
    have e0 : IntKind.i64.wrap (((o ++ [t]).length : Int) - 1) = (o.length : Int) := by rw [w_i64 (by omega) (by omega), hlt]; omega
    have et : (o ++ [t]).getD o.length sp0 = t := by rw [List.getD_eq_getElem?_getD, List.getElem?_append_right (Nat.le_refl _), Nat.sub_self]; rfl
    rw [e0]
    refine ⟨?_, ?_⟩
    · conv => whnf
      intro g1
      conv => whnf
      omega
    conv => whnf
    refine ⟨?_, ?_⟩
    · conv => whnf
      intro g1
      conv => whnf
      omega
    conv => whnf
    rw [e0, ti_nat, ti_nat, et]
    refine onB_intro (fun g => ?_) (fun g => ?_)
    · have g : t.cl = (ys.getD k sp0).cl ∧ (ys.getD k sp0).fr ≤ t.tz := by
        simp [pickB, isLit, - List.getD_eq_getElem?_getD] at g
        omega
      rw [if_pos g] at hnx
      conv => whnf
      refine drawV_mix 12 mixed (by kernel_rfl) ttok ftok ?_
      conv => whnf
      rw [e0]
      refine ⟨by omega, ?_⟩
      conv => whnf
      rw [ti_nat, et]
      refine ⟨by omega, ?_⟩
      conv => whnf
      rw [← maxI_eq] at hnx
      generalize hu : maxI t.tz (ys.getD k sp0).tz = u at hnx
      have hl2 : (o ++ [t]).length = (o ++ [(⟨t.cl, t.fr, u⟩ : Sp)]).length := by simp
      refine ⟨spR (o ++ [(⟨t.cl, t.fr, u⟩ : Sp)]), fun j hj => ?_, ?_⟩
      · by_cases hjo : j = o.length
        · rw [if_pos hjo, hjo]
          show spF ((o ++ [(⟨t.cl, t.fr, u⟩ : Sp)]).getD o.length sp0) = _
          rw [List.getD_eq_getElem?_getD, List.getElem?_append_right (Nat.le_refl _), Nat.sub_self]
          show _ = List.take 2 (spF ((o ++ [t]).getD o.length sp0)) ++ _ ++ List.drop 3 (spF ((o ++ [t]).getD o.length sp0))
          rw [et]
          rfl
        · rw [if_neg hjo]
          show spF ((o ++ [(⟨t.cl, t.fr, u⟩ : Sp)]).getD j sp0) = spF ((o ++ [t]).getD j sp0)
          rw [List.getD_eq_getElem?_getD, List.getD_eq_getElem?_getD, List.getElem?_append_left (by omega), List.getElem?_append_left (by omega)]
      conv => whnf
      rw [e1]
      rw [hl2]
      exact ⟨ys.length - (k + 1), _, by omega, norm_weak [3, 12, 13, 14] [some 0, some 1] rfl rfl, k + 1, o ++ [(⟨t.cl, t.fr, u⟩ : Sp)], rfl, by omega, hnx.symm, by simp at hol ⊢; omega, rfl⟩
    · have g : ¬ (t.cl = (ys.getD k sp0).cl ∧ (ys.getD k sp0).fr ≤ t.tz) := fun e => by
        simp [pickB, isLit, - List.getD_eq_getElem?_getD] at g
        omega
      rw [if_neg g] at hnx
      conv => whnf
      refine ⟨fun _ => spF (ys.getD k sp0), fun j hj2 => ?_, ?_⟩
      · obtain rfl : j = 0 := by omega
        rfl
      conv => whnf
      refine ⟨⟨by (try simp only [List.length_append, List.length_singleton]); omega, by show (List.length (o ++ [t]) + 1) * 12 ≤ _; (try simp only [List.length_append, List.length_singleton]); omega⟩, ?_⟩
      conv => whnf
      refine app1 (enc := spF) (d := sp0) (l := (o ++ [t])) (ys.getD k sp0) (fun k hk => rfl) rfl ?_
      conv => whnf
      rw [e1]
      exact ⟨ys.length - (k + 1), _, by omega, norm_weak [3, 12, 13, 14] [some 0, some 4] rfl rfl, k + 1, (o ++ [t]) ++ [ys.getD k sp0], rfl, by omega, hnx.symm, by simp at hol ⊢; omega, rfl⟩
  · have h := of_decide_eq_false h
    have hk2 : k = ys.length := by omega
    subst hk2
    rw [List.take_length] at ho
    conv => whnf
    refine ⟨fun _ _ => rfl, ?_⟩
    conv => whnf
    rw [ho]
    exact ⟨mrgL ys, ofS_of hp hs, rfl⟩
end Go.Eng
/- ranges.Join: one behind the other. -/
set_option linter.unusedVariables false
set_option linter.unusedSimpArgs false
set_option maxRecDepth 100000
set_option maxHeartbeats 4000000
namespace Go.Eng
open Go Go.RowKit Go.Proofs
theorem grow_n (n : Nat) (hn : n ≤ 1000000) : CallV Try.prog 107 [nilS, vci .i64 (n : Int)] [] (fun r own' => r = .c (.row 0) ∧ own' = [some (.row 87 3 0 (spR []))]) := by
  have h1 : (Try.prog.info? 87).map (fun i => (i.size, i.bytes, i.zero)) = some (3, 12, some (.agg #[.int .u32 0, .int .u32 0, .int .u32 0])) := by kernel_rfl
  obtain ⟨i0, h2, h3⟩ := Option.map_eq_some_iff.1 h1
  have e1 : i0.size = 3 := (Prod.mk.inj h3).1
  have e2 : i0.bytes = 12 := (Prod.mk.inj (Prod.mk.inj h3).2).1
  have e3 : i0.zero = some (.agg #[.int .u32 0, .int .u32 0, .int .u32 0]) := (Prod.mk.inj (Prod.mk.inj h3).2).2
  have h := callV_growNil Try.growSpan i0 _ h2 e3 (by omega) (by rw [e1]; rfl) n (by rw [e2]; omega) (by omega) (spR [])
  rw [e1] at h
  exact h
/-- Two lists of spans, as cells. -/
abbrev twoF (a b : List Sp) : Nat → List IC := fun k => [[IC.sl 3 a.length (spR a)], [IC.sl 3 b.length (spR b)]].getD k []
theorem concat_c (a b : List Sp) (ha : a.length ≤ 100000) (hb : b.length ≤ 100000) : CallV Try.prog 86 [.c (.sl 1 2 (twoF a b))] [] (fun r own' => own' = [] ∧ r = spS (a ++ b)) := by
  refine callV_pure Try.func86 rfl ttok ftok rfl rfl rfl (Nat.le_of_ble_eq_true rfl) ?_
  conv => whnf
  refine loop_rounds 3 ttok ftok ?_
  conv => whnf
  refine ⟨⟨by omega, by omega⟩, ?_⟩
  conv => whnf
  rw [show IntKind.i64.wrap (0 + (a.length : Int)) = ((a.length : Nat) : Int) from by rw [w_i64 (by omega) (by omega)]; omega]
  conv => whnf
  rw [show IntKind.i64.wrap (0 + 1) = (1 : Int) from rfl]
  refine ⟨⟨by omega, by omega⟩, ?_⟩
  conv => whnf
  rw [show IntKind.i64.wrap ((a.length : Int) + (b.length : Int)) = ((a.length + b.length : Nat) : Int) from by rw [w_i64 (by omega) (by omega)]; omega]
  conv => whnf
  refine call_frame2 [] rfl rfl rfl rfl (grow_n (a.length + b.length) (by omega)) ?_
  rintro r own2 ⟨rfl, rfl⟩
  refine ⟨.c (.row 0), [some (.row 87 3 0 (spR []))], rfl, rfl, ?_⟩
  conv => whnf
  refine loop_rounds 3 ttok ftok ?_
  conv => whnf
  refine ⟨⟨by omega, by omega⟩, ?_⟩
  conv => whnf
  refine ⟨⟨by omega, by show (0 + a.length) * 12 ≤ _; omega⟩, ?_⟩
  conv => whnf
  refine ⟨a.length, spR a, by omega, fun k hk => by omega, fun k hk => by rw [Nat.zero_add], ?_⟩
  conv => whnf
  rw [show IntKind.i64.wrap (0 + 1) = (1 : Int) from rfl]
  refine ⟨⟨by omega, by omega⟩, ?_⟩
  conv => whnf
  refine ⟨⟨by omega, by show (a.length + b.length) * 12 ≤ _; omega⟩, ?_⟩
  conv => whnf
  refine appL (enc := spF) (d := sp0) (l := a) (b := b) (fun k hk => rfl) (fun k hk => rfl) ?_
  conv => whnf
  refine ⟨fun _ _ => rfl, ?_⟩
  conv => whnf
  all_goals first | rfl | exact ⟨rfl, rfl⟩
theorem two_at (a b : List Sp) {k : Nat} (hk : k < 2) : twoF a b k = [[IC.sl 3 a.length (spR a)], [IC.sl 3 b.length (spR b)]].getD k [] := rfl
theorem join_c (a b : List Sp) (ha : a.length ≤ 10000) (hb : b.length ≤ 10000) : CallV Try.prog 43 [spS a, spS b] [] (fun r own' => own' = [] ∧ ∃ o : List Sp, ofS (a ++ b) o ∧ r = spS o) := by
  refine callV_pure Try.func43 rfl ttok ftok rfl rfl rfl (Nat.le_of_ble_eq_true rfl) ?_
  conv => whnf
  refine ⟨twoF a b, fun k hk => rfl, ?_⟩
  conv => whnf
  refine ⟨fun j hj => ?_, ?_⟩
  · match j, hj with
    | 0, _ => rfl
    | 1, _ => rfl
  conv => whnf
  refine call_pure (concat_c a b (by omega) (by omega)) rfl ?_
  rintro _ rfl
  conv => whnf
  refine call_pure (of_c (a ++ b) (by rw [List.length_append]; omega)) rfl ?_
  rintro _ ⟨o, ho, rfl⟩
  conv => whnf
  exact ⟨o, ho, rfl⟩
end Go.Eng
/- ranges.Has; the document's example. -/
set_option linter.unusedVariables false
set_option linter.unusedSimpArgs false
set_option maxRecDepth 100000
set_option maxHeartbeats 4000000
namespace Go.Eng
open Go Go.RowKit Go.Proofs
/-- slices.IndexFunc. -/
def spIndexCI (O : List (Option Ob)) (l : List Sp) (p : Sp → Bool) (caps : List (Bool × List IC)) (n : Nat) (st : St) : Prop := ∃ k : Nat, n = l.length - k ∧ k ≤ l.length ∧ (∀ j, j < k → p (l.getD j sp0) = false) ∧
  st = ⟨19, O.length, [(0, .c (.sl 3 l.length fun k => spF (l.getD k sp0))), (1, .c (.fn 88 caps)), (7, vci .i64 l.length), (8, vci .i64 (k : Int))], O⟩
theorem spIndexC (O : List (Option Ob)) (l : List Sp) (hl : l.length ≤ 1000000000) (caps : List (Bool × List IC)) (p : Sp → Bool)
    (hp : ∀ k, k < l.length → CallV Try.prog 88 (.agg (spF (l.getD k sp0)) :: capsA caps) O (fun r own' => r = vcb (p (l.getD k sp0)) ∧ own' = O)) :
    CallV Try.prog 104 [.c (.sl 3 l.length fun k => spF (l.getD k sp0)), .c (.fn 88 caps)] O (fun r own' => (∃ k : Nat, k < l.length ∧ p (l.getD k sp0) = true ∧ (∀ j, j < k → p (l.getD j sp0) = false) ∧ r = vci .i64 k ∧ own' = O) ∨
      ((∀ j, j < l.length → p (l.getD j sp0) = false) ∧ r = vci .i64 (-1) ∧ own' = O)) := by
  refine callV_same Try.func104 rfl ttok ftok rfl rfl rfl (Nat.le_of_ble_eq_true rfl) ?_
  conv => whnf
  refine loopV ttok ftok (spIndexCI O l p caps) (env_weak [0, 1, 7, 8] rfl) ⟨0, rfl, Nat.zero_le _, fun j hj => by omega, rfl⟩ ?_
  rintro n st ⟨k, rfl, hk, hj, rfl⟩
  conv => whnf
  refine onB_intro (fun h => ?_) (fun h => ?_)
  · have h := of_decide_eq_true h
    have hkl : k < l.length := by omega
    conv => whnf
    rw [forceL_eq]
    conv => whnf
    refine ⟨⟨by omega, by omega⟩, ?_⟩
    conv => whnf
    refine (hp k hkl).mono ?_
    rintro r own2 ⟨rfl, rfl⟩
    conv => whnf
    cases hpk : p (l.getD k sp0) with
    | true =>
      conv => whnf
      refine ⟨_, Weak.refl _, ?_⟩
      conv => whnf
      exact .inl ⟨k, hkl, hpk, hj, rfl, rfl⟩
    | false =>
      conv => whnf
      refine ⟨l.length - (k + 1), _, by omega, env_weak [0, 1, 7, 8] rfl, k + 1, rfl, by omega, fun j hj2 => ?_, ?_⟩
      · rcases Nat.lt_succ_iff_lt_or_eq.1 hj2 with h2 | rfl
        · exact hj j h2
        · exact hpk
      rw [show (((k + 1 : Nat)) : Int) = IntKind.i64.wrap ((k : Int) + 1) from by rw [w_i64 (by omega) (by omega)]; omega]
      all_goals rfl
  · have h := of_decide_eq_false h
    conv => whnf
    refine ⟨_, Weak.refl _, ?_⟩
    conv => whnf
    exact .inr ⟨fun j hj2 => hj j (by omega), rfl, rfl⟩
/-- slices.ContainsFunc. -/
theorem spContainsC (O : List (Option Ob)) (l : List Sp) (hl : l.length ≤ 1000000000) (caps : List (Bool × List IC)) (p : Sp → Bool)
    (hp : ∀ k, k < l.length → CallV Try.prog 88 (.agg (spF (l.getD k sp0)) :: capsA caps) O (fun r own' => r = vcb (p (l.getD k sp0)) ∧ own' = O)) :
    CallV Try.prog 87 [.c (.sl 3 l.length fun k => spF (l.getD k sp0)), .c (.fn 88 caps)] O (fun r own' => ∃ b : Bool, (b = true ↔ ∃ k, k < l.length ∧ p (l.getD k sp0) = true) ∧ r = vcb b ∧ own' = O) := by
  refine callV_same Try.func87 rfl ttok ftok rfl rfl rfl (Nat.le_of_ble_eq_true rfl) ?_
  conv => whnf
  rw [forceL_eq]
  conv => whnf
  refine (spIndexC O l hl caps p hp).mono ?_
  rintro r own2 (⟨k, hk, h1, h2, rfl, rfl⟩ | ⟨h1, rfl, rfl⟩)
  · conv => whnf
    refine ⟨_, Weak.refl _, ?_⟩
    conv => whnf
    refine ⟨true, ⟨fun _ => ⟨k, hk, h1⟩, fun _ => rfl⟩, ?_, rfl⟩
    show vcb (decide ((k : Int) ≥ 0)) = _
    rw [decide_eq_true (by omega)]
  · conv => whnf
    refine ⟨_, Weak.refl _, ?_⟩
    conv => whnf
    refine ⟨false, ⟨fun e => (by cases e), fun ⟨k, hk, h2⟩ => by rw [h1 k hk] at h2; cases h2⟩, rfl, rfl⟩
instance (s : Sp) (c x : Int) : Decidable (inS s c x) := inferInstanceAs (Decidable (s.cl = c ∧ s.fr ≤ x ∧ x < s.tz))
theorem has1_c (a : I2) (s : Sp) : CallV Try.prog 88 [.agg (spF s), .c (.own 0 0)] [some (.cells 39 (idF a))] (fun r own' => r = vcb (decide (inS s a.1 a.2)) ∧ own' = [some (.cells 39 (idF a))]) := by
  refine callV_own Try.func88 rfl ttok ftok rfl rfl rfl (Nat.le_of_ble_eq_true rfl) rfl ?_
  conv => whnf
  refine ⟨_, Weak.refl _, ?_⟩
  conv => whnf
  refine ⟨[some 0], rfl, rfl, ?_, rfl⟩
  show vcb _ = _
  congr 3
  unfold inS
  simp only [pickB, isLit]
  by_cases h1 : s.cl = a.1
  · by_cases h2 : s.fr ≤ a.2
    · by_cases h3 : a.2 < s.tz
      · simp [h1, h2, h3]
      · simp [h1, h2, h3]
    · simp [h1, h2]
  · simp [h1]
theorem has_c (l : List Sp) (hl : l.length ≤ 1000000) (a : I2) : CallV Try.prog 46 [spS l, idA a] [] (fun r own' => own' = [] ∧ ∃ b : Bool, (b = true ↔ hasS l a.1 a.2) ∧ r = vcb b) := by
  refine callV_pure Try.func46 rfl ttok ftok rfl rfl rfl (Nat.le_of_ble_eq_true rfl) ?_
  conv => whnf
  refine (spContainsC _ l (by omega) [(false, [.own 0 0])] (fun x => decide (inS x a.1 a.2)) (fun k hk => has1_c a _)).mono ?_
  rintro r own2 ⟨c, hc, rfl, rfl⟩
  conv => whnf
  refine ⟨c, ?_, rfl⟩
  rw [hc, hasS_at]
  simp only [decide_eq_true_eq]
def exL : List Sp := [⟨1, 0, 2⟩, ⟨1, 2, 5⟩]
def ex1 : List Sp := [⟨1, 0, 5⟩]
theorem up_c : CallV Try.prog 39 [] [] (fun r own' => own' = [] ∧ r = vcb true) := by
  have hset : setL exL = [⟨1, 0, 5⟩] := rfl
  refine callV_pure Try.func39 rfl ttok ftok rfl rfl rfl (Nat.le_of_ble_eq_true rfl) ?_
  conv => whnf
  refine ⟨spR exL, fun k hk => ?_, ?_⟩
  · match k, hk with
    | 0, _ => rfl
    | 1, _ => rfl
  conv => whnf
  refine ⟨fun j hj => rfl, ?_⟩
  conv => whnf
  refine call_pure (of_c exL (by decide)) rfl ?_
  rintro _ ⟨o, ho, rfl⟩
  obtain rfl := (ofS_set ho).trans hset
  conv => whnf
  have hcan : canon ex1 := ho.can
  show _
  refine ⟨spR ex1, fun k hk => ?_, ?_⟩
  · match k, hk with
    | 0, _ => rfl
  conv => whnf
  refine ⟨fun j hj => rfl, ?_⟩
  conv => whnf
  refine call_pure (sameset_c ex1 ex1 (by decide) (by decide)) rfl ?_
  rintro _ (⟨-, rfl⟩ | ⟨h, rfl⟩)
  rotate_left
  · exact absurd rfl h
  conv => whnf
  refine call_pure (rmay_c ex1 (by decide)) rfl ?_
  rintro _ ⟨b, hb, rfl⟩
  obtain rfl : b = true := hb.2 (mayS_canon.2 hcan)
  conv => whnf
  refine call_pure (has_c ex1 (by decide) (1, 4)) rfl ?_
  rintro _ ⟨b, hb, rfl⟩
  obtain rfl : b = true := hb.2 ⟨⟨1, 0, 5⟩, by simp [ex1], rfl, by decide, by decide⟩
  conv => whnf
  refine call_pure (count_c ex1 (by decide) (fun s hs => ?_) (fun s hs => ?_)) rfl ?_
  · simp only [ex1, List.mem_singleton] at hs; subst hs; unfold spOk; decide
  · simp only [ex1, List.mem_singleton] at hs; subst hs; decide
  rintro _ rfl
  conv => whnf
  all_goals first | rfl | exact ⟨rfl, rfl⟩
end Go.Eng
/- The law RangesTells. -/
set_option linter.unusedVariables false
set_option linter.unusedSimpArgs false
set_option maxRecDepth 100000
set_option maxHeartbeats 4000000
namespace Go.Eng
open Go Go.RowKit Go.Proofs
open Classical in
theorem has_q (l : List Sp) (hl : l.length ≤ 1000000) (a : I2) : CallV Try.prog 46 [spS l, idA a] [] (fun r own' => own' = [] ∧ r = vcb (decide (hasS l a.1 a.2))) :=
  (has_c l hl a).mono fun r own' ⟨h1, b, h2, h3⟩ => ⟨h1, by rw [h3]; congr 1; rw [Bool.eq_iff_iff, h2, decide_eq_true_iff]⟩
open Classical in
theorem rhas_q (l : List Sp) (hl : l.length ≤ 1000000) (a : I2) : CallV Try.prog 47 [spS l, idA a] [] (fun r own' => own' = [] ∧ r = vcb (decide (hasS l a.1 a.2))) :=
  (rhas_c l hl a).mono fun r own' ⟨h1, b, h2, h3⟩ => ⟨h1, by rw [h3]; congr 1; rw [Bool.eq_iff_iff, h2, decide_eq_true_iff]⟩
open Classical in
theorem rmay_q (l : List Sp) (hl : l.length ≤ 1000000) : CallV Try.prog 45 [spS l] [] (fun r own' => own' = [] ∧ r = vcb (decide (mayS l))) :=
  (rmay_c l (by omega)).mono fun r own' ⟨h1, b, h2, h3⟩ => ⟨h1, by rw [h3]; congr 1; rw [Bool.eq_iff_iff, h2, decide_eq_true_iff]⟩
open Classical in
theorem mayset_q (l : List Sp) (hl : l.length ≤ 1000000) : CallV Try.prog 44 [spS l] [] (fun r own' => own' = [] ∧ r = vcb (decide (mayS l))) :=
  (mayset_c l (by omega)).mono fun r own' ⟨h1, b, h2, h3⟩ => ⟨h1, by rw [h3]; congr 1; rw [Bool.eq_iff_iff, h2, decide_eq_true_iff]⟩
theorem layG_sp : ∀ (l a b : List Sp) (s : Sp), (∀ x, x ∈ l → spOk x) → (∀ x, x ∈ a → spOk x) → (∀ x, x ∈ b → spOk x) → spOk s → (∀ x, x ∈ (layG l (a, b, s)).1 → spOk x) ∧ (∀ x, x ∈ (layG l (a, b, s)).2.1 → spOk x) ∧ spOk (layG l (a, b, s)).2.2
  | [], a, b, s, _, h2, h3, h4 => ⟨h2, h3, h4⟩
  | x :: l, a, b, s, h1, h2, h3, h4 => by
    have hx := h1 x (by simp)
    have hl : ∀ y, y ∈ l → spOk y := fun y hy => h1 y (List.mem_cons_of_mem _ hy)
    have hs : ∀ c : List Sp, (∀ y, y ∈ c → spOk y) → ∀ y, y ∈ c ++ [x] → spOk y := fun c hc y hy => by
      rcases List.mem_append.1 hy with hy | hy
      · exact hc y hy
      · rw [List.mem_singleton] at hy; rw [hy]; exact hx
    unfold layG
    split
    · exact layG_sp l _ b s hl (hs a h2) h3 h4
    split
    · exact layG_sp l a _ s hl h2 (hs b h3) h4
    · refine layG_sp l a b _ hl h2 h3 ?_
      obtain ⟨⟨a1, a2⟩, ⟨a3, a4⟩, a5, a6⟩ := h4
      obtain ⟨⟨b1, b2⟩, ⟨b3, b4⟩, b5, b6⟩ := hx
      refine ⟨⟨a1, a2⟩, ⟨?_, ?_⟩, ?_, ?_⟩
      · show 0 ≤ min s.fr x.fr; omega
      · show min s.fr x.fr ≤ _; omega
      · show 0 ≤ max s.tz x.tz; omega
      · show max s.tz x.tz ≤ _; omega
theorem layL_sp {l : List Sp} {s : Sp} (h1 : ∀ x, x ∈ l → spOk x) (h2 : spOk s) : ∀ x, x ∈ layL l s → spOk x := fun x hx => by
  obtain ⟨g1, g2, g3⟩ := layG_sp l [] [] s h1 (fun x hx => by cases hx) (fun x hx => by cases hx) h2
  unfold layL at hx
  simp only [List.mem_append, List.mem_singleton] at hx
  rcases hx with (hx | rfl) | hx
  · exact g1 x hx
  · exact g3
  · exact g2 x hx
theorem setL_sp (l : List Sp) (h : ∀ x, x ∈ l → spOk x) : ∀ x, x ∈ setL l → spOk x := by
  suffices g : ∀ (n : Nat) (l : List Sp), l.length = n → (∀ x, x ∈ l → spOk x) → ∀ x, x ∈ setL l → spOk x from g _ l rfl h
  intro n
  induction n with
  | zero =>
    intro l hl _ x hx
    obtain rfl := List.eq_nil_of_length_eq_zero hl
    cases hx
  | succ n ih =>
    intro l hl hs
    rcases snoc_cases l with rfl | ⟨l, s, rfl⟩
    · cases hl
    have := ih l (by simpa using hl) (fun x hx => hs x (by simp [hx]))
    rw [setL_snoc]
    split
    · exact layL_sp this (hs s (by simp))
    · exact this
theorem rtells_c (a b : List Sp) (x : I2) (hla : a.length ≤ 1048576) (hlb : b.length ≤ 1048576) (ha : ∀ s, s ∈ a → spOk s) :
    CallV Try.prog 9 [spS a, spS b, idA x] [] (fun r own' => own' = [] ∧ r = vcb true) := by
  refine callV_pure Try.func9 rfl ttok ftok rfl rfl rfl (Nat.le_of_ble_eq_true rfl) ?_
  conv => whnf
  refine call_pure (up_c) rfl ?_
  rintro _ rfl
  conv => whnf
  by_cases la : a.length ≤ 60
  rotate_left
  · rw [show decide ((a.length : Int) > 60) = true from decide_eq_true (by omega)]
    conv => whnf
    all_goals first | rfl | exact ⟨rfl, rfl⟩
  rw [show decide ((a.length : Int) > 60) = false from decide_eq_false (by omega)]
  conv => whnf
  by_cases lb : b.length ≤ 60
  rotate_left
  · rw [show decide ((b.length : Int) > 60) = true from decide_eq_true (by omega)]
    conv => whnf
    all_goals first | rfl | exact ⟨rfl, rfl⟩
  rw [show decide ((b.length : Int) > 60) = false from decide_eq_false (by omega)]
  conv => whnf
  refine call_pure (setof_c a (by omega)) rfl ?_
  rintro _ rfl
  conv => whnf
  refine call_pure (setof_c b (by omega)) rfl ?_
  rintro _ rfl
  conv => whnf
  refine call_pure (of_c a (by omega)) rfl ?_
  rintro _ ⟨o, ho, rfl⟩
  obtain rfl := ofS_set ho
  have hsa := setL_len a
  have hsb := setL_len b
  conv => whnf
  refine call_pure (sameset_c (setL a) (setL a) (by omega) (by omega)) rfl ?_
  rintro _ (⟨-, rfl⟩ | ⟨h, rfl⟩)
  rotate_left
  · exact absurd rfl h
  conv => whnf
  refine call_pure (join_c (setL a) (setL b) (by omega) (by omega)) rfl ?_
  rintro _ ⟨o, ho2, rfl⟩
  obtain rfl := (ofS_set ho2).trans (setL_join a b)
  conv => whnf
  refine ⟨⟨by omega, by show (0 + a.length) * 12 ≤ _; omega⟩, ?_⟩
  conv => whnf
  refine ⟨a.length, spR a, by omega, fun k hk => by omega, fun k hk => by rw [Nat.zero_add], ?_⟩
  conv => whnf
  refine ⟨⟨by omega, by show (a.length + b.length) * 12 ≤ _; omega⟩, ?_⟩
  conv => whnf
  refine appL (enc := spF) (d := sp0) (l := a) (b := b) (fun k hk => rfl) (fun k hk => rfl) ?_
  conv => whnf
  refine ⟨fun _ _ => rfl, ?_⟩
  conv => whnf
  have hab : (a ++ b).length = a.length + b.length := List.length_append
  refine call_pure (setof_c (a ++ b) (by omega)) rfl ?_
  rintro _ rfl
  have hsab := setL_len (a ++ b)
  conv => whnf
  refine call_pure (sameset_c (setL (a ++ b)) (setL (a ++ b)) (by omega) (by omega)) rfl ?_
  rintro _ (⟨-, rfl⟩ | ⟨h, rfl⟩)
  rotate_left
  · exact absurd rfl h
  conv => whnf
  refine call_pure (mayset_q a (by omega)) rfl ?_
  rintro _ rfl
  conv => whnf
  refine drawV_quiet mixed (by kernel_rfl) ttok ftok ?_
  conv => whnf
  refine callQ (rmay_q a (by omega)) rfl rfl ?_
  conv => whnf
  rw [beq_self_eq_true]
  conv => whnf
  refine callQ (has_q (setL a) (by omega) x) rfl rfl ?_
  conv => whnf
  refine callQ (rhas_q (setL a) (by omega) x) rfl rfl ?_
  conv => whnf
  rw [beq_self_eq_true]
  conv => whnf
  have hsp := setL_sp a ha
  refine callQ (count_c (setL a) (by omega) hsp (fun s hs => Int.le_of_lt ((setL_ok a).1.val s hs).2)) rfl rfl ?_
  conv => whnf
  refine callQ (rcount_c (setL a) (by omega) hsp) rfl rfl ?_
  conv => whnf
  rw [show (sz64 (setL a) == sz64 (setL a)) = true from beq_self_eq_true _]
  all_goals first | rfl | exact ⟨rfl, rfl⟩
theorem mem_getDs {l : List Sp} {x : Sp} (h : x ∈ l) : ∃ j, j < l.length ∧ l.getD j sp0 = x := by
  obtain ⟨j, hj, rfl⟩ := List.getElem_of_mem h
  exact ⟨j, hj, by rw [List.getD_eq_getElem?_getD, List.getElem?_eq_getElem hj]; rfl⟩
theorem rd_idR {B d : Nat} {a : AV} (h : RdA tt B (d + 3) 39 a) : ∃ x : I2, u32P x ∧ a = idA x := by
  obtain ⟨cs, ⟨x1, y1, ⟨v, w1, rfl⟩, ⟨x2, y2, ⟨w, w2, rfl⟩, rfl, rfl⟩, rfl⟩, rfl⟩ := h
  have h1 := wf_u32 w1
  have h2 := wf_u32 w2
  exact ⟨(v, w), ⟨h1, h2⟩, rfl⟩
theorem rd_spanR {B d : Nat} {cs : List IC} (h : Rd tt B (d + 2) 87 cs) : ∃ s : Sp, spOk s ∧ cs = spF s := by
  obtain ⟨x1, y1, ⟨v, w1, rfl⟩, ⟨x2, y2, ⟨w, w2, rfl⟩, ⟨x3, y3, ⟨u, w3, rfl⟩, rfl, rfl⟩, rfl⟩, rfl⟩ := h
  have h1 := wf_u32 w1
  have h2 := wf_u32 w2
  have h3 := wf_u32 w3
  exact ⟨⟨v, w, u⟩, ⟨h1, h2, h3⟩, rfl⟩
theorem rd_spansR {B d : Nat} {a : AV} (h : RdA tt B (d + 3) 77 a) : ∃ l : List Sp, l.length ≤ B ∧ (∀ s, s ∈ l → spOk s) ∧ ∀ (L : Nat → Value) (hp : Hp) v, DenA L hp a v → DenA L hp (spS l) v := by
  obtain ⟨c, ⟨n, f, hn, hf, e⟩, rfl⟩ := h
  cases e
  obtain ⟨l, hl, hf2, hR⟩ := list_of (enc := spF) (R := spOk) sp0 (fun k hk => rd_spanR (hf k hk))
  refine ⟨l, by omega, fun s hs => ?_, fun L hp v hd => ?_⟩
  · obtain ⟨j, hj, rfl⟩ := mem_getDs hs
    exact hR j (by omega)
  subst hl
  exact den_sl_ext hd (fun k hk => (hf2 k hk).symm)
theorem rangesTells_law : ∀ avs, RdArgs tt 1048576 30 [77, 77, 39] avs → CallV Try.prog 9 avs [] (fun r own' => own' = [] ∧ r = vcb true) := by
  rintro avs ⟨a0, r0, h0, ⟨a1, r1, h1, ⟨a2, r2, h2, rfl, rfl⟩, rfl⟩, rfl⟩
  obtain ⟨a, hla, hsa, hda⟩ := rd_spansR h0
  obtain ⟨b, hlb, hsb, hdb⟩ := rd_spansR h1
  obtain ⟨x, hx, rfl⟩ := rd_idR h2
  refine callV_args (argsLe_cons hda (argsLe_cons hdb (argsLe_refl _))) ?_
  exact rtells_c a b x hla hlb hsa
end Go.Eng
/- The law RangesSame. -/
set_option linter.unusedVariables false
set_option linter.unusedSimpArgs false
set_option maxRecDepth 100000
set_option maxHeartbeats 4000000
namespace Go.Eng
open Go Go.RowKit Go.Proofs
def inP (x : I2) (s : Sp) : Bool := s.cl == x.1 && (x.1 != 0 && (decide (s.fr ≤ x.2) && decide (x.2 < s.tz)))
def rsmI (a l m : List Sp) (x : I2) (n : Nat) (st : St) : Prop := ∃ j : Nat, n = j ∧ j ≤ a.length ∧
  st = ⟨135, 0, [(0, spS a), (5, .c (.own 0 0)), (7, vcb true), (8, spS l), (9, spS m), (10, .c (.row 1)), (11, vcb ((a.drop j).any (inP x))), (12, vci .i64 ((j : Int) - 1))],
    [some (.cells 39 (idF x)), some (.row 87 3 (a.drop j).reverse.length (spR (a.drop j).reverse))]⟩
theorem any_in {a : List Sp} {x : I2} : a.any (inP x) = true ↔ hasS (setL a) x.1 x.2 := by
  rw [(setL_ok a).2]
  unfold hasS valid
  rw [List.any_eq_true]
  constructor
  · rintro ⟨s, hs, h⟩
    unfold inP at h
    simp only [Bool.and_eq_true, beq_iff_eq, bne_iff_ne, decide_eq_true_eq] at h
    obtain ⟨h1, h2, h3, h4⟩ := h
    exact ⟨s, List.mem_filter.2 ⟨hs, decide_eq_true ⟨by omega, by omega⟩⟩, h1, h3, h4⟩
  · rintro ⟨s, hs, h1, h2, h3⟩
    obtain ⟨hs, hv⟩ := List.mem_filter.1 hs
    obtain ⟨v1, v2⟩ := of_decide_eq_true hv
    refine ⟨s, hs, ?_⟩
    unfold inP
    simp only [Bool.and_eq_true, beq_iff_eq, bne_iff_ne, decide_eq_true_eq]
    exact ⟨h1, by omega, h2, h3⟩
theorem sizeS_bd : ∀ (l : List Sp), (∀ s, s ∈ l → spOk s) → (∀ s, s ∈ l → s.fr ≤ s.tz) → 0 ≤ sizeS l ∧ sizeS l ≤ l.length * 4294967295
  | [], _, _ => by simp [sizeS]
  | s :: l, h1, h2 => by
    have := sizeS_bd l (fun t ht => h1 t (List.mem_cons_of_mem _ ht)) (fun t ht => h2 t (List.mem_cons_of_mem _ ht))
    obtain ⟨_, ⟨a3, a4⟩, a5, a6⟩ := h1 s (by simp)
    have h3 := h2 s (by simp)
    have e : sizeS (s :: l) = (s.tz - s.fr) + sizeS l := rfl
    rw [e, List.length_cons]
    omega
theorem rsame_c (a b : List Sp) (x : I2) (hla : a.length ≤ 1048576) (hlb : b.length ≤ 1048576) (ha : ∀ s, s ∈ a → spOk s) (hb : ∀ s, s ∈ b → spOk s) :
    CallV Try.prog 10 [spS a, spS b, idA x] [] (fun r own' => own' = [] ∧ r = vcb true) := by
  refine callV_pure Try.func10 rfl ttok ftok rfl rfl rfl (Nat.le_of_ble_eq_true rfl) ?_
  conv => whnf
  refine call_pure (up_c) rfl ?_
  rintro _ rfl
  conv => whnf
  by_cases la : a.length ≤ 60
  rotate_left
  · rw [show decide ((a.length : Int) > 60) = true from decide_eq_true (by omega)]
    conv => whnf
    all_goals first | rfl | exact ⟨rfl, rfl⟩
  rw [show decide ((a.length : Int) > 60) = false from decide_eq_false (by omega)]
  conv => whnf
  by_cases lb : b.length ≤ 60
  rotate_left
  · rw [show decide ((b.length : Int) > 60) = true from decide_eq_true (by omega)]
    conv => whnf
    all_goals first | rfl | exact ⟨rfl, rfl⟩
  rw [show decide ((b.length : Int) > 60) = false from decide_eq_false (by omega)]
  conv => whnf
  refine call_pure (of_c a (by omega)) rfl ?_
  rintro _ ⟨o, ho, rfl⟩
  obtain rfl := ofS_set ho
  conv => whnf
  refine call_pure (of_c b (by omega)) rfl ?_
  rintro _ ⟨o, ho2, rfl⟩
  obtain rfl := ofS_set ho2
  have hsa := setL_len a
  have hsb := setL_len b
  conv => whnf
  rw [show IntKind.i64.wrap ((a.length : Int) - 1) = (a.length : Int) - 1 from w_i64 (by omega) (by omega)]
  refine loopV ttok ftok (rsmI a (setL a) (setL b) x) ((nil_row 10 87 3 (spR []) rfl).trans (norm_weak [0, 5, 7, 8, 9, 10, 11, 12] [some 0, some 1] rfl rfl)) ⟨a.length, rfl, Nat.le_refl _, by rw [List.drop_length]; rfl⟩ ?_
  rintro j st ⟨_, rfl, hj, rfl⟩
  conv => whnf
  refine onB_intro (fun h => ?_) (fun h => ?_)
  · have h := of_decide_eq_true h
    have hj0 : 0 < j := by omega
    obtain ⟨k, rfl⟩ : ∃ k, j = k + 1 := ⟨j - 1, by omega⟩
    have ek : ((k + 1 : Nat) : Int) - 1 = (k : Int) := by omega
    rw [ek]
    have hkl : k < a.length := by omega
    have hd := drop_sp hkl
    conv => whnf
    refine ⟨⟨by omega, by omega⟩, ?_⟩
    conv => whnf
    rw [ti_nat]
    generalize hy : a.getD k sp0 = y at hd
    have hT : (a.drop (k + 1)).reverse.length = a.length - (k + 1) := by simp
    refine ⟨fun _ => spF y, fun j hj2 => ?_, ?_⟩
    · obtain rfl : j = 0 := by omega
      rfl
    conv => whnf
    refine ⟨⟨by (try simp only [List.length_append, List.length_singleton]); omega, by show (List.length ((a.drop (k + 1)).reverse) + 1) * 12 ≤ _; (try simp only [List.length_append, List.length_singleton]); omega⟩, ?_⟩
    conv => whnf
    refine app1 (enc := spF) (d := sp0) (l := ((a.drop (k + 1)).reverse)) y (fun k hk => rfl) rfl ?_
    conv => whnf
    refine drawV_join mixed (by kernel_rfl) ttok ?_
    conv => whnf
    refine ⟨?_, ?_⟩
    · conv => whnf
      intro g1
      conv => whnf
      omega
    conv => whnf
    refine ⟨?_, ?_⟩
    · conv => whnf
      intro g1
      conv => whnf
      intro g2
      conv => whnf
      omega
    conv => whnf
    refine ⟨?_, ?_⟩
    · conv => whnf
      intro g1
      conv => whnf
      intro g2
      conv => whnf
      omega
    conv => whnf
    rw [ti_nat, hy, show IntKind.i64.wrap ((k : Int) - 1) = (k : Int) - 1 from w_i64 (by omega) (by omega)]
    have hr : (a.drop (k + 1)).reverse ++ [y] = (a.drop k).reverse := by rw [hd, List.reverse_cons]
    have ha2 : (a.drop k).any (inP x) = (inP x y || (a.drop (k + 1)).any (inP x)) := by rw [hd, List.any_cons]
    rw [hr]
    generalize (a.drop (k + 1)).any (inP x) = B at ha2
    refine ⟨k, _, by omega, norm_weak [0, 5, 7, 8, 9, 10, 11, 12] [some 0, some 3] rfl rfl, k, rfl, by omega, ?_⟩
    have e : pickB B (Operand.const (Value.bool true)) (Operand.tmp 78) true (pickB (pickB (pickB (y.cl == x.1) (Operand.tmp 57) (Operand.const (Value.bool false)) (x.1 != 0) false) (Operand.tmp 67) (Operand.const (Value.bool false)) (decide (y.fr ≤ x.2)) false)
        (Operand.tmp 77) (Operand.const (Value.bool false)) (decide (x.2 < y.tz)) false) = (inP x y || B) := by
      unfold inP
      simp only [pickB, isLit]
      cases B <;> cases (y.cl == x.1) <;> cases (x.1 != 0) <;> cases decide (y.fr ≤ x.2) <;> cases decide (x.2 < y.tz) <;> rfl
    rw [ha2, ← e]
    all_goals rfl
  · have h := of_decide_eq_false h
    obtain rfl : j = 0 := by omega
    rw [List.drop_zero]
    conv => whnf
    refine ⟨fun _ _ => rfl, ?_⟩
    conv => whnf
    refine call_pure (of_c a.reverse (by rw [List.length_reverse]; omega)) rfl ?_
    rintro _ ⟨o, ho3, rfl⟩
    obtain rfl := (ofS_set ho3).trans (setL_perm (List.reverse_perm a))
    conv => whnf
    refine call_pure (sameset_c (setL a) (setL a) (by omega) (by omega)) rfl ?_
    rintro _ (⟨-, rfl⟩ | ⟨h, rfl⟩)
    rotate_left
    · exact absurd rfl h
    conv => whnf
    refine call_pure (of_c (setL a) (by omega)) rfl ?_
    rintro _ ⟨o, ho4, rfl⟩
    obtain rfl := (ofS_set ho4).trans (setL_self (setL_ok a).1)
    conv => whnf
    refine call_pure (sameset_c (setL a) (setL a) (by omega) (by omega)) rfl ?_
    rintro _ (⟨-, rfl⟩ | ⟨h, rfl⟩)
    rotate_left
    · exact absurd rfl h
    conv => whnf
    refine call_pure (join_c (setL a) (setL b) (by omega) (by omega)) rfl ?_
    rintro _ ⟨J, hJ, rfl⟩
    have hJs := ofS_set hJ
    have hJl := hJ.len
    rw [List.length_append] at hJl
    conv => whnf
    refine call_pure (rmay_c (setL a) (by omega)) rfl ?_
    rintro _ ⟨q, hq, rfl⟩
    obtain rfl : q = true := hq.2 (mayS_canon.2 (setL_ok a).1)
    conv => whnf
    refine call_pure (rmay_c J (by omega)) rfl ?_
    rintro _ ⟨q, hq, rfl⟩
    obtain rfl : q = true := hq.2 (mayS_canon.2 hJ.can)
    conv => whnf
    refine call_pure (has_c (setL a) (by omega) x) rfl ?_
    rintro _ ⟨q, hq, rfl⟩
    obtain rfl : a.any (inP x) = q := by rw [Bool.eq_iff_iff, hq]; exact any_in
    generalize hB : a.any (inP x) = B at hq
    conv => whnf
    rw [beq_self_eq_true]
    conv => whnf
    refine call_pure (has_c J (by omega) x) rfl ?_
    rintro _ ⟨q2, hq2, rfl⟩
    have hJh : hasS J x.1 x.2 ↔ hasS (setL a) x.1 x.2 ∨ hasS (setL b) x.1 x.2 := by
      rw [hJ.has, valid_append, valid_canon (setL_ok a).1, valid_canon (setL_ok b).1, hasS_append]
    have hspa := setL_sp a ha
    have hspb := setL_sp b hb
    have hva : ∀ s, s ∈ setL a → s.fr ≤ s.tz := fun s hs => Int.le_of_lt ((setL_ok a).1.val s hs).2
    have hvb : ∀ s, s ∈ setL b → s.fr ≤ s.tz := fun s hs => Int.le_of_lt ((setL_ok b).1.val s hs).2
    have hspJ : ∀ s, s ∈ J → spOk s := by
      rw [hJs]
      exact setL_sp _ fun s hs => (List.mem_append.1 hs).elim (hspa s) (hspb s)
    have hvJ : ∀ s, s ∈ J → s.fr ≤ s.tz := fun s hs => Int.le_of_lt (hJ.can.val s hs).2
    have hsz := hJ.size
    rw [valid_append, valid_canon (setL_ok a).1, valid_canon (setL_ok b).1, sizeS_append] at hsz
    have b1 := sizeS_bd _ hspa hva
    have b2 := sizeS_bd _ hspb hvb
    have b3 := sizeS_bd _ hspJ hvJ
    have ec : decide (sz64 J ≤ IntKind.u64.wrap (sz64 (setL a) + sz64 (setL b))) = true := by
      rw [w_u64]
      unfold sz64
      refine decide_eq_true ?_
      omega
    cases B with
    | true =>
      obtain rfl : q2 = true := hq2.2 (hJh.2 (.inl (hq.1 rfl)))
      conv => whnf
      refine call_pure (count_c J (by omega) hspJ hvJ) rfl ?_
      rintro _ rfl
      conv => whnf
      refine call_pure (count_c (setL a) (by omega) hspa hva) rfl ?_
      rintro _ rfl
      conv => whnf
      refine call_pure (count_c (setL b) (by omega) hspb hvb) rfl ?_
      rintro _ rfl
      conv => whnf
      rw [ec]
      all_goals first | rfl | exact ⟨rfl, rfl⟩
    | false =>
      conv => whnf
      refine call_pure (has_c (setL b) (by omega) x) rfl ?_
      rintro _ ⟨q3, hq3, rfl⟩
      obtain rfl : q2 = q3 := by
        rw [Bool.eq_iff_iff, hq2, hq3, hJh]
        exact ⟨fun h => h.elim (fun h => nomatch hq.2 h) id, .inr⟩
      conv => whnf
      rw [beq_self_eq_true]
      conv => whnf
      refine call_pure (count_c J (by omega) hspJ hvJ) rfl ?_
      rintro _ rfl
      conv => whnf
      refine call_pure (count_c (setL a) (by omega) hspa hva) rfl ?_
      rintro _ rfl
      conv => whnf
      refine call_pure (count_c (setL b) (by omega) hspb hvb) rfl ?_
      rintro _ rfl
      conv => whnf
      rw [ec]
      all_goals first | rfl | exact ⟨rfl, rfl⟩
theorem rangesSame_law : ∀ avs, RdArgs tt 1048576 30 [77, 77, 39] avs → CallV Try.prog 10 avs [] (fun r own' => own' = [] ∧ r = vcb true) := by
  rintro avs ⟨a0, r0, h0, ⟨a1, r1, h1, ⟨a2, r2, h2, rfl, rfl⟩, rfl⟩, rfl⟩
  obtain ⟨a, hla, hsa, hda⟩ := rd_spansR h0
  obtain ⟨b, hlb, hsb, hdb⟩ := rd_spansR h1
  obtain ⟨x, hx, rfl⟩ := rd_idR h2
  refine callV_args (argsLe_cons hda (argsLe_cons hdb (argsLe_refl _))) ?_
  exact rsame_c a b x hla hlb hsa hsb
end Go.Eng
