/- A part of the proof: what the functions of the program come to, told by a small reckoner of states. -/
import Derived.Test.YteglopjljejjkaaDoorBVal
set_option linter.unusedVariables false
set_option linter.unusedSimpArgs false
namespace Go.Eng
open Go Go.RowKit Go.Proofs
/-! The reference's decoding of UTF-8. -/
def bAt (s : ByteArray) (i : Nat) : Int := ((s[i]!).toNat : Int)
theorem bAt_le (s : ByteArray) (i : Nat) : 0 ≤ bAt s i ∧ bAt s i ≤ 255 := by
  have := (s[i]!).toNat_lt
  unfold bAt
  omega
def headR (c : Int) : Option (Nat × Int × Int) :=
  if 240 ≤ c ∧ c < 248 then some (4, c - 240, 65536) else if 224 ≤ c ∧ c < 240 then some (3, c - 224, 2048) else if 192 ≤ c ∧ c < 224 then some (2, c - 192, 128) else if 128 ≤ c then none else some (1, c, 0)
def tailR (s : ByteArray) (i : Nat) : Nat → Nat → Int → Option Int
  | _, 0, v => some v
  | k, m + 1, v => if bAt s (i + k) < 128 ∨ 191 < bAt s (i + k) then none else tailR s i (k + 1) m (64 * v + bAt s (i + k) - 128)
def badR (v least : Int) : Prop := v < least ∨ 1114111 < v ∨ 55296 ≤ v ∧ v ≤ 57343
instance (v least : Int) : Decidable (badR v least) := by unfold badR; infer_instance
def charR (s : ByteArray) (i : Nat) : Option (Int × Nat) :=
  match headR (bAt s i) with
  | none => none
  | some (n, v0, least) => if s.size < i + n then none else match tailR s i 1 (n - 1) v0 with
    | none => none
    | some v => if badR v least then none else some (v, n)
def charsR (s : ByteArray) : Nat → Nat → Option (List Int)
  | 0, _ => some []
  | f + 1, i => if i < s.size then match charR s i with
      | none => none
      | some (v, n) => (charsR s f (i + n)).map (v :: ·)
    else some []
def charsF (s : ByteArray) : Option (List Int) := charsR s s.size 0
def charsV (s : ByteArray) : AV := match charsF s with | some l => .tup [rns l, vcb true] | none => .tup [nilS, vcb false]
theorem chars_no {s : ByteArray} {i f : Nat} {l : List Int} (hf : s.size - i ≤ f) (hi : i < s.size) (he : charsF s = (charsR s f i).map (l ++ ·)) (h : charR s i = none) : charsV s = .tup [nilS, vcb false] := by
  obtain ⟨f, rfl⟩ : ∃ g, f = g + 1 := ⟨f - 1, by omega⟩
  unfold charsR at he
  rw [if_pos hi, h] at he
  unfold charsV
  rw [he]
  rfl
theorem chars_go {s : ByteArray} {i f : Nat} {l : List Int} (hf : s.size - i ≤ f) (hi : i < s.size) (he : charsF s = (charsR s f i).map (l ++ ·)) {v : Int} {n : Nat} (h : charR s i = some (v, n)) : charsF s = (charsR s (f - 1) (i + n)).map ((l ++ [v]) ++ ·) := by
  obtain ⟨f, rfl⟩ : ∃ g, f = g + 1 := ⟨f - 1, by omega⟩
  unfold charsR at he
  rw [if_pos hi, h] at he
  rw [he]
  simp only [Nat.add_sub_cancel]
  cases charsR s f (i + n) <;> simp
theorem wb (s : ByteArray) (i : Nat) : IntKind.i64.wrap ((s[i]!).toNat : Int) = bAt s i := by
  have := bAt_le s i
  unfold bAt at *
  exact w_i64 (by omega) (by omega)
/-- What a loop's head holds. -/
def chI (s : ByteArray) (n : Nat) (st : St) : Prop := ∃ (i : Nat) (l : List Int) (f : Nat), n = s.size - i ∧ i ≤ s.size ∧ l.length ≤ i ∧ s.size - i ≤ f ∧ charsF s = (charsR s f i).map (l ++ ·) ∧
  st = ⟨99, 0, [(0, vcs s), (4, .c (.row 0)), (5, vci .i64 (i : Int))], [some (.row 21 1 l.length (runeF l))]⟩
theorem w_le {x : Int} (h1 : 0 ≤ x) (h2 : x ≤ 4000000000) : IntKind.i64.wrap x = x := w_i64 (by omega) (by omega)
theorem w32_le {x : Int} (h1 : 0 ≤ x) (h2 : x ≤ 1114111) : IntKind.i32.wrap x = x := by
  unfold IntKind.wrap IntKind.bits IntKind.signed
  simp
  split <;> omega
theorem headR_1 {c : Int} (h : ¬ (240 ≤ c ∧ c < 248)) (h2 : ¬ (224 ≤ c ∧ c < 240)) (h3 : ¬ (192 ≤ c ∧ c < 224)) (h4 : ¬ 128 ≤ c) : headR c = some (1, c, 0) := by unfold headR; rw [if_neg h, if_neg h2, if_neg h3, if_neg h4]
theorem tailR_no {s : ByteArray} {i k m : Nat} {v : Int} (h : bAt s (i + k) < 128 ∨ 191 < bAt s (i + k)) : tailR s i k (m + 1) v = none := by unfold tailR; rw [if_pos h]
theorem tailR_go {s : ByteArray} {i k m : Nat} {v : Int} (h : ¬ (bAt s (i + k) < 128 ∨ 191 < bAt s (i + k))) : tailR s i k (m + 1) v = tailR s i (k + 1) m (64 * v + bAt s (i + k) - 128) := by rw [tailR, if_neg h]
theorem charR_big {s : ByteArray} {i n : Nat} {v least : Int} (hh : headR (bAt s i) = some (n, v, least)) (h : s.size < i + n) : charR s i = none := by unfold charR; simp only [hh]; rw [if_pos h]
theorem charR_tail {s : ByteArray} {i n : Nat} {v least : Int} (hh : headR (bAt s i) = some (n, v, least)) (h : ¬ s.size < i + n) (ht : tailR s i 1 (n - 1) v = none) : charR s i = none := by unfold charR; simp only [hh]; rw [if_neg h, ht]
theorem charR_bad {s : ByteArray} {i n : Nat} {v u least : Int} (hh : headR (bAt s i) = some (n, v, least)) (h : ¬ s.size < i + n) (ht : tailR s i 1 (n - 1) v = some u) (hb : badR u least) : charR s i = none := by unfold charR; simp only [hh]; rw [if_neg h, ht]; simp only; rw [if_pos hb]
theorem charR_ok {s : ByteArray} {i n : Nat} {v u least : Int} (hh : headR (bAt s i) = some (n, v, least)) (h : ¬ s.size < i + n) (ht : tailR s i 1 (n - 1) v = some u) (hb : ¬ badR u least) : charR s i = some (u, n) := by unfold charR; simp only [hh]; rw [if_neg h, ht]; simp only; rw [if_neg hb]
set_option maxRecDepth 100000 in
set_option maxHeartbeats 2000000 in
theorem chars_c (s : ByteArray) (hs : s.size ≤ 100000000) : CallV Tryd.prog 17 [vcs s] [] (fun r own' => own' = [] ∧ r = charsV s) := by
  refine callV_pure Tryd.func17 rfl ttok ftok rfl rfl rfl (Nat.le_of_ble_eq_true rfl) ?_
  conv => whnf
  refine loopV ttok ftok (chI s) ((nil_row 4 21 1 (runeF []) rfl).trans (norm_weak [0, 4, 5] [some 0] rfl rfl)) ⟨0, [], s.size, rfl, Nat.zero_le _, Nat.zero_le _, Nat.sub_le _ _, ?_, rfl⟩ ?_
  · unfold charsF; cases charsR s s.size 0 <;> rfl
  rintro n st ⟨i, l, f, rfl, hi, hll, hf, he, rfl⟩
  conv => whnf
  refine ⟨by omega, ?_⟩
  conv => whnf
  refine onB_intro (fun h => ?_) (fun h => ?_)
  · have hlt : i < s.size := by have := of_decide_eq_true h; omega
    have ek : ∀ k : Nat, k ≤ 4 → IntKind.i64.wrap ((i : Int) + (k : Int)) = ((i + k : Nat) : Int) := fun k hk => by rw [w_i64 (by omega) (by omega)]; omega
    have e1 : IntKind.i64.wrap ((i : Int) + 1) = ((i + 1 : Nat) : Int) := ek 1 (by omega)
    have e2 : IntKind.i64.wrap ((i : Int) + IntKind.i64.wrap (1 + 1)) = ((i + 2 : Nat) : Int) := ek 2 (by omega)
    have e3 : IntKind.i64.wrap ((i : Int) + IntKind.i64.wrap (IntKind.i64.wrap (1 + 1) + 1)) = ((i + 3 : Nat) : Int) := ek 3 (by omega)
    have e4 : IntKind.i64.wrap ((i : Int) + 4) = ((i + 4 : Nat) : Int) := ek 4 (by omega)
    have b0 := bAt_le s i
    have b1 := bAt_le s (i + 1)
    have b2 := bAt_le s (i + 2)
    have b3 := bAt_le s (i + 3)
    conv => whnf
    refine ⟨by omega, ?_⟩
    conv => whnf
    refine onB_intro (fun c4 => ?_) (fun c4 => ?_)
    · conv => whnf
      simp only [pickB, isLit, Bool.and_eq_true, decide_eq_true_eq, wb, ti_nat] at c4
      have hh : headR (bAt s i) = some (4, bAt s i - 240, 65536) := by unfold headR; rw [if_pos (by omega)]
      have en := e4
      refine ⟨by omega, ?_⟩
      conv => whnf
      refine onB_intro (fun h1 => ?_) (fun h1 => ?_)
      · conv => whnf
        refine (chars_no hf hlt he ?_).symm
        simp only [pickB, isLit, Bool.true_or, Bool.and_true, Bool.or_eq_true, Bool.and_eq_true, Bool.or_eq_false_iff, decide_eq_true_eq, decide_eq_false_iff_not, wb, ti_nat, e1, e2, e3, e4] at h1
        exact charR_big hh (by omega)
      have hfit : ¬ s.size < i + 4 := by have h1 := of_decide_eq_false h1; simp only [en] at h1; omega
      conv => whnf
      refine loop_rounds 5 ttok ftok ?_
      conv => whnf
      refine ⟨by rw [e1]; omega, ?_⟩
      conv => whnf
      refine onB_intro (fun d1 => ?_) (fun d1 => ?_)
      · conv => whnf
        refine (chars_no hf hlt he ?_).symm
        simp only [pickB, isLit, Bool.true_or, Bool.and_true, Bool.or_eq_true, Bool.and_eq_true, Bool.or_eq_false_iff, decide_eq_true_eq, decide_eq_false_iff_not, wb, ti_nat, e1, e2, e3, e4] at d1
        refine charR_tail hh hfit ?_
        skip
        exact tailR_no (by omega)
      have d1 : ¬ (bAt s (i + 1) < 128 ∨ 191 < bAt s (i + 1)) := by
        simp only [pickB, isLit, Bool.true_or, Bool.and_true, Bool.or_eq_true, Bool.and_eq_true, Bool.or_eq_false_iff, decide_eq_true_eq, decide_eq_false_iff_not, wb, ti_nat, e1, e2, e3, e4] at d1
        omega
      conv => whnf
      refine ⟨by rw [e2]; omega, ?_⟩
      conv => whnf
      refine onB_intro (fun d2 => ?_) (fun d2 => ?_)
      · conv => whnf
        refine (chars_no hf hlt he ?_).symm
        simp only [pickB, isLit, Bool.true_or, Bool.and_true, Bool.or_eq_true, Bool.and_eq_true, Bool.or_eq_false_iff, decide_eq_true_eq, decide_eq_false_iff_not, wb, ti_nat, e1, e2, e3, e4] at d2
        refine charR_tail hh hfit ?_
        rw [show (4 : Nat) - 1 = 2 + 1 from rfl, tailR_go d1]
        exact tailR_no (by omega)
      have d2 : ¬ (bAt s (i + 2) < 128 ∨ 191 < bAt s (i + 2)) := by
        simp only [pickB, isLit, Bool.true_or, Bool.and_true, Bool.or_eq_true, Bool.and_eq_true, Bool.or_eq_false_iff, decide_eq_true_eq, decide_eq_false_iff_not, wb, ti_nat, e1, e2, e3, e4] at d2
        omega
      conv => whnf
      refine ⟨by rw [e3]; omega, ?_⟩
      conv => whnf
      refine onB_intro (fun d3 => ?_) (fun d3 => ?_)
      · conv => whnf
        refine (chars_no hf hlt he ?_).symm
        simp only [pickB, isLit, Bool.true_or, Bool.and_true, Bool.or_eq_true, Bool.and_eq_true, Bool.or_eq_false_iff, decide_eq_true_eq, decide_eq_false_iff_not, wb, ti_nat, e1, e2, e3, e4] at d3
        refine charR_tail hh hfit ?_
        rw [show (4 : Nat) - 1 = 2 + 1 from rfl, tailR_go d1, tailR_go d2]
        exact tailR_no (by omega)
      have d3 : ¬ (bAt s (i + 3) < 128 ∨ 191 < bAt s (i + 3)) := by
        simp only [pickB, isLit, Bool.true_or, Bool.and_true, Bool.or_eq_true, Bool.and_eq_true, Bool.or_eq_false_iff, decide_eq_true_eq, decide_eq_false_iff_not, wb, ti_nat, e1, e2, e3, e4] at d3
        omega
      conv => whnf
      refine onB_intro (fun hl => ?_) (fun hl => ?_)
      · conv => whnf
        refine (chars_no hf hlt he ?_).symm
        simp only [pickB, isLit, Bool.true_or, Bool.and_true, Bool.or_eq_true, Bool.and_eq_true, decide_eq_true_eq, wb, ti_nat, e1, e2, e3, e4] at hl
        refine charR_bad hh hfit (by rw [show (4 : Nat) - 1 = 2 + 1 from rfl, tailR_go d1, tailR_go d2, tailR_go d3]; rfl) ?_
        unfold badR
        try simp (discharger := omega) only [w_le] at hl
        omega
      have hb : ¬ badR (64 * (64 * (64 * (bAt s i - 240) + bAt s (i + 1) - 128) + bAt s (i + 2) - 128) + bAt s (i + 3) - 128) 65536 := by
        simp only [pickB, isLit, Bool.true_or, Bool.and_true, Bool.or_eq_false_iff, Bool.and_eq_false_imp, decide_eq_true_eq, decide_eq_false_iff_not, wb, ti_nat, e1, e2, e3, e4] at hl
        try simp (discharger := omega) only [w_le] at hl
        unfold badR
        omega
      conv => whnf
      refine ⟨_, fun _ _ => rfl, ?_⟩
      conv => whnf
      refine ⟨⟨by omega, by show (l.length + 1) * 4 ≤ _; omega⟩, ?_⟩
      conv => whnf
      refine app1 (enc := fun x : Int => [vr x]) (d := 0) (l := l) (64 * (64 * (64 * (bAt s i - 240) + bAt s (i + 1) - 128) + bAt s (i + 2) - 128) + bAt s (i + 3) - 128) (fun _ _ => rfl) ?_ ?_
      · unfold badR at hb
        show [IC.v (Value.int .i32 _)] = [vr _]
        simp only [wb, ti_nat, e1, e2, e3, e4]
        simp (discharger := omega) only [w_le, w32_le]
      conv => whnf
      refine ⟨s.size - (i + 4), _, by omega, norm_weak [0, 4, 5] [some 2] rfl rfl, i + 4, l ++ [(64 * (64 * (64 * (bAt s i - 240) + bAt s (i + 1) - 128) + bAt s (i + 2) - 128) + bAt s (i + 3) - 128)], f - 1, rfl, by omega, by simp only [List.length_append, List.length_cons, List.length_nil]; omega, by omega, chars_go hf hlt he (charR_ok hh hfit (by rw [show (4 : Nat) - 1 = 2 + 1 from rfl, tailR_go d1, tailR_go d2, tailR_go d3]; rfl) hb), ?_⟩
      rw [← en]
      rfl
    · conv => whnf
      replace c4 : ¬ (240 ≤ bAt s i ∧ bAt s i < 248) := by
        simp only [pickB, isLit, Bool.and_eq_false_imp, decide_eq_true_eq, decide_eq_false_iff_not, wb, ti_nat] at c4
        omega
      refine onB_intro (fun c3 => ?_) (fun c3 => ?_)
      · conv => whnf
        simp only [pickB, isLit, Bool.and_eq_true, decide_eq_true_eq, wb, ti_nat] at c3
        have hh : headR (bAt s i) = some (3, bAt s i - 224, 2048) := by unfold headR; rw [if_neg c4, if_pos (by omega)]
        have en : IntKind.i64.wrap ((i : Int) + 3) = ((i + 3 : Nat) : Int) := ek 3 (by omega)
        refine ⟨by omega, ?_⟩
        conv => whnf
        refine onB_intro (fun h1 => ?_) (fun h1 => ?_)
        · conv => whnf
          refine (chars_no hf hlt he ?_).symm
          simp only [pickB, isLit, Bool.true_or, Bool.and_true, Bool.or_eq_true, Bool.and_eq_true, Bool.or_eq_false_iff, decide_eq_true_eq, decide_eq_false_iff_not, wb, ti_nat, e1, e2, e3, e4] at h1
          exact charR_big hh (by omega)
        have hfit : ¬ s.size < i + 3 := by have h1 := of_decide_eq_false h1; simp only [en] at h1; omega
        conv => whnf
        refine loop_rounds 5 ttok ftok ?_
        conv => whnf
        refine ⟨by rw [e1]; omega, ?_⟩
        conv => whnf
        refine onB_intro (fun d1 => ?_) (fun d1 => ?_)
        · conv => whnf
          refine (chars_no hf hlt he ?_).symm
          simp only [pickB, isLit, Bool.true_or, Bool.and_true, Bool.or_eq_true, Bool.and_eq_true, Bool.or_eq_false_iff, decide_eq_true_eq, decide_eq_false_iff_not, wb, ti_nat, e1, e2, e3, e4] at d1
          refine charR_tail hh hfit ?_
          skip
          exact tailR_no (by omega)
        have d1 : ¬ (bAt s (i + 1) < 128 ∨ 191 < bAt s (i + 1)) := by
          simp only [pickB, isLit, Bool.true_or, Bool.and_true, Bool.or_eq_true, Bool.and_eq_true, Bool.or_eq_false_iff, decide_eq_true_eq, decide_eq_false_iff_not, wb, ti_nat, e1, e2, e3, e4] at d1
          omega
        conv => whnf
        refine ⟨by rw [e2]; omega, ?_⟩
        conv => whnf
        refine onB_intro (fun d2 => ?_) (fun d2 => ?_)
        · conv => whnf
          refine (chars_no hf hlt he ?_).symm
          simp only [pickB, isLit, Bool.true_or, Bool.and_true, Bool.or_eq_true, Bool.and_eq_true, Bool.or_eq_false_iff, decide_eq_true_eq, decide_eq_false_iff_not, wb, ti_nat, e1, e2, e3, e4] at d2
          refine charR_tail hh hfit ?_
          rw [show (3 : Nat) - 1 = 1 + 1 from rfl, tailR_go d1]
          exact tailR_no (by omega)
        have d2 : ¬ (bAt s (i + 2) < 128 ∨ 191 < bAt s (i + 2)) := by
          simp only [pickB, isLit, Bool.true_or, Bool.and_true, Bool.or_eq_true, Bool.and_eq_true, Bool.or_eq_false_iff, decide_eq_true_eq, decide_eq_false_iff_not, wb, ti_nat, e1, e2, e3, e4] at d2
          omega
        conv => whnf
        refine onB_intro (fun hl => ?_) (fun hl => ?_)
        · conv => whnf
          refine (chars_no hf hlt he ?_).symm
          simp only [pickB, isLit, Bool.true_or, Bool.and_true, Bool.or_eq_true, Bool.and_eq_true, decide_eq_true_eq, wb, ti_nat, e1, e2, e3, e4] at hl
          refine charR_bad hh hfit (by rw [show (3 : Nat) - 1 = 1 + 1 from rfl, tailR_go d1, tailR_go d2]; rfl) ?_
          unfold badR
          try simp (discharger := omega) only [w_le] at hl
          omega
        have hb : ¬ badR (64 * (64 * (bAt s i - 224) + bAt s (i + 1) - 128) + bAt s (i + 2) - 128) 2048 := by
          simp only [pickB, isLit, Bool.true_or, Bool.and_true, Bool.or_eq_false_iff, Bool.and_eq_false_imp, decide_eq_true_eq, decide_eq_false_iff_not, wb, ti_nat, e1, e2, e3, e4] at hl
          try simp (discharger := omega) only [w_le] at hl
          unfold badR
          omega
        conv => whnf
        refine ⟨_, fun _ _ => rfl, ?_⟩
        conv => whnf
        refine ⟨⟨by omega, by show (l.length + 1) * 4 ≤ _; omega⟩, ?_⟩
        conv => whnf
        refine app1 (enc := fun x : Int => [vr x]) (d := 0) (l := l) (64 * (64 * (bAt s i - 224) + bAt s (i + 1) - 128) + bAt s (i + 2) - 128) (fun _ _ => rfl) ?_ ?_
        · unfold badR at hb
          show [IC.v (Value.int .i32 _)] = [vr _]
          simp only [wb, ti_nat, e1, e2, e3, e4]
          simp (discharger := omega) only [w_le, w32_le]
        conv => whnf
        refine ⟨s.size - (i + 3), _, by omega, norm_weak [0, 4, 5] [some 2] rfl rfl, i + 3, l ++ [(64 * (64 * (bAt s i - 224) + bAt s (i + 1) - 128) + bAt s (i + 2) - 128)], f - 1, rfl, by omega, by simp only [List.length_append, List.length_cons, List.length_nil]; omega, by omega, chars_go hf hlt he (charR_ok hh hfit (by rw [show (3 : Nat) - 1 = 1 + 1 from rfl, tailR_go d1, tailR_go d2]; rfl) hb), ?_⟩
        rw [← en]
        rfl
      · conv => whnf
        replace c3 : ¬ (224 ≤ bAt s i ∧ bAt s i < 240) := by
          simp only [pickB, isLit, Bool.and_eq_false_imp, decide_eq_true_eq, decide_eq_false_iff_not, wb, ti_nat] at c3
          omega
        refine onB_intro (fun c2 => ?_) (fun c2 => ?_)
        · conv => whnf
          simp only [pickB, isLit, Bool.and_eq_true, decide_eq_true_eq, wb, ti_nat] at c2
          have hh : headR (bAt s i) = some (2, bAt s i - 192, 128) := by unfold headR; rw [if_neg c4, if_neg c3, if_pos (by omega)]
          have en : IntKind.i64.wrap ((i : Int) + 2) = ((i + 2 : Nat) : Int) := ek 2 (by omega)
          refine ⟨by omega, ?_⟩
          conv => whnf
          refine onB_intro (fun h1 => ?_) (fun h1 => ?_)
          · conv => whnf
            refine (chars_no hf hlt he ?_).symm
            simp only [pickB, isLit, Bool.true_or, Bool.and_true, Bool.or_eq_true, Bool.and_eq_true, Bool.or_eq_false_iff, decide_eq_true_eq, decide_eq_false_iff_not, wb, ti_nat, e1, e2, e3, e4] at h1
            exact charR_big hh (by omega)
          have hfit : ¬ s.size < i + 2 := by have h1 := of_decide_eq_false h1; simp only [en] at h1; omega
          conv => whnf
          refine loop_rounds 5 ttok ftok ?_
          conv => whnf
          refine ⟨by rw [e1]; omega, ?_⟩
          conv => whnf
          refine onB_intro (fun d1 => ?_) (fun d1 => ?_)
          · conv => whnf
            refine (chars_no hf hlt he ?_).symm
            simp only [pickB, isLit, Bool.true_or, Bool.and_true, Bool.or_eq_true, Bool.and_eq_true, Bool.or_eq_false_iff, decide_eq_true_eq, decide_eq_false_iff_not, wb, ti_nat, e1, e2, e3, e4] at d1
            refine charR_tail hh hfit ?_
            skip
            exact tailR_no (by omega)
          have d1 : ¬ (bAt s (i + 1) < 128 ∨ 191 < bAt s (i + 1)) := by
            simp only [pickB, isLit, Bool.true_or, Bool.and_true, Bool.or_eq_true, Bool.and_eq_true, Bool.or_eq_false_iff, decide_eq_true_eq, decide_eq_false_iff_not, wb, ti_nat, e1, e2, e3, e4] at d1
            omega
          conv => whnf
          refine onB_intro (fun hl => ?_) (fun hl => ?_)
          · conv => whnf
            refine (chars_no hf hlt he ?_).symm
            simp only [pickB, isLit, Bool.true_or, Bool.and_true, Bool.or_eq_true, Bool.and_eq_true, decide_eq_true_eq, wb, ti_nat, e1, e2, e3, e4] at hl
            refine charR_bad hh hfit (by rw [show (2 : Nat) - 1 = 0 + 1 from rfl, tailR_go d1]; rfl) ?_
            unfold badR
            try simp (discharger := omega) only [w_le] at hl
            omega
          have hb : ¬ badR (64 * (bAt s i - 192) + bAt s (i + 1) - 128) 128 := by
            simp only [pickB, isLit, Bool.true_or, Bool.and_true, Bool.or_eq_false_iff, Bool.and_eq_false_imp, decide_eq_true_eq, decide_eq_false_iff_not, wb, ti_nat, e1, e2, e3, e4] at hl
            try simp (discharger := omega) only [w_le] at hl
            unfold badR
            omega
          conv => whnf
          refine ⟨_, fun _ _ => rfl, ?_⟩
          conv => whnf
          refine ⟨⟨by omega, by show (l.length + 1) * 4 ≤ _; omega⟩, ?_⟩
          conv => whnf
          refine app1 (enc := fun x : Int => [vr x]) (d := 0) (l := l) (64 * (bAt s i - 192) + bAt s (i + 1) - 128) (fun _ _ => rfl) ?_ ?_
          · unfold badR at hb
            show [IC.v (Value.int .i32 _)] = [vr _]
            simp only [wb, ti_nat, e1, e2, e3, e4]
            simp (discharger := omega) only [w_le, w32_le]
          conv => whnf
          refine ⟨s.size - (i + 2), _, by omega, norm_weak [0, 4, 5] [some 2] rfl rfl, i + 2, l ++ [(64 * (bAt s i - 192) + bAt s (i + 1) - 128)], f - 1, rfl, by omega, by simp only [List.length_append, List.length_cons, List.length_nil]; omega, by omega, chars_go hf hlt he (charR_ok hh hfit (by rw [show (2 : Nat) - 1 = 0 + 1 from rfl, tailR_go d1]; rfl) hb), ?_⟩
          rw [← en]
          rfl
        · conv => whnf
          replace c2 : ¬ (192 ≤ bAt s i ∧ bAt s i < 224) := by
            simp only [pickB, isLit, Bool.and_eq_false_imp, decide_eq_true_eq, decide_eq_false_iff_not, wb, ti_nat] at c2
            omega
          refine onB_intro (fun c1 => ?_) (fun c1 => ?_)
          · conv => whnf
            refine (chars_no hf hlt he ?_).symm
            simp only [decide_eq_true_eq, wb, ti_nat] at c1
            unfold charR headR
            rw [if_neg c4, if_neg c3, if_neg c2, if_pos (by omega)]
          · conv => whnf
            simp only [decide_eq_false_iff_not, wb, ti_nat] at c1
            have hh : headR (bAt s i) = some (1, bAt s i, 0) := headR_1 c4 c3 c2 (by omega)
            have en : IntKind.i64.wrap ((i : Int) + 1) = ((i + 1 : Nat) : Int) := e1
            refine ⟨by omega, ?_⟩
            conv => whnf
            refine onB_intro (fun h1 => ?_) (fun h1 => ?_)
            · conv => whnf
              refine (chars_no hf hlt he ?_).symm
              simp only [pickB, isLit, Bool.true_or, Bool.and_true, Bool.or_eq_true, Bool.and_eq_true, Bool.or_eq_false_iff, decide_eq_true_eq, decide_eq_false_iff_not, wb, ti_nat, e1, e2, e3, e4] at h1
              exact charR_big hh (by omega)
            have hfit : ¬ s.size < i + 1 := by have h1 := of_decide_eq_false h1; simp only [en] at h1; omega
            conv => whnf
            refine loop_rounds 5 ttok ftok ?_
            conv => whnf
            refine onB_intro (fun hl => ?_) (fun hl => ?_)
            · conv => whnf
              refine (chars_no hf hlt he ?_).symm
              simp only [pickB, isLit, Bool.true_or, Bool.and_true, Bool.or_eq_true, Bool.and_eq_true, decide_eq_true_eq, wb, ti_nat, e1, e2, e3, e4] at hl
              refine charR_bad hh hfit rfl ?_
              unfold badR
              try simp (discharger := omega) only [w_le] at hl
              omega
            have hb : ¬ badR (bAt s i) 0 := by
              simp only [pickB, isLit, Bool.true_or, Bool.and_true, Bool.or_eq_false_iff, Bool.and_eq_false_imp, decide_eq_true_eq, decide_eq_false_iff_not, wb, ti_nat, e1, e2, e3, e4] at hl
              try simp (discharger := omega) only [w_le] at hl
              unfold badR
              omega
            conv => whnf
            refine ⟨_, fun _ _ => rfl, ?_⟩
            conv => whnf
            refine ⟨⟨by omega, by show (l.length + 1) * 4 ≤ _; omega⟩, ?_⟩
            conv => whnf
            refine app1 (enc := fun x : Int => [vr x]) (d := 0) (l := l) (bAt s i) (fun _ _ => rfl) ?_ ?_
            · unfold badR at hb
              show [IC.v (Value.int .i32 _)] = [vr _]
              simp only [wb, ti_nat, e1, e2, e3, e4]
              simp (discharger := omega) only [w_le, w32_le]
            conv => whnf
            refine ⟨s.size - (i + 1), _, by omega, norm_weak [0, 4, 5] [some 2] rfl rfl, i + 1, l ++ [(bAt s i)], f - 1, rfl, by omega, by simp only [List.length_append, List.length_cons, List.length_nil]; omega, by omega, chars_go hf hlt he (charR_ok hh hfit rfl hb), ?_⟩
            rw [← en]
            rfl
  · conv => whnf
    have h := of_decide_eq_false h
    obtain rfl : i = s.size := by omega
    refine ⟨fun _ _ => rfl, ?_⟩
    conv => whnf
    have hc : charsF s = some l := by
      rw [he]
      cases f <;> simp [charsR]
    unfold charsV
    rw [hc]
end Go.Eng
