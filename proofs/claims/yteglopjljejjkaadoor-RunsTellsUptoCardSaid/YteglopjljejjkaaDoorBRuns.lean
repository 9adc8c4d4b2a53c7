/- Runs and items: which runs may be. -/
import Derived.Test.YteglopjljejjkaaDoorBIds
import Derived.Test.YteglopjljejjkaaDoorBVd
import Derived.Shelf.Utf8.RuneCount
set_option linter.unusedVariables false
set_option linter.unusedSimpArgs false
set_option maxRecDepth 100000
set_option maxHeartbeats 4000000
namespace Go.Eng
open Go Go.RowKit Go.Proofs
structure It where
  id : I2
  left : I2
  right : I2
  ch : Int
structure Ru where
  id : I2
  left : I2
  right : I2
  text : ByteArray
def it0 : It := ⟨(0, 0), (0, 0), (0, 0), 0⟩
def ru0 : Ru := ⟨(0, 0), (0, 0), (0, 0), ⟨#[]⟩⟩
abbrev itF (x : It) : List IC := [vu x.id.1, vu x.id.2, vu x.left.1, vu x.left.2, vu x.right.1, vu x.right.2, vr x.ch]
abbrev ruF (x : Ru) : List IC := [vu x.id.1, vu x.id.2, vu x.left.1, vu x.left.2, vu x.right.1, vu x.right.2, .v (.string x.text)]
abbrev itS (l : List It) : AV := .c (.sl 7 l.length fun k => itF (l.getD k it0))
abbrev ruS (l : List Ru) : AV := .c (.sl 7 l.length fun k => ruF (l.getD k ru0))
def itOk (x : It) : Prop := u32P x.id ∧ u32P x.left ∧ u32P x.right
def ruOk (x : Ru) : Prop := u32P x.id ∧ u32P x.left ∧ u32P x.right ∧ x.text.size ≤ 1048576
theorem rvalid_c (c : Int) : CallV Tryd.prog 32 [vci .i32 c] [] (fun r own' => own' = [] ∧ r = vcb (Utf8.valid c)) := by
  refine callV_pure Tryd.func32 rfl ttok ftok rfl rfl rfl (Nat.le_of_ble_eq_true rfl) ?_
  conv => whnf
  refine congrArg vcb ?_
  rw [Bool.eq_iff_iff]
  unfold Utf8.valid
  simp [pickB, isLit]
  omega
/-- How many runes the library counts in a text that is valid. -/
theorem count_chars (s : ByteArray) : ∀ (f i : Nat) (l : List Int), s.size - i ≤ f → charsR s f i = some l → Lib.runeCountFrom s f i = l.length
  | 0, i, l, hf, h => by cases h; rfl
  | f + 1, i, l, hf, h => by
    unfold charsR at h
    unfold Lib.runeCountFrom
    split at h
    · rename_i hi
      rw [if_pos hi]
      split at h
      · cases h
      · rename_i v n hc
        obtain ⟨h1, h2, h3, h4, h5⟩ := charR_dec hi hc
        cases hr : charsR s f (i + n) with
        | none => rw [hr] at h; cases h
        | some l' =>
          rw [hr] at h
          cases h
          rw [h1, count_chars s f (i + n) l' (by omega) hr, List.length_cons]
          omega
    · rename_i hi
      cases h
      rw [if_neg hi]
      rfl
theorem count_of {s : ByteArray} {l : List Int} (h : charsF s = some l) : Lib.runeCount s = l.length := count_chars s s.size 0 l (by omega) h
theorem count_c (s : ByteArray) (hs : s.size ≤ 100000000) : CallV Tryd.prog 30 [vcs s] [] (fun r own' => own' = [] ∧ r = vci .i64 (Lib.runeCount s)) :=
  callV_calls (vs := [.string s]) (by simp [Value.oneCell']) rfl (fun m w hg hw => (Any.utf8_RuneCountInString Tryd.laysCount s w (by omega)).mono fun e w' h => ⟨h.1, by
    obtain ⟨_, pos, rfl⟩ := h
    exact Below.alloc (Below.refl _ _) (Nat.le_refl _) _⟩)
def lastC : Int := 4294967294
/-- May a run be? -/
def mayR (r : Ru) : Bool := match charsF r.text with
  | none => false
  | some l => decide (0 < l.length ∧ r.id.1 ≠ 0 ∧ r.id.2 + l.length - 1 ≤ lastC)
theorem chars_len {s : ByteArray} : ∀ (f i : Nat) (l : List Int), charsR s f i = some l → l.length ≤ s.size - i
  | 0, i, l, h => by cases h; simp
  | f + 1, i, l, h => by
    unfold charsR at h
    split at h
    · rename_i hi
      split at h
      · cases h
      · rename_i v n hc
        obtain ⟨h1, h2, h3, h4, h5⟩ := charR_dec hi hc
        cases hr : charsR s f (i + n) with
        | none => rw [hr] at h; cases h
        | some l' =>
          rw [hr] at h
          cases h
          have := chars_len f (i + n) l' hr
          rw [List.length_cons]
          omega
    · cases h
      simp
theorem mayR_none {r : Ru} (hc : charsF r.text = none) : mayR r = false := by unfold mayR; rw [hc]
theorem mayR_some {r : Ru} {l : List Int} (hc : charsF r.text = some l) : mayR r = decide (0 < l.length ∧ r.id.1 ≠ 0 ∧ r.id.2 + l.length - 1 ≤ lastC) := by unfold mayR; rw [hc]
theorem callV_res {P : Program} [HasGl P] {f : FuncId} {args : List AV} {own : List (Option Ob)} {Q Q' : AV → List (Option Ob) → Prop} (hc : CallV P f args own Q) (hQ : ∀ r o, Q r o → ∃ r', Q' r' o ∧ ∀ (L : Nat → Value) (h : Hp) v, DenA L h r v → DenA L h r' v) : CallV P f args own Q' := by
  refine ⟨fun mine L F h w vs hgl hm ha => (hc.out mine L F h w vs hgl hm ha).mono ?_⟩
  rintro e w' ⟨r, v, L', F', h', own', h1, h2, h3, h4, h5, h6, h7, h8⟩
  obtain ⟨r', q1, q2⟩ := hQ r own' h8
  exact ⟨r', v, L', F', h', own', h1, q2 _ _ _ h2, h3, h4, h5, h6, h7, q1⟩
theorem den_nil_sl {L : Nat → Value} {h : Hp} {v : Value} (sz : Nat) (f : Nat → List IC) (hd : Den L h (.v (.slice none 0 0)) v) : Den L h (.sl sz 0 f) v := by
  cases hd
  exact .sl _ _ _ _ _ ⟨0, 0, none⟩ (fun _ _ => undef) (Nat.le_refl _) (by omega) (fun hp => by omega) (fun k hk => by omega) (fun k hk => by omega) (fun k hk => by omega) (fun k hk => by omega)
/-- As the contract of Chars, the empty list told as a slice. -/
theorem chars_r (s : ByteArray) (hs : s.size ≤ 100000000) : CallV Tryd.prog 17 [vcs s] [] (fun r own' => own' = [] ∧ r = .tup [rns ((charsF s).getD []), vcb (charsF s).isSome]) := by
  refine callV_res (chars_c s hs) ?_
  rintro r o ⟨rfl, rfl⟩
  refine ⟨_, ⟨rfl, rfl⟩, fun L h v hd => ?_⟩
  unfold charsV at hd
  cases hc : charsF s with
  | some l => rw [hc] at hd; exact hd
  | none =>
    rw [hc] at hd
    obtain ⟨vs, rfl, hl, hd⟩ := hd
    refine ⟨vs, rfl, hl, fun j a u ha hu => ?_⟩
    match j with
    | 0 =>
      cases ha
      exact den_nil_sl 1 _ (hd 0 _ u rfl hu)
    | 1 => cases ha; exact hd 1 _ u rfl hu
    | j + 2 => simp at ha
theorem mayrun_c (r : Ru) (hr : ruOk r) : CallV Tryd.prog 20 [.agg (ruF r)] [] (fun x own' => own' = [] ∧ x = vcb (mayR r)) := by
  obtain ⟨⟨⟨a1, a2⟩, a3, a4⟩, _, _, hs⟩ := hr
  refine callV_pure Tryd.func20 rfl ttok ftok rfl rfl rfl (Nat.le_of_ble_eq_true rfl) ?_
  conv => whnf
  refine call_pure (chars_r r.text (by omega)) rfl ?_
  rintro _ rfl
  cases hc : charsF r.text with
  | none =>
    rw [mayR_none hc]
    conv => whnf
    try rfl
  | some l =>
    rw [mayR_some hc]
    have hl := chars_len (s := r.text) r.text.size 0 l hc
    have e1 : IntKind.i64.wrap (IntKind.i64.wrap (IntKind.i64.wrap r.id.2 + (l.length : Int)) - 1) = r.id.2 + l.length - 1 := by
      rw [w_i64 (x := r.id.2) (by omega) (by omega), w_i64 (x := r.id.2 + (l.length : Int)) (by omega) (by omega), w_i64 (by omega) (by omega)]
    rw [show (some l).getD [] = l from rfl, show (some l).isSome = true from rfl]
    conv => whnf
    rw [e1]
    refine congrArg vcb ?_
    rw [Bool.eq_iff_iff, decide_eq_true_iff]
    simp [pickB, isLit, lastC, and_assoc]
theorem may_c (r : Ru) (hr : ruOk r) : CallV Tryd.prog 21 [.agg (ruF r)] [] (fun x own' => own' = [] ∧ x = vcb (mayR r)) := by
  obtain ⟨ha, _, _, hs⟩ := hr
  have hv : (charsF r.text).isSome = false ∨ (charsF r.text).isSome = true := by cases (charsF r.text).isSome <;> simp
  refine callV_pure Tryd.func21 rfl ttok ftok rfl rfl rfl (Nat.le_of_ble_eq_true rfl) ?_
  conv => whnf
  refine call_pure (count_c r.text (by omega)) rfl ?_
  rintro _ rfl
  cases hc : charsF r.text with
  | none =>
    rw [mayR_none hc]
    conv => whnf
    cases hz : (((Lib.runeCount r.text : Nat) : Int) == 0) with
    | true =>
      conv => whnf
      try rfl
    | false =>
      conv => whnf
      refine call_pure (valid_c r.text (by omega)) rfl ?_
      rintro _ rfl
      rw [hc]
      conv => whnf
      try rfl
  | some l =>
    rw [mayR_some hc, count_of hc]
    have hl := chars_len (s := r.text) r.text.size 0 l hc
    conv => whnf
    cases hz : (((l.length : Nat) : Int) == 0) with
    | true =>
      have hz := eq_of_beq hz
      rw [decide_eq_false (by omega)]
      conv => whnf
      try rfl
    | false =>
      have hz : ¬ ((l.length : Nat) : Int) = 0 := by simpa using hz
      have e1 : IntKind.i64.wrap ((l.length : Int) - 1) = (l.length : Int) - 1 := w_i64 (by omega) (by omega)
      conv => whnf
      refine call_pure (valid_c r.text (by omega)) rfl ?_
      rintro _ rfl
      rw [hc]
      conv => whnf
      rw [e1]
      refine call_pure (after_c r.id ha ((l.length : Int) - 1) 4294967294 (by omega) (by omega) (by omega) (by omega)) rfl ?_
      rintro _ rfl
      by_cases h0 : aftC r.id ((l.length : Int) - 1) 4294967294 = 0
      · rw [show aftV r.id ((l.length : Int) - 1) 4294967294 = _ from by unfold aftV; rw [if_pos h0]]
        conv => whnf
        rw [decide_eq_true]
        unfold aftC at h0
        unfold lastC
        split at h0
        · cases h0
        · split at h0
          · cases h0
          · omega
      · rw [show aftV r.id ((l.length : Int) - 1) 4294967294 = _ from by unfold aftV; rw [if_neg h0]]
        conv => whnf
        have hf : ¬ (0 < l.length ∧ r.id.1 ≠ 0 ∧ r.id.2 + l.length - 1 ≤ lastC) := fun h1 => by
          refine h0 ?_
          unfold aftC
          unfold lastC at h1
          rw [if_neg (by omega), if_neg (by omega)]
        rw [decide_eq_false hf]
        try rfl
/-- Does an item go on from another one? -/
def onR (x y : It) : Prop := aftC y.id 1 lastC = 0 ∧ x.id = (y.id.1, y.id.2 + 1) ∧ x.left = y.id ∧ x.right = y.right
instance (x y : It) : Decidable (onR x y) := by unfold onR; infer_instance
theorem on_c (x y : It) (hy : itOk y) : CallV Tryd.prog 34 [.agg (itF x), .agg (itF y)] [] (fun r own' => own' = [] ∧ r = vcb (decide (onR x y))) := by
  obtain ⟨ha, _, _⟩ := hy
  refine callV_pure Tryd.func34 rfl ttok ftok rfl rfl rfl (Nat.le_of_ble_eq_true rfl) ?_
  conv => whnf
  refine call_pure (after_c y.id ha 1 4294967294 (by omega) (by omega) (by omega) (by omega)) rfl ?_
  rintro _ rfl
  by_cases h0 : aftC y.id 1 4294967294 = 0
  · rw [show aftV y.id 1 4294967294 = _ from by unfold aftV; rw [if_pos h0]]
    conv => whnf
    have h1 : aftC y.id 1 lastC = 0 := h0
    refine congrArg vcb ?_
    rw [Bool.eq_iff_iff, decide_eq_true_iff]
    unfold onR
    simp [pickB, isLit, Prod.ext_iff, h1, and_assoc]
  · rw [show aftV y.id 1 4294967294 = _ from by unfold aftV; rw [if_neg h0]]
    conv => whnf
    have h1 : ¬ aftC y.id 1 lastC = 0 := h0
    refine congrArg vcb ?_
    rw [decide_eq_false (fun h : onR x y => h1 h.1)]
    simp [pickB, isLit, h0]
theorem ron_c (x y : It) (hy : itOk y) : CallV Tryd.prog 35 [.agg (itF x), .agg (itF y)] [] (fun r own' => own' = [] ∧ r = vcb (decide (onR x y))) := by
  obtain ⟨ha, _, _⟩ := hy
  refine callV_pure Tryd.func35 rfl ttok ftok rfl rfl rfl (Nat.le_of_ble_eq_true rfl) ?_
  conv => whnf
  refine call_pure (rafter_c y.id ha 1 4294967294 (by omega) (by omega) (by omega) (by omega)) rfl ?_
  rintro _ rfl
  by_cases h0 : aftC y.id 1 4294967294 = 0
  · rw [show aftW y.id 1 4294967294 = _ from by unfold aftW; rw [if_pos h0]]
    conv => whnf
    have h1 : aftC y.id 1 lastC = 0 := h0
    refine congrArg vcb ?_
    rw [Bool.eq_iff_iff, decide_eq_true_iff]
    unfold onR
    simp [pickB, isLit, Prod.ext_iff, h1, and_assoc]
  · rw [show aftW y.id 1 4294967294 = _ from by unfold aftW; rw [if_neg h0]]
    conv => whnf
    have h1 : ¬ aftC y.id 1 lastC = 0 := h0
    refine congrArg vcb ?_
    rw [decide_eq_false (fun h : onR x y => h1 h.1)]
    simp [pickB, isLit, h0]
theorem it_ext {x y : It} (h1 : x.id.1 = y.id.1) (h2 : x.id.2 = y.id.2) (h3 : x.left.1 = y.left.1) (h4 : x.left.2 = y.left.2) (h5 : x.right.1 = y.right.1) (h6 : x.right.2 = y.right.2) (h7 : x.ch = y.ch) : x = y := by
  obtain ⟨⟨a, b⟩, ⟨c, d⟩, ⟨e, f⟩, g⟩ := x
  obtain ⟨⟨a', b'⟩, ⟨c', d'⟩, ⟨e', f'⟩, g'⟩ := y
  simp only at h1 h2 h3 h4 h5 h6 h7
  rw [h1, h2, h3, h4, h5, h6, h7]
theorem ru_ext {x y : Ru} (h1 : x.id.1 = y.id.1) (h2 : x.id.2 = y.id.2) (h3 : x.left.1 = y.left.1) (h4 : x.left.2 = y.left.2) (h5 : x.right.1 = y.right.1) (h6 : x.right.2 = y.right.2) (h7 : x.text = y.text) : x = y := by
  obtain ⟨⟨a, b⟩, ⟨c, d⟩, ⟨e, f⟩, g⟩ := x
  obtain ⟨⟨a', b'⟩, ⟨c', d'⟩, ⟨e', f'⟩, g'⟩ := y
  simp only at h1 h2 h3 h4 h5 h6 h7
  rw [h1, h2, h3, h4, h5, h6, h7]
theorem list_eq {α : Type} (d : α) {a b : List α} (hl : a.length = b.length) (h : ∀ j, j < a.length → a.getD j d = b.getD j d) : a = b := by
  refine List.ext_getElem hl (fun j h1 h2 => ?_)
  have := h j h1
  rw [List.getD_eq_getElem?_getD, List.getD_eq_getElem?_getD, List.getElem?_eq_getElem h1, List.getElem?_eq_getElem h2] at this
  exact this
theorem ba_beq (a b : ByteArray) : (a == b) = true ↔ a = b := by
  rcases a with ⟨x⟩
  rcases b with ⟨y⟩
  show ((x == y : Bool) = true) ↔ _
  rw [beq_iff_eq, ByteArray.mk.injEq]
theorem ba_bne (a : ByteArray) : (a == a) = true := (ba_beq a a).2 rfl
def siI (a b : List It) (n : Nat) (st : St) : Prop := ∃ k : Nat, n = a.length - k ∧ k ≤ a.length ∧ (∀ j, j < k → a.getD j it0 = b.getD j it0) ∧ st = ⟨26, 0, [(0, itS a), (1, itS b), (5, vci .i64 (k : Int))], []⟩
theorem sameit_c (a b : List It) (ha : a.length ≤ 1000000) (hb : b.length ≤ 1000000) : CallV Tryd.prog 23 [itS a, itS b] [] (fun r own' => own' = [] ∧ ((a = b ∧ r = vcb true) ∨ (a ≠ b ∧ r = vcb false))) := by
  refine callV_pure Tryd.func23 rfl ttok ftok rfl rfl rfl (Nat.le_of_ble_eq_true rfl) ?_
  conv => whnf
  by_cases hl : a.length = b.length
  · rw [show (((a.length : Nat) : Int) != (b.length : Nat)) = false from by rw [hl]; exact bne_self_eq_false _]
    conv => whnf
    refine loopV ttok ftok (siI a b) (env_weak [0, 1, 5] rfl) ⟨0, rfl, Nat.zero_le _, fun j hj => by omega, rfl⟩ ?_
    rintro n st ⟨k, rfl, hk, hj, rfl⟩
    conv => whnf
    refine onB_intro (fun h => ?_) (fun h => ?_)
    · have h := of_decide_eq_true h
      have hk2 : k < a.length := by omega
      conv => whnf
      refine drawV_join mixed (by kernel_rfl) ttok ?_
      conv => whnf
      refine ⟨⟨by omega, by omega⟩, ?_⟩
      conv => whnf
      refine ⟨⟨by omega, by omega⟩, ?_⟩
      conv => whnf
      simp only [ti_nat]
      refine onB_intro (fun g => ?_) (fun g => ?_)
      · conv => whnf
        refine .inr ⟨fun e => ?_, rfl⟩
        subst e
        simp at g
      · have e : a.getD k it0 = b.getD k it0 := by
          simp [- List.getD_eq_getElem?_getD] at g
          obtain ⟨⟨q1, q2⟩, ⟨q3, q4⟩, ⟨q5, q6⟩, q7⟩ := g
          exact it_ext q1 q2 q3 q4 q5 q6 q7
        conv => whnf
        rw [show IntKind.i64.wrap ((k : Int) + 1) = ((k + 1 : Nat) : Int) from by rw [w_i64 (by omega) (by omega)]; omega]
        refine ⟨a.length - (k + 1), _, by omega, env_weak [0, 1, 5] rfl, k + 1, rfl, by omega, fun j h2 => ?_, rfl⟩
        rcases Nat.lt_succ_iff_lt_or_eq.1 h2 with h3 | rfl
        · exact hj j h3
        · exact e
    · have h := of_decide_eq_false h
      conv => whnf
      exact .inl ⟨list_eq it0 hl (fun j h2 => hj j (by omega)), rfl⟩
  · rw [show (((a.length : Nat) : Int) != (b.length : Nat)) = true from bne_iff_ne.2 (fun e => hl (by omega))]
    conv => whnf
    exact .inr ⟨fun e => hl (by rw [e]), rfl⟩
def srI (a b : List Ru) (n : Nat) (st : St) : Prop := ∃ k : Nat, n = a.length - k ∧ k ≤ a.length ∧ (∀ j, j < k → a.getD j ru0 = b.getD j ru0) ∧ st = ⟨26, 0, [(0, ruS a), (1, ruS b), (5, vci .i64 (k : Int))], []⟩
theorem samerun_c (a b : List Ru) (ha : a.length ≤ 1000000) (hb : b.length ≤ 1000000) : CallV Tryd.prog 26 [ruS a, ruS b] [] (fun r own' => own' = [] ∧ ((a = b ∧ r = vci .i64 1) ∨ (a ≠ b ∧ r = vci .i64 0))) := by
  refine callV_pure Tryd.func26 rfl ttok ftok rfl rfl rfl (Nat.le_of_ble_eq_true rfl) ?_
  conv => whnf
  by_cases hl : a.length = b.length
  · rw [show (((a.length : Nat) : Int) != (b.length : Nat)) = false from by rw [hl]; exact bne_self_eq_false _]
    conv => whnf
    refine loopV ttok ftok (srI a b) (env_weak [0, 1, 5] rfl) ⟨0, rfl, Nat.zero_le _, fun j hj => by omega, rfl⟩ ?_
    rintro n st ⟨k, rfl, hk, hj, rfl⟩
    conv => whnf
    refine onB_intro (fun h => ?_) (fun h => ?_)
    · have h := of_decide_eq_true h
      have hk2 : k < a.length := by omega
      conv => whnf
      refine drawV_join mixed (by kernel_rfl) ttok ?_
      conv => whnf
      refine ⟨⟨by omega, by omega⟩, ?_⟩
      conv => whnf
      refine ⟨⟨by omega, by omega⟩, ?_⟩
      conv => whnf
      simp only [ti_nat]
      refine onB_intro (fun g => ?_) (fun g => ?_)
      · conv => whnf
        refine .inr ⟨fun e => ?_, rfl⟩
        subst e
        simp [ba_bne] at g
      · have e : a.getD k ru0 = b.getD k ru0 := by
          simp [- List.getD_eq_getElem?_getD] at g
          obtain ⟨⟨q1, q2⟩, ⟨q3, q4⟩, ⟨q5, q6⟩, q7⟩ := g
          exact ru_ext q1 q2 q3 q4 q5 q6 ((ba_beq _ _).1 q7)
        conv => whnf
        rw [show IntKind.i64.wrap ((k : Int) + 1) = ((k + 1 : Nat) : Int) from by rw [w_i64 (by omega) (by omega)]; omega]
        refine ⟨a.length - (k + 1), _, by omega, env_weak [0, 1, 5] rfl, k + 1, rfl, by omega, fun j h2 => ?_, rfl⟩
        rcases Nat.lt_succ_iff_lt_or_eq.1 h2 with h3 | rfl
        · exact hj j h3
        · exact e
    · have h := of_decide_eq_false h
      conv => whnf
      exact .inl ⟨list_eq ru0 hl (fun j h2 => hj j (by omega)), rfl⟩
  · rw [show (((a.length : Nat) : Int) != (b.length : Nat)) = true from bne_iff_ne.2 (fun e => hl (by omega))]
    conv => whnf
    exact .inr ⟨fun e => hl (by rw [e]), rfl⟩
end Go.Eng
