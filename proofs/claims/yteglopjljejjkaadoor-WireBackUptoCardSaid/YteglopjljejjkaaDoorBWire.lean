/- Numbers as bytes: what is got, and what is put. -/
import Derived.Test.YteglopjljejjkaaDoorBVd
import Derived.Laws.BitsAllLaws
set_option linter.unusedVariables false
set_option linter.unusedSimpArgs false
set_option maxRecDepth 100000
set_option maxHeartbeats 4000000
namespace Go.Eng
open Go Go.RowKit Go.Proofs
abbrev bS (b : List UInt8) : AV := .c (.sl 1 b.length (byteF b))
abbrev errM : AV := .c (.v (.iface 58 (.int .i64 2)))
def valN (l : List UInt8) : Nat := l.foldl (fun v c => v * 256 + c.toNat) 0
theorem valN_snoc (l : List UInt8) (c : UInt8) : valN (l ++ [c]) = valN l * 256 + c.toNat := by unfold valN; rw [List.foldl_append]; rfl
theorem valN_lt (l : List UInt8) : valN l < 256 ^ l.length := by
  suffices h : ∀ n (l : List UInt8), l.length = n → valN l < 256 ^ n from h _ l rfl
  intro n
  induction n with
  | zero => intro l h; obtain rfl := List.eq_nil_of_length_eq_zero h; simp [valN]
  | succ n ih =>
    intro l h
    obtain ⟨m, c, rfl⟩ : ∃ m c, l = m ++ [c] := ⟨l.dropLast, l.getLast (by intro e; subst e; cases h), (List.dropLast_concat_getLast _).symm⟩
    have := ih m (by simpa using h)
    have hc := c.toNat_lt
    rw [valN_snoc, Nat.pow_succ]
    omega
theorem valN_u32 {l : List UInt8} (h : l.length ≤ 4) : valN l < 4294967296 := by
  refine Nat.lt_of_lt_of_le (valN_lt l) ?_
  refine Nat.le_trans (Nat.pow_le_pow_right (by omega) h) (by decide)
theorem valN_u24 {l : List UInt8} (h : l.length ≤ 3) : valN l < 16777216 := by
  refine Nat.lt_of_lt_of_le (valN_lt l) ?_
  refine Nat.le_trans (Nat.pow_le_pow_right (by omega) h) (by decide)
def getN (b : List UInt8) (at_ : Int) : Option (Nat × Nat) :=
  if at_ < 0 ∨ (b.length : Int) ≤ at_ then none
  else if 4 < (b.getD at_.toNat 0).toNat ∨ b.length < at_.toNat + 1 + (b.getD at_.toNat 0).toNat ∨ (0 < (b.getD at_.toNat 0).toNat ∧ b.getD (at_.toNat + 1) 0 = 0) then none
  else some (valN ((b.drop (at_.toNat + 1)).take (b.getD at_.toNat 0).toNat), (b.getD at_.toNat 0).toNat + 1)
def getV (o : Option (Nat × Nat)) : AV := match o with
  | some (v, n) => .tup [vci .u32 v, vci .i64 n, .c (.v .nilIface)]
  | none => .tup [vci .u32 0, vci .i64 0, errM]
def getW (o : Option (Nat × Nat)) : AV := match o with
  | some (v, n) => .tup [vci .u32 v, vci .i64 n, vcb true]
  | none => .tup [vci .u32 0, vci .i64 0, vcb false]
theorem or_shift (v : Nat) (c : UInt8) (hv : v < 16777216) : bits .or .u32 (IntKind.u32.wrap ((v : Int) * 2 ^ (8 : Int).toNat)) (c.toNat : Int) = ((v * 256 + c.toNat : Nat) : Int) := by
  have hc := c.toNat_lt
  have e : IntKind.u32.wrap ((v : Int) * 2 ^ (8 : Int).toNat) = ((v * 256 : Nat) : Int) := by
    rw [w_u32]
    show (v : Int) * 256 % 4294967296 = _
    omega
  rw [e, Go.u32_or_nat _ _ (by omega) (by omega)]
  congr 1
  have : v * 256 = v <<< 8 := by rw [Nat.shiftLeft_eq]
  rw [this, ← Nat.shiftLeft_add_eq_or_of_lt (by omega : c.toNat < 2 ^ 8)]
theorem sl_ex {α : Type} {enc : α → List IC} {d : α} (ys : List α) {h lo : Nat} {f : Nat → List IC} {K : Nat → (Nat → List IC) → Prop} (hn : ys.length = h - lo) (hf : ∀ k, k < ys.length → enc (ys.getD k d) = f (lo + k)) (hK : K ys.length fun k => enc (ys.getD k d)) :
    ∃ (n' : Nat) (f' : Nat → List IC), n' = h - lo ∧ (∀ k, k < n' → f' k = f (lo + k)) ∧ K n' f' := ⟨_, _, hn, hf, hK⟩
abbrev b1 (c : UInt8) : List IC := [.v (.int .u8 (c.toNat : Int))]
theorem byte0 (c : UInt8) : c.toNat = 0 ↔ c = 0 := ⟨fun h => UInt8.toNat_inj.1 h, fun h => by rw [h]; rfl⟩
/-- The rounds of Get. -/
def gtI (b l : List UInt8) (at_ nn : Int) (n : Nat) (st : St) : Prop := ∃ k : Nat, n = l.length - k ∧ k ≤ l.length ∧
  st = ⟨71, 0, [(7, vci .i64 nn), (8, vci .u32 (valN (l.take k) : Nat)), (56, bS l), (57, vci .i64 l.length), (58, vci .i64 (k : Int))], []⟩
theorem get_c (b : List UInt8) (hb : b.length ≤ 1000000000) (at_ : Int) (ha1 : -9223372036854775808 ≤ at_) (ha2 : at_ ≤ 9223372036854775807) : CallV Tryd.prog 8 [bS b, vci .i64 at_] [] (fun r own' => own' = [] ∧ r = getV (getN b at_)) := by
  refine callV_pure Tryd.func8 rfl ttok ftok rfl rfl rfl (Nat.le_of_ble_eq_true rfl) ?_
  conv => whnf
  refine onB_intro (fun h => ?_) (fun h => ?_)
  · simp [pickB, isLit] at h
    conv => whnf
    rw [show getN b at_ = none from by unfold getN; rw [if_pos h]]
    rfl
  · simp [pickB, isLit] at h
    obtain ⟨i, rfl⟩ : ∃ i : Nat, at_ = (i : Int) := ⟨at_.toNat, by omega⟩
    have hi : i < b.length := by omega
    have hg : getN b (i : Int) = if 4 < (b.getD i 0).toNat ∨ b.length < i + 1 + (b.getD i 0).toNat ∨ (0 < (b.getD i 0).toNat ∧ b.getD (i + 1) 0 = 0) then none
        else some (valN ((b.drop (i + 1)).take (b.getD i 0).toNat), (b.getD i 0).toNat + 1) := by unfold getN; rw [if_neg (by omega), ti_nat]
    conv => whnf
    refine ⟨by omega, ?_⟩
    conv => whnf
    have hc := (b.getD i 0).toNat_lt
    obtain ⟨n, hn⟩ : ∃ n : Nat, (b.getD i 0).toNat = n := ⟨_, rfl⟩
    have e1 : IntKind.i64.wrap (n : Int) = (n : Int) := w_i64 (by omega) (by omega)
    have e2 : IntKind.i64.wrap (IntKind.i64.wrap ((b.length : Int) - i) - 1) = (b.length : Int) - i - 1 := by rw [w_i64 (x := (b.length : Int) - i) (by omega) (by omega), w_i64 (by omega) (by omega)]
    have e3 : IntKind.i64.wrap ((i : Int) + 1) = ((i + 1 : Nat) : Int) := by rw [w_i64 (by omega) (by omega)]; omega
    rw [hn] at hc hg
    rw [hg]
    simp only [ti_nat, hn, e1, e2, e3]
    refine ⟨?_, ?_⟩
    · conv => whnf
      intro g1
      conv => whnf
      intro g2
      simp [pickB, isLit] at g1 g2
      conv => whnf
      omega
    conv => whnf
    refine onB_intro (fun g => ?_) (fun g => ?_)
    · have g : 4 < n ∨ b.length < i + 1 + n ∨ (0 < n ∧ b.getD (i + 1) 0 = 0) := by
        try simp only [ti_nat, hn, e1, e2, e3] at g
        simp [pickB, isLit] at g
        rcases g with (g | g) | g
        · exact .inl (by omega)
        · exact .inr (.inl (by omega))
        · exact .inr (.inr ⟨by omega, (byte0 _).1 (by simpa using g.2)⟩)
      rw [if_pos g]
      conv => whnf
      rfl
    · have g : ¬ (4 < n ∨ b.length < i + 1 + n ∨ (0 < n ∧ b.getD (i + 1) 0 = 0)) := by
        try simp only [ti_nat, hn, e1, e2, e3] at g
        simp [pickB, isLit] at g
        rintro (q | q | ⟨q1, q2⟩)
        · omega
        · omega
        · exact g.2 (by omega) (by rw [(byte0 _).2 (by simpa using q2)])
      rw [if_neg g]
      have e4 : IntKind.i64.wrap (((i + 1 : Nat) : Int) + (n : Int)) = ((i + 1 + n : Nat) : Int) := by rw [w_i64 (by omega) (by omega)]; omega
      obtain ⟨l, hl⟩ : ∃ l, (b.drop (i + 1)).take n = l := ⟨_, rfl⟩
      have hll : l.length = n := by rw [← hl]; simp; omega
      rw [hl]
      conv => whnf
      simp only [ti_nat, hn, e1, e2, e3, e4]
      refine ⟨by omega, ?_⟩
      conv => whnf
      refine sl_ex (enc := b1) (d := 0) l (by rw [hll]; omega) (fun j hj => ?_) ?_
      · rw [← hl, getD_take _ _ _ _ (by omega), getD_drop]
      conv => whnf
      refine loopV ttok ftok (gtI b l i n) (env_weak [7, 8, 56, 57, 58] rfl) ⟨0, rfl, Nat.zero_le _, rfl⟩ ?_
      rintro m st ⟨k, rfl, hk, rfl⟩
      conv => whnf
      refine onB_intro (fun g5 => ?_) (fun g5 => ?_)
      · have g5 := of_decide_eq_true g5
        have hkl : k < l.length := by omega
        conv => whnf
        refine ⟨by omega, ?_⟩
        conv => whnf
        refine ⟨by decide, ?_⟩
        conv => whnf
        have hv := valN_u24 (l := l.take k) (by simp; omega)
        have hd := (l.getD k 0).toNat_lt
        have e5 : IntKind.u32.wrap (((l.getD k 0).toNat : Nat) : Int) = ((l.getD k 0).toNat : Int) := by rw [w_u32]; omega
        have e6 : l.take (k + 1) = l.take k ++ [l.getD k 0] := by
          rw [List.take_add_one, List.getD_eq_getElem?_getD, List.getElem?_eq_getElem hkl]
          rfl
        have e7 : IntKind.i64.wrap ((k : Int) + 1) = ((k + 1 : Nat) : Int) := by rw [w_i64 (by omega) (by omega)]; omega
        simp only [ti_nat, e5, e7, or_shift _ _ hv]
        rw [← valN_snoc, ← e6]
        refine ⟨l.length - (k + 1), _, by omega, env_weak [7, 8, 56, 57, 58] rfl, k + 1, rfl, by omega, rfl⟩
      · have g5 := of_decide_eq_false g5
        obtain rfl : k = l.length := by omega
        conv => whnf
        simp only [List.take_length]
        rw [show IntKind.i64.wrap ((n : Int) + 1) = ((n + 1 : Nat) : Int) from by rw [w_i64 (by omega) (by omega)]; omega]
        rfl
/-- The rounds of the reference's. -/
def rgI (b l : List UInt8) (i : Nat) (n : Nat) (st : St) : Prop := ∃ k : Nat, n = l.length - k ∧ k ≤ l.length ∧ (0 < k → b.getD (i + 1) 0 ≠ 0) ∧
  st = ⟨62, 0, [(0, bS b), (1, vci .i64 (i : Int)), (7, vci .i64 (l.length : Int)), (8, vci .u32 (valN (l.take k) : Nat)), (9, vci .i64 ((k + 1 : Nat) : Int))], []⟩
theorem rget_c (b : List UInt8) (hb : b.length ≤ 1000000000) (at_ : Int) (ha1 : -9223372036854775808 ≤ at_) (ha2 : at_ ≤ 9223372036854775807) : CallV Tryd.prog 9 [bS b, vci .i64 at_] [] (fun r own' => own' = [] ∧ r = getW (getN b at_)) := by
  refine callV_pure Tryd.func9 rfl ttok ftok rfl rfl rfl (Nat.le_of_ble_eq_true rfl) ?_
  conv => whnf
  refine onB_intro (fun h => ?_) (fun h => ?_)
  · simp [pickB, isLit] at h
    conv => whnf
    rw [show getN b at_ = none from by unfold getN; rw [if_pos h]]
    rfl
  · simp [pickB, isLit] at h
    obtain ⟨i, rfl⟩ : ∃ i : Nat, at_ = (i : Int) := ⟨at_.toNat, by omega⟩
    have hi : i < b.length := by omega
    have hg : getN b (i : Int) = if 4 < (b.getD i 0).toNat ∨ b.length < i + 1 + (b.getD i 0).toNat ∨ (0 < (b.getD i 0).toNat ∧ b.getD (i + 1) 0 = 0) then none
        else some (valN ((b.drop (i + 1)).take (b.getD i 0).toNat), (b.getD i 0).toNat + 1) := by unfold getN; rw [if_neg (by omega), ti_nat]
    conv => whnf
    refine ⟨by omega, ?_⟩
    conv => whnf
    have hc := (b.getD i 0).toNat_lt
    obtain ⟨n, hn⟩ : ∃ n : Nat, (b.getD i 0).toNat = n := ⟨_, rfl⟩
    have e1 : IntKind.i64.wrap (n : Int) = (n : Int) := w_i64 (by omega) (by omega)
    have e2 : IntKind.i64.wrap (IntKind.i64.wrap ((b.length : Int) - i) - 1) = (b.length : Int) - i - 1 := by rw [w_i64 (x := (b.length : Int) - i) (by omega) (by omega), w_i64 (by omega) (by omega)]
    rw [hn] at hc hg
    rw [hg]
    simp only [ti_nat, hn, e1, e2]
    refine onB_intro (fun g => ?_) (fun g => ?_)
    · have g : 4 < n ∨ b.length < i + 1 + n := by
        try simp only [ti_nat, hn, e1, e2] at g
        simp [pickB, isLit] at g
        omega
      rw [if_pos (by omega)]
      conv => whnf
      rfl
    · have g : ¬ (4 < n ∨ b.length < i + 1 + n) := by
        try simp only [ti_nat, hn, e1, e2] at g
        simp [pickB, isLit] at g
        omega
      conv => whnf
      obtain ⟨l, hl⟩ : ∃ l, (b.drop (i + 1)).take n = l := ⟨_, rfl⟩
      have hll : l.length = n := by rw [← hl]; simp; omega
      have hlj : ∀ j, j < n → l.getD j 0 = b.getD (i + 1 + j) 0 := fun j hj => by rw [← hl, getD_take _ _ _ _ (by omega), getD_drop]
      rw [hl]
      try simp only [ti_nat, hn, e1, e2]
      subst hll
      refine loopV ttok ftok (rgI b l i) (env_weak [0, 1, 7, 8, 9] rfl) ⟨0, rfl, Nat.zero_le _, fun h => by omega, rfl⟩ ?_
      rintro m st ⟨k, rfl, hk, hk0, rfl⟩
      conv => whnf
      refine onB_intro (fun g5 => ?_) (fun g5 => ?_)
      · have g5 := of_decide_eq_true g5
        have hkl : k < l.length := by omega
        conv => whnf
        have e3 : IntKind.i64.wrap ((i : Int) + 1) = ((i + 1 : Nat) : Int) := by rw [w_i64 (by omega) (by omega)]; omega
        have e4 : IntKind.i64.wrap ((i : Int) + ((k + 1 : Nat) : Int)) = ((i + 1 + k : Nat) : Int) := by rw [w_i64 (by omega) (by omega)]; omega
        have e5 : IntKind.i64.wrap (((k + 1 : Nat) : Int) + 1) = ((k + 1 + 1 : Nat) : Int) := by rw [w_i64 (by omega) (by omega)]; omega
        have hv := valN_u24 (l := l.take k) (by simp; omega)
        have hd := (b.getD (i + 1 + k) 0).toNat_lt
        have e6 : l.take (k + 1) = l.take k ++ [l.getD k 0] := by
          rw [List.take_add_one, List.getD_eq_getElem?_getD, List.getElem?_eq_getElem hkl]
          rfl
        have e7 : IntKind.u32.wrap (IntKind.u32.wrap (256 * ((valN (l.take k) : Nat) : Int)) + IntKind.u32.wrap (((b.getD (i + 1 + k) 0).toNat : Nat) : Int)) = ((valN (l.take (k + 1)) : Nat) : Int) := by
          rw [e6, valN_snoc, hlj k hkl]
          simp only [w_u32]
          omega
        simp only [e3]
        refine ⟨?_, ?_⟩
        · conv => whnf
          intro g6
          conv => whnf
          omega
        conv => whnf
        refine onB_intro (fun g6 => ?_) (fun g6 => ?_)
        · conv => whnf
          simp [pickB, isLit] at g6
          rw [if_pos (.inr (.inr ⟨by omega, (byte0 _).1 (by simpa using g6.2)⟩))]
          rfl
        · conv => whnf
          simp only [e4]
          refine ⟨by omega, ?_⟩
          conv => whnf
          simp only [ti_nat, e5]
          rw [e7]
          refine ⟨l.length - (k + 1), _, by omega, env_weak [0, 1, 7, 8, 9] rfl, k + 1, rfl, by omega, fun _ => ?_, rfl⟩
          by_cases hk1 : k = 0
          · subst hk1
            simp [pickB, isLit] at g6
            intro e
            exact g6 (by rw [(byte0 _).2 (by simpa using e)])
          · exact hk0 (by omega)
      · have g5 := of_decide_eq_false g5
        obtain rfl : k = l.length := by omega
        conv => whnf
        simp only [List.take_length]
        rw [show IntKind.i64.wrap ((l.length : Int) + 1) = ((l.length + 1 : Nat) : Int) from by rw [w_i64 (by omega) (by omega)]; omega]
        rw [if_neg (by rintro (q | q | ⟨q1, q2⟩); omega; omega; exact hk0 q1 q2)]
        rfl
end Go.Eng
