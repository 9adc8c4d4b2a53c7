/- Numbers and texts as bytes: what is put. -/
import Derived.Test.YteglopjljejjkaaDoorBWire
set_option linter.unusedVariables false
set_option linter.unusedSimpArgs false
set_option maxRecDepth 100000
set_option maxHeartbeats 4000000
namespace Go.Eng
open Go Go.RowKit Go.Proofs
/-- A number's bytes, the greatest first, without any 0 ahead. -/
def be (v : Nat) : List UInt8 := if h : v = 0 then [] else be (v / 256) ++ [UInt8.ofNat (v % 256)]
termination_by v
decreasing_by omega
theorem be_0 : be 0 = [] := by rw [be]; rfl
theorem be_pos {v : Nat} (h : v ≠ 0) : be v = be (v / 256) ++ [UInt8.ofNat (v % 256)] := by rw [be, dif_neg h]
theorem be_len (k : Nat) : ∀ v, v < 256 ^ k → (be v).length ≤ k := by
  induction k with
  | zero => intro v h; obtain rfl : v = 0 := by simpa using h
            rw [be_0]; simp
  | succ k ih =>
    intro v h
    by_cases h0 : v = 0
    · subst h0; rw [be_0]; simp
    · rw [be_pos h0]
      have := ih (v / 256) (by rw [Nat.pow_succ] at h; omega)
      simp only [List.length_append, List.length_cons, List.length_nil]
      omega
theorem be_nil {v : Nat} : (be v).length = 0 ↔ v = 0 := by
  refine ⟨fun h => ?_, fun h => by rw [h, be_0]; rfl⟩
  false_or_by_contra
  rename_i h0
  rw [be_pos h0] at h
  simp at h
theorem be_u32 {v : Nat} (h : v < 4294967296) : (be v).length ≤ 4 := be_len 4 v (by simpa using h)
def putN (v : Nat) : List UInt8 := UInt8.ofNat (be v).length :: be v
theorem putN_len (v : Nat) : (putN v).length = (be v).length + 1 := rfl
abbrev bRow (b : List UInt8) : Option Ob := some (.row 5 1 b.length (byteF b))
theorem u8N (n : Nat) (h : n < 256) : ((UInt8.ofNat n).toNat : Int) = (n : Int) := by rw [nb h]
/-- The rounds of Put: k done. -/
def ptI (v : Nat) (n : Nat) (st : St) : Prop := ∃ k : Nat, n = 4 - k ∧ k ≤ 4 ∧
  st = ⟨32, 0, [(0, vci .u32 (v : Nat)), (3, .c (.row 0)), (4, vci .i64 (3 - (k : Int)))], [bRow (be (v / 256 ^ (4 - k)))]⟩
theorem app_two (x y : List UInt8) {f g : Nat → List IC} {K : Nat → (Nat → List IC) → Prop} {n m : Nat} (hn : n = x.length) (hm : m = y.length) (hf : ∀ k, k < x.length → f k = byteF x k) (hg : ∀ k, k < y.length → g k = byteF y k) (h : K (x ++ y).length (byteF (x ++ y))) :
    ∃ (n' : Nat) (f' : Nat → List IC), n' = n + m ∧ (∀ k, k < n → f' k = f k) ∧ (∀ k, k < m → f' (n + k) = g k) ∧ K n' f' := by
  subst hn hm
  refine ⟨_, _, by simp, fun k hk => ?_, fun k hk => ?_, h⟩
  · rw [hf k hk]
    simp [byteF, List.getD_eq_getElem?_getD, List.getElem?_append_left hk]
  · rw [hg k hk]
    simp only [byteF, List.getD_eq_getElem?_getD]
    rw [List.getElem?_append_right (by omega), Nat.add_sub_cancel_left]
theorem one_byte (c : UInt8) : ∀ k, k < [c].length → b1 c = byteF [c] k := fun k hk => by
  simp only [List.length_cons, List.length_nil] at hk
  obtain rfl : k = 0 := by omega
  rfl
theorem put_c (v : Nat) (hv : v < 4294967296) : CallV Tryd.prog 13 [vci .u32 (v : Nat)] [] (fun r own' => own' = [bRow (putN v)] ∧ r = .c (.row 0)) := by
  refine callV_own Tryd.func13 rfl ttok ftok rfl rfl rfl (Nat.le_of_ble_eq_true rfl) rfl ?_
  conv => whnf
  refine loopV ttok ftok (ptI v) ((nil_row 3 5 1 (byteF []) rfl).trans (norm_weak [0, 3, 4] [some 0] rfl rfl)) ⟨0, rfl, by omega, by rw [show v / 256 ^ (4 - 0) = 0 from Nat.div_eq_of_lt (by simpa using hv), be_0]; rfl⟩ ?_
  rintro m st ⟨k, rfl, hk, rfl⟩
  conv => whnf
  refine onB_intro (fun g => ?_) (fun g => ?_)
  · have g := of_decide_eq_true g
    have hk4 : k < 4 := by omega
    conv => whnf
    obtain ⟨u, hu⟩ : ∃ u, v / 256 ^ (4 - k) = u := ⟨_, rfl⟩
    obtain ⟨w, hw⟩ : ∃ w, v / 256 ^ (3 - k) = w := ⟨_, rfl⟩
    have huw : u = w / 256 := by rw [← hu, ← hw, Nat.div_div_eq_div_mul, ← Nat.pow_succ]; congr 2; omega
    have hw4 : w < 4294967296 := by rw [← hw]; exact Nat.lt_of_le_of_lt (Nat.div_le_self _ _) hv
    have hbu := be_u32 (v := u) (by omega)
    have es : IntKind.i64.wrap (8 * (3 - (k : Int))) = ((8 * (3 - k) : Nat) : Int) := by rw [w_i64 (by omega) (by omega)]; omega
    have ew : (v : Int) / 2 ^ (8 * (3 - k)) = (w : Int) := by
      rw [← hw, show (256 : Nat) ^ (3 - k) = 2 ^ (8 * (3 - k)) from by rw [Nat.pow_mul]]
      norm_cast
    have e4 : IntKind.i64.wrap (3 - (k : Int) - 1) = 3 - ((k + 1 : Nat) : Int) := by rw [w_i64 (by omega) (by omega)]; omega
    have e5 : 4 - (k + 1) = 3 - k := by omega
    rw [es]
    refine ⟨⟨by omega, by show ((8 * (3 - k) : Nat) : Int) ≤ 32; omega⟩, ?_⟩
    conv => whnf
    simp only [es, ti_nat, ew, hu]
    by_cases h0 : w = 0
    · have hu0 : u = 0 := by omega
      subst hu0
      rw [be_0]
      rw [h0]
      conv => whnf
      rw [e4]
      exact ⟨4 - (k + 1), _, by omega, env_weak [0, 3, 4] rfl, k + 1, rfl, by omega, by rw [e5, hw, h0, be_0]⟩
    · have hc : pickB (decide (IntKind.u8.wrap (w : Int) > 0)) (Operand.const (Value.bool true)) (Operand.tmp 20) true (decide (((be u).length : Int) > 0)) = true := by
        simp only [pickB, isLit, w_u8, Bool.or_eq_true, decide_eq_true_eq]
        by_cases hu0 : u = 0
        · exact .inl (by omega)
        · have := mt be_nil.1 hu0
          exact .inr (by omega)
      rw [hc]
      conv => whnf
      refine ⟨fun _ => b1 (UInt8.ofNat (w % 256)), fun j hj => ?_, ?_⟩
      · obtain rfl : j = 0 := by omega
        show b1 _ = [IC.v (Value.int IntKind.u8 (IntKind.u8.wrap (w : Int)))]
        simp only [b1, w_u8]
        rw [u8N _ (by omega)]
        congr
      conv => whnf
      refine ⟨⟨by omega, by show ((be u).length + 1) * 1 ≤ _; omega⟩, ?_⟩
      conv => whnf
      refine app_two (be u) [UInt8.ofNat (w % 256)] rfl rfl (fun k hk => rfl) (fun j hj => one_byte _ j hj) ?_
      subst huw
      rw [← be_pos h0]
      conv => whnf
      rw [e4]
      exact ⟨4 - (k + 1), _, by omega, norm_weak [0, 3, 4] [some 2] rfl rfl, k + 1, rfl, by omega, by rw [e5, hw]; rfl⟩
  · have g := of_decide_eq_false g
    obtain rfl : k = 4 := by omega
    have hl := be_u32 hv
    rw [show v / 256 ^ (4 - 4) = v from by simp]
    conv => whnf
    refine ⟨fun _ => b1 (UInt8.ofNat (be v).length), fun j hj => ?_, ?_⟩
    · obtain rfl : j = 0 := by omega
      show b1 _ = [IC.v (Value.int IntKind.u8 (IntKind.u8.wrap ((be v).length : Int)))]
      simp only [b1, w_u8]
      rw [u8N _ (by omega), Int.emod_eq_of_lt (by omega) (by omega)]
    conv => whnf
    refine ⟨⟨by omega, by show (1 + (be v).length) * 1 ≤ _; omega⟩, ?_⟩
    conv => whnf
    refine app_two [UInt8.ofNat (be v).length] (be v) rfl rfl (fun j hj => one_byte _ j hj) (fun j hj => rfl) ?_
    conv => whnf
    refine ⟨_, Weak.refl _, ?_⟩
    conv => whnf
    exact ⟨[some 2], rfl, rfl, rfl, rfl⟩
/-- The rounds of the reference's. -/
def rpI (v0 : Nat) (n : Nat) (st : St) : Prop := ∃ b : List UInt8, be v0 = be n ++ b ∧ n < 4294967296 ∧ st = ⟨20, 0, [(0, vci .u32 (n : Nat)), (3, .c (.row 0))], [bRow b]⟩
theorem rput_c (v : Nat) (hv : v < 4294967296) : CallV Tryd.prog 14 [vci .u32 (v : Nat)] [] (fun r own' => own' = [bRow (putN v)] ∧ r = .c (.row 0)) := by
  refine callV_own Tryd.func14 rfl ttok ftok rfl rfl rfl (Nat.le_of_ble_eq_true rfl) rfl ?_
  conv => whnf
  refine loopV ttok ftok (rpI v) ((nil_row 3 5 1 (byteF []) rfl).trans (norm_weak [0, 3] [some 0] rfl rfl)) ⟨[], by simp, hv, rfl⟩ ?_
  rintro m st ⟨b, he, hm, rfl⟩
  have hl := be_u32 hv
  have hbl : (be m).length + b.length ≤ 4 := by rw [he] at hl; simpa using hl
  conv => whnf
  refine onB_intro (fun g => ?_) (fun g => ?_)
  · have g := of_decide_eq_true g
    have hm0 : m ≠ 0 := by omega
    have hbp := be_pos hm0
    conv => whnf
    try refine ⟨by omega, ?_⟩
    conv => whnf
    refine ⟨fun _ => b1 (UInt8.ofNat (m % 256)), fun j hj => ?_, ?_⟩
    · obtain rfl : j = 0 := by omega
      show b1 _ = [IC.v (Value.int IntKind.u8 (IntKind.u8.wrap ((m : Int).tmod 256)))]
      simp only [b1, w_u8]
      rw [u8N _ (by omega), Int.tmod_eq_emod_of_nonneg (by omega), Int.emod_emod_of_dvd _ (by decide)]
      norm_cast
    conv => whnf
    refine ⟨⟨by omega, by show (1 + b.length) * 1 ≤ _; omega⟩, ?_⟩
    conv => whnf
    refine app_two [UInt8.ofNat (m % 256)] b rfl rfl (fun j hj => one_byte _ j hj) (fun j hj => rfl) ?_
    conv => whnf
    refine ⟨by omega, by omega, ?_⟩
    conv => whnf
    rw [show IntKind.u32.wrap ((m : Int) / 256) = ((m / 256 : Nat) : Int) from by rw [w_u32]; omega]
    exact ⟨m / 256, _, by omega, norm_weak [0, 3] [some 2] rfl rfl, [UInt8.ofNat (m % 256)] ++ b, by rw [he, hbp, List.append_assoc], by omega, rfl⟩
  · have g := of_decide_eq_false g
    obtain rfl : m = 0 := by omega
    rw [be_0, List.nil_append] at he
    subst he
    conv => whnf
    refine ⟨fun _ => b1 (UInt8.ofNat (be v).length), fun j hj => ?_, ?_⟩
    · obtain rfl : j = 0 := by omega
      show b1 _ = [IC.v (Value.int IntKind.u8 (IntKind.u8.wrap ((be v).length : Int)))]
      simp only [b1, w_u8]
      rw [u8N _ (by omega), Int.emod_eq_of_lt (by omega) (by omega)]
    conv => whnf
    refine ⟨⟨by omega, by show (1 + (be v).length) * 1 ≤ _; omega⟩, ?_⟩
    conv => whnf
    refine app_two [UInt8.ofNat (be v).length] (be v) rfl rfl (fun j hj => one_byte _ j hj) (fun j hj => rfl) ?_
    conv => whnf
    refine ⟨_, Weak.refl _, ?_⟩
    conv => whnf
    exact ⟨[some 2], rfl, rfl, rfl, rfl⟩
def putT (s : ByteArray) : List UInt8 := putN s.size ++ s.data.toList
theorem ptext_c (s : ByteArray) (hs : s.size ≤ 1000000000) : CallV Tryd.prog 15 [vcs s] [] (fun r own' => own' = [none, bRow (putT s)] ∧ r = .c (.row 1)) := by
  have hn : IntKind.u32.wrap (s.size : Int) = (s.size : Int) := by rw [w_u32]; omega
  have hl := be_u32 (v := s.size) (by omega)
  refine callV_own Tryd.func15 rfl ttok ftok rfl rfl rfl (Nat.le_of_ble_eq_true rfl) rfl ?_
  conv => whnf
  refine ⟨by omega, ?_⟩
  conv => whnf
  rw [hn]
  refine call_frame2 [] rfl rfl rfl rfl (put_c s.size (by omega)) ?_
  rintro r own2 ⟨rfl, rfl⟩
  refine ⟨.c (.row 0), [bRow (putN s.size)], rfl, rfl, ?_⟩
  conv => whnf
  refine ⟨⟨by rw [putN_len]; omega, by show ((putN s.size).length + s.size) * 1 ≤ _; rw [putN_len]; omega⟩, ?_⟩
  conv => whnf
  refine app_two (putN s.size) s.data.toList rfl (ba_len' s).symm (fun j hj => rfl) (fun j hj => rfl) ?_
  conv => whnf
  refine ⟨_, Weak.refl _, ?_⟩
  conv => whnf
  exact ⟨[none, some 1], rfl, rfl, rfl, rfl⟩
theorem rptext_c (s : ByteArray) (hs : s.size ≤ 1000000000) : CallV Tryd.prog 16 [vcs s] [] (fun r own' => own' = [none, bRow (putT s)] ∧ r = .c (.row 1)) := by
  have hn : IntKind.u32.wrap (s.size : Int) = (s.size : Int) := by rw [w_u32]; omega
  have hl := be_u32 (v := s.size) (by omega)
  refine callV_own Tryd.func16 rfl ttok ftok rfl rfl rfl (Nat.le_of_ble_eq_true rfl) rfl ?_
  conv => whnf
  refine ⟨by omega, ?_⟩
  conv => whnf
  rw [hn]
  refine call_frame2 [] rfl rfl rfl rfl (rput_c s.size (by omega)) ?_
  rintro r own2 ⟨rfl, rfl⟩
  refine ⟨.c (.row 0), [bRow (putN s.size)], rfl, rfl, ?_⟩
  conv => whnf
  refine ⟨by omega, ?_⟩
  conv => whnf
  refine ⟨⟨by rw [putN_len]; omega, by show ((putN s.size).length + s.size) * 1 ≤ _; rw [putN_len]; omega⟩, ?_⟩
  conv => whnf
  refine app_two (putN s.size) s.data.toList rfl (ba_len' s).symm (fun j hj => rfl) (fun j hj => rfl) ?_
  conv => whnf
  refine ⟨_, Weak.refl _, ?_⟩
  conv => whnf
  exact ⟨[none, some 1], rfl, rfl, rfl, rfl⟩
theorem code_0 : CallV Tryd.prog 12 [.c (.v .nilIface)] [] (fun r own' => own' = [] ∧ r = vci .i64 0) := by
  refine callV_pure Tryd.func12 rfl ttok ftok rfl rfl rfl (Nat.le_of_ble_eq_true rfl) ?_
  conv => whnf
  try rfl
theorem code_2 : CallV Tryd.prog 12 [errM] [] (fun r own' => own' = [] ∧ r = vci .i64 2) := by
  refine callV_pure Tryd.func12 rfl ttok ftok rfl rfl rfl (Nat.le_of_ble_eq_true rfl) ?_
  conv => whnf
  refine loop_rounds 8 ttok ftok ?_
  conv => whnf
  try rfl
theorem pick_c (n by_ : Int) (h1 : -9223372036854775808 ≤ n) (h2 : n ≤ 9223372036854775807) (hb : 0 < by_) (hb2 : by_ ≤ 9223372036854775807) : CallV Tryd.prog 18 [vci .i64 n, vci .i64 by_] [] (fun r own' => own' = [] ∧ r = vci .i64 (n % by_)) := by
  have hm : n.tmod by_ = if 0 ≤ n.tmod by_ then n % by_ else n % by_ - by_ := by
    have e1 := Int.emod_nonneg n (show by_ ≠ 0 by omega)
    have e2 := Int.emod_lt_of_pos n hb
    have e3 := Int.tmod_add_mul_tdiv n by_
    have e4 := Int.emod_add_mul_ediv n by_
    rcases Int.le_total 0 n with h | h
    · rw [Int.tmod_eq_emod_of_nonneg h, if_pos e1]
    · have := Int.tmod_eq_emod (a := n) (b := by_)
      split at this <;> split <;> omega
  refine callV_pure Tryd.func18 rfl ttok ftok rfl rfl rfl (Nat.le_of_ble_eq_true rfl) ?_
  conv => whnf
  refine ⟨hb, ?_⟩
  conv => whnf
  by_cases h : n.tmod by_ < 0
  · rw [decide_eq_true h]
    conv => whnf
    rw [show IntKind.i64.wrap (n.tmod by_ + by_) = n % by_ from by rw [hm, if_neg (by omega)]; have := Int.emod_nonneg n (show by_ ≠ 0 by omega); have := Int.emod_lt_of_pos n hb; rw [w_i64 (by omega) (by omega)]; omega]
  · rw [decide_eq_false h]
    conv => whnf
    rw [hm, if_pos (by omega)]
/-! ### Texts -/
def getT (b : List UInt8) (at_ : Int) : Option (ByteArray × Nat) := match getN b at_ with
  | none => none
  | some (m, n) => if (b.length : Int) - at_ - n < m then none else if (charsF ⟨((b.drop (at_.toNat + n)).take m).toArray⟩).isSome = true then some (⟨((b.drop (at_.toNat + n)).take m).toArray⟩, n + m) else none
def getTV (o : Option (ByteArray × Nat)) : AV := match o with
  | some (s, n) => .tup [vcs s, vci .i64 n, .c (.v .nilIface)]
  | none => .tup [vcs ⟨#[]⟩, vci .i64 0, errM]
def getTW (o : Option (ByteArray × Nat)) : AV := match o with
  | some (s, n) => .tup [vcs s, vci .i64 n, vcb true]
  | none => .tup [vcs ⟨#[]⟩, vci .i64 0, vcb false]
theorem getN_some {b : List UInt8} {at_ : Int} {v n : Nat} (h : getN b at_ = some (v, n)) : ∃ i : Nat, at_ = i ∧ i < b.length ∧ 1 ≤ n ∧ n ≤ 5 ∧ i + n ≤ b.length ∧ v < 4294967296 ∧ (b.getD i 0).toNat + 1 = n ∧ v = valN ((b.drop (i + 1)).take (n - 1)) ∧ (1 < n → b.getD (i + 1) 0 ≠ 0) := by
  unfold getN at h
  split at h
  · cases h
  · split at h
    · cases h
    · rename_i h1 h2
      cases h
      obtain ⟨i, rfl⟩ : ∃ i : Nat, at_ = (i : Int) := ⟨at_.toNat, by omega⟩
      rw [ti_nat] at h2 ⊢
      refine ⟨i, rfl, by omega, by omega, by omega, by omega, valN_u32 (by rw [List.length_take]; omega), rfl, rfl, fun h e => h2 (.inr (.inr ⟨by omega, e⟩))⟩
theorem gtext_c (b : List UInt8) (hb : b.length ≤ 100000000) (at_ : Int) (ha1 : -9223372036854775808 ≤ at_) (ha2 : at_ ≤ 9223372036854775807) : CallV Tryd.prog 10 [bS b, vci .i64 at_] [] (fun r own' => own' = [] ∧ r = getTV (getT b at_)) := by
  unfold getT
  refine callV_pure Tryd.func10 rfl ttok ftok rfl rfl rfl (Nat.le_of_ble_eq_true rfl) ?_
  conv => whnf
  refine call_pure (get_c b (by omega) at_ ha1 ha2) rfl ?_
  rintro _ rfl
  cases hg : getN b at_ with
  | none =>
    conv => whnf
    try rfl
  | some x =>
    obtain ⟨v, n⟩ := x
    obtain ⟨i, rfl, hi, hn1, hn5, hin, hv, _⟩ := getN_some hg
    have e1 : IntKind.u64.wrap (v : Int) = (v : Int) := by rw [w_u64]; omega
    have e2 : IntKind.u64.wrap (IntKind.i64.wrap (IntKind.i64.wrap ((b.length : Int) - i) - n)) = (b.length : Int) - i - n := by
      rw [w_i64 (x := (b.length : Int) - i) (by omega) (by omega), w_i64 (by omega) (by omega), w_u64]; omega
    conv => whnf
    simp only [e1, e2, ti_nat]
    refine onB_intro (fun h => ?_) (fun h => ?_)
    · have h := of_decide_eq_true h
      rw [if_pos (by omega)]
      conv => whnf
      try rfl
    · have h := of_decide_eq_false h
      rw [if_neg (by omega)]
      have e3 : IntKind.i64.wrap ((i : Int) + n) = ((i + n : Nat) : Int) := by rw [w_i64 (by omega) (by omega)]; omega
      have e4 : IntKind.i64.wrap (v : Int) = (v : Int) := w_i64 (by omega) (by omega)
      have e5 : IntKind.i64.wrap (((i + n : Nat) : Int) + (v : Int)) = ((i + n + v : Nat) : Int) := by rw [w_i64 (by omega) (by omega)]; omega
      have e6 : IntKind.i64.wrap ((n : Int) + (v : Int)) = ((n + v : Nat) : Int) := by rw [w_i64 (by omega) (by omega)]; omega
      obtain ⟨l, hl⟩ : ∃ l, (b.drop (i + n)).take v = l := ⟨_, rfl⟩
      have hll : l.length = v := by rw [← hl]; simp; omega
      have hsz : (⟨l.toArray⟩ : ByteArray).size = l.length := by show l.toArray.size = _; simp
      rw [hl]
      conv => whnf
      simp only [e3, e4, e5, ti_nat]
      refine ⟨by omega, ?_⟩
      conv => whnf
      refine sl_ex (enc := b1) (d := 0) l (by rw [hll]; omega) (fun j hj => ?_) ?_
      · rw [← hl, getD_take _ _ _ _ (by omega), getD_drop]
      conv => whnf
      refine ⟨l, rfl, fun _ _ => rfl, ?_⟩
      conv => whnf
      refine call_pure (valid_c ⟨l.toArray⟩ (by rw [hsz]; omega)) rfl ?_
      rintro _ rfl
      cases hc : (charsF ⟨l.toArray⟩).isSome with
      | true =>
        conv => whnf
        rw [e4, e6]
        rfl
      | false =>
        conv => whnf
        try rfl
theorem rgtext_c (b : List UInt8) (hb : b.length ≤ 100000000) (at_ : Int) (ha1 : -9223372036854775808 ≤ at_) (ha2 : at_ ≤ 9223372036854775807) : CallV Tryd.prog 11 [bS b, vci .i64 at_] [] (fun r own' => own' = [] ∧ r = getTW (getT b at_)) := by
  unfold getT
  refine callV_pure Tryd.func11 rfl ttok ftok rfl rfl rfl (Nat.le_of_ble_eq_true rfl) ?_
  conv => whnf
  refine call_pure (rget_c b (by omega) at_ ha1 ha2) rfl ?_
  rintro _ rfl
  cases hg : getN b at_ with
  | none =>
    conv => whnf
    try rfl
  | some x =>
    obtain ⟨v, n⟩ := x
    obtain ⟨i, rfl, hi, hn1, hn5, hin, hv, _⟩ := getN_some hg
    have e1 : IntKind.i64.wrap (v : Int) = (v : Int) := w_i64 (by omega) (by omega)
    have e2 : IntKind.i64.wrap (IntKind.i64.wrap ((b.length : Int) - i) - n) = (b.length : Int) - i - n := by
      rw [w_i64 (x := (b.length : Int) - i) (by omega) (by omega), w_i64 (by omega) (by omega)]
    conv => whnf
    simp only [e1, e2, ti_nat]
    refine onB_intro (fun h => ?_) (fun h => ?_)
    · have h := of_decide_eq_true h
      rw [if_pos (by omega)]
      conv => whnf
      try rfl
    · have h := of_decide_eq_false h
      rw [if_neg (by omega)]
      have e3 : IntKind.i64.wrap ((i : Int) + n) = ((i + n : Nat) : Int) := by rw [w_i64 (by omega) (by omega)]; omega
      have e4 : IntKind.i64.wrap (v : Int) = (v : Int) := w_i64 (by omega) (by omega)
      have e5 : IntKind.i64.wrap (((i + n : Nat) : Int) + (v : Int)) = ((i + n + v : Nat) : Int) := by rw [w_i64 (by omega) (by omega)]; omega
      have e6 : IntKind.i64.wrap ((n : Int) + (v : Int)) = ((n + v : Nat) : Int) := by rw [w_i64 (by omega) (by omega)]; omega
      obtain ⟨l, hl⟩ : ∃ l, (b.drop (i + n)).take v = l := ⟨_, rfl⟩
      have hll : l.length = v := by rw [← hl]; simp; omega
      have hsz : (⟨l.toArray⟩ : ByteArray).size = l.length := by show l.toArray.size = _; simp
      rw [hl]
      conv => whnf
      simp only [e3, e4, e5, ti_nat]
      refine ⟨by omega, ?_⟩
      conv => whnf
      refine sl_ex (enc := b1) (d := 0) l (by rw [hll]; omega) (fun j hj => ?_) ?_
      · rw [← hl, getD_take _ _ _ _ (by omega), getD_drop]
      conv => whnf
      refine ⟨l, rfl, fun _ _ => rfl, ?_⟩
      conv => whnf
      cases hc : charsF ⟨l.toArray⟩ with
      | some L =>
        refine call_pure (chars_c ⟨l.toArray⟩ (by rw [hsz]; omega)) rfl ?_
        rintro _ rfl
        unfold charsV
        rw [hc]
        conv => whnf
        rw [e4, e6]
        rfl
      | none =>
        refine call_pure (chars_c ⟨l.toArray⟩ (by rw [hsz]; omega)) rfl ?_
        rintro _ rfl
        unfold charsV
        rw [hc]
        conv => whnf
        try rfl
end Go.Eng
