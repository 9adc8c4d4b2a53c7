/- What is put is got: the mathematics of numbers and texts as bytes. -/
import Derived.Test.YteglopjljejjkaaDoorBWire4
set_option linter.unusedVariables false
set_option linter.unusedSimpArgs false
namespace Go.Eng
open Go Go.RowKit
theorem valN_be (v : Nat) : valN (be v) = v := by
  induction v using Nat.strongRecOn with
  | ind v ih =>
    by_cases h : v = 0
    · subst h; rw [be_0]; rfl
    · rw [be_pos h, valN_snoc, ih (v / 256) (by omega), nb (by omega)]
      omega
theorem be_head {v : Nat} (h : v ≠ 0) : (be v).getD 0 0 ≠ 0 := by
  induction v using Nat.strongRecOn with
  | ind v ih =>
    rw [be_pos h]
    by_cases h2 : v / 256 = 0
    · rw [h2, be_0]
      intro e
      have : (UInt8.ofNat (v % 256)).toNat = 0 := by
        rw [byte0]; simpa using e
      rw [nb (by omega)] at this
      omega
    · have h3 := ih (v / 256) (by omega) h2
      have h4 : (be (v / 256)).length ≠ 0 := mt be_nil.1 h2
      rw [List.getD_eq_getElem?_getD, List.getElem?_append_left (by omega), ← List.getD_eq_getElem?_getD]
      exact h3
theorem be_snoc (l : List UInt8) (c : UInt8) (hl : l ≠ [] → valN l ≠ 0) (hc : l = [] → c ≠ 0) : be (valN (l ++ [c])) = be (valN l) ++ [c] := by
  rw [valN_snoc]
  have hlt := c.toNat_lt
  have h0 : valN l * 256 + c.toNat ≠ 0 := by
    by_cases h : l = []
    · have := mt (byte0 c).1 (hc h)
      omega
    · have := hl h
      omega
  rw [be_pos h0, show (valN l * 256 + c.toNat) / 256 = valN l from by omega, show (valN l * 256 + c.toNat) % 256 = c.toNat from by omega, UInt8.ofNat_toNat]
theorem valN_ne (l : List UInt8) (h0 : l ≠ []) (h : l.getD 0 0 ≠ 0) : valN l ≠ 0 := by
  suffices H : ∀ n (l : List UInt8), l.length = n + 1 → l.getD 0 0 ≠ 0 → valN l ≠ 0 by
    obtain ⟨n, hn⟩ : ∃ n, l.length = n + 1 := ⟨l.length - 1, by have := List.length_pos_iff.2 h0; omega⟩
    exact H n l hn h
  intro n
  induction n with
  | zero =>
    intro l hl h
    match l, hl with
    | [c], _ =>
      intro e
      exact h ((byte0 c).1 (by simpa [valN] using e))
  | succ n ih =>
    intro l hl h
    obtain ⟨m, c, rfl⟩ : ∃ m c, l = m ++ [c] := ⟨l.dropLast, l.getLast (by intro e; subst e; cases hl), (List.dropLast_concat_getLast _).symm⟩
    have hm : m.length = n + 1 := by simpa using hl
    have h2 : m.getD 0 0 ≠ 0 := by
      rw [List.getD_eq_getElem?_getD, List.getElem?_append_left (by omega), ← List.getD_eq_getElem?_getD] at h
      exact h
    have := ih m hm h2
    rw [valN_snoc]
    omega
theorem be_valN (l : List UInt8) (h : l ≠ [] → l.getD 0 0 ≠ 0) : be (valN l) = l := by
  suffices H : ∀ n (l : List UInt8), l.length = n → (l ≠ [] → l.getD 0 0 ≠ 0) → be (valN l) = l from H _ l rfl h
  intro n
  induction n with
  | zero => intro l hl _; obtain rfl := List.eq_nil_of_length_eq_zero hl; exact be_0
  | succ n ih =>
    intro l hl h
    obtain ⟨m, c, rfl⟩ : ∃ m c, l = m ++ [c] := ⟨l.dropLast, l.getLast (by intro e; subst e; cases hl), (List.dropLast_concat_getLast _).symm⟩
    have hm : m.length = n := by simpa using hl
    have h1 := h (by simp)
    have h2 : m ≠ [] → m.getD 0 0 ≠ 0 := fun hne => by
      have := List.length_pos_iff.2 hne
      rw [List.getD_eq_getElem?_getD, List.getElem?_append_left (by omega), ← List.getD_eq_getElem?_getD] at h1
      exact h1
    rw [be_snoc m c (fun hne => valN_ne m hne (h2 hne)) (fun e => by subst e; simpa using h1), ih m hm h2]
theorem getD_app_r (a b : List UInt8) (j : Nat) : (a ++ b).getD (a.length + j) 0 = b.getD j 0 := by
  rw [List.getD_eq_getElem?_getD, List.getElem?_append_right (by omega), Nat.add_sub_cancel_left, ← List.getD_eq_getElem?_getD]
theorem drop_app (a b : List UInt8) (j : Nat) : (a ++ b).drop (a.length + j) = b.drop j := by
  rw [List.drop_append, List.drop_eq_nil_of_le (by omega), Nat.add_sub_cancel_left, List.nil_append]
theorem getN_app (a b : List UInt8) : getN (a ++ b) (a.length : Nat) = getN b 0 := by
  unfold getN
  rw [ti_nat]
  have e0 := getD_app_r a b 0
  have e1 := getD_app_r a b 1
  have e2 := drop_app a b 1
  rw [Nat.add_zero] at e0
  rw [e0, e1, e2, List.length_append]
  by_cases hb : b.length = 0
  · rw [if_pos (by omega), if_pos (by omega)]
  · simp only [show ¬ (((a.length : Nat) : Int) < 0 ∨ ((a.length + b.length : Nat) : Int) ≤ ((a.length : Nat) : Int)) from by omega, show ¬ ((0 : Int) < 0 ∨ (b.length : Int) ≤ 0) from by omega, if_false]
    simp only [show (0 : Int).toNat = 0 from rfl, Nat.zero_add]
    have hc : (a.length + b.length < a.length + 1 + (b.getD 0 0).toNat) = (b.length < 1 + (b.getD 0 0).toNat) := propext ⟨fun h => by omega, fun h => by omega⟩
    simp only [hc]
theorem getN_put0 (v : Nat) (hv : v < 4294967296) (r : List UInt8) : getN (putN v ++ r) 0 = some (v, (putN v).length) := by
  have hl := be_u32 hv
  unfold getN
  have e0 : (putN v ++ r).getD 0 0 = UInt8.ofNat (be v).length := rfl
  have e1 : (putN v ++ r).getD 1 0 = (be v ++ r).getD 0 0 := rfl
  have e2 : (putN v ++ r).drop 1 = be v ++ r := rfl
  have e3 : (putN v ++ r).length = (be v).length + r.length + 1 := by rw [List.length_append, putN_len]; omega
  simp only [show (0 : Int).toNat = 0 from rfl, Nat.zero_add]
  rw [e0, nb (by omega), e1, e2, e3, if_neg (by omega), if_neg, List.take_left, valN_be, putN_len]
  rintro (q | q | ⟨q1, q2⟩)
  · omega
  · omega
  · rw [List.getD_eq_getElem?_getD, List.getElem?_append_left q1, ← List.getD_eq_getElem?_getD] at q2
    exact be_head (fun e => by rw [be_nil.2 e] at q1; omega) q2
theorem getN_put (v : Nat) (hv : v < 4294967296) (a r : List UInt8) : getN (a ++ putN v ++ r) (a.length : Nat) = some (v, (putN v).length) := by
  rw [List.append_assoc, getN_app, getN_put0 v hv]
theorem getN_cut (v : Nat) (hv : v < 4294967296) (k : Nat) (hk : k < (putN v).length) : getN ((putN v).take k) 0 = none := by
  have hl := be_u32 hv
  rw [putN_len] at hk
  unfold getN
  cases k with
  | zero => rw [if_pos (by simp)]
  | succ k =>
    have e0 : ((putN v).take (k + 1)).getD 0 0 = UInt8.ofNat (be v).length := rfl
    have e3 : ((putN v).take (k + 1)).length = k + 1 := by rw [List.length_take, putN_len]; omega
    simp only [show (0 : Int).toNat = 0 from rfl, Nat.zero_add]
    rw [e0, nb (by omega), e3, if_neg (by omega), if_pos (by omega)]
theorem ba_take (s : ByteArray) : (⟨(s.data.toList).toArray⟩ : ByteArray) = s := by
  apply ba_ext
  simp
theorem getT_some {b : List UInt8} {i : Nat} {m n : Nat} (h : getN b (i : Nat) = some (m, n)) : getT b (i : Nat) = if (b.length : Int) - (i : Int) - n < m then none else if (charsF ⟨((b.drop (i + n)).take m).toArray⟩).isSome = true then some (⟨((b.drop (i + n)).take m).toArray⟩, n + m) else none := by
  unfold getT
  rw [h]
  simp only [ti_nat]
theorem getT_put (s : ByteArray) (hs : s.size ≤ 1000000) (hc : (charsF s).isSome = true) (a r : List UInt8) : getT (a ++ putT s ++ r) (a.length : Nat) = some (s, (putT s).length) := by
  have hg : getN (a ++ putT s ++ r) (a.length : Nat) = some (s.size, (putN s.size).length) := by
    unfold putT
    rw [show a ++ (putN s.size ++ s.data.toList) ++ r = a ++ putN s.size ++ (s.data.toList ++ r) from by simp [List.append_assoc]]
    exact getN_put s.size (by omega) a _
  rw [getT_some hg]
  have hlen : (a ++ putT s ++ r).length = a.length + ((putN s.size).length + s.size) + r.length := by
    unfold putT
    simp only [List.length_append, ba_len']
  have hd : (a ++ putT s ++ r).drop (a.length + (putN s.size).length) = s.data.toList ++ r := by
    unfold putT
    rw [show a ++ (putN s.size ++ s.data.toList) ++ r = (a ++ putN s.size) ++ (s.data.toList ++ r) from by simp [List.append_assoc], ← List.length_append, List.drop_left]
  rw [hd, hlen, if_neg (by omega), show (s.data.toList ++ r).take s.size = s.data.toList from by rw [← ba_len' s, List.take_left], ba_take, if_pos hc]
  unfold putT
  rw [List.length_append, ba_len']
theorem getT_cut (s : ByteArray) (hs : s.size ≤ 1000000) (k : Nat) (hk : k < (putT s).length) : getT ((putT s).take k) 0 = none := by
  have hk2 : k < (putN s.size).length + s.size := by
    unfold putT at hk
    rw [List.length_append, ba_len'] at hk
    exact hk
  by_cases h : k < (putN s.size).length
  · have e : (putT s).take k = (putN s.size).take k := by
      unfold putT
      rw [List.take_append_of_le_length (by omega)]
    unfold getT
    rw [e, getN_cut _ (by omega) k h]
  · have e : (putT s).take k = putN s.size ++ s.data.toList.take (k - (putN s.size).length) := by
      unfold putT
      rw [List.take_append, List.take_of_length_le (by omega)]
    have hg := getN_put0 s.size (by omega) (s.data.toList.take (k - (putN s.size).length))
    rw [e]
    have := getT_some (i := 0) hg
    rw [show ((0 : Nat) : Int) = 0 from rfl] at this
    rw [this, if_pos]
    rw [List.length_append, List.length_take, ba_len']
    omega
theorem put_get (b : List UInt8) {y m : Nat} (h : getN b 0 = some (y, m)) : m ≤ b.length ∧ y < 4294967296 ∧ putN y = b.take m := by
  obtain ⟨i, hi, h1, h2, h3, h4, h5, h6, h7, h8⟩ := getN_some h
  obtain rfl : i = 0 := by omega
  refine ⟨by omega, h5, ?_⟩
  obtain ⟨l, hl⟩ : ∃ l, (b.drop 1).take (m - 1) = l := ⟨_, rfl⟩
  simp only [Nat.zero_add] at h7 h8
  rw [hl] at h7
  have hll : l.length = m - 1 := by rw [← hl, List.length_take, List.length_drop]; omega
  have hbe : be y = l := by
    rw [h7]
    refine be_valN l (fun hne => ?_)
    have := List.length_pos_iff.2 hne
    rw [← hl, getD_take _ _ _ _ (by omega), getD_drop]
    exact h8 (by omega)
  have hb : b = b.getD 0 0 :: b.drop 1 := by
    cases b with
    | nil => simp at h1
    | cons c r => rfl
  obtain ⟨m, rfl⟩ : ∃ q, m = q + 1 := ⟨m - 1, by omega⟩
  rw [hb, List.take_succ_cons]
  unfold putN
  rw [hbe, hll, ← hl]
  have e : UInt8.ofNat (m + 1 - 1) = b.getD 0 0 := by
    rw [show m + 1 - 1 = (b.getD 0 0).toNat from by omega, UInt8.ofNat_toNat]
  rw [e]
  simp
end Go.Eng
