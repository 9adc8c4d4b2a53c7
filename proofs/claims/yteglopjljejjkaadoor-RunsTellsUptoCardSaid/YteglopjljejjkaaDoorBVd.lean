/- Which texts are valid: the library's word is the reference's. -/
import Derived.Test.YteglopjljejjkaaDoorBUc
import Derived.Test.YteglopjljejjkaaDoorBLay
import Derived.Shelf.Unicode.ValidAny
import Derived.Lib.MapLaws
import Derived.Lib.ValidLaws
set_option linter.unusedVariables false
set_option linter.unusedSimpArgs false
set_option maxRecDepth 100000
namespace Go.Eng
open Go Go.RowKit Go.Proofs
theorem byteN (n : Nat) : ((n : Int).toNat).toUInt8 = UInt8.ofNat n := by rw [Int.toNat_natCast]
theorem enc_same (v : Int) (hv : Utf8.valid v = true) : Lib.encodeRune v = encL v := by
  obtain ⟨h0, h1, h2⟩ := valid_inv hv
  obtain ⟨n, rfl⟩ : ∃ n : Nat, v = n := ⟨v.toNat, by omega⟩
  unfold Lib.encodeRune Lib.encodeRuneZ encL Utf8.encode
  rw [if_pos hv]
  simp only [Int.toNat_natCast]
  by_cases c1 : n < 128
  · rw [if_pos c1, if_pos (by omega)]
    simp only [List.map_cons, List.map_nil, byteN]
  rw [if_neg c1, if_neg (by omega)]
  by_cases c2 : n < 2048
  · rw [if_pos c2, if_pos (by omega)]
    simp only [List.map_cons, List.map_nil]
    rw [show (192 + (n : Int) / 64).toNat = 0xC0 + n / 64 from by omega, show (128 + (n : Int) % 64).toNat = 0x80 + n % 64 from by omega]
  rw [if_neg c2, if_neg (by omega)]
  by_cases c3 : n < 65536
  · rw [if_pos c3, if_pos (by omega)]
    simp only [List.map_cons, List.map_nil]
    rw [show (224 + (n : Int) / 4096).toNat = 0xE0 + n / 4096 from by omega, show (128 + (n : Int) / 64 % 64).toNat = 0x80 + n / 64 % 64 from by omega, show (128 + (n : Int) % 64).toNat = 0x80 + n % 64 from by omega]
  rw [if_neg c3, if_neg (by omega), if_pos (by omega)]
  simp only [List.map_cons, List.map_nil]
  rw [show (240 + (n : Int) / 262144).toNat = 0xF0 + n / 262144 from by omega, show (128 + (n : Int) / 4096 % 64).toNat = 0x80 + n / 4096 % 64 from by omega, show (128 + (n : Int) / 64 % 64).toNat = 0x80 + n / 64 % 64 from by omega, show (128 + (n : Int) % 64).toNat = 0x80 + n % 64 from by omega]
theorem enc_bad (n : Nat) (hv : ¬ Utf8.valid (n : Int) = true) : Lib.encodeRune (n : Int) = encL 65533 := by
  unfold Utf8.valid at hv
  simp only [Bool.or_eq_true, Bool.and_eq_true, decide_eq_true_eq] at hv
  unfold Lib.encodeRune Lib.encodeRuneZ
  rw [if_neg (by omega), if_neg (by omega), if_neg (by omega), if_neg (by omega)]
  rfl
/-- What the reference refuses, the model's decoder marks. -/
theorem dec_none {s : ByteArray} {i : Nat} (hi : i < s.size) (h : charR s i = none) : Utf8.decode s i = (65533, 1) := by
  rw [← Lib.decodeL_drop]
  have hne : s.data.toList.drop i ≠ [] := by
    rw [drop_bAt hi]; simp
  false_or_by_contra
  rename_i hn
  have hv : ¬ ((Lib.decodeL (s.data.toList.drop i)).1 = 65533 ∧ (Lib.decodeL (s.data.toList.drop i)).2 = 1) := fun e => hn (Prod.ext e.1 e.2)
  have he := Lib.encode_decode _ hne hv
  have hs : s.data.toList.drop i = Lib.encodeRune ((Lib.decodeL (s.data.toList.drop i)).1 : Int) ++ (s.data.toList.drop i).drop (Lib.decodeL (s.data.toList.drop i)).2 := by
    rw [he, List.take_append_drop]
  by_cases hval : Utf8.valid ((Lib.decodeL (s.data.toList.drop i)).1 : Int) = true
  · rw [enc_same _ hval] at hs
    have := (enc_charR hval hs).2.1
    rw [h] at this; cases this
  · rw [enc_bad _ hval] at hs
    have := (enc_charR (v := 65533) rfl hs).2.1
    rw [h] at this; cases this
theorem valid_chars (s : ByteArray) : ∀ (f i : Nat), s.size - i ≤ f → Lib.validD (s.data.toList.drop i) = (charsR s f i).isSome
  | 0, i, hf => by
    rw [List.drop_eq_nil_of_le (by rw [ba_len']; omega)]
    rfl
  | f + 1, i, hf => by
    unfold charsR
    by_cases hi : i < s.size
    · rw [if_pos hi]
      have hne : s.data.toList.drop i ≠ [] := by rw [drop_bAt hi]; simp
      rw [Lib.validD_step _ hne, Lib.decodeL_drop]
      cases hc : charR s i with
      | none =>
        rw [dec_none hi hc]
        simp
      | some x =>
        obtain ⟨v, n⟩ := x
        obtain ⟨h1, h2, h3, h4, h5⟩ := charR_dec hi hc
        rw [h1]
        have hno : ¬ (v.toNat = 65533 ∧ n = 1) := fun ⟨e1, e2⟩ => by
          have := charR_enc hi hc
          have hv : v = 65533 := by omega
          subst hv e2
          have h6 := enc_charR (v := 65533) rfl this
          rw [hc] at h6
          have := h6.2.1
          simp only [Option.some.injEq, Prod.mk.injEq, true_and] at this
          exact absurd this (by decide)
        simp only
        rw [if_neg hno, List.drop_drop, valid_chars s f (i + n) (by omega)]
        simp
    · rw [if_neg hi, List.drop_eq_nil_of_le (by rw [ba_len']; omega)]
      rfl
theorem valid_same (s : ByteArray) : Lib.validD s.data.toList = (charsF s).isSome := valid_chars s s.size 0 (by omega)
theorem valid_c (s : ByteArray) (hs : s.size ≤ 100000000) : CallV Tryd.prog 29 [vcs s] [] (fun r own' => own' = [] ∧ r = vcb (charsF s).isSome) := by
  rw [← valid_same]
  exact callV_calls (vs := [.string s]) (by simp [Value.oneCell']) rfl (fun m w hg hw => Any.utf8_ValidString Tryd.laysValid s w (by omega) (hg w hw))
end Go.Eng
