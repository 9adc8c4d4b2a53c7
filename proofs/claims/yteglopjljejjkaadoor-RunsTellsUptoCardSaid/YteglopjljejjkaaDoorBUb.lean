/- UTF-8 back and forth: the reference's decoding beside the model's encoding. -/
import Derived.Test.YteglopjljejjkaaDoorBUa
set_option linter.unusedVariables false
set_option linter.unusedSimpArgs false
namespace Go.Eng
open Go Go.RowKit
abbrev encL (v : Int) : List UInt8 := (Utf8.encode v).data.toList
theorem ba_len' (s : ByteArray) : s.data.toList.length = s.size := by rw [Array.length_toList]; rfl
theorem bAt_get {s : ByteArray} {i : Nat} (h : i < s.data.toList.length) : (s.data.toList[i]).toNat = (bAt s i).toNat := by
  have h' : i < s.size := by rw [← ba_len']; exact h
  rw [← get_bAt s i h']
  simp [ByteArray.get!, h']
theorem drop_bAt {s : ByteArray} {i : Nat} (h : i < s.size) : s.data.toList.drop i = UInt8.ofNat (bAt s i).toNat :: s.data.toList.drop (i + 1) := by
  have h' : i < s.data.toList.length := by rw [ba_len']; exact h
  rw [List.drop_eq_getElem_cons h', ← bAt_get h', UInt8.ofNat_toNat]
theorem drop_cons {s : ByteArray} {i : Nat} {b : UInt8} {r : List UInt8} (h : s.data.toList.drop i = b :: r) : i < s.size ∧ bAt s i = (b.toNat : Int) ∧ s.data.toList.drop (i + 1) = r := by
  have hi : i < s.size := by
    have : i < s.data.toList.length := by
      false_or_by_contra
      rw [List.drop_eq_nil_of_le (by omega)] at h
      cases h
    rw [ba_len'] at this; exact this
  rw [drop_bAt hi] at h
  injection h with h1 h2
  refine ⟨hi, ?_, h2⟩
  have l := bAt_le s i
  rw [← h1]
  simp
  omega
theorem charR_enc {s : ByteArray} {i n : Nat} {v : Int} (hi : i < s.size) (h : charR s i = some (v, n)) : s.data.toList.drop i = encL v ++ s.data.toList.drop (i + n) := by
  have l0 := bAt_le s i
  have l1 := bAt_le s (i + 1)
  have l2 := bAt_le s (i + 2)
  have l3 := bAt_le s (i + 3)
  obtain ⟨_, hsz, hn1, hv0, hval⟩ := charR_dec hi h
  unfold charR at h
  split at h
  · cases h
  · rename_i n0 v0 least hh
    split at h
    · cases h
    · rename_i hfit
      split at h
      · cases h
      · rename_i v1 ht
        split at h
        · cases h
        · rename_i hb
          cases h
          unfold badR at hb
          unfold headR at hh
          unfold encL Utf8.encode
          rw [if_pos hval]
          split at hh
          · cases hh
            obtain ⟨a1, b1, ht⟩ := tailR_inv ht
            obtain ⟨a2, b2, ht⟩ := tailR_inv ht
            obtain ⟨a3, b3, ht⟩ := tailR_inv ht
            have ht := tailR_0 ht
            simp only [Nat.add_assoc, Nat.reduceAdd] at a1 a2 a3 b1 b2 b3 ht
            simp only
            rw [if_neg (by omega), if_neg (by omega), if_neg (by omega), drop_bAt hi, drop_bAt (i := i + 1) (by omega), drop_bAt (i := i + 1 + 1) (by omega), drop_bAt (i := i + 1 + 1 + 1) (by omega)]
            simp only [Nat.add_assoc, Nat.reduceAdd]
            rw [show (bAt s i).toNat = 0xF0 + v.toNat / 262144 from by omega, show (bAt s (i + 1)).toNat = 0x80 + v.toNat / 4096 % 64 from by omega, show (bAt s (i + 2)).toNat = 0x80 + v.toNat / 64 % 64 from by omega, show (bAt s (i + 3)).toNat = 0x80 + v.toNat % 64 from by omega]
            rfl
          · split at hh
            · cases hh
              obtain ⟨a1, b1, ht⟩ := tailR_inv ht
              obtain ⟨a2, b2, ht⟩ := tailR_inv ht
              have ht := tailR_0 ht
              simp only [Nat.add_assoc, Nat.reduceAdd] at a1 a2 b1 b2 ht
              simp only
              rw [if_neg (by omega), if_neg (by omega), if_pos (by omega), drop_bAt hi, drop_bAt (i := i + 1) (by omega), drop_bAt (i := i + 1 + 1) (by omega)]
              simp only [Nat.add_assoc, Nat.reduceAdd]
              rw [show (bAt s i).toNat = 0xE0 + v.toNat / 4096 from by omega, show (bAt s (i + 1)).toNat = 0x80 + v.toNat / 64 % 64 from by omega, show (bAt s (i + 2)).toNat = 0x80 + v.toNat % 64 from by omega]
              rfl
            · split at hh
              · cases hh
                obtain ⟨a1, b1, ht⟩ := tailR_inv ht
                have ht := tailR_0 ht
                simp only
                rw [if_neg (by omega), if_pos (by omega), drop_bAt hi, drop_bAt (i := i + 1) (by omega)]
                simp only [Nat.add_assoc, Nat.reduceAdd]
                rw [show (bAt s i).toNat = 0xC0 + v.toNat / 64 from by omega, show (bAt s (i + 1)).toNat = 0x80 + v.toNat % 64 from by omega]
                rfl
              · split at hh
                · cases hh
                · cases hh
                  have ht := tailR_0 ht
                  simp only
                  rw [if_pos (by omega), drop_bAt hi, ht]
                  rfl
theorem nb {n : Nat} (h : n < 256) : (UInt8.ofNat n).toNat = n := by simp; omega
theorem valid_inv {v : Int} (h : Utf8.valid v = true) : 0 ≤ v ∧ v ≤ 1114111 ∧ ¬ (55296 ≤ v ∧ v ≤ 57343) := by
  unfold Utf8.valid at h
  simp only [Bool.or_eq_true, Bool.and_eq_true, decide_eq_true_eq] at h
  omega
theorem enc_charR {s : ByteArray} {i : Nat} {v : Int} {r : List UInt8} (hv : Utf8.valid v = true) (h : s.data.toList.drop i = encL v ++ r) : i < s.size ∧ charR s i = some (v, (encL v).length) ∧ s.data.toList.drop (i + (encL v).length) = r := by
  obtain ⟨h0, h1, h2⟩ := valid_inv hv
  unfold encL Utf8.encode at *
  rw [if_pos hv] at *
  simp only at *
  by_cases c1 : v.toNat < 128
  · rw [if_pos c1] at *
    obtain ⟨g0, e0, d0⟩ := drop_cons h
    rw [nb (by omega)] at e0
    refine ⟨g0, ?_, d0⟩
    refine charR_ok (n := 1) (v := v) (least := 0) ?_ (by omega) rfl (by unfold badR; omega)
    rw [headR_1 (by omega) (by omega) (by omega) (by omega), e0, Int.toNat_of_nonneg h0]
  rw [if_neg c1] at *
  by_cases c2 : v.toNat < 2048
  · rw [if_pos c2] at *
    obtain ⟨g0, e0, h⟩ := drop_cons h
    obtain ⟨g1, e1, d0⟩ := drop_cons h
    rw [nb (by omega)] at e0 e1
    refine ⟨g0, ?_, d0⟩
    refine charR_ok (n := 2) (v := bAt s i - 192) (least := 128) ?_ (by omega) ?_ (by unfold badR; omega)
    · unfold headR; rw [if_neg (by omega), if_neg (by omega), if_pos (by omega)]
    · rw [tailR_go (by omega)]; unfold tailR; congr 1; omega
  rw [if_neg c2] at *
  by_cases c3 : v.toNat < 65536
  · rw [if_pos c3] at *
    obtain ⟨g0, e0, h⟩ := drop_cons h
    obtain ⟨g1, e1, h⟩ := drop_cons h
    obtain ⟨g2, e2, d0⟩ := drop_cons h
    rw [nb (by omega)] at e0 e1 e2
    refine ⟨g0, ?_, d0⟩
    refine charR_ok (n := 3) (v := bAt s i - 224) (least := 2048) ?_ (by omega) ?_ (by unfold badR; omega)
    · unfold headR; rw [if_neg (by omega), if_pos (by omega)]
    · simp only [Nat.add_assoc, Nat.reduceAdd] at e1 e2
      rw [tailR_go (by omega), tailR_go (by simp only [Nat.reduceAdd]; omega)]; unfold tailR; simp only [Nat.reduceAdd]; congr 1; omega
  rw [if_neg c3] at *
  obtain ⟨g0, e0, h⟩ := drop_cons h
  obtain ⟨g1, e1, h⟩ := drop_cons h
  obtain ⟨g2, e2, h⟩ := drop_cons h
  obtain ⟨g3, e3, d0⟩ := drop_cons h
  rw [nb (by omega)] at e0 e1 e2 e3
  refine ⟨g0, ?_, d0⟩
  refine charR_ok (n := 4) (v := bAt s i - 240) (least := 65536) ?_ (by omega) ?_ (by unfold badR; omega)
  · unfold headR; rw [if_pos (by omega)]
  · simp only [Nat.add_assoc, Nat.reduceAdd] at e1 e2 e3
    rw [tailR_go (by omega), tailR_go (by simp only [Nat.reduceAdd]; omega), tailR_go (by simp only [Nat.reduceAdd]; omega)]; unfold tailR; simp only [Nat.reduceAdd]; congr 1; omega
end Go.Eng
