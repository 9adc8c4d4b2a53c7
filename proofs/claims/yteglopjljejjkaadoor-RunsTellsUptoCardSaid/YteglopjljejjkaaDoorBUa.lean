/- A part of the proof: what the functions of the program come to, told by a small reckoner of states. -/
import Derived.Test.YteglopjljejjkaaDoorBCh
set_option linter.unusedVariables false
set_option linter.unusedSimpArgs false
namespace Go.Eng
open Go Go.RowKit
/-! The reference's decoding beside the model's. -/
theorem get_bAt (s : ByteArray) (i : Nat) (h : i < s.size) : (s.get! i).toNat = (bAt s i).toNat := by
  unfold bAt
  rw [Int.toNat_natCast]
  congr 1
  show s.get! i = _
  simp [ByteArray.get!, getElem!_pos, h]
  rfl
theorem tailR_inv {s : ByteArray} {i k m : Nat} {v u : Int} (h : tailR s i k (m + 1) v = some u) : 128 ≤ bAt s (i + k) ∧ bAt s (i + k) ≤ 191 ∧ tailR s i (k + 1) m (64 * v + bAt s (i + k) - 128) = some u := by
  unfold tailR at h
  split at h
  · cases h
  · exact ⟨by omega, by omega, h⟩
theorem tailR_0 {s : ByteArray} {i k : Nat} {v u : Int} (h : tailR s i k 0 v = some u) : v = u := by unfold tailR at h; cases h; rfl
theorem valid_of {v : Int} (h0 : 0 ≤ v) (h1 : v ≤ 1114111) (h2 : ¬ (55296 ≤ v ∧ v ≤ 57343)) : Utf8.valid v = true := by
  unfold Utf8.valid
  simp only [Bool.or_eq_true, Bool.and_eq_true, decide_eq_true_eq]
  omega
set_option maxHeartbeats 1000000 in
theorem charR_dec {s : ByteArray} {i n : Nat} {v : Int} (hi : i < s.size) (h : charR s i = some (v, n)) : Utf8.decode s i = (v.toNat, n) ∧ i + n ≤ s.size ∧ 1 ≤ n ∧ 0 ≤ v ∧ Utf8.valid v = true := by
  have l0 := bAt_le s i
  have l1 := bAt_le s (i + 1)
  have l2 := bAt_le s (i + 2)
  have l3 := bAt_le s (i + 3)
  unfold charR at h
  split at h
  · cases h
  · rename_i n0 v0 least hh
    split at h
    · cases h
    · rename_i hfit
      split at h
      · cases h
      · rename_i v1 ht
        split at h
        · cases h
        · rename_i hb
          cases h
          unfold badR at hb
          unfold headR at hh
          have g0 := get_bAt s i (by omega)
          split at hh
          · cases hh
            obtain ⟨a1, b1, ht⟩ := tailR_inv ht
            obtain ⟨a2, b2, ht⟩ := tailR_inv ht
            obtain ⟨a3, b3, ht⟩ := tailR_inv ht
            have ht := tailR_0 ht
            have g1 := get_bAt s (i + 1) (by omega)
            have g2 := get_bAt s (i + 2) (by omega)
            have g3 := get_bAt s (i + 3) (by omega)
            refine ⟨?_, by omega, by omega, by omega, valid_of (by omega) (by omega) (by omega)⟩
            simp only [Nat.add_assoc, Nat.reduceAdd] at a1 a2 a3 b1 b2 b3 ht g1 g2 g3
            have hval := valid_of (v := v) (by omega) (by omega) (by omega)
            unfold Utf8.decode
            simp only [Nat.add_zero, g0, g1, g2, g3]
            have c1 : i + 1 < s.size := by omega
            have c2 : i + 2 < s.size := by omega
            have c3 : i + 3 < s.size := by omega
            rw [if_neg (by omega), if_neg (by simp; omega), if_neg (by simp; omega), if_pos (by simp [c1, c2, c3]; omega)]
            have hv : (bAt s i).toNat % 8 * 262144 + (bAt s (i + 1)).toNat % 64 * 4096 + (bAt s (i + 2)).toNat % 64 * 64 + (bAt s (i + 3)).toNat % 64 = v.toNat := by omega
            rw [hv, if_pos]
            simp only [Bool.and_eq_true, decide_eq_true_eq]
            exact ⟨by omega, by rw [Int.toNat_of_nonneg (by omega)]; exact hval⟩
          · split at hh
            · cases hh
              obtain ⟨a1, b1, ht⟩ := tailR_inv ht
              obtain ⟨a2, b2, ht⟩ := tailR_inv ht
              have ht := tailR_0 ht
              have g1 := get_bAt s (i + 1) (by omega)
              have g2 := get_bAt s (i + 2) (by omega)
              refine ⟨?_, by omega, by omega, by omega, valid_of (by omega) (by omega) (by omega)⟩
              simp only [Nat.add_assoc, Nat.reduceAdd] at a1 a2 b1 b2 ht g1 g2
              have hval := valid_of (v := v) (by omega) (by omega) (by omega)
              unfold Utf8.decode
              simp only [Nat.add_zero, g0, g1, g2]
              have c1 : i + 1 < s.size := by omega
              have c2 : i + 2 < s.size := by omega
              rw [if_neg (by omega), if_neg (by simp; omega), if_pos (by simp [c1, c2]; omega)]
              have hv : (bAt s i).toNat % 16 * 4096 + (bAt s (i + 1)).toNat % 64 * 64 + (bAt s (i + 2)).toNat % 64 = v.toNat := by omega
              rw [hv, if_pos]
              simp only [Bool.and_eq_true, decide_eq_true_eq]
              exact ⟨by omega, by rw [Int.toNat_of_nonneg (by omega)]; exact hval⟩
            · split at hh
              · cases hh
                obtain ⟨a1, b1, ht⟩ := tailR_inv ht
                have ht := tailR_0 ht
                have g1 := get_bAt s (i + 1) (by omega)
                refine ⟨?_, by omega, by omega, by omega, valid_of (by omega) (by omega) (by omega)⟩
                unfold Utf8.decode
                simp only [Nat.add_zero, g0, g1]
                have c1 : i + 1 < s.size := by omega
                rw [if_neg (by omega), if_pos (by simp [c1]; omega)]
                have hv : (bAt s i).toNat % 32 * 64 + (bAt s (i + 1)).toNat % 64 = v.toNat := by omega
                rw [hv, if_pos (by omega)]
              · split at hh
                · cases hh
                · cases hh
                  have ht := tailR_0 ht
                  refine ⟨?_, by omega, by omega, by omega, valid_of (by omega) (by omega) (by omega)⟩
                  unfold Utf8.decode
                  simp only [Nat.add_zero, g0]
                  rw [if_pos (by omega), ht]
theorem runesFrom_eq (s : ByteArray) : ∀ (f i b : Nat) (l : List Int) (acc : List Int), s.size - i ≤ f → s.size - i ≤ b → charsR s f i = some l → Conv.runesFrom s b i ((acc.map (Value.int .i32)).toArray) = ((acc ++ l).map (Value.int .i32)).toArray
  | 0, i, b, l, acc, hf, hb, h => by
    cases h
    cases b with
    | zero => simp [Conv.runesFrom]
    | succ b => unfold Conv.runesFrom; rw [if_neg (by omega)]; simp
  | f + 1, i, b, l, acc, hf, hb, h => by
    unfold charsR at h
    split at h
    · rename_i hi
      split at h
      · cases h
      · rename_i v n hc
        cases hr : charsR s f (i + n) with
        | none => rw [hr] at h; cases h
        | some l' =>
          rw [hr] at h
          cases h
          obtain ⟨h1, h2, h3, h4, h5⟩ := charR_dec hi hc
          obtain ⟨b, rfl⟩ : ∃ b', b = b' + 1 := ⟨b - 1, by omega⟩
          unfold Conv.runesFrom
          rw [if_pos hi, h1]
          simp only
          have ih := runesFrom_eq s f (i + n) b l' (acc ++ [v]) (by omega) (by omega) hr
          rw [List.append_assoc] at ih
          rw [show acc ++ ([v] ++ l') = acc ++ v :: l' by simp] at ih
          rw [← ih]
          congr 1
          rw [List.map_append, List.push_toArray]
          simp [Int.toNat_of_nonneg h4]
    · rename_i hi
      cases h
      cases b with
      | zero => simp [Conv.runesFrom]
      | succ b => unfold Conv.runesFrom; rw [if_neg hi]; simp
theorem runesL_chars {s : ByteArray} {l : List Int} (h : charsF s = some l) : runesL s = l := by
  have := runesFrom_eq s s.size 0 s.size l [] (by omega) (by omega) h
  unfold runesL
  simp only [List.map_nil, List.nil_append] at this
  rw [this]
  simp only [List.map_map]
  exact List.map_id' l
theorem charsR_len (s : ByteArray) : ∀ (f i : Nat) (l : List Int), i ≤ s.size → charsR s f i = some l → l.length ≤ s.size - i
  | 0, i, l, hi, h => by cases h; simp
  | f + 1, i, l, hi, h => by
    unfold charsR at h
    split at h
    · rename_i hi
      split at h
      · cases h
      · rename_i v n hc
        cases hr : charsR s f (i + n) with
        | none => rw [hr] at h; cases h
        | some l' =>
          rw [hr] at h
          cases h
          obtain ⟨h1, h2, h3, h4⟩ := charR_dec hi hc
          have := charsR_len s f (i + n) l' (by omega) hr
          simp
          omega
    · cases h; simp
theorem charsF_len {s : ByteArray} {l : List Int} (h : charsF s = some l) : l.length ≤ s.size := by
  have := charsR_len s s.size 0 l (by omega) h
  omega
end Go.Eng
