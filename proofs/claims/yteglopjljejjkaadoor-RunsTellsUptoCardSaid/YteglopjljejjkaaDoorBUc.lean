/- A text and its runes: there and back. -/
import Derived.Test.YteglopjljejjkaaDoorBUb
set_option linter.unusedVariables false
set_option linter.unusedSimpArgs false
namespace Go.Eng
open Go Go.RowKit
theorem rb_fold (l : List Int) : ∀ s : ByteArray, (l.foldl (fun r n => r ++ Utf8.encode n) s).data.toList = s.data.toList ++ l.flatMap encL := by
  induction l with
  | nil => intro s; simp
  | cons a l ih => intro s; rw [List.foldl_cons, ih]; simp [List.flatMap_cons]
theorem rb_data (l : List Int) : (runesBytes l).data.toList = l.flatMap encL := by
  unfold runesBytes
  rw [rb_fold]
  rfl
theorem ba_ext {a b : ByteArray} (h : a.data.toList = b.data.toList) : a = b := by
  rcases a with ⟨u⟩
  rcases b with ⟨v⟩
  have e : u = v := Array.toList_inj.1 h
  rw [e]
theorem rb_append (x y : List Int) : runesBytes (x ++ y) = runesBytes x ++ runesBytes y := by
  apply ba_ext
  rw [rb_data, ByteArray.data_append, Array.toList_append, rb_data, rb_data, List.flatMap_append]
theorem charsR_enc (s : ByteArray) : ∀ (f i : Nat) (l : List Int), s.size - i ≤ f → charsR s f i = some l → s.data.toList.drop i = l.flatMap encL ∧ ∀ v ∈ l, Utf8.valid v = true
  | 0, i, l, hf, h => by
    cases h
    rw [List.drop_eq_nil_of_le (by rw [ba_len']; omega)]
    simp
  | f + 1, i, l, hf, h => by
    unfold charsR at h
    split at h
    · rename_i hi
      split at h
      · cases h
      · rename_i v n hc
        cases hr : charsR s f (i + n) with
        | none => rw [hr] at h; cases h
        | some l' =>
          rw [hr] at h
          cases h
          obtain ⟨h1, h2, h3, h4, h5⟩ := charR_dec hi hc
          obtain ⟨g1, g2⟩ := charsR_enc s f (i + n) l' (by omega) hr
          rw [charR_enc hi hc, g1]
          refine ⟨by simp [List.flatMap_cons], fun u hu => ?_⟩
          rcases List.mem_cons.1 hu with rfl | hu
          · exact h5
          · exact g2 u hu
    · cases h
      rw [List.drop_eq_nil_of_le (by rw [ba_len']; omega)]
      simp
theorem enc_charsR (s : ByteArray) : ∀ (l : List Int) (f i : Nat), s.size - i ≤ f → (∀ v ∈ l, Utf8.valid v = true) → s.data.toList.drop i = l.flatMap encL → charsR s f i = some l
  | [], f, i, hf, hv, h => by
    have hi : ¬ i < s.size := by
      intro hi
      rw [drop_bAt hi] at h
      cases h
    cases f with
    | zero => rfl
    | succ f => unfold charsR; rw [if_neg hi]
  | v :: l, f, i, hf, hv, h => by
    rw [List.flatMap_cons] at h
    obtain ⟨h1, h2, h3⟩ := enc_charR (hv v (List.mem_cons_self ..)) h
    obtain ⟨f, rfl⟩ : ∃ g, f = g + 1 := ⟨f - 1, by omega⟩
    obtain ⟨_, g2, g3, _, _⟩ := charR_dec h1 h2
    unfold charsR
    rw [if_pos h1, h2]
    simp only
    rw [enc_charsR s l f (i + (encL v).length) (by omega) (fun u hu => hv u (List.mem_cons_of_mem _ hu)) h3]
    rfl
def vals (l : List Int) : Prop := ∀ v ∈ l, Utf8.valid v = true
theorem charsF_bytes {s : ByteArray} {l : List Int} (h : charsF s = some l) : runesBytes l = s ∧ vals l := by
  obtain ⟨h1, h2⟩ := charsR_enc s s.size 0 l (by omega) h
  refine ⟨ba_ext ?_, h2⟩
  rw [rb_data, ← h1]
  rfl
theorem bytes_charsF {l : List Int} (h : vals l) : charsF (runesBytes l) = some l :=
  enc_charsR _ l _ 0 (by omega) h (by rw [rb_data]; rfl)
theorem vals_append {x y : List Int} (h1 : vals x) (h2 : vals y) : vals (x ++ y) := fun v hv => (List.mem_append.1 hv).elim (h1 v) (h2 v)
theorem vals_take {x : List Int} (h : vals x) (n : Nat) : vals (x.take n) := fun v hv => h v (List.mem_of_mem_take hv)
theorem vals_drop {x : List Int} (h : vals x) (n : Nat) : vals (x.drop n) := fun v hv => h v (List.mem_of_mem_drop hv)
theorem rb_len (x y : List Int) : (runesBytes (x ++ y)).size = (runesBytes x).size + (runesBytes y).size := by
  rw [rb_append, ByteArray.size_append]
end Go.Eng
