/- The plain law of a change: what is done of it is the other text; the change back is as long; no change is shorter. -/
import Derived.Test.YteglopjljejjkaaBUtf3
import Derived.Test.YteglopjljejjkaaBDiff3
set_option linter.unusedVariables false
set_option linter.unusedSimpArgs false
namespace Go.Eng
open Go Go.RowKit
theorem pre_le : ∀ x y : List Int, pre x y ≤ x.length ∧ pre x y ≤ y.length ∧ x.take (pre x y) = y.take (pre x y)
  | [], y => by simp [pre]
  | a :: x, [] => by simp [pre]
  | a :: x, b :: y => by
    unfold pre
    split
    · rename_i h
      obtain ⟨h1, h2, h3⟩ := pre_le x y
      subst h
      exact ⟨by simp; omega, by simp; omega, by simp [h3]⟩
    · simp
theorem pre_comm : ∀ x y : List Int, pre x y = pre y x
  | [], y => by cases y <;> simp [pre]
  | a :: x, [] => by simp [pre]
  | a :: x, b :: y => by
    unfold pre
    by_cases h : a = b
    · rw [if_pos h, if_pos h.symm, pre_comm x y]
    · rw [if_neg h, if_neg (Ne.symm h)]
theorem le_pre : ∀ (n : Nat) (x y : List Int), n ≤ x.length → n ≤ y.length → x.take n = y.take n → n ≤ pre x y
  | 0, x, y, _, _, _ => Nat.zero_le _
  | n + 1, [], y, h, _, _ => by simp at h
  | n + 1, a :: x, [], _, h, _ => by simp at h
  | n + 1, a :: x, b :: y, h1, h2, h3 => by
    simp at h1 h2 h3
    unfold pre
    rw [if_pos h3.1]
    have := le_pre n x y h1 h2 h3.2
    omega
theorem take_rev (x : List Int) (k : Nat) (h : k ≤ x.length) : x.reverse.take k = (x.drop (x.length - k)).reverse := by
  rw [List.take_reverse]
theorem sfx_le (x y : List Int) : sfx x y ≤ x.length ∧ sfx x y ≤ y.length ∧ x.drop (x.length - sfx x y) = y.drop (y.length - sfx x y) := by
  obtain ⟨h1, h2, h3⟩ := pre_le x.reverse y.reverse
  have h1' : sfx x y ≤ x.length := by rw [List.length_reverse] at h1; exact h1
  have h2' : sfx x y ≤ y.length := by rw [List.length_reverse] at h2; exact h2
  refine ⟨h1', h2', ?_⟩
  have h3 : x.reverse.take (sfx x y) = y.reverse.take (sfx x y) := h3
  rw [take_rev x _ h1', take_rev y _ h2'] at h3
  exact List.reverse_inj.1 h3
theorem sfx_comm (x y : List Int) : sfx x y = sfx y x := pre_comm _ _
theorem le_sfx {x y : List Int} {k : Nat} (h1 : k ≤ x.length) (h2 : k ≤ y.length) (h3 : x.drop (x.length - k) = y.drop (y.length - k)) : k ≤ sfx x y :=
  le_pre k _ _ (by simpa using h1) (by simpa using h2) (by rw [take_rev x k h1, take_rev y k h2, h3])
/-- The two texts in their parts. -/
theorem parts (x y : List Int) : ∃ (p s : Nat) (mx my t : List Int), edOf x y = ⟨(p : Int), (mx.length : Int), runesBytes my⟩ ∧ edOf y x = ⟨(p : Int), (my.length : Int), runesBytes mx⟩ ∧
    p = pre x y ∧ p ≤ x.length ∧ p ≤ y.length ∧ s = sfx (x.drop p) (y.drop p) ∧ t.length = s ∧ x = x.take p ++ (mx ++ t) ∧ y = x.take p ++ (my ++ t) := by
  obtain ⟨h1, h2, h3⟩ := pre_le x y
  obtain ⟨g1, g2, g3⟩ := sfx_le (x.drop (pre x y)) (y.drop (pre x y))
  refine ⟨pre x y, _, (x.drop (pre x y)).take ((x.drop (pre x y)).length - sfx (x.drop (pre x y)) (y.drop (pre x y))), (y.drop (pre x y)).take ((y.drop (pre x y)).length - sfx (x.drop (pre x y)) (y.drop (pre x y))), (x.drop (pre x y)).drop ((x.drop (pre x y)).length - sfx (x.drop (pre x y)) (y.drop (pre x y))), ?_, ?_, rfl, h1, h2, rfl, ?_, ?_, ?_⟩
  · unfold edOf
    congr 1
    rw [List.length_take, Nat.min_eq_left (by omega)]
  · unfold edOf
    rw [pre_comm y x, sfx_comm (y.drop _)]
    congr 1
    rw [List.length_take, Nat.min_eq_left (by omega)]
  · rw [List.length_drop]; omega
  · rw [List.take_append_drop, List.take_append_drop]
  · rw [g3, List.take_append_drop, h3, List.take_append_drop]
theorem do_ed (x y : List Int) : doOf x (edOf x y) = some (runesBytes y) := by
  obtain ⟨p, s, mx, my, t, e1, _, hp, hpx, _, _, ht, hx, hy⟩ := parts x y
  have hl : x.length = p + (mx.length + t.length) := by
    have := congrArg List.length hx
    simp only [List.length_append, List.length_take] at this
    omega
  rw [e1]
  unfold doOf
  simp only
  rw [if_neg (by omega)]
  have h1 : ((p : Int) + (mx.length : Int)).toNat = p + mx.length := by omega
  rw [h1, ti_nat]
  have h2 : x.drop (p + mx.length) = t := by
    conv => lhs; rw [hx]
    rw [List.drop_append, List.drop_append]
    simp [Nat.min_eq_left hpx]
  rw [h2, ← rb_append, ← rb_append, List.append_assoc, ← hy]
theorem vals_app_l {x y : List Int} (h : vals (x ++ y)) : vals x := fun v hv => h v (List.mem_append_left _ hv)
theorem vals_app_r {x y : List Int} (h : vals (x ++ y)) : vals y := fun v hv => h v (List.mem_append_right _ hv)
theorem ed_back (x y : List Int) (hy : vals y) : (edOf y x).at_ = (edOf x y).at_ ∧ ∃ m, charsF (edOf x y).ins = some m ∧ (edOf y x).del = (m.length : Int) := by
  obtain ⟨p, s, mx, my, t, e1, e2, _, _, _, _, _, hx, hy'⟩ := parts x y
  rw [e1, e2]
  refine ⟨rfl, my, ?_, rfl⟩
  rw [hy'] at hy
  exact bytes_charsF (vals_app_l (vals_app_r hy))
theorem drop_end (A T : List Int) (k : Nat) (h : k ≤ T.length) : (A ++ T).drop ((A ++ T).length - k) = T.drop (T.length - k) := by
  rw [show (A ++ T).length - k = A.length + (T.length - k) from by simp; omega, ← List.drop_drop, List.drop_left]
/-- No change to a text that a change makes is longer than that change. -/
theorem ed_min (x z : List Int) (n m : Nat) (hn : n + m ≤ x.length) : (edOf x (x.take n ++ z ++ x.drop (n + m))).del ≤ (m : Int) ∧ (edOf x (x.take n ++ z ++ x.drop (n + m))).ins.size ≤ (runesBytes z).size := by
  generalize hU : x.take n ++ z ++ x.drop (n + m) = U
  have lU : U.length = n + z.length + (x.length - (n + m)) := by
    rw [← hU]; simp; omega
  obtain ⟨p, s, mx, my, t, e1, _, hp, hpx, hpU, hs, ht, hx, hy⟩ := parts x U
  rw [e1]
  show (mx.length : Int) ≤ (m : Int) ∧ (runesBytes my).size ≤ (runesBytes z).size
  have lx : x.length = p + (mx.length + t.length) := by
    have := congrArg List.length hx
    simp only [List.length_append, List.length_take] at this
    omega
  have ly : U.length = p + (my.length + t.length) := by
    have := congrArg List.length hy
    simp only [List.length_append, List.length_take] at this
    omega
  have hnp : n ≤ p := by
    rw [hp]
    refine le_pre n x U (by omega) (by omega) ?_
    rw [← hU, List.append_assoc, List.take_append_of_le_length (by simp; omega), List.take_take, Nat.min_self]
  -- the common end
  have hk : ∀ k, k ≤ x.length - (n + m) → k ≤ x.length - p → k ≤ U.length - p → k ≤ s := by
    intro k k1 k2 k3
    rw [hs]
    refine le_sfx (by simp; omega) (by simp; omega) ?_
    rw [List.length_drop, List.length_drop, List.drop_drop, List.drop_drop]
    rw [show p + (x.length - p - k) = x.length - k from by omega, show p + (U.length - p - k) = U.length - k from by omega]
    have a1 := drop_end (x.take (n + m)) (x.drop (n + m)) k (by simp; omega)
    rw [List.take_append_drop] at a1
    have a2 := drop_end (x.take n ++ z) (x.drop (n + m)) k (by simp; omega)
    rw [hU] at a2
    rw [a1, a2]
  -- the bytes
  have hb1 : (runesBytes x).size = (runesBytes (x.take p)).size + ((runesBytes mx).size + (runesBytes t).size) := by
    conv => lhs; rw [hx]
    rw [rb_len, rb_len]
  have hb2 : (runesBytes U).size = (runesBytes (x.take p)).size + ((runesBytes my).size + (runesBytes t).size) := by
    conv => lhs; rw [hy]
    rw [rb_len, rb_len]
  have hb3 : (runesBytes U).size = (runesBytes (x.take n)).size + (runesBytes z).size + (runesBytes (x.drop (n + m))).size := by
    rw [← hU, rb_len, rb_len]
  by_cases c1 : x.length - (n + m) ≤ x.length - p ∧ x.length - (n + m) ≤ U.length - p
  · have h1 := hk _ (Nat.le_refl _) c1.1 c1.2
    refine ⟨by omega, ?_⟩
    -- what goes lies within what the other change takes away
    have hb4 : (runesBytes x).size = (runesBytes (x.take n)).size + ((runesBytes ((x.drop n).take m)).size + (runesBytes (x.drop (n + m))).size) := by
      conv => lhs; rw [← List.take_append_drop n x, ← List.take_append_drop m (x.drop n), List.drop_drop]
      rw [rb_len, rb_len]
    obtain ⟨r, hr⟩ : ∃ r, m = (p - n) + (mx.length + r) := ⟨m - (p - n) - mx.length, by omega⟩
    have hmx : mx = ((x.drop n).drop (p - n)).take mx.length := by
      rw [List.drop_drop, show n + (p - n) = p from by omega]
      conv => rhs; rw [hx]
      rw [List.drop_left' (by rw [List.length_take]; omega), List.take_left' rfl]
    have hmid : (x.drop n).take m = (x.drop n).take (p - n) ++ (mx ++ (((x.drop n).drop (p - n)).drop mx.length).take r) := by
      conv => lhs; rw [hr, List.take_add, List.take_add, ← hmx]
    have hb5 : (runesBytes mx).size ≤ (runesBytes ((x.drop n).take m)).size := by
      rw [hmid, rb_len, rb_len]; omega
    omega
  · by_cases c2 : x.length - p ≤ U.length - p
    · have h1 := hk (x.length - p) (by omega) (Nat.le_refl _) c2
      have h0 : mx = [] := List.length_eq_zero_iff.1 (by omega)
      subst h0
      have hb4 : (runesBytes x).size = (runesBytes (x.take n)).size + ((runesBytes ((x.drop n).take m)).size + (runesBytes (x.drop (n + m))).size) := by
        conv => lhs; rw [← List.take_append_drop n x, ← List.take_append_drop m (x.drop n), List.drop_drop]
        rw [rb_len, rb_len]
      have h9 : (runesBytes ([] : List Int)).size = 0 := rfl
      refine ⟨by simp, ?_⟩
      omega
    · have h1 := hk (U.length - p) (by omega) (by omega) (Nat.le_refl _)
      have h0 : my = [] := List.length_eq_zero_iff.1 (by omega)
      subst h0
      refine ⟨by omega, ?_⟩
      have h9 : (runesBytes ([] : List Int)).size = 0 := rfl
      omega
end Go.Eng
