/- The law DiffDone, func 4. -/
import Derived.Test.YteglopjljejjkaaBDt
import Derived.Test.YteglopjljejjkaaBEdit
set_option linter.unusedVariables false
set_option linter.unusedSimpArgs false
set_option maxRecDepth 100000
set_option maxHeartbeats 4000000
namespace Go.Eng
open Go Go.RowKit Go.Proofs
def edB (a b : ByteArray) : Ed := if a = b then ed0 else edOf (runesL a) (runesL b)
theorem of_b (a b : ByteArray) (ha : (runesL a).length ≤ 100000000) (hb : (runesL b).length ≤ 100000000) : CallV Try.prog 12 [vcs a, vcs b] [] (fun r own' => own' = [] ∧ r = .tup [.agg (edF (edB a b)), vcb (!decide (a = b))]) := by
  refine (of_c a b ha hb).mono ?_
  unfold edB
  rintro r o ⟨h0, ⟨h1, h2⟩ | ⟨h1, h2⟩⟩
  · rw [if_pos h1, decide_eq_true h1]; exact ⟨h0, h2⟩
  · rw [if_neg h1, decide_eq_false h1]; exact ⟨h0, h2⟩
theorem edOf_ok (x y : List Int) (hx : x.length ≤ 10000000) (hy : y.length ≤ 10000000) : EdOk (edOf x y) := by
  obtain ⟨p, s, mx, my, t, e1, _, hp, hpx, hpU, hs, ht, hx', hy'⟩ := parts x y
  have lx : x.length = p + (mx.length + t.length) := by
    have := congrArg List.length hx'
    simp only [List.length_append, List.length_take] at this
    omega
  have ly : y.length = p + (my.length + t.length) := by
    have := congrArg List.length hy'
    simp only [List.length_append, List.length_take] at this
    omega
  rw [e1]
  have := rb_size my
  exact ⟨by show -9223372036854775808 ≤ (p : Int); omega, by show (p : Int) ≤ _; omega, by show _ ≤ (mx.length : Int); omega, by show (mx.length : Int) ≤ _; omega, by show (runesBytes my).size ≤ _; omega⟩
theorem ed0_ok : EdOk ed0 := ⟨by decide, by decide, by decide, by decide, by decide⟩
theorem edB_ok (a b : ByteArray) (hx : (runesL a).length ≤ 10000000) (hy : (runesL b).length ≤ 10000000) : EdOk (edB a b) := by
  unfold edB
  split
  · exact ed0_ok
  · exact edOf_ok _ _ hx hy
theorem edB_ins (a b : ByteArray) (hx : (runesL a).length ≤ 10000000) (hy : (runesL b).length ≤ 10000000) : (edB a b).ins.size ≤ 100000000 := by
  unfold edB
  split
  · show 0 ≤ _; omega
  · obtain ⟨p, s, mx, my, t, e1, _, hp, hpx, hpU, hs, ht, hx', hy'⟩ := parts (runesL a) (runesL b)
    have ly : (runesL b).length = p + (my.length + t.length) := by
      have := congrArg List.length hy'
      simp only [List.length_append, List.length_take] at this
      omega
    rw [e1]
    have := rb_size my
    show (runesBytes my).size ≤ _
    omega
theorem do_0 (x : List Int) : doOf x ed0 = some (runesBytes x) := by
  unfold doOf ed0
  rw [if_neg (by simp)]
  simp
  apply ba_ext
  rw [ByteArray.data_append, ByteArray.data_append, Array.toList_append, Array.toList_append]
  rfl
theorem do_b (a b : ByteArray) (ha : charsF a = some (runesL a)) (hb : charsF b = some (runesL b)) : doOf (runesL a) (edB a b) = some b := by
  unfold edB
  split
  · rename_i e
    rw [do_0, (charsF_bytes ha).1, e]
  · rw [do_ed, (charsF_bytes hb).1]
theorem back_b (a b : ByteArray) (hb : charsF b = some (runesL b)) : (edB b a).at_ = (edB a b).at_ ∧ ∃ m, charsF (edB a b).ins = some m ∧ (edB b a).del = (m.length : Int) := by
  unfold edB
  by_cases e : a = b
  · rw [if_pos e, if_pos e.symm]
    exact ⟨rfl, [], rfl, rfl⟩
  · rw [if_neg e, if_neg (Ne.symm e)]
    exact ed_back _ _ (charsF_bytes hb).2
/-- What a text with any change done is, and how long the change to it. -/
theorem min_b (a u : ByteArray) (n m : Int) (c : ByteArray) (ha : charsF a = some (runesL a)) (hc : charsF c = some (runesL c)) (hu : doOf (runesL a) ⟨n, m, c⟩ = some u) :
    (edB a u).del ≤ m ∧ (edB a u).ins.size ≤ c.size ∧ 0 ≤ m ∧ (runesL u).length ≤ (runesL a).length + (runesL c).length := by
  unfold doOf at hu
  split at hu
  · cases hu
  rename_i hk
  simp only at hk hu
  obtain ⟨n', rfl⟩ : ∃ n' : Nat, n = n' := ⟨n.toNat, by omega⟩
  obtain ⟨m', rfl⟩ : ∃ m' : Nat, m = m' := ⟨m.toNat, by omega⟩
  have hnm : n' + m' ≤ (runesL a).length := by omega
  have hu' := Option.some.inj hu
  have h1 : ((n' : Int) + (m' : Int)).toNat = n' + m' := by omega
  obtain ⟨c1, c2⟩ := charsF_bytes hc
  obtain ⟨a1, a2⟩ := charsF_bytes ha
  rw [ti_nat, h1, ← c1, ← rb_append, ← rb_append] at hu'
  have hv : vals ((runesL a).take n' ++ runesL c ++ (runesL a).drop (n' + m')) := vals_append (vals_append (vals_take a2 _) c2) (vals_drop a2 _)
  have hr : runesL u = (runesL a).take n' ++ runesL c ++ (runesL a).drop (n' + m') := by
    rw [← hu']; exact runesL_chars (bytes_charsF hv)
  refine ⟨?_, ?_, by omega, ?_⟩
  · unfold edB
    split
    · show (0 : Int) ≤ _; omega
    · rw [hr]; exact (ed_min _ _ _ _ hnm).1
  · unfold edB
    split
    · show 0 ≤ _; omega
    · rw [hr]
      have := (ed_min (runesL a) (runesL c) n' m' hnm).2
      rw [c1] at this
      exact this
  · rw [hr]; simp; omega
end Go.Eng
