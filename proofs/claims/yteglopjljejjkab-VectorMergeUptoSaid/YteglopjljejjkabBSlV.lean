/- Package slices at clocks. -/
import Derived.Test.YteglopjljejjkabBVal
set_option linter.unusedVariables false
set_option linter.unusedSimpArgs false
set_option maxRecDepth 100000
set_option maxHeartbeats 4000000
namespace Go.Eng
open Go Go.RowKit Go.Proofs
abbrev ckF (c : Int × Int) : List IC := [vu c.1, vu c.2]
/-- slices.Delete, of an own row. -/
theorem ckDelete (l : List (Int × Int)) (i j : Nat) (hij : i ≤ j) (hj : j ≤ l.length) (hl : l.length ≤ 1000000000) : CallV Try.prog 90 [.c (.row 0), vci .i64 i, vci .i64 j] [some (.row 90 2 l.length fun k => ckF (l.getD k (0, 0)))]
    (fun r own' => r = .c (.row 2) ∧ own' = [none, none, some (.row 90 2 (l.take i ++ l.drop j).length fun k => ckF ((l.take i ++ l.drop j).getD k (0, 0)))]) := by
  refine callV_view 0 rfl (fun h0 => ?_) (fun c hc hc2 => ?_)
  · obtain rfl : l = [] := List.eq_nil_of_length_eq_zero h0
    obtain rfl : j = 0 := by simpa using hj
    obtain rfl : i = 0 := by omega
    show CallV Try.prog 90 [.c (.v (.slice none 0 0)), vci .i64 (0 : Nat), vci .i64 (0 : Nat)] [none] _
    refine callV_own Try.func90 rfl ttok ftok rfl rfl rfl (Nat.le_of_ble_eq_true rfl) rfl ?_
    conv => whnf
    refine ⟨by omega, ?_⟩
    conv => whnf
    refine ⟨⟨rfl, rfl, rfl⟩, ?_⟩
    conv => whnf
    refine ⟨_, nil_row 6 90 2 (fun k => ckF ([].getD k (0, 0))) rfl, ?_⟩
    conv => whnf
    exact ⟨[none, none, some 1], rfl, rfl, rfl, rfl⟩
  show CallV Try.prog 90 [.c (.view 1 2 0 l.length c), vci .i64 i, vci .i64 j] [none, some (.arr 90 2 c l.length fun k => ckF (l.getD k (0, 0)))] _
  refine callV_own Try.func90 rfl ttok ftok rfl rfl rfl (Nat.le_of_ble_eq_true rfl) rfl ?_
  conv => whnf
  refine ⟨⟨by omega, by omega, by omega, by omega⟩, ?_⟩
  conv => whnf
  refine onB_intro (fun h => ?_) (fun h => ?_)
  · have e : (i : Int) = j := by simpa using h
    have e : i = j := by omega
    subst e
    conv => whnf
    refine ⟨_, view_row 6 1 (n := l.length) rfl rfl rfl rfl (Nat.le_refl _) rfl, ?_⟩
    conv => whnf
    refine ⟨[none, none, some 2], rfl, rfl, rfl, ?_⟩
    rw [List.take_append_drop]
    rfl
  have hne : i ≠ j := fun e => by rw [e] at h; simp at h
  conv => whnf
  refine drawV_mix 6 mixed (by kernel_rfl) ttok ftok ?_
  conv => whnf
  refine ⟨⟨by omega, by omega, by omega, by omega⟩, ?_⟩
  conv => whnf
  refine ⟨⟨by omega, by omega, by omega, by omega⟩, ?_⟩
  conv => whnf
  refine ⟨by omega, ⟨by omega, by omega⟩, fun h1 => ?_, fun h1 => absurd h1 (by omega)⟩
  have hlen : (l.take i ++ l.drop j).length = i + (l.length - j) := by rw [List.length_append, List.length_take, List.length_drop]; omega
  have hget : ∀ q, q < (l.take i ++ l.drop j).length → (i ≤ q ∧ (l.take i ++ l.drop j).getD q (0, 0) = l.getD (j + (q - i)) (0, 0)) ∨ (q < i ∧ (l.take i ++ l.drop j).getD q (0, 0) = l.getD q (0, 0)) := fun q hq => by
    rcases Nat.lt_or_ge q i with h2 | h2
    · exact .inr ⟨h2, by rw [List.getD_eq_getElem?_getD, List.getElem?_append_left (by rw [List.length_take]; omega), ← List.getD_eq_getElem?_getD, getD_take _ _ _ _ h2]⟩
    · exact .inl ⟨h2, by rw [List.getD_eq_getElem?_getD, List.getElem?_append_right (by rw [List.length_take]; omega), ← List.getD_eq_getElem?_getD, getD_drop, List.length_take, Nat.min_eq_left (by omega)]⟩
  refine ⟨(l.take i ++ l.drop j).length, fun k => ckF ((l.take i ++ l.drop j).getD k (0, 0)), fun q hq => ?_, ?_⟩
  rotate_left
  · conv => whnf
    refine ⟨⟨by omega, by omega, by omega, by omega⟩, ?_⟩
    conv => whnf
    refine ⟨by omega, (l.take i ++ l.drop j).length, fun k => ckF ((l.take i ++ l.drop j).getD k (0, 0)), fun q hq => .inr ⟨.inl (by omega), hq, rfl⟩, ?_⟩
    conv => whnf
    refine ⟨_, view_row 6 1 (n := (l.take i ++ l.drop j).length) rfl rfl (by omega) (by omega) (by omega) (by omega), ?_⟩
    conv => whnf
    exact ⟨[none, none, some 2], rfl, rfl, rfl, rfl⟩
  · rcases hget q hq with ⟨h2, h3⟩ | ⟨h2, h3⟩
    · refine .inl ⟨by omega, by omega, ?_⟩
      simp only [h3]
      congr 2
      omega
    · exact .inr ⟨.inl (by omega), by omega, by simp only [h3]⟩
/-- slices.Insert of one element, into an own row. -/
theorem ckInsert_get (l : List (Int × Int)) (x : (Int × Int)) (i : Nat) (hi : i ≤ l.length) (q : Nat) : (l.take i ++ x :: l.drop i).getD q (0, 0) = if q < i then l.getD q (0, 0) else if q = i then x else l.getD (q - 1) (0, 0) := by
  split
  · rename_i h
    rw [List.getD_eq_getElem?_getD, List.getElem?_append_left (by rw [List.length_take]; omega), ← List.getD_eq_getElem?_getD, getD_take _ _ _ _ h]
  · rename_i h
    rw [List.getD_eq_getElem?_getD, List.getElem?_append_right (by rw [List.length_take]; omega), ← List.getD_eq_getElem?_getD, List.length_take, Nat.min_eq_left hi]
    split
    · rename_i e
      subst e
      simp
    · rename_i e
      obtain ⟨r, hr⟩ : ∃ r, q - i = r + 1 := ⟨q - i - 1, by omega⟩
      rw [hr, List.getD_cons_succ, getD_drop]
      congr 1
      omega
theorem ckInsert_len (l : List (Int × Int)) (x : (Int × Int)) (i : Nat) (hi : i ≤ l.length) : (l.take i ++ x :: l.drop i).length = l.length + 1 := by
  rw [List.length_append, List.length_cons, List.length_take, List.length_drop]; omega
theorem ckInsert (l : List (Int × Int)) (x : (Int × Int)) (i : Nat) (hi : i ≤ l.length) (hl : l.length ≤ 1000000000) (g : Nat → List IC) (hg : g 0 = ckF x) : CallV Try.prog 91 [.c (.row 0), vci .i64 i, .c (.row 1)] [some (.row 90 2 l.length fun k => ckF (l.getD k (0, 0))), some (.row 90 2 1 g)]
    (fun r own' => r = .c (.row 3) ∧ own' = [none, none, none, some (.row 90 2 (l.take i ++ x :: l.drop i).length fun k => ckF ((l.take i ++ x :: l.drop i).getD k (0, 0)))]) := by
  have hget := ckInsert_get l x i hi
  have hlen := ckInsert_len l x i hi
  have hg0 : ∀ q, q < 1 → g q = ckF x := fun q hq => by
    obtain rfl : q = 0 := by omega
    exact hg
  generalize hl' : l.take i ++ x :: l.drop i = l' at hget hlen
  refine callV_view 0 rfl (fun h0 => ?_) (fun c hc hc2 => ?_)
  · obtain rfl : l = [] := List.eq_nil_of_length_eq_zero h0
    obtain rfl : i = 0 := by simpa using hi
    show CallV Try.prog 91 [.c (.v (.slice none 0 0)), vci .i64 (0 : Nat), .c (.row 1)] [none, some (.row 90 2 1 g)] _
    refine callV_own Try.func91 rfl ttok ftok rfl rfl rfl (Nat.le_of_ble_eq_true rfl) rfl ?_
    conv => whnf
    refine ⟨⟨rfl, rfl, rfl⟩, ?_⟩
    conv => whnf
    refine ⟨by omega, ?_⟩
    conv => whnf
    refine ⟨⟨by omega, by show (0 + 1) * 8 ≤ _; omega⟩, ?_⟩
    conv => whnf
    refine ⟨l'.length, fun k => ckF (l'.getD k (0, 0)), by rw [hlen]; simp, fun k hk => by omega, fun k hk => ?_, ?_⟩
    · obtain rfl : k = 0 := by omega
      rw [hg]
      show ckF (l'.getD (0 + 0) (0, 0)) = _
      rw [hget]
      rfl
    conv => whnf
    refine ⟨_, Weak.refl _, ?_⟩
    conv => whnf
    exact ⟨[none, none, none, some 2], rfl, rfl, rfl, rfl⟩
  show CallV Try.prog 91 [.c (.view 2 2 0 l.length c), vci .i64 i, .c (.row 1)] [none, some (.row 90 2 1 g), some (.arr 90 2 c l.length fun k => ckF (l.getD k (0, 0)))] _
  refine callV_own Try.func91 rfl ttok ftok rfl rfl rfl (Nat.le_of_ble_eq_true rfl) rfl ?_
  conv => whnf
  refine ⟨⟨by omega, by omega, by omega, by omega⟩, ?_⟩
  conv => whnf
  refine onB_intro (fun h => ?_) (fun h => ?_)
  · have e : (i : Int) = l.length := by simpa using h
    have e : i = l.length := by omega
    subst e
    conv => whnf
    refine ⟨trivial, ⟨by omega, by omega⟩, fun h1 => ?_, fun h1 => ?_⟩
    · refine ⟨l'.length, fun k => ckF (l'.getD k (0, 0)), fun q hq => ?_, ?_⟩
      rotate_left
      · conv => whnf
        refine ⟨_, view_row 6 2 (n := l'.length) rfl rfl (by omega) (by omega) (by omega) (by omega), ?_⟩
        conv => whnf
        exact ⟨[none, none, none, some 3], rfl, rfl, rfl, rfl⟩
      · rcases Nat.lt_or_ge q l.length with h2 | h2
        · exact .inr ⟨.inl (by omega), h2, by simp only [hget, if_pos h2]⟩
        · obtain rfl : q = l.length := by omega
          refine .inl ⟨by omega, by omega, ?_⟩
          rw [show l.length - (0 + l.length) = 0 by omega, hg]
          simp only [hget, if_neg (Nat.lt_irrefl _), if_true]
    · refine ⟨⟨by omega, by show (l.length + 1) * 8 ≤ _; omega⟩, fun k => ckF (l'.getD k (0, 0)), fun q hq => by simp only [hget, if_pos hq, Nat.zero_add], fun q hq => ?_, fun cap' hcap => ?_⟩
      · rw [hg0 q hq]
        obtain rfl : q = 0 := by omega
        simp only [Nat.add_zero, hget, if_neg (Nat.lt_irrefl _), if_true]
      · conv => whnf
        refine ⟨_, view_row 6 3 (n := l'.length) rfl rfl rfl (by omega) (by omega) rfl, ?_⟩
        conv => whnf
        exact ⟨[none, none, none, some 4], rfl, rfl, rfl, rfl⟩
  have hne : i < l.length := by
    have : i ≠ l.length := fun e => by rw [e] at h; simp at h
    omega
  clear h
  conv => whnf
  have w1 : IntKind.i64.wrap ((l.length : Int) + (1 : Nat)) = (l.length : Int) + (1 : Nat) := w_i64 (by omega) (by omega)
  have w2 : IntKind.i64.wrap ((l.length : Int) + (1 : Nat) - i) = ((l.length + 1 - i : Nat) : Int) := by rw [w_i64 (by omega) (by omega)]; omega
  have w3 : IntKind.i64.wrap ((i : Int) + (1 : Nat)) = ((i + 1 : Nat) : Int) := by rw [w_i64 (by omega) (by omega)]; omega
  refine onB_intro (fun h => ?_) (fun h => ?_)
  · have h := of_decide_eq_true h
    rw [w1] at h
    conv => whnf
    refine ⟨⟨by omega, by omega, by omega, by omega⟩, ?_⟩
    conv => whnf
    rw [w1, w2]
    refine ⟨by omega, ⟨by omega, by omega, by omega, by show _ * (((8 : Nat)) : Int) ≤ _; omega⟩, fun q => if q < i then ckF (l.getD q (0, 0)) else [vu 0, vu 0], fun q hq => ?_, fun q hq => ?_, fun cap' hcap => ?_⟩
    · dsimp only
      rw [if_pos (by omega), show 0 + Int.toNat 0 + q = q from by omega]
    · dsimp only
      rw [if_neg (by omega)]; rfl
    conv => whnf
    refine ⟨⟨by omega, by omega, by omega, by omega⟩, ?_⟩
    conv => whnf
    refine ⟨trivial, by omega, l.length + 1, fun q => if q < i then ckF (l.getD q (0, 0)) else if q = i then ckF x else [vu 0, vu 0], fun q hq => ?_, ?_⟩
    · rcases Nat.lt_trichotomy q i with h2 | h2 | h2
      · exact .inr ⟨.inl (by omega), by omega, by dsimp only; rw [if_pos h2, if_pos h2]⟩
      · subst h2
        exact .inl ⟨by omega, by omega, by dsimp only; rw [if_neg (Nat.lt_irrefl _), if_pos rfl, hg0 _ (by omega)]⟩
      · exact .inr ⟨.inr (by omega), by omega, by dsimp only; rw [if_neg (by omega), if_neg (by omega), if_neg (by omega)]⟩
    conv => whnf
    refine drawV_mix 8 mixed (by kernel_rfl) ttok ftok ?_
    conv => whnf
    rw [w3]
    refine ⟨⟨by omega, by omega, by omega, by omega⟩, ?_⟩
    conv => whnf
    refine ⟨⟨by omega, by omega, by omega, by omega⟩, ?_⟩
    conv => whnf
    refine ⟨by omega, by omega, l'.length, fun k => ckF (l'.getD k (0, 0)), fun q hq => ?_, ?_⟩
    · rcases Nat.lt_trichotomy q i with h2 | h2 | h2
      · exact .inr ⟨.inl (by omega), by omega, by simp only [hget, if_pos h2]⟩
      · subst h2
        exact .inr ⟨.inl (by omega), by omega, by simp only [hget, if_neg (Nat.lt_irrefl _), if_true]⟩
      · refine .inl ⟨by omega, by omega, ?_⟩
        simp only [hget, if_neg (show ¬ q < i by omega), if_neg (show ¬ q = i by omega)]
        congr 2
        omega
    conv => whnf
    refine ⟨_, view_row 6 3 (n := l'.length) rfl rfl (by omega) (by omega) (by omega) (by omega), ?_⟩
    conv => whnf
    exact ⟨[none, none, none, some 4], rfl, rfl, rfl, rfl⟩
  · have h := of_decide_eq_false h
    rw [w1] at h
    conv => whnf
    rw [w1]
    refine ⟨⟨by omega, by omega, by omega, by omega⟩, ?_⟩
    conv => whnf
    rw [w3]
    refine ⟨⟨by omega, by omega, by omega, by omega⟩, ?_⟩
    conv => whnf
    refine ext_overlaps (t := 22) (r := 4) (ti := ti90) Try.func110 (by kernel_rfl) rfl (by kernel_rfl) (by kernel_rfl) tf90 Try.underlying22 (apart_row_view (by decide) rfl rfl (by omega) (by omega) (by omega) (by decide)) ?_
    conv => whnf
    refine drawV_mix 8 mixed (by kernel_rfl) ttok ftok ?_
    conv => whnf
    rw [w3]
    refine ⟨⟨by omega, by omega, by omega, by omega⟩, ?_⟩
    conv => whnf
    refine ⟨⟨by omega, by omega, by omega, by omega⟩, ?_⟩
    conv => whnf
    refine ⟨by omega, by omega, l'.length, fun q => if q < i + 1 then ckF (l.getD q (0, 0)) else ckF (l.getD (q - 1) (0, 0)), fun q hq => ?_, ?_⟩
    · rcases Nat.lt_or_ge q (i + 1) with h2 | h2
      · exact .inr ⟨.inl (by omega), by omega, by dsimp only; rw [if_pos h2]⟩
      · refine .inl ⟨by omega, by omega, ?_⟩
        dsimp only
        rw [if_neg (by omega)]
        congr 2
        omega
    conv => whnf
    refine ⟨⟨by omega, by omega, by omega, by omega⟩, ?_⟩
    conv => whnf
    refine ⟨trivial, by omega, l'.length, fun k => ckF (l'.getD k (0, 0)), fun q hq => ?_, ?_⟩
    · rcases Nat.lt_trichotomy q i with h2 | h2 | h2
      · exact .inr ⟨.inl (by omega), by omega, by dsimp only; rw [hget, if_pos h2, if_pos (by omega)]⟩
      · subst h2
        exact .inl ⟨by omega, by omega, by dsimp only; rw [hget, if_neg (Nat.lt_irrefl _), if_pos rfl, hg0 _ (by omega)]⟩
      · exact .inr ⟨.inr (by omega), by omega, by dsimp only; rw [hget, if_neg (by omega), if_neg (by omega), if_neg (by omega)]⟩
    conv => whnf
    refine ⟨_, view_row 6 2 (n := l'.length) rfl rfl (by omega) (by omega) (by omega) (by omega), ?_⟩
    conv => whnf
    exact ⟨[none, none, none, some 3], rfl, rfl, rfl, rfl⟩
end Go.Eng
