/- A part of the proof: what the functions of the program come to, told by a small reckoner of states. -/
import Derived.Test.YteglopjljejjkacGBTyTBPndS
/- Package slices at clocks. -/
set_option linter.unusedVariables false
set_option linter.unusedSimpArgs false
set_option maxRecDepth 100000
set_option maxHeartbeats 4000000
namespace Go.Eng
open Go Go.RowKit Go.Proofs
abbrev ckF (c : Int × Int) : List IC := [vu c.1, vu c.2]
/-- slices.Delete, of an own row. -/
theorem ckDelete (l : List (Int × Int)) (i j : Nat) (hij : i ≤ j) (hj : j ≤ l.length) (hl : l.length ≤ 1000000000) : CallV Try.prog 93 [.c (.row 0), vci .i64 i, vci .i64 j] [some (.row 115 2 l.length fun k => ckF (l.getD k (0, 0)))]
    (fun r own' => r = .c (.row 2) ∧ own' = [none, none, some (.row 115 2 (l.take i ++ l.drop j).length fun k => ckF ((l.take i ++ l.drop j).getD k (0, 0)))]) := by
  refine callV_view 0 rfl (fun h0 => ?_) (fun c hc hc2 => ?_)
  · obtain rfl : l = [] := List.eq_nil_of_length_eq_zero h0
    obtain rfl : j = 0 := by simpa using hj
    obtain rfl : i = 0 := by omega
    show CallV Try.prog 93 [.c (.v (.slice none 0 0)), vci .i64 (0 : Nat), vci .i64 (0 : Nat)] [none] _
    refine callV_own Try.func93 rfl ttok ftok rfl rfl rfl (Nat.le_of_ble_eq_true rfl) rfl ?_
    conv => whnf
    refine ⟨by omega, ?_⟩
    conv => whnf
    refine ⟨⟨rfl, rfl, rfl⟩, ?_⟩
    conv => whnf
    refine ⟨_, nil_row 6 115 2 (fun k => ckF ([].getD k (0, 0))) rfl, ?_⟩
    conv => whnf
    exact ⟨[none, none, some 1], rfl, rfl, rfl, rfl⟩
  show CallV Try.prog 93 [.c (.view 1 2 0 l.length c), vci .i64 i, vci .i64 j] [none, some (.arr 115 2 c l.length fun k => ckF (l.getD k (0, 0)))] _
  refine callV_own Try.func93 rfl ttok ftok rfl rfl rfl (Nat.le_of_ble_eq_true rfl) rfl ?_
  conv => whnf
  refine ⟨⟨by omega, by omega, by omega, by omega⟩, ?_⟩
  conv => whnf
  refine onB_intro (fun h => ?_) (fun h => ?_)
  · have e : (i : Int) = j := by simpa using h
    have e : i = j := by omega
    subst e
    conv => whnf
    refine ⟨_, view_row 6 1 (n := l.length) rfl rfl rfl rfl (Nat.le_refl _) rfl, ?_⟩
    conv => whnf
    refine ⟨[none, none, some 2], rfl, rfl, rfl, ?_⟩
    rw [List.take_append_drop]
    rfl
  have hne : i ≠ j := fun e => by rw [e] at h; simp at h
  conv => whnf
  refine drawV_mix 6 mixed (by kernel_rfl) ttok ftok ?_
  conv => whnf
  refine ⟨⟨by omega, by omega, by omega, by omega⟩, ?_⟩
  conv => whnf
  refine ⟨⟨by omega, by omega, by omega, by omega⟩, ?_⟩
  conv => whnf
  refine ⟨by omega, ⟨by omega, by omega⟩, fun h1 => ?_, fun h1 => absurd h1 (by omega)⟩
  have hlen : (l.take i ++ l.drop j).length = i + (l.length - j) := by rw [List.length_append, List.length_take, List.length_drop]; omega
  have hget : ∀ q, q < (l.take i ++ l.drop j).length → (i ≤ q ∧ (l.take i ++ l.drop j).getD q (0, 0) = l.getD (j + (q - i)) (0, 0)) ∨ (q < i ∧ (l.take i ++ l.drop j).getD q (0, 0) = l.getD q (0, 0)) := fun q hq => by
    rcases Nat.lt_or_ge q i with h2 | h2
    · exact .inr ⟨h2, by rw [List.getD_eq_getElem?_getD, List.getElem?_append_left (by rw [List.length_take]; omega), ← List.getD_eq_getElem?_getD, getD_take _ _ _ _ h2]⟩
    · exact .inl ⟨h2, by rw [List.getD_eq_getElem?_getD, List.getElem?_append_right (by rw [List.length_take]; omega), ← List.getD_eq_getElem?_getD, getD_drop, List.length_take, Nat.min_eq_left (by omega)]⟩
  refine ⟨(l.take i ++ l.drop j).length, fun k => ckF ((l.take i ++ l.drop j).getD k (0, 0)), fun q hq => ?_, ?_⟩
  rotate_left
  · conv => whnf
    refine ⟨⟨by omega, by omega, by omega, by omega⟩, ?_⟩
    conv => whnf
    refine ⟨by omega, (l.take i ++ l.drop j).length, fun k => ckF ((l.take i ++ l.drop j).getD k (0, 0)), fun q hq => .inr ⟨.inl (by omega), hq, rfl⟩, ?_⟩
    conv => whnf
    refine ⟨_, view_row 6 1 (n := (l.take i ++ l.drop j).length) rfl rfl (by omega) (by omega) (by omega) (by omega), ?_⟩
    conv => whnf
    exact ⟨[none, none, some 2], rfl, rfl, rfl, rfl⟩
  · rcases hget q hq with ⟨h2, h3⟩ | ⟨h2, h3⟩
    · refine .inl ⟨by omega, by omega, ?_⟩
      simp only [h3]
      congr 2
      omega
    · exact .inr ⟨.inl (by omega), by omega, by simp only [h3]⟩
/-- slices.Insert of one element, into an own row. -/
theorem ckInsert_get (l : List (Int × Int)) (x : (Int × Int)) (i : Nat) (hi : i ≤ l.length) (q : Nat) : (l.take i ++ x :: l.drop i).getD q (0, 0) = if q < i then l.getD q (0, 0) else if q = i then x else l.getD (q - 1) (0, 0) := by
  split
  · rename_i h
    rw [List.getD_eq_getElem?_getD, List.getElem?_append_left (by rw [List.length_take]; omega), ← List.getD_eq_getElem?_getD, getD_take _ _ _ _ h]
  · rename_i h
    rw [List.getD_eq_getElem?_getD, List.getElem?_append_right (by rw [List.length_take]; omega), ← List.getD_eq_getElem?_getD, List.length_take, Nat.min_eq_left hi]
    split
    · rename_i e
      subst e
      simp
    · rename_i e
      obtain ⟨r, hr⟩ : ∃ r, q - i = r + 1 := ⟨q - i - 1, by omega⟩
      rw [hr, List.getD_cons_succ, getD_drop]
      congr 1
      omega
theorem ckInsert_len (l : List (Int × Int)) (x : (Int × Int)) (i : Nat) (hi : i ≤ l.length) : (l.take i ++ x :: l.drop i).length = l.length + 1 := by
  rw [List.length_append, List.length_cons, List.length_take, List.length_drop]; omega
theorem ckInsert (l : List (Int × Int)) (x : (Int × Int)) (i : Nat) (hi : i ≤ l.length) (hl : l.length ≤ 1000000000) (g : Nat → List IC) (hg : g 0 = ckF x) : CallV Try.prog 94 [.c (.row 0), vci .i64 i, .c (.row 1)] [some (.row 115 2 l.length fun k => ckF (l.getD k (0, 0))), some (.row 115 2 1 g)]
    (fun r own' => r = .c (.row 3) ∧ own' = [none, none, none, some (.row 115 2 (l.take i ++ x :: l.drop i).length fun k => ckF ((l.take i ++ x :: l.drop i).getD k (0, 0)))]) := by
  have hget := ckInsert_get l x i hi
  have hlen := ckInsert_len l x i hi
  have hg0 : ∀ q, q < 1 → g q = ckF x := fun q hq => by
    obtain rfl : q = 0 := by omega
    exact hg
  generalize hl' : l.take i ++ x :: l.drop i = l' at hget hlen
  refine callV_view 0 rfl (fun h0 => ?_) (fun c hc hc2 => ?_)
  · obtain rfl : l = [] := List.eq_nil_of_length_eq_zero h0
    obtain rfl : i = 0 := by simpa using hi
    show CallV Try.prog 94 [.c (.v (.slice none 0 0)), vci .i64 (0 : Nat), .c (.row 1)] [none, some (.row 115 2 1 g)] _
    refine callV_own Try.func94 rfl ttok ftok rfl rfl rfl (Nat.le_of_ble_eq_true rfl) rfl ?_
    conv => whnf
    refine ⟨⟨rfl, rfl, rfl⟩, ?_⟩
    conv => whnf
    refine ⟨by omega, ?_⟩
    conv => whnf
    refine ⟨⟨by omega, by show (0 + 1) * 8 ≤ _; omega⟩, ?_⟩
    conv => whnf
    refine ⟨l'.length, fun k => ckF (l'.getD k (0, 0)), by rw [hlen]; simp, fun k hk => by omega, fun k hk => ?_, ?_⟩
    · obtain rfl : k = 0 := by omega
      rw [hg]
      show ckF (l'.getD (0 + 0) (0, 0)) = _
      rw [hget]
      rfl
    conv => whnf
    refine ⟨_, Weak.refl _, ?_⟩
    conv => whnf
    exact ⟨[none, none, none, some 2], rfl, rfl, rfl, rfl⟩
  show CallV Try.prog 94 [.c (.view 2 2 0 l.length c), vci .i64 i, .c (.row 1)] [none, some (.row 115 2 1 g), some (.arr 115 2 c l.length fun k => ckF (l.getD k (0, 0)))] _
  refine callV_own Try.func94 rfl ttok ftok rfl rfl rfl (Nat.le_of_ble_eq_true rfl) rfl ?_
  conv => whnf
  refine ⟨⟨by omega, by omega, by omega, by omega⟩, ?_⟩
  conv => whnf
  refine onB_intro (fun h => ?_) (fun h => ?_)
  · have e : (i : Int) = l.length := by simpa using h
    have e : i = l.length := by omega
    subst e
    conv => whnf
    refine ⟨trivial, ⟨by omega, by omega⟩, fun h1 => ?_, fun h1 => ?_⟩
    · refine ⟨l'.length, fun k => ckF (l'.getD k (0, 0)), fun q hq => ?_, ?_⟩
      rotate_left
      · conv => whnf
        refine ⟨_, view_row 6 2 (n := l'.length) rfl rfl (by omega) (by omega) (by omega) (by omega), ?_⟩
        conv => whnf
        exact ⟨[none, none, none, some 3], rfl, rfl, rfl, rfl⟩
      · rcases Nat.lt_or_ge q l.length with h2 | h2
        · exact .inr ⟨.inl (by omega), h2, by simp only [hget, if_pos h2]⟩
        · obtain rfl : q = l.length := by omega
          refine .inl ⟨by omega, by omega, ?_⟩
          rw [show l.length - (0 + l.length) = 0 by omega, hg]
          simp only [hget, if_neg (Nat.lt_irrefl _), if_true]
    · refine ⟨⟨by omega, by show (l.length + 1) * 8 ≤ _; omega⟩, fun k => ckF (l'.getD k (0, 0)), fun q hq => by simp only [hget, if_pos hq, Nat.zero_add], fun q hq => ?_, fun cap' hcap => ?_⟩
      · rw [hg0 q hq]
        obtain rfl : q = 0 := by omega
        simp only [Nat.add_zero, hget, if_neg (Nat.lt_irrefl _), if_true]
      · conv => whnf
        refine ⟨_, view_row 6 3 (n := l'.length) rfl rfl rfl (by omega) (by omega) rfl, ?_⟩
        conv => whnf
        exact ⟨[none, none, none, some 4], rfl, rfl, rfl, rfl⟩
  have hne : i < l.length := by
    have : i ≠ l.length := fun e => by rw [e] at h; simp at h
    omega
  clear h
  conv => whnf
  have w1 : IntKind.i64.wrap ((l.length : Int) + (1 : Nat)) = (l.length : Int) + (1 : Nat) := w_i64 (by omega) (by omega)
  have w2 : IntKind.i64.wrap ((l.length : Int) + (1 : Nat) - i) = ((l.length + 1 - i : Nat) : Int) := by rw [w_i64 (by omega) (by omega)]; omega
  have w3 : IntKind.i64.wrap ((i : Int) + (1 : Nat)) = ((i + 1 : Nat) : Int) := by rw [w_i64 (by omega) (by omega)]; omega
  refine onB_intro (fun h => ?_) (fun h => ?_)
  · have h := of_decide_eq_true h
    rw [w1] at h
    conv => whnf
    refine ⟨⟨by omega, by omega, by omega, by omega⟩, ?_⟩
    conv => whnf
    rw [w1, w2]
    refine ⟨by omega, ⟨by omega, by omega, by omega, by show _ * (((8 : Nat)) : Int) ≤ _; omega⟩, fun q => if q < i then ckF (l.getD q (0, 0)) else [vu 0, vu 0], fun q hq => ?_, fun q hq => ?_, fun cap' hcap => ?_⟩
    · dsimp only
      rw [if_pos (by omega), show 0 + Int.toNat 0 + q = q from by omega]
    · dsimp only
      rw [if_neg (by omega)]; rfl
    conv => whnf
    refine ⟨⟨by omega, by omega, by omega, by omega⟩, ?_⟩
    conv => whnf
    refine ⟨trivial, by omega, l.length + 1, fun q => if q < i then ckF (l.getD q (0, 0)) else if q = i then ckF x else [vu 0, vu 0], fun q hq => ?_, ?_⟩
    · rcases Nat.lt_trichotomy q i with h2 | h2 | h2
      · exact .inr ⟨.inl (by omega), by omega, by dsimp only; rw [if_pos h2, if_pos h2]⟩
      · subst h2
        exact .inl ⟨by omega, by omega, by dsimp only; rw [if_neg (Nat.lt_irrefl _), if_pos rfl, hg0 _ (by omega)]⟩
      · exact .inr ⟨.inr (by omega), by omega, by dsimp only; rw [if_neg (by omega), if_neg (by omega), if_neg (by omega)]⟩
    conv => whnf
    refine drawV_mix 8 mixed (by kernel_rfl) ttok ftok ?_
    conv => whnf
    rw [w3]
    refine ⟨⟨by omega, by omega, by omega, by omega⟩, ?_⟩
    conv => whnf
    refine ⟨⟨by omega, by omega, by omega, by omega⟩, ?_⟩
    conv => whnf
    refine ⟨by omega, by omega, l'.length, fun k => ckF (l'.getD k (0, 0)), fun q hq => ?_, ?_⟩
    · rcases Nat.lt_trichotomy q i with h2 | h2 | h2
      · exact .inr ⟨.inl (by omega), by omega, by simp only [hget, if_pos h2]⟩
      · subst h2
        exact .inr ⟨.inl (by omega), by omega, by simp only [hget, if_neg (Nat.lt_irrefl _), if_true]⟩
      · refine .inl ⟨by omega, by omega, ?_⟩
        simp only [hget, if_neg (show ¬ q < i by omega), if_neg (show ¬ q = i by omega)]
        congr 2
        omega
    conv => whnf
    refine ⟨_, view_row 6 3 (n := l'.length) rfl rfl (by omega) (by omega) (by omega) (by omega), ?_⟩
    conv => whnf
    exact ⟨[none, none, none, some 4], rfl, rfl, rfl, rfl⟩
  · have h := of_decide_eq_false h
    rw [w1] at h
    conv => whnf
    rw [w1]
    refine ⟨⟨by omega, by omega, by omega, by omega⟩, ?_⟩
    conv => whnf
    rw [w3]
    refine ⟨⟨by omega, by omega, by omega, by omega⟩, ?_⟩
    conv => whnf
    refine ext_overlaps (t := 71) (r := 4) (ti := ti115) Try.func119 (by kernel_rfl) rfl (by kernel_rfl) (by kernel_rfl) tf115 Try.underlying71 (apart_row_view (by decide) rfl rfl (by omega) (by omega) (by omega) (by decide)) ?_
    conv => whnf
    refine drawV_mix 8 mixed (by kernel_rfl) ttok ftok ?_
    conv => whnf
    rw [w3]
    refine ⟨⟨by omega, by omega, by omega, by omega⟩, ?_⟩
    conv => whnf
    refine ⟨⟨by omega, by omega, by omega, by omega⟩, ?_⟩
    conv => whnf
    refine ⟨by omega, by omega, l'.length, fun q => if q < i + 1 then ckF (l.getD q (0, 0)) else ckF (l.getD (q - 1) (0, 0)), fun q hq => ?_, ?_⟩
    · rcases Nat.lt_or_ge q (i + 1) with h2 | h2
      · exact .inr ⟨.inl (by omega), by omega, by dsimp only; rw [if_pos h2]⟩
      · refine .inl ⟨by omega, by omega, ?_⟩
        dsimp only
        rw [if_neg (by omega)]
        congr 2
        omega
    conv => whnf
    refine ⟨⟨by omega, by omega, by omega, by omega⟩, ?_⟩
    conv => whnf
    refine ⟨trivial, by omega, l'.length, fun k => ckF (l'.getD k (0, 0)), fun q hq => ?_, ?_⟩
    · rcases Nat.lt_trichotomy q i with h2 | h2 | h2
      · exact .inr ⟨.inl (by omega), by omega, by dsimp only; rw [hget, if_pos h2, if_pos (by omega)]⟩
      · subst h2
        exact .inl ⟨by omega, by omega, by dsimp only; rw [hget, if_neg (Nat.lt_irrefl _), if_pos rfl, hg0 _ (by omega)]⟩
      · exact .inr ⟨.inr (by omega), by omega, by dsimp only; rw [hget, if_neg (by omega), if_neg (by omega), if_neg (by omega)]⟩
    conv => whnf
    refine ⟨_, view_row 6 2 (n := l'.length) rfl rfl (by omega) (by omega) (by omega) (by omega), ?_⟩
    conv => whnf
    exact ⟨[none, none, none, some 3], rfl, rfl, rfl, rfl⟩
end Go.Eng
/- Package slices at clocks: reading functions. -/
set_option linter.unusedVariables false
set_option linter.unusedSimpArgs false
set_option maxRecDepth 100000
set_option maxHeartbeats 4000000
namespace Go.Eng
open Go Go.RowKit Go.Proofs
/-- slices.Clone. -/
theorem ckClone (l : List (Int × Int)) (hl : l.length ≤ 1000000000) : CallV Try.prog 65 [.c (.sl 2 l.length fun k => ckF (l.getD k (0, 0)))] []
    (fun r own' => r = .c (.row 0) ∧ own' = [some (.row 115 2 l.length fun k => ckF (l.getD k (0, 0)))]) := by
  refine callV_own Try.func65 rfl ttok ftok rfl rfl rfl (Nat.le_of_ble_eq_true rfl) rfl ?_
  conv => whnf
  intro b hb
  cases b with
  | true =>
    have h0 := hb rfl
    obtain rfl : l = [] := List.eq_nil_of_length_eq_zero h0
    conv => whnf
    refine ⟨_, nil_row 2 115 2 (fun k => ckF (([] : List (Int × Int)).getD k (0, 0))) rfl, ?_⟩
    conv => whnf
    exact ⟨[some 0], rfl, rfl, rfl, rfl⟩
  | false =>
    clear hb
    conv => whnf
    refine ⟨⟨by omega, by show (0 + l.length) * 8 ≤ _; omega⟩, ?_⟩
    conv => whnf
    refine ⟨l.length, fun k => ckF (l.getD k (0, 0)), by omega, fun k hk => by omega, fun k hk => by rw [Nat.zero_add], ?_⟩
    conv => whnf
    refine ⟨_, Weak.refl _, ?_⟩
    conv => whnf
    exact ⟨[some 1], rfl, rfl, rfl, rfl⟩
/-- slices.BinarySearchFunc. -/
def ckSearchI (O : List (Option Ob)) (l : List (Int × Int)) (ta : AV) (c : (Int × Int) → Int) (caps : List (Bool × List IC)) (m : Nat) (st : St) : Prop := ∃ i j : Nat, m = j - i ∧ i ≤ j ∧ j ≤ l.length ∧ (i = 0 ∨ c (l.getD (i - 1) (0, 0)) < 0) ∧ (j = l.length ∨ 0 ≤ c (l.getD j (0, 0))) ∧
  st = ⟨49, O.length, [(0, .c (.sl 2 l.length fun k => ckF (l.getD k (0, 0)))), (1, ta), (2, .c (.fn 107 caps)), (8, vci .i64 l.length), (9, vci .i64 (i : Int)), (10, vci .i64 (j : Int))], O⟩
theorem ckSearch (O : List (Option Ob)) (l : List (Int × Int)) (hl : l.length ≤ 1000000000) (caps : List (Bool × List IC)) (t : Int) (c : (Int × Int) → Int)
    (hp : ∀ k, k < l.length → CallV Try.prog 107 (.agg (ckF (l.getD k (0, 0))) :: (vci .u32 t) :: capsA caps) O (fun r own' => r = vci .i64 (c (l.getD k (0, 0))) ∧ own' = O)) :
    CallV Try.prog 106 [.c (.sl 2 l.length fun k => ckF (l.getD k (0, 0))), vci .u32 t, .c (.fn 107 caps)] O (fun r own' => ∃ i : Nat, i ≤ l.length ∧ (i = 0 ∨ c (l.getD (i - 1) (0, 0)) < 0) ∧ (i = l.length ∨ 0 ≤ c (l.getD i (0, 0))) ∧
      r = .tup [vci .i64 i, vcb (decide (i < l.length ∧ c (l.getD i (0, 0)) = 0))] ∧ own' = O) := by
  refine callV_same Try.func106 rfl ttok ftok rfl rfl rfl (Nat.le_of_ble_eq_true rfl) ?_
  conv => whnf
  refine loopV ttok ftok (ckSearchI O l (vci .u32 t) c caps) (env_weak [0, 1, 2, 8, 9, 10] rfl) ⟨0, l.length, rfl, Nat.zero_le _, Nat.le_refl _, .inl rfl, .inl rfl, rfl⟩ ?_
  rintro m st ⟨i, j, rfl, hij, hj, h1, h2, rfl⟩
  conv => whnf
  refine onB_intro (fun h => ?_) (fun h => ?_)
  · have h := of_decide_eq_true h
    have hw : IntKind.i64.wrap (IntKind.u64.wrap (IntKind.i64.wrap ((i : Int) + j)) / 2 ^ Int.toNat 1) = (((i + j) / 2 : Nat) : Int) := by
      rw [w_i64 (x := (i : Int) + j) (by omega) (by omega), w_u64, show (2 : Int) ^ Int.toNat 1 = 2 from rfl, w_i64 (by omega) (by omega)]
      omega
    conv => whnf
    refine ⟨⟨by omega, by decide⟩, ?_⟩
    conv => whnf
    rw [forceL_eq]
    conv => whnf
    rw [hw]
    refine ⟨⟨by omega, by omega⟩, ?_⟩
    conv => whnf
    refine (hp ((i + j) / 2) (by omega)).mono ?_
    rintro r own2 ⟨rfl, rfl⟩
    conv => whnf
    refine onB_intro (fun h3 => ?_) (fun h3 => ?_)
    · have h3 := of_decide_eq_true h3
      conv => whnf
      refine ⟨j - ((i + j) / 2 + 1), _, by omega, env_weak [0, 1, 2, 8, 9, 10] rfl, (i + j) / 2 + 1, j, rfl, by omega, hj, .inr (by rw [Nat.add_sub_cancel]; exact h3), h2, ?_⟩
      rw [show ((((i + j) / 2 + 1 : Nat)) : Int) = IntKind.i64.wrap ((((i + j) / 2 : Nat) : Int) + 1) from by rw [w_i64 (by omega) (by omega)]; omega, ← hw]
      all_goals rfl
    · have h3 := of_decide_eq_false h3
      conv => whnf
      refine ⟨(i + j) / 2 - i, _, by omega, env_weak [0, 1, 2, 8, 9, 10] rfl, i, (i + j) / 2, rfl, by omega, by omega, h1, .inr (by omega), ?_⟩
      rw [← hw]
      all_goals rfl
  · have h := of_decide_eq_false h
    obtain rfl : i = j := by omega
    conv => whnf
    by_cases h3 : i < l.length
    · rw [show decide ((i : Int) < (l.length : Int)) = true from decide_eq_true (by omega)]
      conv => whnf
      rw [forceL_eq]
      conv => whnf
      refine ⟨⟨by omega, by omega⟩, ?_⟩
      conv => whnf
      refine (hp i (by omega)).mono ?_
      rintro r own2 ⟨rfl, rfl⟩
      conv => whnf
      refine ⟨_, Weak.refl _, ?_⟩
      conv => whnf
      refine ⟨i, hj, h1, h2, ?_, rfl⟩
      rw [show decide (i < l.length ∧ c (l.getD i (0, 0)) = 0) = (c (l.getD i (0, 0)) == 0) from by rw [Bool.eq_iff_iff]; simp [h3]]
      all_goals rfl
    · rw [show decide ((i : Int) < (l.length : Int)) = false from decide_eq_false (by omega)]
      conv => whnf
      refine ⟨_, Weak.refl _, ?_⟩
      conv => whnf
      refine ⟨i, hj, h1, h2, ?_, rfl⟩
      rw [show decide (i < l.length ∧ c (l.getD i (0, 0)) = 0) = false from decide_eq_false (by omega)]
      all_goals rfl
end Go.Eng
/- Package vector. -/
set_option linter.unusedVariables false
set_option linter.unusedSimpArgs false
set_option maxRecDepth 100000
set_option maxHeartbeats 4000000
namespace Go.Eng
open Go Go.RowKit Go.Proofs
abbrev ckR (l : CV) (k : Nat) : List IC := ckF (l.getD k (0, 0))
abbrev ckS (l : CV) : AV := .c (.sl 2 l.length (ckR l))
def cmpI (x y : Int) : Int := if x < y then -1 else if y < x then 1 else 0
theorem isnan_c (x : Int) : CallV Try.prog 118 [vci .u32 x] [] (fun r own' => own' = [] ∧ r = vcb false) := by
  refine callV_pure Try.func118 rfl ttok ftok rfl rfl rfl (Nat.le_of_ble_eq_true rfl) ?_
  conv => whnf
  show vcb (x != x) = _
  simp
theorem cmpU_c (x y : Int) : CallV Try.prog 92 [vci .u32 x, vci .u32 y] [] (fun r own' => own' = [] ∧ r = vci .i64 (cmpI x y)) := by
  refine callV_pure Try.func92 rfl ttok ftok rfl rfl rfl (Nat.le_of_ble_eq_true rfl) ?_
  conv => whnf
  refine call_pure (isnan_c _) rfl ?_
  rintro _ rfl
  conv => whnf
  refine call_pure (isnan_c _) rfl ?_
  rintro _ rfl
  conv => whnf
  unfold cmpI
  by_cases h : x < y
  · rw [show decide (x < y) = true from decide_eq_true h, if_pos h]
    conv => whnf
    all_goals rfl
  · rw [show decide (x < y) = false from decide_eq_false h, if_neg h]
    conv => whnf
    by_cases h2 : y < x
    · rw [show decide (x > y) = true from decide_eq_true h2, if_pos h2]
      conv => whnf
      all_goals rfl
    · rw [show decide (x > y) = false from decide_eq_false h2, if_neg h2]
      conv => whnf
      all_goals rfl
theorem cmpI_neg {x y : Int} : cmpI x y < 0 ↔ x < y := by unfold cmpI; split <;> (try split) <;> omega
theorem cmpI_nn {x y : Int} : 0 ≤ cmpI x y ↔ y ≤ x := by unfold cmpI; split <;> (try split) <;> omega
theorem cmpI_zero {x y : Int} : cmpI x y = 0 ↔ x = y := by unfold cmpI; split <;> (try split) <;> omega
theorem find1_c (x : Int × Int) (t : Int) : CallV Try.prog 107 [.agg (ckF x), vci .u32 t] [] (fun r own' => own' = [] ∧ r = vci .i64 (cmpI x.1 t)) := by
  refine callV_pure Try.func107 rfl ttok ftok rfl rfl rfl (Nat.le_of_ble_eq_true rfl) ?_
  conv => whnf
  refine call_pure (cmpU_c _ _) rfl ?_
  rintro _ rfl
  conv => whnf
  all_goals rfl
theorem find_c (l : CV) (hl : l.length ≤ 1000000000) (hs : srt l) (t : Int) : CallV Try.prog 88 [ckS l, vci .u32 t] [] (fun r own' => own' = [] ∧ ∃ i, At l t i ∧ r = .tup [vci .i64 (i : Int), vcb (decide (i < l.length ∧ (l.getD i (0, 0)).1 = t))]) := by
  refine callV_pure Try.func88 rfl ttok ftok rfl rfl rfl (Nat.le_of_ble_eq_true rfl) ?_
  conv => whnf
  refine (ckSearch [] l hl [] t (fun x => cmpI x.1 t) (fun k hk => call_pure (find1_c _ t) rfl (fun r h => ⟨h, rfl⟩))).mono ?_
  rintro r own2 ⟨i, hi, h1, h2, rfl, rfl⟩
  conv => whnf
  refine ⟨i, At.of hs hi (h1.imp_right cmpI_neg.1) (h2.imp_right cmpI_nn.1), ?_⟩
  rw [show decide (i < l.length ∧ (l.getD i (0, 0)).1 = t) = decide (i < l.length ∧ cmpI (l.getD i (0, 0)).1 t = 0) from by rw [Bool.eq_iff_iff]; simp only [decide_eq_true_eq, cmpI_zero]]
theorem next_c (l : CV) (hl : l.length ≤ 1000000000) (hs : srt l) (t : Int) : CallV Try.prog 60 [ckS l, vci .u32 t] [] (fun r own' => own' = [] ∧ r = vci .u32 (nxt l t)) := by
  refine callV_pure Try.func60 rfl ttok ftok rfl rfl rfl (Nat.le_of_ble_eq_true rfl) ?_
  conv => whnf
  refine call_pure (find_c l hl hs t) rfl ?_
  rintro _ ⟨i, h, rfl⟩
  conv => whnf
  refine onB_intro (fun h2 => ?_) (fun h2 => ?_)
  · have h2 := of_decide_eq_true h2
    conv => whnf
    refine ⟨⟨by omega, by omega⟩, ?_⟩
    conv => whnf
    rw [nxt_hit h h2.1 h2.2]
    all_goals rfl
  · have h2 := of_decide_eq_false h2
    conv => whnf
    rw [nxt_miss hs h h2]
theorem set_c (l : CV) (hl : l.length ≤ 1000000) (hs : srt l) (t n : Int) (ht : 0 ≤ t) (hn : 0 ≤ n) : CallV Try.prog 69 [ckS l, vci .u32 t, vci .u32 n] [] (fun r own' => own' = [] ∧ r = ckS (setR l t n)) := by
  refine callV_pure Try.func69 rfl ttok ftok rfl rfl rfl (Nat.le_of_ble_eq_true rfl) ?_
  conv => whnf
  refine call_frame2 [] rfl rfl rfl rfl (ckClone l (by omega)) ?_
  rintro r own2 ⟨rfl, rfl⟩
  refine ⟨.c (.row 0), [some (.row 115 2 l.length (ckR l))], rfl, rfl, ?_⟩
  conv => whnf
  refine call_pure (find_c l (by omega) hs t) rfl ?_
  rintro _ ⟨i, h, rfl⟩
  conv => whnf
  by_cases h0 : t = 0
  · subst h0
    conv => whnf
    refine ⟨fun k hk => rfl, ?_⟩
    conv => whnf
    rw [show setR l 0 n = l from by unfold setR; rw [if_pos rfl]]
  rw [show (t == 0) = false from by simpa using h0]
  conv => whnf
  by_cases hh : i < l.length ∧ (l.getD i (0, 0)).1 = t
  · rw [show decide (i < l.length ∧ (l.getD i (0, 0)).1 = t) = true from decide_eq_true hh]
    conv => whnf
    by_cases hn0 : n = 0
    · subst hn0
      conv => whnf
      rw [show IntKind.i64.wrap ((i : Int) + 1) = ((i + 1 : Nat) : Int) from by rw [w_i64 (by omega) (by omega)]; omega]
      refine call_frame2 [some 0] rfl rfl rfl rfl (ckDelete l i (i + 1) (by omega) (by omega) (by omega)) ?_
      rintro r own2 ⟨rfl, rfl⟩
      refine ⟨.c (.row 2), [none, none, some (.row 115 2 (l.take i ++ l.drop (i + 1)).length (ckR (l.take i ++ l.drop (i + 1))))], rfl, rfl, ?_⟩
      conv => whnf
      refine ⟨fun k hk => rfl, ?_⟩
      conv => whnf
      rw [setR_hit hs h h0 hh.1 hh.2, if_pos rfl, List.append_nil]
    · rw [show (n == 0) = false from by simpa using hn0]
      conv => whnf
      have hlen : (l.take i ++ [(t, n)] ++ l.drop (i + 1)).length = l.length := by simp; omega
      refine ⟨⟨by omega, by omega⟩, ?_⟩
      conv => whnf
      refine ⟨ckR (l.take i ++ [(t, n)] ++ l.drop (i + 1)), fun j hj => ?_, ?_⟩
      · show ckF _ = _
        rw [List.append_assoc]
        rcases Nat.lt_trichotomy j i with h3 | h3 | h3
        · rw [if_neg (by omega), List.getD_eq_getElem?_getD, List.getElem?_append_left (by rw [List.length_take]; omega), ← List.getD_eq_getElem?_getD, getD_take _ _ _ _ h3]
        · subst h3
          rw [if_pos (by omega), List.getD_eq_getElem?_getD, List.getElem?_append_right (by rw [List.length_take]; omega), List.length_take, Nat.min_eq_left (by omega), Nat.sub_self]
          show [vu t, vu n] = [vu (l.getD j (0, 0)).1, vu n]
          rw [hh.2]
        · rw [if_neg (by omega), List.getD_eq_getElem?_getD, List.getElem?_append_right (by rw [List.length_take]; omega), List.length_take, Nat.min_eq_left (by omega), List.singleton_append]
          obtain ⟨q, hq⟩ : ∃ q, j - i = q + 1 := ⟨j - i - 1, by omega⟩
          rw [hq, ← List.getD_eq_getElem?_getD, List.getD_cons_succ, getD_drop, show i + 1 + q = j by omega]
      conv => whnf
      refine ⟨fun k hk => rfl, ?_⟩
      conv => whnf
      rw [setR_hit hs h h0 hh.1 hh.2, if_neg hn0]
      show _ = AV.c (IC.sl 2 _ _)
      rw [hlen]
  · rw [show decide (i < l.length ∧ (l.getD i (0, 0)).1 = t) = false from decide_eq_false hh]
    conv => whnf
    refine onB_intro (fun h3 => ?_) (fun h3 => ?_)
    · have h3 := of_decide_eq_true h3
      conv => whnf
      refine ⟨fun _ => ckF (t, n), fun j hj => ?_, ?_⟩
      · obtain rfl : j = 0 := by omega
        rfl
      conv => whnf
      refine call_frame2 [some 0, some 1] rfl rfl rfl rfl (ckInsert l (t, n) i h.le (by omega) (fun _ => ckF (t, n)) rfl) ?_
      rintro r own2 ⟨rfl, rfl⟩
      refine ⟨.c (.row 3), [none, none, none, some (.row 115 2 (l.take i ++ (t, n) :: l.drop i).length (ckR (l.take i ++ (t, n) :: l.drop i)))], rfl, rfl, ?_⟩
      conv => whnf
      refine ⟨fun k hk => rfl, ?_⟩
      conv => whnf
      rw [setR_miss hs h h0 hh, if_neg (by omega), List.append_assoc, List.singleton_append]
    · have h3 := of_decide_eq_false h3
      conv => whnf
      refine ⟨fun k hk => rfl, ?_⟩
      conv => whnf
      rw [setR_miss hs h h0 hh, if_pos (by omega), List.append_nil, List.take_append_drop]
/-- The vector so far. -/
def mgI (a b : CV) (m : Nat) (st : St) : Prop := ∃ k : Nat, m = b.length - k ∧ k ≤ b.length ∧ st = ⟨31, 0, [(5, ckS (mergeR a (b.take k))), (10, ckS b), (11, vci .i64 b.length), (12, vci .i64 (k : Int))], []⟩
theorem setR_len (l : CV) (c n : Int) : (setR l c n).length ≤ l.length + 1 := by
  unfold setR
  split
  · omega
  · suffices ∀ (l : CV) (p : Bool), (rset c n l p).length ≤ l.length + (if p then 0 else 1) by
      have := this l (n == 0); split at this <;> omega
    intro l
    induction l with
    | nil => intro p; rw [rset]; cases p <;> simp
    | cons x r ih =>
      intro p
      rw [rset]
      have h1 := ih (p || decide (c ≤ x.1))
      generalize decide (c ≤ x.1) = q at h1 ⊢
      cases p <;> cases q <;> simp at h1 ⊢ <;> split <;> simp <;> omega
theorem mergeR_len : ∀ (b a : CV), (mergeR a b).length ≤ a.length + b.length
  | [], a => by show a.length ≤ _; simp
  | x :: r, a => by
    have h1 := mergeR_len r (setR a x.1 (max x.2 (nxt a x.1)))
    have h2 := setR_len a x.1 (max x.2 (nxt a x.1))
    show (mergeR (setR a x.1 (max x.2 (nxt a x.1))) r).length ≤ _
    simp
    omega
theorem merge_snoc (a b : CV) (x : Int × Int) : mergeR a (b ++ [x]) = setR (mergeR a b) x.1 (max x.2 (nxt (mergeR a b) x.1)) := by
  unfold mergeR; rw [List.foldl_append]; rfl
theorem may_of {l : CV} (h : ∀ j, j < l.length → 0 < (l.getD j (0, 0)).1 ∧ 0 < (l.getD j (0, 0)).2 ∧ (0 < j → (l.getD (j - 1) (0, 0)).1 < (l.getD j (0, 0)).1)) : mayV l := by
  refine ⟨List.pairwise_iff_getElem.2 ?_, fun x hx => ?_⟩
  · have key : ∀ d i, i + d + 1 < l.length → (l.getD i (0, 0)).1 < (l.getD (i + d + 1) (0, 0)).1 := by
      intro d
      induction d with
      | zero => intro i hi; have := (h (i + 1) (by omega)).2.2 (by omega); simpa using this
      | succ d ih =>
        intro i hi
        have h1 := ih i (by omega)
        have h2 := (h (i + (d + 1) + 1) hi).2.2 (by omega)
        rw [show i + (d + 1) + 1 - 1 = i + d + 1 by omega] at h2
        omega
    intro i j hi hj hij
    have := key (j - i - 1) i (by omega)
    rw [show i + (j - i - 1) + 1 = j by omega, List.getD_eq_getElem?_getD, List.getElem?_eq_getElem hi, List.getD_eq_getElem?_getD, List.getElem?_eq_getElem hj] at this
    exact this
  · obtain ⟨j, hj, rfl⟩ := mem_getD (d := (0, 0)) hx
    exact ⟨(h j hj).1, (h j hj).2.1⟩
theorem may_at {l : CV} (hm : mayV l) {j : Nat} (hj : j < l.length) : 0 < (l.getD j (0, 0)).1 ∧ 0 < (l.getD j (0, 0)).2 ∧ (0 < j → (l.getD (j - 1) (0, 0)).1 < (l.getD j (0, 0)).1) := by
  have := hm.2 _ (getD_mem (d := (0, 0)) hj)
  exact ⟨this.1, this.2, fun h0 => srt_get hm.1 (by omega) hj⟩
def myI (l : CV) (m : Nat) (st : St) : Prop := ∃ k : Nat, m = l.length - k ∧ k ≤ l.length ∧ (∀ j, j < k → 0 < (l.getD j (0, 0)).1 ∧ 0 < (l.getD j (0, 0)).2 ∧ (0 < j → (l.getD (j - 1) (0, 0)).1 < (l.getD j (0, 0)).1)) ∧
  st = ⟨36, 0, [(0, ckS l), (5, ckS l), (6, vci .i64 l.length), (7, vci .i64 (k : Int))], []⟩
end Go.Eng
/- Two vectors, whether they are the same. -/
set_option linter.unusedVariables false
set_option linter.unusedSimpArgs false
set_option maxRecDepth 100000
set_option maxHeartbeats 4000000
namespace Go.Eng
open Go Go.RowKit Go.Proofs
theorem i64_succ {k : Nat} (h : k < 9223372036854775807) : IntKind.i64.wrap ((k : Int) + 1) = ((k + 1 : Nat) : Int) := by rw [w_i64 (by omega) (by omega)]; omega
theorem ck_ext {x y : CV} (hl : x.length = y.length) (h : ∀ j, j < x.length → x.getD j (0, 0) = y.getD j (0, 0)) : x = y := by
  refine List.ext_getElem hl (fun i h1 h2 => ?_)
  have := h i h1
  rw [List.getD_eq_getElem?_getD, List.getD_eq_getElem?_getD, List.getElem?_eq_getElem h1, List.getElem?_eq_getElem h2] at this
  exact this
def smI (x y : CV) (m : Nat) (st : St) : Prop := ∃ k : Nat, m = x.length - k ∧ k ≤ x.length ∧ (∀ j, j < k → x.getD j (0, 0) = y.getD j (0, 0)) ∧ st = ⟨26, 0, [(0, ckS x), (1, ckS y), (5, vci .i64 (k : Int))], []⟩
theorem same_c (x y : CV) (hx : x.length ≤ 1000000000) (hy : y.length ≤ 1000000000) : CallV Try.prog 35 [ckS x, ckS y] [] (fun r own' => own' = [] ∧ r = vcb (decide (x = y))) := by
  refine callV_pure Try.func35 rfl ttok ftok rfl rfl rfl (Nat.le_of_ble_eq_true rfl) ?_
  conv => whnf
  refine onB_intro (fun h => ?_) (fun h => ?_)
  · conv => whnf
    rw [show decide (x = y) = false from decide_eq_false (fun e => by rw [e] at h; simp at h)]
  · have hlen : x.length = y.length := by
      have h : ((x.length : Int) != y.length) = false := h
      simp at h
      omega
    conv => whnf
    refine loopV ttok ftok (smI x y) (norm_weak [0, 1, 5] [] rfl rfl) ⟨0, rfl, Nat.zero_le _, fun j hj => by omega, rfl⟩ ?_
    rintro m st ⟨k, rfl, hk, hj, rfl⟩
    conv => whnf
    refine onB_intro (fun h => ?_) (fun h => ?_)
    · have h := of_decide_eq_true h
      conv => whnf
      refine drawV_join mixed (by kernel_rfl) ttok ?_
      conv => whnf
      refine ⟨⟨by omega, by omega⟩, ?_⟩
      conv => whnf
      refine ⟨⟨by omega, by omega⟩, ?_⟩
      conv => whnf
      refine onB_intro (fun h2 => ?_) (fun h2 => ?_)
      · have h2 : (!((x.getD k (0, 0)).1 == (y.getD k (0, 0)).1 && ((x.getD k (0, 0)).2 == (y.getD k (0, 0)).2 && true))) = true := h2
        conv => whnf
        rw [show decide (x = y) = false from decide_eq_false (fun e => by rw [e] at h2; simp at h2)]
      · have h2 : (!((x.getD k (0, 0)).1 == (y.getD k (0, 0)).1 && ((x.getD k (0, 0)).2 == (y.getD k (0, 0)).2 && true))) = false := h2
        have h3 : x.getD k (0, 0) = y.getD k (0, 0) := by
          simp only [Bool.not_eq_false', Bool.and_true, Bool.and_eq_true, beq_iff_eq] at h2
          exact Prod.ext h2.1 h2.2
        conv => whnf
        refine ⟨x.length - (k + 1), _, by omega, norm_weak [0, 1, 5] [] rfl rfl, k + 1, rfl, by omega, fun j hj2 => ?_, ?_⟩
        · rcases Nat.lt_succ_iff_lt_or_eq.1 hj2 with h4 | rfl
          · exact hj j h4
          · exact h3
        rw [← i64_succ (by omega)]
        all_goals rfl
    · have h := of_decide_eq_false h
      conv => whnf
      rw [show decide (x = y) = true from decide_eq_true (ck_ext hlen (fun j hj2 => hj j (by omega)))]
end Go.Eng
/- The reference's vectors. -/
set_option linter.unusedVariables false
set_option linter.unusedSimpArgs false
set_option maxRecDepth 100000
set_option maxHeartbeats 4000000
namespace Go.Eng
open Go Go.RowKit Go.Proofs
theorem find_first : ∀ {l : CV} {t : Int} {k : Nat}, (∀ j, j < k → (l.getD j (0, 0)).1 ≠ t) → k < l.length → (l.getD k (0, 0)).1 = t → nxt l t = (l.getD k (0, 0)).2
  | [], t, k, _, h, _ => by simp at h
  | x :: r, t, 0, _, _, h => by
    have h : x.1 = t := h
    show (match (x :: r).find? (fun x => x.1 == t) with | some x => x.2 | none => 0) = x.2
    rw [List.find?_cons_of_pos (by rw [h]; exact beq_self_eq_true t)]
  | x :: r, t, k + 1, hj, hk, h => by
    have h0 : x.1 ≠ t := hj 0 (by omega)
    have := find_first (l := r) (t := t) (k := k) (fun j hj2 => by have := hj (j + 1) (by omega); simpa using this) (by simpa using hk) (by simpa using h)
    rw [List.getD_cons_succ, ← this]
    unfold nxt
    rw [List.find?_cons_of_neg (by simpa using h0)]
theorem nxt_none {l : CV} {t : Int} (h : ∀ j, j < l.length → (l.getD j (0, 0)).1 ≠ t) : nxt l t = 0 := by
  unfold nxt
  rw [find_none (fun x hx => by obtain ⟨j, hj, rfl⟩ := mem_getD (d := (0, 0)) hx; exact h j hj)]
def rnI (l : CV) (t : Int) (m : Nat) (st : St) : Prop := ∃ k : Nat, m = l.length - k ∧ k ≤ l.length ∧ (∀ j, j < k → (l.getD j (0, 0)).1 ≠ t) ∧ st = ⟨24, 0, [(0, ckS l), (1, vci .u32 t), (5, vci .i64 (k : Int))], []⟩
theorem rnext_c (l : CV) (hl : l.length ≤ 1000000000) (t : Int) : CallV Try.prog 58 [ckS l, vci .u32 t] [] (fun r own' => own' = [] ∧ r = vci .u32 (nxt l t)) := by
  refine callV_pure Try.func58 rfl ttok ftok rfl rfl rfl (Nat.le_of_ble_eq_true rfl) ?_
  conv => whnf
  refine loopV ttok ftok (rnI l t) (norm_weak [0, 1, 5] [] rfl rfl) ⟨0, rfl, Nat.zero_le _, fun j hj => by omega, rfl⟩ ?_
  rintro m st ⟨k, rfl, hk, hj, rfl⟩
  conv => whnf
  refine onB_intro (fun h => ?_) (fun h => ?_)
  · have h := of_decide_eq_true h
    conv => whnf
    refine ⟨⟨by omega, by omega⟩, ?_⟩
    conv => whnf
    refine onB_intro (fun h2 => ?_) (fun h2 => ?_)
    · have h2 : (l.getD k (0, 0)).1 = t := by simpa only [ti_nat, beq_iff_eq] using h2
      conv => whnf
      refine ⟨⟨by omega, by omega⟩, ?_⟩
      conv => whnf
      rw [find_first hj (by omega) h2]
      all_goals rfl
    · have h2 : (l.getD k (0, 0)).1 ≠ t := by simpa only [ti_nat, beq_eq_false_iff_ne] using h2
      conv => whnf
      refine ⟨l.length - (k + 1), _, by omega, norm_weak [0, 1, 5] [] rfl rfl, k + 1, rfl, by omega, fun j hj2 => ?_, ?_⟩
      · rcases Nat.lt_succ_iff_lt_or_eq.1 hj2 with h3 | rfl
        · exact hj j h3
        · exact h2
      rw [← i64_succ (by omega)]
      all_goals rfl
  · have h := of_decide_eq_false h
    conv => whnf
    rw [nxt_none (fun j hj2 => hj j (by omega))]
def rsI (l : CV) (t n : Int) (m : Nat) (st : St) : Prop := ∃ (k : Nat) (put : Bool) (X : CV), m = l.length - k ∧ k ≤ l.length ∧ X.length ≤ 2 * k ∧ rset t n l (n == 0) = X ++ rset t n (l.drop k) put ∧
  st = ⟨61, 0, [(0, ckS l), (1, vci .u32 t), (2, vci .u32 n), (7, .c (.row 0)), (8, vcb put), (9, vci .i64 (k : Int))], [some (.row 115 2 X.length (ckR X))]⟩
theorem rset_c (l : CV) (hl : l.length ≤ 1000000) (t n : Int) : CallV Try.prog 71 [ckS l, vci .u32 t, vci .u32 n] [] (fun r own' => own' = [] ∧ r = ckS (setR l t n)) := by
  refine callV_pure Try.func71 rfl ttok ftok rfl rfl rfl (Nat.le_of_ble_eq_true rfl) ?_
  conv => whnf
  by_cases h0 : t = 0
  · subst h0
    conv => whnf
    rw [show setR l 0 n = l from by unfold setR; rw [if_pos rfl]]
  rw [show (t == 0) = false from by simpa using h0]
  conv => whnf
  refine loopV ttok ftok (rsI l t n) ((nil_row 7 115 2 (ckR []) rfl).trans (norm_weak [0, 1, 2, 7, 8, 9] [some 0] rfl rfl)) ⟨0, (n == 0), [], rfl, Nat.zero_le _, Nat.zero_le _, rfl, rfl⟩ ?_
  rintro m st ⟨k, put, X, rfl, hk, hX, hj, rfl⟩
  conv => whnf
  refine onB_intro (fun h => ?_) (fun h => ?_)
  · have h := of_decide_eq_true h
    have hkl : k < l.length := by omega
    rw [drop_getD (d := (0, 0)) hkl, rset] at hj
    conv => whnf
    refine ⟨?_, ?_⟩
    · conv => whnf
      intro g1
      conv => whnf
      omega
    conv => whnf
    generalize hx : l.getD k (0, 0) = x at hj
    rw [ti_nat, hx, show pickB (!put) (Operand.tmp 30) (.const (.bool false)) (decide (x.1 ≥ t)) false = (!put && decide (t ≤ x.1)) from rfl]
    by_cases hp : put = false ∧ t ≤ x.1
    · have e1 : (!put && decide (t ≤ x.1)) = true := by rw [hp.1, decide_eq_true hp.2]; rfl
      have e2 : (put || decide (t ≤ x.1)) = true := by rw [hp.1, decide_eq_true hp.2]; rfl
      rw [e1, e2] at hj
      rw [e1]
      conv => whnf
      refine ⟨fun _ => ckF (t, n), fun j hj2 => ?_, ?_⟩
      · obtain rfl : j = 0 := by omega
        rfl
      conv => whnf
      refine ⟨⟨by (try simp only [List.length_append, List.length_singleton]); omega, by show (List.length X + 1) * 8 ≤ _; (try simp only [List.length_append, List.length_singleton]); omega⟩, ?_⟩
      conv => whnf
      refine app1 (enc := ckF) (d := (0, 0)) (l := X) (t, n) (fun k hk => rfl) rfl ?_
      conv => whnf
      refine ⟨⟨by omega, by omega⟩, ?_⟩
      conv => whnf
      rw [ti_nat, hx]
      by_cases hxt : x.1 = t
      · rw [show (x.1 != t) = false from by simpa using hxt]
        rw [if_pos hxt] at hj
        conv => whnf
        · refine ⟨l.length - (k + 1), _, by omega, norm_weak [0, 1, 2, 7, 8, 9] [some 2] rfl rfl, k + 1, true, X ++ [(t, n)], rfl, by omega, by (try simp only [List.length_append, List.length_singleton]); omega, by rw [hj]; simp, ?_⟩
          rw [← i64_succ (by omega)]
          all_goals rfl
      · rw [show (x.1 != t) = true from by simpa using hxt]
        rw [if_neg hxt] at hj
        conv => whnf
        refine ⟨⟨by omega, by omega⟩, ?_⟩
        conv => whnf
        rw [ti_nat, hx]
        refine ⟨fun _ => ckF x, fun j hj2 => ?_, ?_⟩
        · obtain rfl : j = 0 := by omega
          rfl
        conv => whnf
        refine ⟨⟨by (try simp only [List.length_append, List.length_singleton]); omega, by show (List.length (X ++ [(t, n)]) + 1) * 8 ≤ _; (try simp only [List.length_append, List.length_singleton]); omega⟩, ?_⟩
        conv => whnf
        refine app1 (enc := ckF) (d := (0, 0)) (l := (X ++ [(t, n)])) x (fun k hk => rfl) rfl ?_
        conv => whnf
        · refine ⟨l.length - (k + 1), _, by omega, norm_weak [0, 1, 2, 7, 8, 9] [some 4] rfl rfl, k + 1, true, X ++ [(t, n)] ++ [x], rfl, by omega, by (try simp only [List.length_append, List.length_singleton]); omega, by rw [hj]; simp, ?_⟩
          rw [← i64_succ (by omega)]
          all_goals rfl
    · have e1 : (!put && decide (t ≤ x.1)) = false := by
        cases put with
        | true => rfl
        | false => have : ¬ t ≤ x.1 := fun h => hp ⟨rfl, h⟩
                   rw [decide_eq_false this]; rfl
      have e2 : (put || decide (t ≤ x.1)) = put := by
        cases put with
        | true => rfl
        | false => have : ¬ t ≤ x.1 := fun h => hp ⟨rfl, h⟩
                   rw [decide_eq_false this]; rfl
      rw [e1, e2] at hj
      rw [e1]
      conv => whnf
      refine ⟨⟨by omega, by omega⟩, ?_⟩
      conv => whnf
      rw [ti_nat, hx]
      by_cases hxt : x.1 = t
      · rw [show (x.1 != t) = false from by simpa using hxt]
        rw [if_pos hxt] at hj
        conv => whnf
        · refine ⟨l.length - (k + 1), _, by omega, norm_weak [0, 1, 2, 7, 8, 9] [some 0] rfl rfl, k + 1, put, X, rfl, by omega, by (try simp only [List.length_append, List.length_singleton]); omega, by rw [hj]; simp, ?_⟩
          rw [← i64_succ (by omega)]
          all_goals rfl
      · rw [show (x.1 != t) = true from by simpa using hxt]
        rw [if_neg hxt] at hj
        conv => whnf
        refine ⟨⟨by omega, by omega⟩, ?_⟩
        conv => whnf
        rw [ti_nat, hx]
        refine ⟨fun _ => ckF x, fun j hj2 => ?_, ?_⟩
        · obtain rfl : j = 0 := by omega
          rfl
        conv => whnf
        refine ⟨⟨by (try simp only [List.length_append, List.length_singleton]); omega, by show (List.length X + 1) * 8 ≤ _; (try simp only [List.length_append, List.length_singleton]); omega⟩, ?_⟩
        conv => whnf
        refine app1 (enc := ckF) (d := (0, 0)) (l := X) x (fun k hk => rfl) rfl ?_
        conv => whnf
        · refine ⟨l.length - (k + 1), _, by omega, norm_weak [0, 1, 2, 7, 8, 9] [some 2] rfl rfl, k + 1, put, X ++ [x], rfl, by omega, by (try simp only [List.length_append, List.length_singleton]); omega, by rw [hj]; simp, ?_⟩
          rw [← i64_succ (by omega)]
          all_goals rfl
  · have h := of_decide_eq_false h
    obtain rfl : k = l.length := by omega
    rw [List.drop_length, rset] at hj
    conv => whnf
    cases put with
    | true =>
      conv => whnf
      refine ⟨fun k hk => rfl, ?_⟩
      conv => whnf
      unfold setR
      rw [if_neg h0, hj]
      simp
    | false =>
      conv => whnf
      refine ⟨fun _ => ckF (t, n), fun j hj2 => ?_, ?_⟩
      · obtain rfl : j = 0 := by omega
        rfl
      conv => whnf
      refine ⟨⟨by (try simp only [List.length_append, List.length_singleton]); omega, by show (List.length X + 1) * 8 ≤ _; (try simp only [List.length_append, List.length_singleton]); omega⟩, ?_⟩
      conv => whnf
      refine app1 (enc := ckF) (d := (0, 0)) (l := X) (t, n) (fun k hk => rfl) rfl ?_
      conv => whnf
      refine ⟨fun k hk => rfl, ?_⟩
      conv => whnf
      unfold setR
      rw [if_neg h0, hj]
      all_goals rfl
def rgI (a b : CV) (m : Nat) (st : St) : Prop := ∃ k : Nat, m = b.length - k ∧ k ≤ b.length ∧ st = ⟨35, 0, [(1, ckS b), (5, ckS (mergeR a (b.take k))), (6, vci .i64 (k : Int))], []⟩
def rcI (a b : CV) (m : Nat) (st : St) : Prop := ∃ k : Nat, m = b.length - k ∧ k ≤ b.length ∧ (∀ j, j < k → ¬ nxt a (b.getD j (0, 0)).1 < (b.getD j (0, 0)).2) ∧ st = ⟨25, 0, [(0, ckS a), (1, ckS b), (5, vci .i64 (k : Int))], []⟩
def rmI (l : CV) (m : Nat) (st : St) : Prop := ∃ k : Nat, m = l.length - k ∧ k ≤ l.length ∧ (∀ j, j < k → 0 < (l.getD j (0, 0)).1 ∧ 0 < (l.getD j (0, 0)).2 ∧ (0 < j → (l.getD (j - 1) (0, 0)).1 < (l.getD j (0, 0)).1)) ∧
  st = ⟨40, 0, [(0, ckS l), (3, vci .i64 (k : Int))], []⟩
theorem rmay_c (l : CV) (hl : l.length ≤ 1000000000) (hn : ∀ x ∈ l, 0 ≤ x.1 ∧ 0 ≤ x.2) : CallV Try.prog 28 [ckS l] [] (fun r own' => own' = [] ∧ ∃ b : Bool, (b = true ↔ mayV l) ∧ r = vcb b) := by
  refine callV_pure Try.func28 rfl ttok ftok rfl rfl rfl (Nat.le_of_ble_eq_true rfl) ?_
  conv => whnf
  refine loopV ttok ftok (rmI l) (norm_weak [0, 3] [] rfl rfl) ⟨0, rfl, Nat.zero_le _, fun j hj => by omega, rfl⟩ ?_
  rintro m st ⟨k, rfl, hk, hj, rfl⟩
  conv => whnf
  refine onB_intro (fun h => ?_) (fun h => ?_)
  · have h := of_decide_eq_true h
    have hkl : k < l.length := by omega
    have hx := hn _ (getD_mem (d := (0, 0)) hkl)
    conv => whnf
    refine ⟨⟨by omega, by omega⟩, ?_⟩
    conv => whnf
    refine ⟨?_, ?_⟩
    · conv => whnf
      intro g1
      conv => whnf
      omega
    conv => whnf
    refine onB_intro (fun h2 => ?_) (fun h2 => ?_)
    · simp only [pickB, isLit, Bool.or_eq_true, beq_iff_eq, ti_nat] at h2
      conv => whnf
      refine ⟨false, ⟨fun e => (by cases e), fun hm => ?_⟩, rfl⟩
      have h3 := may_at hm hkl
      omega
    · simp only [pickB, isLit, Bool.or_eq_false_iff, beq_eq_false_iff_ne, ti_nat] at h2
      conv => whnf
      refine drawV_join mixed (by kernel_rfl) ttok ?_
      conv => whnf
      refine ⟨?_, ?_⟩
      · conv => whnf
        intro g1
        conv => whnf
        omega
      conv => whnf
      refine ⟨?_, ?_⟩
      · conv => whnf
        intro g1
        have g1 := of_decide_eq_true g1
        conv => whnf
        rw [w_i64 (by omega) (by omega)]
        omega
      conv => whnf
      refine onB_intro (fun h3 => ?_) (fun h3 => ?_)
      · simp only [pickB, isLit, Bool.and_eq_true, decide_eq_true_eq, ti_nat] at h3
        conv => whnf
        refine ⟨false, ⟨fun e => (by cases e), fun hm => ?_⟩, rfl⟩
        have h4 := may_at hm hkl
        rw [show (IntKind.i64.wrap ((k : Int) - 1)).toNat = k - 1 from by rw [w_i64 (by omega) (by omega)]; omega] at h3
        have := h4.2.2 (by omega)
        omega
      · simp only [pickB, isLit, Bool.and_eq_false_iff, decide_eq_false_iff_not, ti_nat] at h3
        conv => whnf
        refine ⟨l.length - (k + 1), _, by omega, norm_weak [0, 3] [] rfl rfl, k + 1, rfl, by omega, fun j hj2 => ?_, ?_⟩
        · rcases Nat.lt_succ_iff_lt_or_eq.1 hj2 with h4 | rfl
          · exact hj j h4
          · refine ⟨by omega, by omega, fun h0 => ?_⟩
            rcases h3 with h4 | h4
            · omega
            · rw [show (IntKind.i64.wrap ((j : Int) - 1)).toNat = j - 1 from by rw [w_i64 (by omega) (by omega)]; omega] at h4
              omega
        rw [← i64_succ (by omega)]
        all_goals rfl
  · have h := of_decide_eq_false h
    conv => whnf
    exact ⟨true, ⟨fun _ => may_of (fun j hj2 => hj j (by omega)), fun _ => rfl⟩, rfl⟩
end Go.Eng
/- Whether an item is ready: the program's, and the reference's. -/
set_option linter.unusedVariables false
set_option linter.unusedSimpArgs false
set_option maxRecDepth 100000
set_option maxHeartbeats 4000000
namespace Go.Eng
open Go Go.RowKit Go.Proofs
theorem none_c (a : I2) : CallV Try.prog 39 [idA a] [] (fun r own' => own' = [] ∧ r = vcb (a.1 == 0)) := by
  refine callV_pure Try.func39 rfl ttok ftok rfl rfl rfl (Nat.le_of_ble_eq_true rfl) ?_
  conv => whnf
  try rfl
theorem has1_c (v : CV) (hl : v.length ≤ 1000000) (hs : srt v) (a : I2) : CallV Try.prog 59 [idA a, .c (.fp [.sl 2 v.length (ckR v)])] [] (fun r own' => own' = [] ∧ r = vcb (hasR v a)) := by
  refine callV_pure Try.func59 rfl ttok ftok rfl rfl rfl (Nat.le_of_ble_eq_true rfl) ?_
  conv => whnf
  refine drawV_quiet mixed (by kernel_rfl) ttok ftok ?_
  conv => whnf
  refine callQ (none_c a) rfl rfl ?_
  conv => whnf
  by_cases h : a.1 = 0
  · rw [show (a.1 == 0) = true from beq_iff_eq.2 h]
    conv => whnf
    rw [show hasR v a = true from by unfold hasR; rw [beq_iff_eq.2 h]; rfl]
    all_goals first | rfl | exact ⟨rfl, rfl⟩
  · rw [show (a.1 == 0) = false from beq_eq_false_iff_ne.2 h]
    conv => whnf
    refine callQ (next_c v (by omega) hs a.1) rfl rfl ?_
    conv => whnf
    rw [show hasR v a = decide (a.2 < nxt v a.1) from by unfold hasR; rw [beq_eq_false_iff_ne.2 h]; rfl]
    all_goals first | rfl | exact ⟨rfl, rfl⟩
theorem ready_c (v : CV) (hl : v.length ≤ 1000000) (hs : srt v) (x : It) : CallV Try.prog 30 [ckS v, .agg (itF x)] [] (fun r own' => own' = [] ∧ r = vcb (rdyR v x)) := by
  refine callV_pure Try.func30 rfl ttok ftok rfl rfl rfl (Nat.le_of_ble_eq_true rfl) ?_
  conv => whnf
  refine drawV_frz [0] ?_
  conv => whnf
  refine drawV_quiet mixed (by kernel_rfl) ttok ftok ?_
  conv => whnf
  refine callQ (next_c v (by omega) hs x.id.1) rfl rfl ?_
  conv => whnf
  by_cases h : x.id.2 = nxt v x.id.1
  rotate_left
  · rw [show (x.id.2 == nxt v x.id.1) = false from beq_eq_false_iff_ne.2 h]
    conv => whnf
    rw [show rdyR v x = false from by unfold rdyR; rw [beq_eq_false_iff_ne.2 h]; rfl]
    all_goals first | rfl | exact ⟨rfl, rfl⟩
  rw [show (x.id.2 == nxt v x.id.1) = true from beq_iff_eq.2 h]
  conv => whnf
  refine callQ (has1_c v hl hs x.left) rfl rfl ?_
  conv => whnf
  cases h2 : hasR v x.left with
  | false =>
    conv => whnf
    rw [show rdyR v x = false from by unfold rdyR; rw [h2]; simp]
    all_goals first | rfl | exact ⟨rfl, rfl⟩
  | true =>
  conv => whnf
  refine callQ (has1_c v hl hs x.right) rfl rfl ?_
  conv => whnf
  rw [show rdyR v x = hasR v x.right from by unfold rdyR; rw [h2, beq_iff_eq.2 h]; rfl]
  all_goals first | rfl | exact ⟨rfl, rfl⟩
theorem rready_c (v : CV) (hl : v.length ≤ 1000000) (x : It) : CallV Try.prog 31 [ckS v, .agg (itF x)] [] (fun r own' => own' = [] ∧ r = vcb (rdyR v x)) := by
  refine callV_pure Try.func31 rfl ttok ftok rfl rfl rfl (Nat.le_of_ble_eq_true rfl) ?_
  conv => whnf
  refine drawV_quiet mixed (by kernel_rfl) ttok ftok ?_
  conv => whnf
  refine callQ (rnext_c v (by omega) x.id.1) rfl rfl ?_
  conv => whnf
  by_cases h : x.id.2 = nxt v x.id.1
  rotate_left
  · rw [show (x.id.2 == nxt v x.id.1) = false from beq_eq_false_iff_ne.2 h]
    conv => whnf
    rw [show rdyR v x = false from by unfold rdyR; rw [beq_eq_false_iff_ne.2 h]; rfl]
    all_goals first | rfl | exact ⟨rfl, rfl⟩
  rw [show (x.id.2 == nxt v x.id.1) = true from beq_iff_eq.2 h]
  have key : rdyR v x = (hasR v x.left && hasR v x.right) := by unfold rdyR; rw [beq_iff_eq.2 h]; rfl
  rw [key]
  conv => whnf
  by_cases h1 : x.left.1 = 0
  · rw [show (x.left.1 == 0) = true from beq_iff_eq.2 h1, show hasR v x.left = true from by unfold hasR; rw [beq_iff_eq.2 h1]; rfl]
    conv => whnf
    by_cases h2 : x.right.1 = 0
    · rw [show (x.right.1 == 0) = true from beq_iff_eq.2 h2, show hasR v x.right = true from by unfold hasR; rw [beq_iff_eq.2 h2]; rfl]
      conv => whnf
      all_goals first | rfl | exact ⟨rfl, rfl⟩
    · rw [show (x.right.1 == 0) = false from beq_eq_false_iff_ne.2 h2, show hasR v x.right = decide (x.right.2 < nxt v x.right.1) from by unfold hasR; rw [beq_eq_false_iff_ne.2 h2]; rfl]
      conv => whnf
      refine callQ (rnext_c v (by omega) x.right.1) rfl rfl ?_
      conv => whnf
      all_goals first | rfl | exact ⟨rfl, rfl⟩
  · rw [show (x.left.1 == 0) = false from beq_eq_false_iff_ne.2 h1, show hasR v x.left = decide (x.left.2 < nxt v x.left.1) from by unfold hasR; rw [beq_eq_false_iff_ne.2 h1]; rfl]
    conv => whnf
    refine callQ (rnext_c v (by omega) x.left.1) rfl rfl ?_
    conv => whnf
    cases h3 : decide (x.left.2 < nxt v x.left.1) with
    | false =>
      conv => whnf
      all_goals first | rfl | exact ⟨rfl, rfl⟩
    | true =>
    conv => whnf
    by_cases h2 : x.right.1 = 0
    · rw [show (x.right.1 == 0) = true from beq_iff_eq.2 h2, show hasR v x.right = true from by unfold hasR; rw [beq_iff_eq.2 h2]; rfl]
      conv => whnf
      all_goals first | rfl | exact ⟨rfl, rfl⟩
    · rw [show (x.right.1 == 0) = false from beq_eq_false_iff_ne.2 h2, show hasR v x.right = decide (x.right.2 < nxt v x.right.1) from by unfold hasR; rw [beq_eq_false_iff_ne.2 h2]; rfl]
      conv => whnf
      refine callQ (rnext_c v (by omega) x.right.1) rfl rfl ?_
      conv => whnf
      all_goals first | rfl | exact ⟨rfl, rfl⟩
end Go.Eng
/- pend.Take. -/
set_option linter.unusedVariables false
set_option linter.unusedSimpArgs false
set_option maxRecDepth 100000
set_option maxHeartbeats 4000000
namespace Go.Eng
open Go Go.RowKit Go.Proofs
/-- slices.Clone. -/
theorem itClone (l : List It) (hl : l.length ≤ 1000000000) : CallV Try.prog 61 [.c (.sl 7 l.length fun k => itF (l.getD k it0))] []
    (fun r own' => r = .c (.row 0) ∧ own' = [some (.row 40 7 l.length fun k => itF (l.getD k it0))]) := by
  refine callV_own Try.func61 rfl ttok ftok rfl rfl rfl (Nat.le_of_ble_eq_true rfl) rfl ?_
  conv => whnf
  intro b hb
  cases b with
  | true =>
    have h0 := hb rfl
    obtain rfl : l = [] := List.eq_nil_of_length_eq_zero h0
    conv => whnf
    refine ⟨_, nil_row 2 40 7 (fun k => itF (([] : List It).getD k it0)) rfl, ?_⟩
    conv => whnf
    exact ⟨[some 0], rfl, rfl, rfl, rfl⟩
  | false =>
    clear hb
    conv => whnf
    refine ⟨⟨by omega, by show (0 + l.length) * 28 ≤ _; omega⟩, ?_⟩
    conv => whnf
    refine ⟨l.length, fun k => itF (l.getD k it0), by omega, fun k hk => by omega, fun k hk => by rw [Nat.zero_add], ?_⟩
    conv => whnf
    refine ⟨_, Weak.refl _, ?_⟩
    conv => whnf
    exact ⟨[some 1], rfl, rfl, rfl, rfl⟩
/-- slices.Delete, of an own row. -/
theorem itDelete (l : List It) (i j : Nat) (hij : i ≤ j) (hj : j ≤ l.length) (hl : l.length ≤ 1000000000) : CallV Try.prog 68 [.c (.row 0), vci .i64 i, vci .i64 j] [some (.row 40 7 l.length fun k => itF (l.getD k it0))]
    (fun r own' => r = .c (.row 2) ∧ own' = [none, none, some (.row 40 7 (l.take i ++ l.drop j).length fun k => itF ((l.take i ++ l.drop j).getD k it0))]) := by
  refine callV_view 0 rfl (fun h0 => ?_) (fun c hc hc2 => ?_)
  · obtain rfl : l = [] := List.eq_nil_of_length_eq_zero h0
    obtain rfl : j = 0 := by simpa using hj
    obtain rfl : i = 0 := by omega
    show CallV Try.prog 68 [.c (.v (.slice none 0 0)), vci .i64 (0 : Nat), vci .i64 (0 : Nat)] [none] _
    refine callV_own Try.func68 rfl ttok ftok rfl rfl rfl (Nat.le_of_ble_eq_true rfl) rfl ?_
    conv => whnf
    refine ⟨by omega, ?_⟩
    conv => whnf
    refine ⟨⟨rfl, rfl, rfl⟩, ?_⟩
    conv => whnf
    refine ⟨_, nil_row 6 40 7 (fun k => itF ([].getD k it0)) rfl, ?_⟩
    conv => whnf
    exact ⟨[none, none, some 1], rfl, rfl, rfl, rfl⟩
  show CallV Try.prog 68 [.c (.view 1 7 0 l.length c), vci .i64 i, vci .i64 j] [none, some (.arr 40 7 c l.length fun k => itF (l.getD k it0))] _
  refine callV_own Try.func68 rfl ttok ftok rfl rfl rfl (Nat.le_of_ble_eq_true rfl) rfl ?_
  conv => whnf
  refine ⟨⟨by omega, by omega, by omega, by omega⟩, ?_⟩
  conv => whnf
  refine onB_intro (fun h => ?_) (fun h => ?_)
  · have e : (i : Int) = j := by simpa using h
    have e : i = j := by omega
    subst e
    conv => whnf
    refine ⟨_, view_row 6 1 (n := l.length) rfl rfl rfl rfl (Nat.le_refl _) rfl, ?_⟩
    conv => whnf
    refine ⟨[none, none, some 2], rfl, rfl, rfl, ?_⟩
    rw [List.take_append_drop]
    rfl
  have hne : i ≠ j := fun e => by rw [e] at h; simp at h
  conv => whnf
  refine drawV_mix 6 mixed (by kernel_rfl) ttok ftok ?_
  conv => whnf
  refine ⟨⟨by omega, by omega, by omega, by omega⟩, ?_⟩
  conv => whnf
  refine ⟨⟨by omega, by omega, by omega, by omega⟩, ?_⟩
  conv => whnf
  refine ⟨by omega, ⟨by omega, by omega⟩, fun h1 => ?_, fun h1 => absurd h1 (by omega)⟩
  have hlen : (l.take i ++ l.drop j).length = i + (l.length - j) := by rw [List.length_append, List.length_take, List.length_drop]; omega
  have hget : ∀ q, q < (l.take i ++ l.drop j).length → (i ≤ q ∧ (l.take i ++ l.drop j).getD q it0 = l.getD (j + (q - i)) it0) ∨ (q < i ∧ (l.take i ++ l.drop j).getD q it0 = l.getD q it0) := fun q hq => by
    rcases Nat.lt_or_ge q i with h2 | h2
    · exact .inr ⟨h2, by rw [List.getD_eq_getElem?_getD, List.getElem?_append_left (by rw [List.length_take]; omega), ← List.getD_eq_getElem?_getD, getD_take _ _ _ _ h2]⟩
    · exact .inl ⟨h2, by rw [List.getD_eq_getElem?_getD, List.getElem?_append_right (by rw [List.length_take]; omega), ← List.getD_eq_getElem?_getD, getD_drop, List.length_take, Nat.min_eq_left (by omega)]⟩
  refine ⟨(l.take i ++ l.drop j).length, fun k => itF ((l.take i ++ l.drop j).getD k it0), fun q hq => ?_, ?_⟩
  rotate_left
  · conv => whnf
    refine ⟨⟨by omega, by omega, by omega, by omega⟩, ?_⟩
    conv => whnf
    refine ⟨by omega, (l.take i ++ l.drop j).length, fun k => itF ((l.take i ++ l.drop j).getD k it0), fun q hq => .inr ⟨.inl (by omega), hq, rfl⟩, ?_⟩
    conv => whnf
    refine ⟨_, view_row 6 1 (n := (l.take i ++ l.drop j).length) rfl rfl (by omega) (by omega) (by omega) (by omega), ?_⟩
    conv => whnf
    exact ⟨[none, none, some 2], rfl, rfl, rfl, rfl⟩
  · rcases hget q hq with ⟨h2, h3⟩ | ⟨h2, h3⟩
    · refine .inl ⟨by omega, by omega, ?_⟩
      simp only [h3]
      congr 2
      omega
    · exact .inr ⟨.inl (by omega), by omega, by simp only [h3]⟩
abbrev vBox (v : CV) : Option Ob := some (.cells 71 [.sl 2 v.length (ckR v)])
abbrev itRow (l : List It) : Option Ob := some (.row 40 7 l.length (itR l))
theorem tk2_c (v : CV) (hl : v.length ≤ 1000000) (hs : srt v) (x : It) : CallV Try.prog 67 [.agg (itF x), .c (.own 0 0)] [vBox v] (fun r own' => r = vcb (rdyR v x) ∧ own' = [vBox v]) := by
  refine callV_own Try.func67 rfl ttok ftok rfl rfl rfl (Nat.le_of_ble_eq_true rfl) rfl ?_
  conv => whnf
  refine call_pure (ready_c v hl hs x) rfl ?_
  rintro _ rfl
  conv => whnf
  refine ⟨_, Weak.refl _, ?_⟩
  conv => whnf
  exact ⟨[some 0], rfl, rfl, rfl, rfl⟩
def ixrI (r : List It) (v : CV) (n : Nat) (st : St) : Prop := ∃ k : Nat, n = r.length - k ∧ k ≤ r.length ∧ (∀ j, j < k → rdyR v (r.getD j it0) = false) ∧
  st = ⟨19, 2, [(0, .c (.row 0)), (1, .c (.fn 67 [(false, [.own 1 0])])), (7, vci .i64 r.length), (8, vci .i64 (k : Int))], [itRow r, vBox v]⟩
theorem i64_s {k : Nat} (hk : k ≤ 1000000000000) : IntKind.i64.wrap ((k : Int) + 1) = ((k + 1 : Nat) : Int) := by rw [w_i64 (by omega) (by omega)]; omega
theorem ixr_c (r : List It) (hr : r.length ≤ 1000000) (v : CV) (hl : v.length ≤ 1000000) (hs : srt v) : CallV Try.prog 66 [.c (.row 0), .c (.fn 67 [(false, [.own 1 0])])] [itRow r, vBox v]
    (fun rr own' => ((∃ k : Nat, k < r.length ∧ rdyR v (r.getD k it0) = true ∧ (∀ j, j < k → rdyR v (r.getD j it0) = false) ∧ rr = vci .i64 k) ∨ ((∀ j, j < r.length → rdyR v (r.getD j it0) = false) ∧ rr = vci .i64 (-1))) ∧ own' = [itRow r, vBox v]) := by
  refine callV_own Try.func66 rfl ttok ftok rfl rfl rfl (Nat.le_of_ble_eq_true rfl) rfl ?_
  conv => whnf
  refine loopV ttok ftok (ixrI r v) (norm_weak [0, 1, 7, 8] [some 0, some 1] rfl rfl) ⟨0, rfl, Nat.zero_le _, fun j hj => by omega, rfl⟩ ?_
  rintro n st ⟨k, rfl, hk, hj, rfl⟩
  have e1 := i64_s (k := k) (by omega)
  conv => whnf
  refine onB_intro (fun h => ?_) (fun h => ?_)
  · have h := of_decide_eq_true h
    have hkl : k < r.length := by omega
    conv => whnf
    refine ⟨⟨by omega, by omega⟩, ?_⟩
    conv => whnf
    rw [ti_nat]
    refine call_frame2 [some 1] rfl rfl rfl rfl (tk2_c v hl hs (r.getD k it0)) ?_
    rintro r2 own2 ⟨rfl, rfl⟩
    refine ⟨vcb (rdyR v (r.getD k it0)), [itRow r, vBox v], rfl, rfl, ?_⟩
    conv => whnf
    cases hv : rdyR v (r.getD k it0) with
    | true =>
      conv => whnf
      refine ⟨_, Weak.refl _, ?_⟩
      conv => whnf
      exact ⟨[some 0, some 1], rfl, rfl, .inl ⟨k, hkl, hv, hj, rfl⟩, rfl⟩
    | false =>
      conv => whnf
      rw [e1]
      refine ⟨r.length - (k + 1), _, by omega, norm_weak [0, 1, 7, 8] [some 0, some 1] rfl rfl, k + 1, rfl, by omega, fun j h2 => ?_, rfl⟩
      rcases Nat.lt_succ_iff_lt_or_eq.1 h2 with h3 | rfl
      · exact hj j h3
      · exact hv
  · have h := of_decide_eq_false h
    conv => whnf
    refine ⟨_, Weak.refl _, ?_⟩
    conv => whnf
    exact ⟨[some 0, some 1], rfl, rfl, .inr ⟨fun j hj2 => hj j (by omega), rfl⟩, rfl⟩
def tkI (N : Nat) (v0 : CV) (r0 : List It) (m : Nat) (st : St) : Prop := ∃ (v : CV) (r out : List It), m = r.length ∧ mayV v ∧ (∀ x, x ∈ r → 0 < x.id.1 ∧ 0 ≤ x.id.2 ∧ x.id.2 ≤ 4294967294) ∧ v.length + r.length ≤ 200000 ∧ out.length + r.length ≤ 100000 ∧
  takeL N v0 r0 = (out ++ (takeL r.length v r).1, (takeL r.length v r).2) ∧
  st = ⟨47, 0, [(2, .c (.own 0 0)), (7, .c (.row 1)), (8, .c (.row 2))], [vBox v, itRow r, itRow out]⟩
theorem takeL_none {v : CV} {r : List It} (h : ∀ j, j < r.length → rdyR v (r.getD j it0) = false) : takeL r.length v r = ([], r, v) := by
  cases hn : r.length with
  | zero => rfl
  | succ n =>
    unfold takeL
    rw [List.findIdx?_eq_none_iff.2 fun x hx => ?_]
    obtain ⟨j, hj, rfl⟩ := List.getElem_of_mem hx
    have := h j hj
    rwa [List.getD_eq_getElem?_getD, List.getElem?_eq_getElem hj] at this
theorem takeL_some {v : CV} {r : List It} {k : Nat} (hk : k < r.length) (h1 : rdyR v (r.getD k it0) = true) (h2 : ∀ j, j < k → rdyR v (r.getD j it0) = false) :
    takeL r.length v r = (r.getD k it0 :: (takeL (delA r k).length (putR v (r.getD k it0)) (delA r k)).1, (takeL (delA r k).length (putR v (r.getD k it0)) (delA r k)).2) := by
  have hl := delA_len hk
  have hg : ∀ j (hj : j < r.length), r.getD j it0 = r[j] := fun j hj => by rw [List.getD_eq_getElem?_getD, List.getElem?_eq_getElem hj]; rfl
  have hf : r.findIdx? (rdyR v) = some k := by
    rw [List.findIdx?_eq_some_iff_getElem]
    refine ⟨hk, by rw [← hg k hk]; exact h1, fun j hj => ?_⟩
    have := h2 j hj
    rw [hg j (by omega)] at this
    simp [this]
  rw [← hl]
  conv => lhs; unfold takeL
  rw [hf]
theorem take_c (v : CV) (l : List It) (hvl : v.length ≤ 100000) (hll : l.length ≤ 100000) (hv : mayV v) (hcl : ∀ x, x ∈ l → 0 < x.id.1 ∧ 0 ≤ x.id.2 ∧ x.id.2 ≤ 4294967294) : CallV Try.prog 32 [ckS v, itS l] []
    (fun r own' => own' = [] ∧ ∃ ys : List It, ys.Perm l ∧ ys.Pairwise (fun x y => ¬ ltI y.id x.id) ∧ r = .tup [itS (takeL ys.length v ys).1, itS (takeL ys.length v ys).2.1, ckS (takeL ys.length v ys).2.2]) := by
  refine callV_pure Try.func32 rfl ttok ftok rfl rfl rfl (Nat.le_of_ble_eq_true rfl) ?_
  conv => whnf
  refine call_frame2 [] rfl rfl rfl rfl (itClone l (by omega)) ?_
  rintro r own2 ⟨rfl, rfl⟩
  refine ⟨.c (.row 1), [vBox v, itRow l], rfl, rfl, ?_⟩
  conv => whnf
  refine call_frame2 [some 1] rfl rfl rfl rfl (item_sort l (by omega)) ?_
  rintro r own2 ⟨ys, hp, hs, rfl, rfl⟩
  have hlen := hp.length_eq
  refine ⟨.tup [], [vBox v, itRow ys], rfl, rfl, ?_⟩
  conv => whnf
  refine call_frame2 [] rfl rfl rfl rfl (ckClone v (by omega)) ?_
  rintro r own2 ⟨rfl, rfl⟩
  refine ⟨.c (.row 2), [vBox v, itRow ys, some (.row 115 2 v.length (ckR v))], rfl, rfl, ?_⟩
  conv => whnf
  refine loopV_frz [2] ?_
  conv => whnf
  refine ⟨fun k hk => rfl, ?_⟩
  conv => whnf
  refine loopV ttok ftok (tkI ys.length v ys) ((nil_row 8 40 7 (itR []) rfl).trans (norm_weak [2, 7, 8] [some 0, some 1, some 3] rfl rfl)) ⟨v, ys, [], rfl, hv, fun x hx => hcl x (hp.mem_iff.1 hx), by omega, by simp; omega, rfl, rfl⟩ ?_
  rintro m st ⟨w, r, out, rfl, hw, hrc, hwl, hol, htk, rfl⟩
  conv => whnf
  refine call_frame2 [some 1, some 0] rfl rfl rfl rfl (ixr_c r (by omega) w (by omega) hw.1) ?_
  rintro rr own2 ⟨⟨k, hk, h1, h2, rfl⟩ | ⟨h1, rfl⟩, rfl⟩
  rotate_left
  · rw [takeL_none h1, List.append_nil] at htk
    refine ⟨vci .i64 (-1), [vBox w, itRow r, itRow out], rfl, rfl, ?_⟩
    conv => whnf
    refine drawV_quiet mixed (by kernel_rfl) ttok ftok ?_
    conv => whnf
    refine ⟨fun _ _ => rfl, ?_⟩
    conv => whnf
    refine ⟨fun _ _ => rfl, ?_⟩
    conv => whnf
    refine ⟨ys, hp, hs, ?_⟩
    rw [htk]
    all_goals rfl
  · rw [takeL_some hk h1 h2] at htk
    have hdl := delA_len hk
    refine ⟨vci .i64 k, [vBox w, itRow r, itRow out], rfl, rfl, ?_⟩
    conv => whnf
    refine ⟨⟨by omega, by omega⟩, ?_⟩
    conv => whnf
    rw [ti_nat]
    refine ⟨fun _ => itF (r.getD k it0), fun j hj2 => ?_, ?_⟩
    · obtain rfl : j = 0 := by omega
      rfl
    conv => whnf
    refine ⟨⟨by (try simp only [List.length_append, List.length_singleton]); omega, by show (List.length out + 1) * 28 ≤ _; (try simp only [List.length_append, List.length_singleton]); omega⟩, ?_⟩
    conv => whnf
    refine app1 (enc := itF) (d := it0) (l := out) (r.getD k it0) (fun k hk => rfl) rfl ?_
    conv => whnf
    rw [i64_s (by omega)]
    have hx := hrc (r.getD k it0) (by rw [List.getD_eq_getElem?_getD, List.getElem?_eq_getElem hk]; exact List.getElem_mem hk)
    generalize hxd : r.getD k it0 = x at htk h1 hx
    refine call_frame2 [some 1] rfl rfl rfl rfl (itDelete r k (k + 1) (by omega) (by omega) (by omega)) ?_
    rintro r2 own2 ⟨rfl, rfl⟩
    refine ⟨.c (.row 7), [vBox w, none, none, some (.cells 40 (itF x)), some (.row 40 7 1 fun _ => itF x), itRow (out ++ [x]), none, itRow (delA r k)], rfl, rfl, ?_⟩
    conv => whnf
    rw [show IntKind.u32.wrap (x.id.2 + 1) = x.id.2 + 1 from by rw [w_u32]; omega]
    refine call_pure (set_c w (by omega) hw.1 x.id.1 (x.id.2 + 1) (by omega) (by omega)) rfl ?_
    rintro _ rfl
    conv => whnf
    have hsl := setR_len w x.id.1 (x.id.2 + 1)
    refine ⟨(delA r k).length, _, by omega, norm_weak [2, 7, 8] [some 0, some 7, some 5] rfl rfl, putR w x, delA r k, out ++ [x], rfl, putR_may hw hx, fun y hy => hrc y ((delA_sub r k).subset hy), by unfold putR; omega, by simp; omega, ?_, rfl⟩
    rw [htk, List.append_assoc]
    rfl
end Go.Eng
/- The reference: items sorted, and taken. -/
set_option linter.unusedVariables false
set_option linter.unusedSimpArgs false
set_option maxRecDepth 100000
set_option maxHeartbeats 4000000
namespace Go.Eng
open Go Go.RowKit Go.Proofs
instance (a b : I2) : Decidable (ltI a b) := inferInstanceAs (Decidable (a.1 < b.1 ∨ a.1 = b.1 ∧ a.2 < b.2))
theorem before_c (a b : I2) : CallV Try.prog 95 [idA a, idA b] [] (fun r own' => own' = [] ∧ r = vcb (decide (ltI a b))) := by
  refine callV_pure Try.func95 rfl ttok ftok rfl rfl rfl (Nat.le_of_ble_eq_true rfl) ?_
  conv => whnf
  show vcb _ = _
  congr 3
  unfold ltI
  simp only [pickB, isLit]
  by_cases h1 : a.1 < b.1
  · simp [h1]
  · by_cases h2 : a.1 = b.1
    · simp [h1, h2]
    · simp [h1, h2]
def nsI (l : List It) : Prop := l.Pairwise fun x y => ¬ ltI y.id x.id
theorem take_snocI {l : List It} {k : Nat} (h : k < l.length) : l.take (k + 1) = l.take k ++ [l.getD k it0] := by
  rw [List.take_add_one, List.getD_eq_getElem?_getD, List.getElem?_eq_getElem h]; rfl
theorem ltI_total {a b : I2} (h : ltI a b) : ¬ ltI b a := by unfold ltI at *; omega
theorem ltI_mid {a b c : I2} (h1 : ltI a b) (h2 : ¬ ltI c b) : ltI a c := by unfold ltI at *; omega
theorem ins_ns {o : List It} {x : It} {j : Nat} (hj : j ≤ o.length) (hs : nsI o) (hq : ∀ q, q < j → ¬ ltI x.id (o.getD q it0).id) (hq2 : j < o.length → ltI x.id (o.getD j it0).id) : nsI (o.take j ++ ([x] ++ o.drop j)) := by
  have hg : ∀ j (hj : j < o.length), o.getD j it0 = o[j] := fun j hj => by rw [List.getD_eq_getElem?_getD, List.getElem?_eq_getElem hj]; rfl
  have hx : ∀ y, y ∈ o.drop j → ¬ ltI y.id x.id := fun y hy => by
    obtain ⟨q, hql, rfl⟩ := List.getElem_of_mem hy
    rw [List.length_drop] at hql
    have hjl : j < o.length := by omega
    have h0 := hq2 hjl
    rw [hg j hjl] at h0
    rw [List.getElem_drop]
    refine ltI_total ?_
    rcases Nat.eq_zero_or_pos q with rfl | h
    · simpa using h0
    · exact ltI_mid h0 (List.pairwise_iff_getElem.1 hs j (j + q) hjl (by omega) (by omega))
  have hs2 : nsI (o.take j ++ o.drop j) := by rw [List.take_append_drop]; exact hs
  unfold nsI at *
  rw [List.pairwise_append] at hs2 ⊢
  refine ⟨hs2.1, List.pairwise_cons.2 ⟨hx, hs2.2.1⟩, fun y hy z hz => ?_⟩
  rcases List.mem_cons.1 hz with rfl | hz
  · obtain ⟨q, hql, rfl⟩ := List.getElem_of_mem hy
    rw [List.length_take] at hql
    have := hq q (by omega)
    rw [hg q (by omega)] at this
    rw [List.getElem_take]
    exact this
  · exact hs2.2.2 y hy z hz
def soI (l : List It) (m : Nat) (st : St) : Prop := ∃ (k : Nat) (o : List It), m = l.length - k ∧ k ≤ l.length ∧ o.Perm (l.take k) ∧ nsI o ∧
  st = ⟨49, 0, [(0, itS l), (3, .c (.row 0)), (4, vci .i64 (k : Int))], [itRow o]⟩
def sqI (l o : List It) (k : Nat) (m : Nat) (st : St) : Prop := ∃ j : Nat, m = o.length - j ∧ j ≤ o.length ∧ (∀ q, q < j → ¬ ltI (l.getD k it0).id (o.getD q it0).id) ∧
  st = ⟨49, 0, [(0, itS l), (3, itS o), (4, vci .i64 (k : Int)), (5, vci .i64 (j : Int))], [none]⟩
def sjI (l o : List It) (k : Nat) (st : St) : Prop := ∃ j : Nat, j ≤ o.length ∧ (∀ q, q < j → ¬ ltI (l.getD k it0).id (o.getD q it0).id) ∧ (j < o.length → ltI (l.getD k it0).id (o.getD j it0).id) ∧
  st = ⟨49, 0, [(0, itS l), (3, itS o), (4, vci .i64 (k : Int)), (5, vci .i64 (j : Int))], [none]⟩
theorem sorted_c (l : List It) (hl : l.length ≤ 100000) : CallV Try.prog 70 [itS l] [] (fun r own' => own' = [] ∧ ∃ ys : List It, ys.Perm l ∧ nsI ys ∧ r = itS ys) := by
  refine callV_pure Try.func70 rfl ttok ftok rfl rfl rfl (Nat.le_of_ble_eq_true rfl) ?_
  conv => whnf
  refine loopV ttok ftok (soI l) ((nil_row 3 40 7 (itR []) rfl).trans (norm_weak [0, 3, 4] [some 0] rfl rfl)) ⟨0, [], rfl, Nat.zero_le _, .refl _, List.Pairwise.nil, rfl⟩ ?_
  rintro m st ⟨k, o, rfl, hk, hp, hs, rfl⟩
  have e1 := i64_s (k := k) (by omega)
  have hol := hp.length_eq
  rw [List.length_take] at hol
  conv => whnf
  refine onB_intro (fun h => ?_) (fun h => ?_)
  · have h := of_decide_eq_true h
    have hkl : k < l.length := by omega
    conv => whnf
    refine loopV_frz [0] ?_
    conv => whnf
    refine ⟨fun _ _ => rfl, ?_⟩
    conv => whnf
    refine loopV_cut 2 (sjI l o k) ?_ ?_
    · refine loopV ttok ftok (sqI l o k) (norm_weak [0, 3, 4, 5] [none] rfl rfl) ⟨0, rfl, Nat.zero_le _, fun q hq => by omega, rfl⟩ ?_
      rintro m st ⟨j, rfl, hj, hq, rfl⟩
      have e2 := i64_s (k := j) (by omega)
      conv => whnf
      refine onB_intro (fun h2 => ?_) (fun h2 => ?_)
      · have h2 := of_decide_eq_true h2
        have hjl : j < o.length := by omega
        conv => whnf
        refine drawV_quiet mixed (by kernel_rfl) ttok ftok ?_
        conv => whnf
        refine ⟨⟨by omega, by omega⟩, ?_⟩
        conv => whnf
        rw [ti_nat]
        refine ⟨⟨by omega, by omega⟩, ?_⟩
        conv => whnf
        rw [ti_nat]
        refine callQ (before_c (l.getD k it0).id (o.getD j it0).id) rfl rfl ?_
        conv => whnf
        cases hb : decide (ltI (l.getD k it0).id (o.getD j it0).id) with
        | true =>
          conv => whnf
          exact ⟨rfl, _, norm_weak [0, 3, 4, 5] [none] rfl rfl, j, hj, hq, fun _ => of_decide_eq_true hb, rfl⟩
        | false =>
          conv => whnf
          rw [e2]
          refine ⟨o.length - (j + 1), _, by omega, norm_weak [0, 3, 4, 5] [none] rfl rfl, j + 1, rfl, by omega, fun q hq3 => ?_, rfl⟩
          rcases Nat.lt_succ_iff_lt_or_eq.1 hq3 with h3 | rfl
          · exact hq q h3
          · exact of_decide_eq_false hb
      · have h2 := of_decide_eq_false h2
        conv => whnf
        exact ⟨rfl, _, norm_weak [0, 3, 4, 5] [none] rfl rfl, j, hj, hq, fun h3 => absurd h3 (by omega), rfl⟩
    · rintro st ⟨j, hj, hq, hq2, rfl⟩
      conv => whnf
      refine drawV_sched (.rd 0 (.rd 1 (.rd 2 (.rd 3 (.rd 5 (.rd 6 (.rd 7 (.ef 4 (.ef 8 (.rd 9 (.nil))))))))))) [1] mixed (by kernel_rfl) ttok ftok ?_
      conv => whnf
      refine ⟨⟨by omega, by omega⟩, ?_⟩
      conv => whnf
      rw [ti_nat]
      refine ⟨⟨by omega, by omega, by omega, by omega⟩, ?_⟩
      refine ⟨(o.drop j).length, itR (o.drop j), by rw [List.length_drop, ti_nat], fun q hq => ?_, ?_⟩
      · show itF _ = itF (o.getD ((j : Int).toNat + q) it0)
        rw [getD_drop, ti_nat]
      conv => whnf
      refine ⟨itR [l.getD k it0], fun q hq => ?_, ?_⟩
      · obtain rfl : q = 0 := by omega
        rw [ti_nat]
        rfl
      conv => whnf
      have hdl : (o.drop j).length = o.length - j := List.length_drop
      refine ⟨⟨by omega, by show (1 + (o.drop j).length) * 28 ≤ _; omega⟩, ?_⟩
      conv => whnf
      refine app_list (enc := itF) (d := it0) (l := [l.getD k it0]) (b := o.drop j) (fun k hk => rfl) (fun k hk => rfl) ?_
      conv => whnf
      have htl : (o.take j).length = j := by rw [List.length_take]; omega
      refine ⟨⟨by omega, by omega, by omega, by omega⟩, ?_⟩
      refine ⟨(o.take j).length, itR (o.take j), by rw [htl, ti_nat]; rfl, fun q hq => ?_, ?_⟩
      · show itF _ = itF (o.getD (Int.toNat 0 + q) it0)
        rw [getD_take _ _ _ _ (by omega), show Int.toNat 0 + q = q from Nat.zero_add q]
      conv => whnf
      refine ⟨⟨by omega, by show (0 + (o.take j).length) * 28 ≤ _; omega⟩, ?_⟩
      conv => whnf
      refine ⟨(o.take j).length, itR (o.take j), by omega, fun k hk => by omega, fun k hk => by rw [Nat.zero_add], ?_⟩
      conv => whnf
      have h1l : ([l.getD k it0] ++ o.drop j).length = 1 + (o.length - j) := by rw [List.length_append, hdl]; rfl
      refine ⟨⟨by omega, by show ((o.take j).length + ([l.getD k it0] ++ o.drop j).length) * 28 ≤ _; omega⟩, ?_⟩
      conv => whnf
      refine app_list (enc := itF) (d := it0) (l := o.take j) (b := [l.getD k it0] ++ o.drop j) (fun k hk => rfl) (fun k hk => rfl) ?_
      conv => whnf
      rw [e1]
      refine ⟨l.length - (k + 1), _, by omega, norm_weak [0, 3, 4] [some 5] rfl rfl, k + 1, o.take j ++ ([l.getD k it0] ++ o.drop j), rfl, by omega, ?_, ins_ns hj hs hq hq2, rfl⟩
      rw [take_snocI hkl]
      exact List.perm_middle.trans (((List.take_append_drop j o).symm ▸ hp).cons _ |>.trans (List.perm_append_singleton _ _).symm)
  · have h := of_decide_eq_false h
    have hk2 : k = l.length := by omega
    subst hk2
    rw [List.take_length] at hp
    conv => whnf
    refine ⟨fun _ _ => rfl, ?_⟩
    conv => whnf
    exact ⟨o, hp, hs, rfl⟩
end Go.Eng
/- The reference: items taken. -/
set_option linter.unusedVariables false
set_option linter.unusedSimpArgs false
set_option maxRecDepth 100000
set_option maxHeartbeats 4000000
namespace Go.Eng
open Go Go.RowKit Go.Proofs
def rtI (N : Nat) (v0 : CV) (r0 : List It) (m : Nat) (st : St) : Prop := ∃ (v : CV) (r out : List It), m = r.length ∧ mayV v ∧ (∀ x, x ∈ r → 0 < x.id.1 ∧ 0 ≤ x.id.2 ∧ x.id.2 ≤ 4294967294) ∧ v.length + r.length ≤ 200000 ∧ out.length + r.length ≤ 100000 ∧
  takeL N v0 r0 = (out ++ (takeL r.length v r).1, (takeL r.length v r).2) ∧
  st = ⟨69, 0, [(0, ckS v), (7, itS r), (8, .c (.row 0))], [itRow out]⟩
def rtA (v : CV) (r : List It) (i : Nat) (at_ : Int) : Prop := (at_ = -1 ∧ i ≤ r.length ∧ ∀ j, j < i → rdyR v (r.getD j it0) = false) ∨ (∃ q : Nat, at_ = q ∧ i = q + 1 ∧ q < r.length ∧ rdyR v (r.getD q it0) = true ∧ ∀ j, j < q → rdyR v (r.getD j it0) = false)
def rtQ (v : CV) (r out : List It) (m : Nat) (st : St) : Prop := ∃ (i : Nat) (at_ : Int), m = r.length + 1 - i ∧ i ≤ r.length ∧ rtA v r i at_ ∧ st = ⟨69, 0, [(0, ckS v), (7, itS r), (8, .c (.row 0)), (9, vci .i64 at_), (10, vci .i64 (i : Int))], [itRow out]⟩
def rtJ (v : CV) (r out : List It) (st : St) : Prop := ∃ at_ : Int, ((at_ = -1 ∧ ∀ j, j < r.length → rdyR v (r.getD j it0) = false) ∨ (∃ q : Nat, at_ = q ∧ q < r.length ∧ rdyR v (r.getD q it0) = true ∧ ∀ j, j < q → rdyR v (r.getD j it0) = false)) ∧
  st = ⟨69, 0, [(0, ckS v), (7, itS r), (8, .c (.row 0)), (9, vci .i64 at_)], [itRow out]⟩
theorem rtake_c (v : CV) (l : List It) (hvl : v.length ≤ 100000) (hll : l.length ≤ 100000) (hv : mayV v) (hcl : ∀ x, x ∈ l → 0 < x.id.1 ∧ 0 ≤ x.id.2 ∧ x.id.2 ≤ 4294967294) : CallV Try.prog 33 [ckS v, itS l] []
    (fun r own' => own' = [] ∧ ∃ ys : List It, ys.Perm l ∧ nsI ys ∧ r = .tup [itS (takeL ys.length v ys).1, itS (takeL ys.length v ys).2.1, ckS (takeL ys.length v ys).2.2]) := by
  refine callV_pure Try.func33 rfl ttok ftok rfl rfl rfl (Nat.le_of_ble_eq_true rfl) ?_
  conv => whnf
  refine call_pure (sorted_c l hll) rfl ?_
  rintro _ ⟨ys, hp, hs, rfl⟩
  have hlen := hp.length_eq
  conv => whnf
  refine loopV ttok ftok (rtI ys.length v ys) ((nil_row 8 40 7 (itR []) rfl).trans (norm_weak [0, 7, 8] [some 0] rfl rfl)) ⟨v, ys, [], rfl, hv, fun x hx => hcl x (hp.mem_iff.1 hx), by omega, by simp; omega, rfl, rfl⟩ ?_
  rintro m st ⟨w, r, out, rfl, hw, hrc, hwl, hol, htk, rfl⟩
  conv => whnf
  refine loopV_cut 2 (rtJ w r out) ?_ ?_
  · refine loopV ttok ftok (rtQ w r out) (norm_weak [0, 7, 8, 9, 10] [some 0] rfl rfl) ⟨0, -1, rfl, Nat.zero_le _, .inl ⟨rfl, Nat.zero_le _, fun j hj => by omega⟩, rfl⟩ ?_
    rintro m st ⟨i, at_, rfl, hil, hA, rfl⟩
    have e1 := i64_s (k := i) (by omega)
    rcases hA with ⟨rfl, hi2, hj⟩ | ⟨q, rfl, rfl, hq, hq2, hj⟩
    · conv => whnf
      refine onB_intro (fun h => ?_) (fun h => ?_)
      · have h : i < r.length := by
          simp [pickB, isLit] at h
          exact h
        conv => whnf
        refine ⟨⟨by omega, by omega⟩, ?_⟩
        conv => whnf
        rw [ti_nat]
        refine call_pure (rready_c w (by omega) (r.getD i it0)) rfl ?_
        rintro _ rfl
        conv => whnf
        cases hb : rdyR w (r.getD i it0) with
        | true =>
          conv => whnf
          rw [e1]
          exact ⟨r.length + 1 - (i + 1), _, by omega, norm_weak [0, 7, 8, 9, 10] [some 0] rfl rfl, i + 1, i, rfl, by omega, .inr ⟨i, rfl, rfl, h, hb, hj⟩, rfl⟩
        | false =>
          conv => whnf
          rw [e1]
          refine ⟨r.length + 1 - (i + 1), _, by omega, norm_weak [0, 7, 8, 9, 10] [some 0] rfl rfl, i + 1, -1, rfl, by omega, .inl ⟨rfl, by omega, fun q hq3 => ?_⟩, rfl⟩
          rcases Nat.lt_succ_iff_lt_or_eq.1 hq3 with h3 | rfl
          · exact hj q h3
          · exact hb
      · have h : ¬ i < r.length := fun e => by
          simp [pickB, isLit] at h
          omega
        conv => whnf
        exact ⟨rfl, _, norm_weak [0, 7, 8, 9] [some 0] rfl rfl, -1, .inl ⟨rfl, fun j hj2 => hj j (by omega)⟩, rfl⟩
    · conv => whnf
      refine onB_intro (fun h => ?_) (fun h => ?_)
      · simp [pickB, isLit] at h
        omega
      · conv => whnf
        exact ⟨rfl, _, norm_weak [0, 7, 8, 9] [some 0] rfl rfl, q, .inr ⟨q, rfl, hq, hq2, hj⟩, rfl⟩
  · rintro st ⟨at_, ⟨rfl, hj⟩ | ⟨k, rfl, hk, h1, h2⟩, rfl⟩
    · rw [takeL_none hj, List.append_nil] at htk
      conv => whnf
      refine ⟨fun _ _ => rfl, ?_⟩
      conv => whnf
      refine ⟨ys, hp, hs, ?_⟩
      rw [htk]
      all_goals rfl
    · rw [takeL_some hk h1 h2] at htk
      have hdl := delA_len hk
      conv => whnf
      refine ⟨⟨by omega, by omega⟩, ?_⟩
      conv => whnf
      rw [ti_nat]
      have hx := hrc (r.getD k it0) (by rw [List.getD_eq_getElem?_getD, List.getElem?_eq_getElem hk]; exact List.getElem_mem hk)
      refine ⟨fun _ => itF (r.getD k it0), fun j hj2 => ?_, ?_⟩
      · obtain rfl : j = 0 := by omega
        rfl
      conv => whnf
      refine ⟨⟨by (try simp only [List.length_append, List.length_singleton]); omega, by show (List.length out + 1) * 28 ≤ _; (try simp only [List.length_append, List.length_singleton]); omega⟩, ?_⟩
      conv => whnf
      refine app1 (enc := itF) (d := it0) (l := out) (r.getD k it0) (fun k hk => rfl) rfl ?_
      conv => whnf
      refine drawV_mix 14 mixed (by kernel_rfl) ttok ftok ?_
      conv => whnf
      refine ⟨⟨by omega, by omega⟩, ?_⟩
      conv => whnf
      rw [ti_nat]
      refine ⟨⟨by omega, by omega⟩, ?_⟩
      conv => whnf
      generalize hxd : r.getD k it0 = x at htk h1 hx
      rw [show IntKind.u32.wrap (x.id.2 + 1) = x.id.2 + 1 from by rw [w_u32]; omega]
      refine call_pure (rset_c w (by omega) x.id.1 (x.id.2 + 1)) rfl ?_
      rintro _ rfl
      conv => whnf
      refine drawV_sched (.rd 1 (.rd 2 (.rd 3 (.rd 5 (.rd 6 (.rd 7 (.rd 8 (.ef 0 (.ef 4 (.ef 9 (.rd 10 (.nil)))))))))))) [3, 4] mixed (by kernel_rfl) ttok ftok ?_
      conv => whnf
      have htl : (r.take k).length = k := by rw [List.length_take]; omega
      have hdr : (r.drop (k + 1)).length = r.length - (k + 1) := List.length_drop
      refine ⟨⟨by omega, by omega, by omega, by omega⟩, ?_⟩
      refine ⟨(r.take k).length, itR (r.take k), by rw [htl, ti_nat]; rfl, fun q hq => ?_, ?_⟩
      · show itF _ = itF (r.getD (Int.toNat 0 + q) it0)
        rw [getD_take _ _ _ _ (by omega), show Int.toNat 0 + q = q from Nat.zero_add q]
      conv => whnf
      rw [i64_s (by omega)]
      refine ⟨⟨by omega, by omega, by omega, by omega⟩, ?_⟩
      refine ⟨(r.drop (k + 1)).length, itR (r.drop (k + 1)), by omega, fun q hq => ?_, ?_⟩
      · show itF _ = itF (r.getD (((k + 1 : Nat) : Int).toNat + q) it0)
        rw [getD_drop, ti_nat]
      conv => whnf
      refine ⟨⟨by omega, by show (0 + (r.take k).length) * 28 ≤ _; omega⟩, ?_⟩
      conv => whnf
      refine ⟨(r.take k).length, itR (r.take k), by omega, fun k hk => by omega, fun k hk => by rw [Nat.zero_add], ?_⟩
      conv => whnf
      refine ⟨⟨by omega, by show ((r.take k).length + (r.drop (k + 1)).length) * 28 ≤ _; omega⟩, ?_⟩
      conv => whnf
      refine app_list (enc := itF) (d := it0) (l := r.take k) (b := r.drop (k + 1)) (fun k hk => rfl) (fun k hk => rfl) ?_
      conv => whnf
      refine frz_end [5] ?_
      conv => whnf
      refine ⟨fun _ _ => rfl, ?_⟩
      conv => whnf
      have hsl := setR_len w x.id.1 (x.id.2 + 1)
      refine ⟨(delA r k).length, _, by omega, norm_weak [0, 7, 8] [some 2] rfl rfl, putR w x, delA r k, out ++ [x], rfl, putR_may hw hx, fun y hy => hrc y ((delA_sub r k).subset hy), by unfold putR; omega, by simp; omega, ?_, rfl⟩
      rw [htk, List.append_assoc]
      rfl
end Go.Eng
/- Items that may wait; a number modulo another one. -/
set_option linter.unusedVariables false
set_option linter.unusedSimpArgs false
set_option maxRecDepth 100000
set_option maxHeartbeats 4000000
namespace Go.Eng
open Go Go.RowKit Go.Proofs
theorem tm_em (n b : Int) (hb : 0 < b) : (n.tmod b < 0 → n % b = n.tmod b + b) ∧ (¬ n.tmod b < 0 → n % b = n.tmod b) := by
  have h0 := Int.emod_nonneg n (show b ≠ 0 by omega)
  have h1 := Int.emod_lt_of_pos n hb
  have h2 : (b.natAbs : Int) = b := Int.natAbs_of_nonneg (by omega)
  rw [Int.tmod_eq_emod]
  split <;> constructor <;> intro h <;> omega
theorem pick_c (n by_ : Int) (hn : -9223372036854775808 ≤ n ∧ n ≤ 9223372036854775807) (hb : 0 < by_ ∧ by_ ≤ 1000000) : CallV Try.prog 12 [vci .i64 n, vci .i64 by_] [] (fun r own' => own' = [] ∧ r = vci .i64 (n % by_)) := by
  refine callV_pure Try.func12 rfl ttok ftok rfl rfl rfl (Nat.le_of_ble_eq_true rfl) ?_
  conv => whnf
  refine ⟨hb.1, ?_⟩
  conv => whnf
  obtain ⟨t1, t2⟩ := tm_em n by_ hb.1
  have h0 := Int.emod_nonneg n (show by_ ≠ 0 by omega)
  have h1 := Int.emod_lt_of_pos n hb.1
  by_cases h : n.tmod by_ < 0
  · rw [decide_eq_true h]
    conv => whnf
    rw [← t1 h, w_i64 (by omega) (by omega)]
    all_goals first | rfl | exact ⟨rfl, rfl⟩
  · rw [decide_eq_false h]
    conv => whnf
    rw [← t2 h]
    all_goals first | rfl | exact ⟨rfl, rfl⟩
def wOk (v : CV) (x : It) : Prop := x.id.1 ≠ 0 ∧ x.id.2 ≤ 4294967294 ∧ nxt v x.id.1 ≤ x.id.2
instance (v : CV) (x : It) : Decidable (wOk v x) := inferInstanceAs (Decidable (x.id.1 ≠ 0 ∧ x.id.2 ≤ 4294967294 ∧ nxt v x.id.1 ≤ x.id.2))
def wtI (v : CV) (l : List It) (m : Nat) (st : St) : Prop := ∃ (k : Nat) (o : List It), m = l.length - k ∧ k ≤ l.length ∧ o.length ≤ k ∧ (∀ x, x ∈ o → x ∈ l ∧ wOk v x) ∧ o.Pairwise (fun x y => x.id ≠ y.id) ∧
  st = ⟨77, 0, [(0, ckS v), (1, itS l), (5, .c (.row 0)), (6, vci .i64 (k : Int))], [itRow o]⟩
def wuI (v : CV) (l o : List It) (k : Nat) (P : Prop) (m : Nat) (st : St) : Prop := ∃ (j : Nat) (b : Bool), m = o.length - j ∧ j ≤ o.length ∧ (b = true ↔ P ∧ ∀ q, q < j → (o.getD q it0).id ≠ (l.getD k it0).id) ∧
  st = ⟨77, 0, [(0, ckS v), (1, itS l), (5, .c (.row 0)), (6, vci .i64 (k : Int)), (7, vcb b), (8, vci .i64 (j : Int))], [itRow o]⟩
theorem waiting_c (v : CV) (l : List It) (hvl : v.length ≤ 100000) (hll : l.length ≤ 100000) (hok : ∀ x, x ∈ l → itOk x) : CallV Try.prog 29 [ckS v, itS l] []
    (fun r own' => own' = [] ∧ ∃ m : List It, m.length ≤ l.length ∧ wtOk v m ∧ r = itS m) := by
  refine callV_pure Try.func29 rfl ttok ftok rfl rfl rfl (Nat.le_of_ble_eq_true rfl) ?_
  conv => whnf
  refine loopV ttok ftok (wtI v l) ((nil_row 5 40 7 (itR []) rfl).trans (norm_weak [0, 1, 5, 6] [some 0] rfl rfl)) ⟨0, [], rfl, Nat.zero_le _, Nat.le_refl _, fun x hx => (by cases hx), List.Pairwise.nil, rfl⟩ ?_
  rintro m st ⟨k, o, rfl, hk, hol, ho, hnd, rfl⟩
  have e1 := i64_s (k := k) (by omega)
  conv => whnf
  refine onB_intro (fun h => ?_) (fun h => ?_)
  · have h := of_decide_eq_true h
    have hkl : k < l.length := by omega
    have hnx := hnd
    conv => whnf
    refine drawV_at ⟨77, 0, [(0, ckS v), (1, itS l), (5, .c (.row 0)), (6, vci .i64 (k : Int)), (7, vcb (decide (wOk v (l.getD k it0))))], [itRow o]⟩ ?_ ?_
    · refine drawV_quiet mixed (by kernel_rfl) ttok ftok ?_
      conv => whnf
      refine ⟨⟨by omega, by omega⟩, ?_⟩
      conv => whnf
      rw [ti_nat]
      by_cases hA : (l.getD k it0).id.1 = 0
      · rw [show ((l.getD k it0).id.1 != 0) = false from by rw [hA]; rfl]
        conv => whnf
        rw [show decide (wOk v (l.getD k it0)) = false from decide_eq_false (fun e => e.1 hA)]
        exact env_weak [0, 1, 5, 6, 7] rfl
      rw [show ((l.getD k it0).id.1 != 0) = true from bne_iff_ne.2 hA]
      conv => whnf
      refine ⟨⟨by omega, by omega⟩, ?_⟩
      conv => whnf
      rw [ti_nat]
      by_cases hB : (l.getD k it0).id.2 ≤ 4294967294
      rotate_left
      · rw [decide_eq_false hB]
        conv => whnf
        rw [show decide (wOk v (l.getD k it0)) = false from decide_eq_false (fun e => hB e.2.1)]
        exact env_weak [0, 1, 5, 6, 7] rfl
      rw [decide_eq_true hB]
      conv => whnf
      refine ⟨⟨by omega, by omega⟩, ?_⟩
      conv => whnf
      rw [ti_nat]
      refine ⟨⟨by omega, by omega⟩, ?_⟩
      conv => whnf
      refine callQ (rnext_c v (by omega) (l.getD k it0).id.1) rfl rfl ?_
      conv => whnf
      rw [show decide (wOk v (l.getD k it0)) = decide ((l.getD k it0).id.2 ≥ nxt v (l.getD k it0).id.1) from decide_eq_decide.2 ⟨fun e => e.2.2, fun e => ⟨hA, hB, e⟩⟩]
      exact env_weak [0, 1, 5, 6, 7] rfl
    conv => whnf
    refine loopV ttok ftok (wuI v l o k (wOk v (l.getD k it0))) (norm_weak [0, 1, 5, 6, 7, 8] [some 0] rfl rfl) ⟨0, decide (wOk v (l.getD k it0)), rfl, Nat.zero_le _, ⟨fun e => ⟨of_decide_eq_true e, fun q hq => by omega⟩, fun e => decide_eq_true e.1⟩, rfl⟩ ?_
    rintro m st ⟨j, b, rfl, hj, hb, rfl⟩
    have e2 := i64_s (k := j) (by omega)
    conv => whnf
    refine onB_intro (fun h2 => ?_) (fun h2 => ?_)
    · have h2 := of_decide_eq_true h2
      have hjl : j < o.length := by omega
      conv => whnf
      refine drawV_join mixed (by kernel_rfl) ttok ?_
      conv => whnf
      refine ⟨?_, ?_⟩
      · conv => whnf
        intro g1
        conv => whnf
        omega
      conv => whnf
      refine ⟨?_, ?_⟩
      · conv => whnf
        intro g1
        conv => whnf
        omega
      conv => whnf
      rw [ti_nat, ti_nat, e2]
      refine ⟨o.length - (j + 1), _, by omega, norm_weak [0, 1, 5, 6, 7, 8] [some 0] rfl rfl, j + 1, _, rfl, by omega, ?_, rfl⟩
      have hne : (!((o.getD j it0).id.1 == (l.getD k it0).id.1 && ((o.getD j it0).id.2 == (l.getD k it0).id.2 && true))) = true ↔ (o.getD j it0).id ≠ (l.getD k it0).id := by
        rw [Bool.not_eq_true', Bool.and_true, ← Bool.not_eq_true, Bool.and_eq_true, beq_iff_eq, beq_iff_eq]
        exact not_congr ⟨fun e => Prod.ext e.1 e.2, fun e => by rw [e]; exact ⟨rfl, rfl⟩⟩
      show (b && _) = true ↔ _
      rw [Bool.and_eq_true, hne, hb]
      constructor
      · rintro ⟨⟨a1, a2⟩, a3⟩
        refine ⟨a1, fun q hq => ?_⟩
        rcases Nat.lt_succ_iff_lt_or_eq.1 hq with h3 | rfl
        · exact a2 q h3
        · exact a3
      · rintro ⟨a1, a2⟩
        exact ⟨⟨a1, fun q hq => a2 q (by omega)⟩, a2 j (by omega)⟩
    · have h2 := of_decide_eq_false h2
      have hjl : j = o.length := by omega
      subst hjl
      cases b with
      | false =>
        conv => whnf
        rw [e1]
        exact ⟨l.length - (k + 1), _, by omega, norm_weak [0, 1, 5, 6] [some 0] rfl rfl, k + 1, o, rfl, by omega, by omega, ho, hnd, rfl⟩
      | true =>
        obtain ⟨hw, hne⟩ := hb.1 rfl
        conv => whnf
        refine ⟨⟨by omega, by omega⟩, ?_⟩
        conv => whnf
        rw [ti_nat]
        have hin : l.getD k it0 ∈ l := by rw [List.getD_eq_getElem?_getD, List.getElem?_eq_getElem hkl]; exact List.getElem_mem hkl
        generalize l.getD k it0 = x at hw hne hin
        refine ⟨fun _ => itF x, fun j hj2 => ?_, ?_⟩
        · obtain rfl : j = 0 := by omega
          rfl
        conv => whnf
        refine ⟨⟨by (try simp only [List.length_append, List.length_singleton]); omega, by show (List.length o + 1) * 28 ≤ _; (try simp only [List.length_append, List.length_singleton]); omega⟩, ?_⟩
        conv => whnf
        refine app1 (enc := itF) (d := it0) (l := o) x (fun k hk => rfl) rfl ?_
        conv => whnf
        rw [e1]
        refine ⟨l.length - (k + 1), _, by omega, norm_weak [0, 1, 5, 6] [some 2] rfl rfl, k + 1, o ++ [x], rfl, by omega, by simp; omega, fun y hy => ?_, ?_, rfl⟩
        · rcases List.mem_append.1 hy with hy | hy
          · exact ho y hy
          · rw [List.mem_singleton] at hy; rw [hy]; exact ⟨hin, hw⟩
        · refine List.pairwise_append.2 ⟨hnd, by simp, fun y hy z hz => ?_⟩
          rw [List.mem_singleton] at hz
          rw [hz]
          obtain ⟨q, hq, rfl⟩ := List.getElem_of_mem hy
          have := hne q hq
          rwa [List.getD_eq_getElem?_getD, List.getElem?_eq_getElem hq] at this
  · have h := of_decide_eq_false h
    have hk2 : k = l.length := by omega
    subst hk2
    conv => whnf
    refine ⟨fun _ _ => rfl, ?_⟩
    conv => whnf
    refine ⟨o, hol, ⟨fun x hx => ?_, fun x hx => (ho x hx).2.2.2, hnd⟩, rfl⟩
    obtain ⟨⟨a1, a2⟩, a3, a4⟩ := (hok x (ho x hx).1).1
    obtain ⟨b1, b2, b3⟩ := (ho x hx).2
    omega
end Go.Eng
/- The document's example for items that wait; the law PendTells. -/
set_option linter.unusedVariables false
set_option linter.unusedSimpArgs false
set_option maxRecDepth 100000
set_option maxHeartbeats 4000000
namespace Go.Eng
open Go Go.RowKit Go.Proofs
theorem ns_ris {l : List It} (h : nsI l) (hn : l.Pairwise fun x y => x.id ≠ y.id) : risI l := by
  refine (h.and hn).imp fun {x y} ⟨h1, h2⟩ => ?_
  unfold ltI at *
  have : x.id.1 ≠ y.id.1 ∨ x.id.2 ≠ y.id.2 := by
    rcases Decidable.em (x.id.1 = y.id.1) with e | e
    · exact .inr fun e2 => h2 (Prod.ext e e2)
    · exact .inl e
  omega
theorem ns_uniq {m ys zs : List It} (hm : m.Pairwise fun x y => x.id ≠ y.id) (h1 : ys.Perm m) (h2 : zs.Perm m) (n1 : nsI ys) (n2 : nsI zs) : ys = zs :=
  rs_ext (ns_ris n1 (hm.perm h1.symm fun h => Ne.symm h)) (ns_ris n2 (hm.perm h2.symm fun h => Ne.symm h)) (h1.trans h2.symm)
def exA : It := ⟨(1, 1), (0, 0), (0, 0), 0⟩
def exB : It := ⟨(1, 0), (0, 0), (0, 0), 0⟩
theorem up_c : CallV Try.prog 27 [] [] (fun r own' => own' = [] ∧ r = vcb true) := by
  have hwt : wtOk [] [exA, exB] := ⟨fun x hx => by
    simp only [List.mem_cons, List.not_mem_nil, or_false] at hx
    rcases hx with rfl | rfl <;> simp [exA, exB], fun x hx => by
    simp only [List.mem_cons, List.not_mem_nil, or_false] at hx
    rcases hx with rfl | rfl <;> simp [exA, exB, nxt], by simp [exA, exB]⟩
  refine callV_pure Try.func27 rfl ttok ftok rfl rfl rfl (Nat.le_of_ble_eq_true rfl) ?_
  conv => whnf
  refine ⟨itR [exA, exB], fun k hk => ?_, ?_⟩
  · match k, hk with
    | 0, _ => rfl
    | 1, _ => rfl
  conv => whnf
  refine ⟨fun j hj => ?_, ?_⟩
  · rfl
  conv => whnf
  refine callV_args (argsLe_nil 2 (ckR []) (argsLe_refl _)) ?_
  have hmay : mayV [] := ⟨List.Pairwise.nil, fun x hx => by cases hx⟩
  refine call_pure (take_c [] [exA, exB] (by decide) (by decide) hmay hwt.cl) rfl ?_
  rintro _ ⟨ys, hp, hs, rfl⟩
  obtain rfl : ys = [exB, exA] := ns_uniq hwt.nd hp (.swap _ _ _) hs (by simp [nsI, exA, exB, ltI])
  rw [show takeL [exB, exA].length [] [exB, exA] = ([exB, exA], [], [(1, 2)]) from rfl]
  conv => whnf
  refine callV_args (argsLe_nil 2 (ckR []) (argsLe_refl _)) ?_
  refine call_pure (ready_c [] (by decide) List.Pairwise.nil exB) rfl ?_
  rintro _ rfl
  rw [show rdyR [] exB = true from rfl]
  conv => whnf
  refine callV_args (argsLe_nil 2 (ckR []) (argsLe_refl _)) ?_
  refine call_pure (ready_c [] (by decide) List.Pairwise.nil exA) rfl ?_
  rintro _ rfl
  rw [show rdyR [] exA = false from rfl]
  conv => whnf
  refine ⟨itR [exB, exA], fun k hk => ?_, ?_⟩
  · match k, hk with
    | 0, _ => rfl
    | 1, _ => rfl
  conv => whnf
  refine ⟨fun j hj => rfl, ?_⟩
  conv => whnf
  refine call_pure (sameit_c [exB, exA] [exB, exA] (by decide) (by decide)) rfl ?_
  rintro _ (⟨-, rfl⟩ | ⟨h, rfl⟩)
  rotate_left
  · exact absurd rfl h
  conv => whnf
  refine call_pure (rnext_c [(1, 2)] (by decide) 1) rfl ?_
  rintro _ rfl
  rw [show nxt [(1, 2)] 1 = 2 from rfl]
  conv => whnf
  all_goals first | rfl | exact ⟨rfl, rfl⟩
theorem Tk_len : ∀ {T : List It} {v w : CV}, Tk v T w → w.length ≤ v.length + T.length
  | [], v, w, h => by
    have h : w = v := h
    subst h; simp
  | x :: T, v, w, h => by
    have h1 := Tk_len h.2
    have h2 := setR_len v x.id.1 (x.id.2 + 1)
    unfold putR at h1
    simp only [List.length_cons]
    omega
def ptI (v : CV) (m : List It) (n : Nat) (st : St) : Prop := ∃ k : Nat, n = m.length - k ∧ k ≤ m.length ∧ st = ⟨89, 0, [(0, ckS v), (5, vcb true), (7, itS m), (8, vci .i64 (k : Int))], []⟩
theorem ptells_c (v : CV) (l : List It) (hvl : v.length ≤ 1048576) (hll : l.length ≤ 1048576) (hvn : ∀ x ∈ v, 0 ≤ x.1 ∧ 0 ≤ x.2) (hok : ∀ x, x ∈ l → itOk x) :
    CallV Try.prog 6 [ckS v, itS l] [] (fun r own' => own' = [] ∧ r = vcb true) := by
  refine callV_pure Try.func6 rfl ttok ftok rfl rfl rfl (Nat.le_of_ble_eq_true rfl) ?_
  conv => whnf
  refine call_pure (up_c) rfl ?_
  rintro _ rfl
  conv => whnf
  refine call_pure (rmay_c v (by omega) hvn) rfl ?_
  rintro _ ⟨bm, hbm, rfl⟩
  conv => whnf
  by_cases lv : v.length ≤ 20
  rotate_left
  · rw [show decide ((v.length : Int) > 20) = true from decide_eq_true (by omega)]
    conv => whnf
    all_goals first | rfl | exact ⟨rfl, rfl⟩
  rw [show decide ((v.length : Int) > 20) = false from decide_eq_false (by omega)]
  conv => whnf
  by_cases ll : l.length ≤ 60
  rotate_left
  · rw [show decide ((l.length : Int) > 60) = true from decide_eq_true (by omega)]
    conv => whnf
    all_goals first | rfl | exact ⟨rfl, rfl⟩
  rw [show decide ((l.length : Int) > 60) = false from decide_eq_false (by omega)]
  conv => whnf
  cases bm with
  | false =>
    conv => whnf
    all_goals first | rfl | exact ⟨rfl, rfl⟩
  | true =>
  have hv := hbm.1 rfl
  conv => whnf
  refine call_pure (waiting_c v l (by omega) (by omega) hok) rfl ?_
  rintro _ ⟨m, hml, hm, rfl⟩
  conv => whnf
  refine loopV ttok ftok (ptI v m) (env_weak [0, 5, 7, 8] rfl) ⟨0, rfl, Nat.zero_le _, rfl⟩ ?_
  rintro n st ⟨k, rfl, hk, rfl⟩
  have e1 := i64_s (k := k) (by omega)
  conv => whnf
  refine onB_intro (fun h => ?_) (fun h => ?_)
  · have h := of_decide_eq_true h
    conv => whnf
    refine drawV_quiet mixed (by kernel_rfl) ttok ftok ?_
    conv => whnf
    refine ⟨⟨by omega, by omega⟩, ?_⟩
    conv => whnf
    rw [ti_nat]
    refine callQ (ready_c v (by omega) hv.1 (m.getD k it0)) rfl rfl ?_
    conv => whnf
    refine ⟨⟨by omega, by omega⟩, ?_⟩
    conv => whnf
    rw [ti_nat]
    refine callQ (rready_c v (by omega) (m.getD k it0)) rfl rfl ?_
    conv => whnf
    rw [show (!(rdyR v (m.getD k it0) == rdyR v (m.getD k it0))) = false from by rw [beq_self_eq_true]; rfl]
    conv => whnf
    rw [e1]
    exact ⟨m.length - (k + 1), _, by omega, env_weak [0, 5, 7, 8] rfl, k + 1, rfl, by omega, rfl⟩
  · have h := of_decide_eq_false h
    conv => whnf
    refine call_pure (take_c v m (by omega) (by omega) hv hm.cl) rfl ?_
    rintro _ ⟨ys, hp, hs, rfl⟩
    conv => whnf
    refine call_pure (rtake_c v m (by omega) (by omega) hv hm.cl) rfl ?_
    rintro _ ⟨zs, hp2, hs2, rfl⟩
    obtain rfl := ns_uniq hm.nd hp hp2 hs hs2
    have hlen := hp.length_eq
    have hT := takeL_ok ys.length v ys (Nat.le_refl _)
    have hTl := hT.perm.length_eq
    rw [List.length_append] at hTl
    generalize takeL ys.length v ys = t at hT hTl
    obtain ⟨t1, t2, t3⟩ := t
    have hwl : t3.length ≤ v.length + t1.length := Tk_len hT.run
    simp only at hTl
    conv => whnf
    refine call_pure (sameit_c t1 t1 (by omega) (by omega)) rfl ?_
    rintro _ (⟨-, rfl⟩ | ⟨h, rfl⟩)
    rotate_left
    · exact absurd rfl h
    conv => whnf
    refine call_pure (sameit_c t2 t2 (by omega) (by omega)) rfl ?_
    rintro _ (⟨-, rfl⟩ | ⟨h, rfl⟩)
    rotate_left
    · exact absurd rfl h
    conv => whnf
    refine call_pure (same_c t3 t3 (by omega) (by omega)) rfl ?_
    rintro _ rfl
    rw [show decide (t3 = t3) = true from decide_eq_true rfl]
    conv => whnf
    all_goals first | rfl | exact ⟨rfl, rfl⟩
theorem rd_idP {B d : Nat} {cs : List IC} (h : Rd tt B (d + 2) 38 cs) : ∃ a : I2, u32P a ∧ cs = idF a := by
  obtain ⟨x1, y1, ⟨v, w1, rfl⟩, ⟨x2, y2, ⟨w, w2, rfl⟩, rfl, rfl⟩, rfl⟩ := h
  have h1 := wf_u32 w1
  have h2 := wf_u32 w2
  exact ⟨(v, w), ⟨h1, h2⟩, rfl⟩
theorem rd_itP {B d : Nat} {cs : List IC} (h : Rd tt B (d + 3) 40 cs) : ∃ x : It, itOk x ∧ cs = itF x := by
  obtain ⟨x1, y1, ha, ⟨x2, y2, hb, ⟨x3, y3, hc, ⟨x4, y4, ⟨v, wv, rfl⟩, rfl, rfl⟩, rfl⟩, rfl⟩, rfl⟩ := h
  obtain ⟨a, ka, rfl⟩ := rd_idP ha
  obtain ⟨b, kb, rfl⟩ := rd_idP hb
  obtain ⟨c, kc, rfl⟩ := rd_idP hc
  exact ⟨⟨a, b, c, v⟩, ⟨ka, kb, kc⟩, rfl⟩
theorem rd_itsP {B d : Nat} {a : AV} (h : RdA tt B (d + 4) 22 a) : ∃ l : List It, l.length ≤ B ∧ (∀ x, x ∈ l → itOk x) ∧ ∀ (L : Nat → Value) (hp : Hp) v, DenA L hp a v → DenA L hp (itS l) v := by
  obtain ⟨c, ⟨n, f, hn, hf, e⟩, rfl⟩ := h
  cases e
  obtain ⟨l, hl, hf2, hR⟩ := list_of (enc := itF) (R := itOk) it0 (fun k hk => rd_itP (hf k hk))
  refine ⟨l, by omega, fun s hs => ?_, fun L hp v hd => ?_⟩
  · obtain ⟨j, hj, rfl⟩ := mem_getD (d := it0) hs
    exact hR j (by omega)
  subst hl
  exact den_sl_ext hd (fun k hk => (hf2 k hk).symm)
theorem rd_ckP {T : TT} {B d : Nat} {cs : List IC} (h : Rd tt B (d + 3) 115 cs) : ∃ a : Int × Int, (0 ≤ a.1 ∧ 0 ≤ a.2) ∧ cs = ckF a := by
  obtain ⟨x1, y1, ⟨v, w1, rfl⟩, ⟨x2, y2, ⟨w, w2, rfl⟩, rfl, rfl⟩, rfl⟩ := h
  have h1 := wf_u32 w1
  have h2 := wf_u32 w2
  exact ⟨(v, w), ⟨h1.1, h2.1⟩, rfl⟩
theorem rd_cksP {B d : Nat} {a : AV} (h : RdA tt B (d + 5) 71 a) : ∃ l : CV, (∀ x ∈ l, 0 ≤ x.1 ∧ 0 ≤ x.2) ∧ l.length ≤ B ∧ ∀ (L : Nat → Value) (hp : Hp) v, DenA L hp a v → DenA L hp (ckS l) v := by
  obtain ⟨c, ⟨n, f, hn, hf, e⟩, rfl⟩ := h
  cases e
  obtain ⟨l, hl, hf2, hR⟩ := list_of (enc := ckF) (R := fun a : Int × Int => 0 ≤ a.1 ∧ 0 ≤ a.2) (0, 0) (fun k hk => rd_ckP (T := tt) (hf k hk))
  refine ⟨l, fun s hs => ?_, by omega, fun L hp v hd => ?_⟩
  · obtain ⟨j, hj, rfl⟩ := mem_getD (d := (0, 0)) hs
    exact hR j (by omega)
  subst hl
  exact den_sl_ext hd (fun k hk => (hf2 k hk).symm)
theorem pendTells_law : ∀ avs, RdArgs tt 1048576 30 [71, 22] avs → CallV Try.prog 6 avs [] (fun r own' => own' = [] ∧ r = vcb true) := by
  rintro avs ⟨a0, r0, h0, ⟨a1, r1, h1, rfl, rfl⟩, rfl⟩
  obtain ⟨v, hvn, hlv, hdv⟩ := rd_cksP h0
  obtain ⟨l, hll, hok, hdl⟩ := rd_itsP h1
  refine callV_args (argsLe_cons hdv (argsLe_cons hdl (argsLe_refl _))) ?_
  exact ptells_c v l hlv hll hvn hok
end Go.Eng
/- The law PendRest. -/
set_option linter.unusedVariables false
set_option linter.unusedSimpArgs false
set_option maxRecDepth 100000
set_option maxHeartbeats 4000000
namespace Go.Eng
open Go Go.RowKit Go.Proofs
structure tkW (v : CV) (r : List It) (T rest : List It) (w : CV) : Prop where
  run : Tk v T w
  perm : (T ++ rest).Perm r
  stop : ∀ x, x ∈ rest → rdyR w x = false
theorem tkW_same {v : CV} {R s1 s2 t1 t2 : List It} {s3 t3 : CV} (hv : mayV v) (hw : wtOk v R) (h1 : tkW v R s1 s2 s3) (h2 : tkW v R t1 t2 t3) (hr1 : risI s2) (hr2 : risI t2) : s1.length = t1.length ∧ s2 = t2 ∧ s3 = t3 := by
  have hR1 : ∀ x, x ∈ s1 → x ∈ R := fun x hx => h1.perm.mem_iff.1 (List.mem_append_left _ hx)
  have hR2 : ∀ x, x ∈ t1 → x ∈ R := fun x hx => h2.perm.mem_iff.1 (List.mem_append_left _ hx)
  obtain ⟨a1, a2, _, _⟩ := Tk_nxt h1.run hv (fun x hx => hw.cl x (hR1 x hx))
  obtain ⟨b1, b2, _, _⟩ := Tk_nxt h2.run hv (fun x hx => hw.cl x (hR2 x hx))
  have e1 := Tk_sub hv hw h1.run h1.perm h1.stop t1 v t3 h2.run hv (fun c => Int.le_refl _) a2 hR2
  have e2 := Tk_sub hv hw h2.run h2.perm h2.stop s1 v s3 h1.run hv (fun c => Int.le_refl _) b2 hR1
  have hw2 := Tk_end hv h1.run h2.run (fun x hx => hw.cl x (hR1 x hx)) (fun x => ⟨e2 x, e1 x⟩)
  have nd1 : (s1 ++ s2).Nodup := (hw.nd.perm h1.perm.symm (fun h => Ne.symm h)).imp (fun h e => h (by rw [e]))
  have nd2 : (t1 ++ t2).Nodup := (hw.nd.perm h2.perm.symm (fun h => Ne.symm h)).imp (fun h e => h (by rw [e]))
  have hpT : s1.Perm t1 := (List.perm_ext_iff_of_nodup (List.nodup_append.1 nd1).1 (List.nodup_append.1 nd2).1).2 (fun x => ⟨e2 x, e1 x⟩)
  have hpr : s2.Perm t2 := by
    have h3 := h1.perm.trans h2.perm.symm
    exact (List.perm_append_left_iff t1).1 ((hpT.symm.append_right _).trans h3)
  exact ⟨hpT.length_eq, rs_ext hr1 hr2 hpr, hw2⟩
theorem tk_of {v : CV} {m ys : List It} (hp : ys.Perm m) (hn : m.Pairwise fun x y => x.id ≠ y.id) (hs : nsI ys) : tkW v m (takeL ys.length v ys).1 (takeL ys.length v ys).2.1 (takeL ys.length v ys).2.2 ∧ risI (takeL ys.length v ys).2.1 := by
  obtain ⟨h1, h2, h3, h4⟩ := takeL_ok ys.length v ys (Nat.le_refl _)
  exact ⟨⟨h1, h2.trans hp, h4⟩, (ns_ris hs (hn.perm hp.symm fun h => Ne.symm h)).sublist h3⟩
theorem tk_two {v u w : CV} {a b c d e f : List It} (h1 : tkW v a c d u) (h2 : tkW u (d ++ b) e f w) : tkW v (a ++ b) (c ++ e) f w := by
  refine ⟨Tk_append h1.run h2.run, ?_, h2.stop⟩
  rw [List.append_assoc]
  refine ((List.perm_append_left_iff c).2 h2.perm).trans ?_
  rw [← List.append_assoc]
  exact h1.perm.append_right b
theorem nd_rest {v u : CV} {a b c d : List It} (h1 : tkW v a c d u) (hn : (a ++ b).Pairwise fun x y : It => x.id ≠ y.id) : (d ++ b).Pairwise fun x y => x.id ≠ y.id := by
  have hp : (c ++ (d ++ b)).Perm (a ++ b) := by rw [← List.append_assoc]; exact h1.perm.append_right b
  exact (List.pairwise_append.1 (hn.perm hp.symm fun h => Ne.symm h)).2.1
def prI (v : CV) (m come wait : List It) (w : CV) (n : Int) (q : Nat) (st : St) : Prop := ∃ k : Nat, q = wait.length - k ∧ k ≤ wait.length ∧ st = ⟨159, 0, [(0, ckS v), (2, vci .i64 n), (7, vcb true), (9, itS m), (10, itS come), (11, itS wait), (12, ckS w), (13, vci .i64 (k : Int))], []⟩
def psI (v : CV) (m come wait : List It) (w : CV) (n : Int) (q : Nat) (st : St) : Prop := q ≤ m.length ∧
  st = ⟨159, 0, [(0, ckS v), (2, vci .i64 n), (7, vcb true), (9, itS m), (10, itS come), (11, itS wait), (12, ckS w), (14, .c (.row 0)), (15, vci .i64 ((q : Int) - 1))], [itRow (m.drop q).reverse]⟩
theorem prest_c (v : CV) (l : List It) (n : Int) (hvl : v.length ≤ 1048576) (hll : l.length ≤ 1048576) (hvn : ∀ x ∈ v, 0 ≤ x.1 ∧ 0 ≤ x.2) (hok : ∀ x, x ∈ l → itOk x) (hn : -9223372036854775808 ≤ n ∧ n ≤ 9223372036854775807) :
    CallV Try.prog 7 [ckS v, itS l, vci .i64 n] [] (fun r own' => own' = [] ∧ r = vcb true) := by
  refine callV_pure Try.func7 rfl ttok ftok rfl rfl rfl (Nat.le_of_ble_eq_true rfl) ?_
  conv => whnf
  refine call_pure (up_c) rfl ?_
  rintro _ rfl
  conv => whnf
  refine call_pure (rmay_c v (by omega) hvn) rfl ?_
  rintro _ ⟨bm, hbm, rfl⟩
  conv => whnf
  by_cases lv : v.length ≤ 20
  rotate_left
  · rw [show decide ((v.length : Int) > 20) = true from decide_eq_true (by omega)]
    conv => whnf
    all_goals first | rfl | exact ⟨rfl, rfl⟩
  rw [show decide ((v.length : Int) > 20) = false from decide_eq_false (by omega)]
  conv => whnf
  by_cases ll : l.length ≤ 60
  rotate_left
  · rw [show decide ((l.length : Int) > 60) = true from decide_eq_true (by omega)]
    conv => whnf
    all_goals first | rfl | exact ⟨rfl, rfl⟩
  rw [show decide ((l.length : Int) > 60) = false from decide_eq_false (by omega)]
  conv => whnf
  cases bm with
  | false =>
    conv => whnf
    all_goals first | rfl | exact ⟨rfl, rfl⟩
  | true =>
  have hv := hbm.1 rfl
  conv => whnf
  refine call_pure (waiting_c v l (by omega) (by omega) hok) rfl ?_
  rintro _ ⟨m, hml, hm, rfl⟩
  conv => whnf
  refine call_pure (take_c v m (by omega) (by omega) hv hm.cl) rfl ?_
  rintro _ ⟨ys, hp, hs, rfl⟩
  obtain ⟨hT, hTr⟩ := tk_of (v := v) hp hm.nd hs
  obtain ⟨come, hcome⟩ : ∃ x, x = (takeL ys.length v ys).1 := ⟨_, rfl⟩
  obtain ⟨wait, hwait⟩ : ∃ x, x = (takeL ys.length v ys).2.1 := ⟨_, rfl⟩
  obtain ⟨w, hw⟩ : ∃ x, x = (takeL ys.length v ys).2.2 := ⟨_, rfl⟩
  rw [← hcome, ← hwait, ← hw] at hT ⊢
  rw [← hwait] at hTr
  have hTl := hT.perm.length_eq
  rw [List.length_append] at hTl
  have hwl := Tk_len hT.run
  obtain ⟨hwm, hwn, _, _⟩ := Tk_nxt hT.run hv (fun x hx => hm.cl x (hT.perm.mem_iff.1 (List.mem_append_left _ hx)))
  conv => whnf
  rw [show IntKind.i64.wrap ((come.length : Int) + (wait.length : Int)) = (m.length : Int) from by rw [w_i64 (by omega) (by omega)]; omega]
  rw [show ((m.length : Int) != (m.length : Int)) = false from bne_self_eq_false _]
  conv => whnf
  refine loopV ttok ftok (prI v m come wait w n) (env_weak [0, 2, 7, 9, 10, 11, 12, 13] rfl) ⟨0, rfl, Nat.zero_le _, rfl⟩ ?_
  rintro q st ⟨k, rfl, hk, rfl⟩
  have e1 := i64_s (k := k) (by omega)
  conv => whnf
  refine onB_intro (fun h => ?_) (fun h => ?_)
  · have h := of_decide_eq_true h
    conv => whnf
    refine ⟨⟨by omega, by omega⟩, ?_⟩
    conv => whnf
    rw [ti_nat]
    refine call_pure (ready_c w (by omega) hwm.1 (wait.getD k it0)) rfl ?_
    rintro _ rfl
    rw [hT.stop (wait.getD k it0) (getD_mem (by omega))]
    conv => whnf
    rw [e1]
    exact ⟨wait.length - (k + 1), _, by omega, env_weak [0, 2, 7, 9, 10, 11, 12, 13] rfl, k + 1, rfl, by omega, rfl⟩
  have h := of_decide_eq_false h
  conv => whnf
  rw [show IntKind.i64.wrap ((m.length : Int) - 1) = (m.length : Int) - 1 from w_i64 (by omega) (by omega)]
  refine loopV ttok ftok (psI v m come wait w n) ((nil_row 14 40 7 (itR []) rfl).trans (norm_weak [0, 2, 7, 9, 10, 11, 12, 14, 15] [some 0] rfl rfl)) ⟨Nat.le_refl _, by rw [List.drop_length]; rfl⟩ ?_
  rintro q st ⟨hq, rfl⟩
  conv => whnf
  refine onB_intro (fun h => ?_) (fun h => ?_)
  · have h := of_decide_eq_true h
    obtain ⟨k, rfl⟩ : ∃ k, q = k + 1 := ⟨q - 1, by omega⟩
    have ek : ((k + 1 : Nat) : Int) - 1 = (k : Int) := by omega
    rw [ek]
    have hkl : k < m.length := by omega
    have hd : m.drop k = m.getD k it0 :: m.drop (k + 1) := drop_getD hkl
    conv => whnf
    refine ⟨⟨by omega, by omega⟩, ?_⟩
    conv => whnf
    rw [ti_nat]
    generalize hy : m.getD k it0 = y at hd
    have hTT : (m.drop (k + 1)).reverse.length = m.length - (k + 1) := by simp
    refine ⟨fun _ => itF y, fun j hj2 => ?_, ?_⟩
    · obtain rfl : j = 0 := by omega
      rfl
    conv => whnf
    refine ⟨⟨by (try simp only [List.length_append, List.length_singleton]); omega, by show (List.length ((m.drop (k + 1)).reverse) + 1) * 28 ≤ _; (try simp only [List.length_append, List.length_singleton]); omega⟩, ?_⟩
    conv => whnf
    refine app1 (enc := itF) (d := it0) (l := ((m.drop (k + 1)).reverse)) y (fun k hk => rfl) rfl ?_
    conv => whnf
    rw [show IntKind.i64.wrap ((k : Int) - 1) = (k : Int) - 1 from w_i64 (by omega) (by omega)]
    have hr : (m.drop (k + 1)).reverse ++ [y] = (m.drop k).reverse := by rw [hd, List.reverse_cons]
    rw [hr]
    exact ⟨k, _, by omega, norm_weak [0, 2, 7, 9, 10, 11, 12, 14, 15] [some 2] rfl rfl, by omega, rfl⟩
  have h := of_decide_eq_false h
  obtain rfl : q = 0 := by omega
  rw [List.drop_zero]
  conv => whnf
  refine ⟨fun _ _ => rfl, ?_⟩
  conv => whnf
  refine call_pure (take_c v m.reverse (by omega) (by rw [List.length_reverse]; omega) hv (fun x hx => hm.cl x (List.mem_reverse.1 hx))) rfl ?_
  rintro _ ⟨zs, hp2, hs2, rfl⟩
  obtain rfl := ns_uniq hm.nd hp (hp2.trans (List.reverse_perm m)) hs hs2
  rw [← hcome, ← hwait, ← hw]
  conv => whnf
  refine call_pure (sameit_c come come (by omega) (by omega)) rfl ?_
  rintro _ (⟨-, rfl⟩ | ⟨h, rfl⟩)
  rotate_left
  · exact absurd rfl h
  conv => whnf
  refine call_pure (sameit_c wait wait (by omega) (by omega)) rfl ?_
  rintro _ (⟨-, rfl⟩ | ⟨h, rfl⟩)
  rotate_left
  · exact absurd rfl h
  conv => whnf
  rw [i64_s (by omega)]
  refine call_pure (pick_c n ((m.length + 1 : Nat) : Int) hn ⟨by omega, by omega⟩) rfl ?_
  rintro _ rfl
  have p1 := Int.emod_nonneg n (show ((m.length + 1 : Nat) : Int) ≠ 0 by omega)
  have p2 := Int.emod_lt_of_pos n (show (0 : Int) < ((m.length + 1 : Nat) : Int) by omega)
  obtain ⟨K, hK⟩ : ∃ K : Nat, n % ((m.length + 1 : Nat) : Int) = (K : Int) := ⟨(n % ((m.length + 1 : Nat) : Int)).toNat, (Int.toNat_of_nonneg p1).symm⟩
  rw [hK] at p2 ⊢
  have hKm : K ≤ m.length := by omega
  conv => whnf
  refine ⟨⟨by omega, by omega, by omega, by omega⟩, ?_⟩
  have htl : (m.take K).length = K := by rw [List.length_take]; omega
  refine ⟨(m.take K).length, itR (m.take K), by rw [htl, ti_nat]; rfl, fun q hq => ?_, ?_⟩
  · show itF _ = itF (m.getD (Int.toNat 0 + q) it0)
    rw [getD_take _ _ _ _ (by omega), show Int.toNat 0 + q = q from Nat.zero_add q]
  conv => whnf
  have hmK : m = m.take K ++ m.drop K := (List.take_append_drop K m).symm
  have hnK : (m.take K).Pairwise fun x y : It => x.id ≠ y.id := by
    have := hm.nd
    rw [hmK] at this
    exact (List.pairwise_append.1 this).1
  refine call_pure (take_c v (m.take K) (by omega) (by omega) hv (fun x hx => hm.cl x (List.mem_of_mem_take hx))) rfl ?_
  rintro _ ⟨y1, hp3, hs3, rfl⟩
  obtain ⟨hT1, hTr1⟩ := tk_of (v := v) hp3 hnK hs3
  generalize takeL y1.length v y1 = t at hT1 hTr1
  obtain ⟨c, d, u⟩ := t
  simp only at hT1 hTr1
  have hT1l := hT1.perm.length_eq
  rw [List.length_append] at hT1l
  have hul := Tk_len hT1.run
  obtain ⟨hum, _, _, _⟩ := Tk_nxt hT1.run hv (fun x hx => hm.cl x (List.mem_of_mem_take (hT1.perm.mem_iff.1 (List.mem_append_left _ hx))))
  conv => whnf
  refine drawV_sched (.rd 0 (.rd 2 (.rd 4 (.rd 5 (.rd 6 (.ef 1 (.ef 3 (.ef 7 (.ef 8 (.rd 9 (.rd 10 (.rd 11 (.rd 12 (.rd 13 (.rd 14 (.rd 15 (.nil))))))))))))))))) [1, 2, 3] mixed (by kernel_rfl) ttok ftok ?_
  conv => whnf
  have hdl : (m.drop K).length = m.length - K := List.length_drop
  refine ⟨⟨by omega, by omega, by omega, by omega⟩, ?_⟩
  refine ⟨(m.drop K).length, itR (m.drop K), by omega, fun q hq => ?_, ?_⟩
  · show itF _ = itF (m.getD ((K : Int).toNat + q) it0)
    rw [getD_drop, ti_nat]
  conv => whnf
  refine ⟨⟨by show 0 + d.length ≤ _; omega, by show (0 + d.length) * 28 ≤ _; omega⟩, ?_⟩
  conv => whnf
  refine ⟨d.length, itR d, by show _ = 0 + d.length; omega, fun k hk => by omega, fun k hk => by rw [Nat.zero_add], ?_⟩
  conv => whnf
  have hdK : (d ++ m.drop K).length = d.length + (m.length - K) := by rw [List.length_append, hdl]
  refine ⟨⟨by omega, by show (d.length + (m.drop K).length) * 28 ≤ _; omega⟩, ?_⟩
  conv => whnf
  refine app_list (enc := itF) (d := it0) (l := d) (b := m.drop K) (fun k hk => rfl) (fun k hk => rfl) ?_
  conv => whnf
  refine ⟨fun _ _ => rfl, ?_⟩
  conv => whnf
  have hnm : (m.take K ++ m.drop K).Pairwise fun x y : It => x.id ≠ y.id := by rw [← hmK]; exact hm.nd
  have hnd := nd_rest hT1 hnm
  have hdm : ∀ x, x ∈ d ++ m.drop K → x ∈ m := fun x hx => by
    rcases List.mem_append.1 hx with hx | hx
    · exact List.mem_of_mem_take (hT1.perm.mem_iff.1 (List.mem_append_right _ hx))
    · exact List.mem_of_mem_drop hx
  refine call_pure (take_c u (d ++ m.drop K) (by omega) (by omega) hum (fun x hx => hm.cl x (hdm x hx))) rfl ?_
  rintro _ ⟨y2, hp4, hs4, rfl⟩
  obtain ⟨hT2, hTr2⟩ := tk_of (v := u) hp4 hnd hs4
  generalize takeL y2.length u y2 = t at hT2 hTr2
  obtain ⟨e, f, x⟩ := t
  simp only at hT2 hTr2
  have hT2l := hT2.perm.length_eq
  rw [List.length_append] at hT2l
  have hxl := Tk_len hT2.run
  have hTT := tk_two hT1 hT2
  rw [← hmK] at hTT
  obtain ⟨r1, rfl, rfl⟩ := tkW_same hv hm hT hTT hTr hTr2
  rw [List.length_append] at r1
  conv => whnf
  refine call_pure (same_c w w (by omega) (by omega)) rfl ?_
  rintro _ rfl
  rw [show decide (w = w) = true from decide_eq_true rfl]
  conv => whnf
  refine call_pure (sameit_c wait wait (by omega) (by omega)) rfl ?_
  rintro _ (⟨-, rfl⟩ | ⟨h, rfl⟩)
  rotate_left
  · exact absurd rfl h
  conv => whnf
  rw [show (IntKind.i64.wrap (((c, d, u).1.length : Int) + ((e, wait, w).1.length : Int)) == (come.length : Int)) = true from by
    show (IntKind.i64.wrap ((c.length : Int) + (e.length : Int)) == (come.length : Int)) = true
    rw [w_i64 (by omega) (by omega)]
    exact beq_iff_eq.2 (by omega)]
  rfl
theorem rd_i64P {B d : Nat} {t : TypeId} {a : AV} (h : RdA tt B (d + 1) 3 a) : ∃ n : Int, (-9223372036854775808 ≤ n ∧ n ≤ 9223372036854775807) ∧ a = vci .i64 n := by
  obtain ⟨c, ⟨v, w, e⟩, rfl⟩ := h
  cases e
  exact ⟨v, wf_i64 w, rfl⟩
theorem pendRest_law : ∀ avs, RdArgs tt 1048576 30 [71, 22, 3] avs → CallV Try.prog 7 avs [] (fun r own' => own' = [] ∧ r = vcb true) := by
  rintro avs ⟨a0, r0, h0, ⟨a1, r1, h1, ⟨a2, r2, h2, rfl, rfl⟩, rfl⟩, rfl⟩
  obtain ⟨v, hvn, hlv, hdv⟩ := rd_cksP h0
  obtain ⟨l, hll, hok, hdl⟩ := rd_itsP h1
  obtain ⟨n, hn, rfl⟩ := rd_i64P (t := 3) h2
  refine callV_args (argsLe_cons hdv (argsLe_cons hdl (argsLe_refl _))) ?_
  exact prest_c v l n hlv hll hvn hok hn
end Go.Eng
