/- A part of the proof: what the functions of the program come to, told by a small reckoner of states. -/
import Derived.Test.YteglopjljejjkabGBTyTBIdxE
/- An index: an entry is hidden. -/
set_option linter.unusedVariables false
set_option linter.unusedSimpArgs false
set_option maxRecDepth 100000
set_option maxHeartbeats 4000000
namespace Go.Eng
open Go Go.RowKit Go.Proofs
theorem repL_sum {cs : Ck} {i : Nat} (m : Ck) (hi : i < cs.length) : sumL (repL cs i m) ≤ sumL cs + sumL m := by
  have h1 := sumL_le cs i
  have h2 : sumL (cs.take i) + sumL (cs.drop i) = sumL cs := by rw [← sumL_append, List.take_append_drop]
  have h3 : sumL (cs.drop i) = (cs.getD i []).length + sumL (cs.drop (i + 1)) := by
    rw [List.drop_eq_getElem_cons hi, sumL_cons, List.getD_eq_getElem?_getD, List.getElem?_eq_getElem hi]; rfl
  unfold repL
  rw [sumL_append, sumL_append]
  omega
theorem replace_c (cs : Ck) (i : Nat) (hi : i < cs.length) (hl : cs.length ≤ 100000) (hs : sumL cs ≤ 100000) (m : Ck) (hm : 1 ≤ m.length) (hm2 : m.length ≤ 2) (hms : sumL m ≤ 100000) : CallV Try.prog 57 [ixA cs, vci .i64 (i : Int), chS m] []
    (fun r own' => own' = [] ∧ r = ixA (repL cs i m)) := by
  have hrl := repL_len m hi
  have hrs := repL_sum m hi
  refine callV_pure Try.func57 rfl ttok ftok rfl rfl rfl (Nat.le_of_ble_eq_true rfl) ?_
  conv => whnf
  refine call_frame2 [] rfl rfl rfl rfl (chClone cs (by omega)) ?_
  rintro r own2 ⟨rfl, rfl⟩
  refine ⟨.c (.row 2), [some (.cells 32 (ixF cs)), some (.cells 32 [.v (.slice none 0 0), vi 0, vi 0]), some (.row 97 2 cs.length (chR cs))], rfl, rfl, ?_⟩
  conv => whnf
  rw [e64 (by omega)]
  refine call_frame2 [some 2] rfl rfl rfl rfl (rep_c cs i hi (by omega) m hm hm2) ?_
  rintro r own2 ⟨rfl, rfl⟩
  refine ⟨.c (.row 4), [some (.cells 32 (ixF cs)), some (.cells 32 [.v (.slice none 0 0), vi 0, vi 0]), none, none, some (.row 97 2 (repL cs i m).length (chR (repL cs i m)))], rfl, rfl, ?_⟩
  conv => whnf
  refine ⟨fun _ _ => rfl, ?_⟩
  conv => whnf
  refine call_pure (with_c (repL cs i m) (by omega) (by omega)) rfl ?_
  rintro _ rfl
  conv => whnf
  all_goals first | rfl | exact ⟨rfl, rfl⟩
/-- slices.Clone. -/
theorem enClone (l : List En) (hl : l.length ≤ 1000000000) : CallV Try.prog 56 [.c (.sl 4 l.length fun k => enF (l.getD k en0))] []
    (fun r own' => r = .c (.row 0) ∧ own' = [some (.row 41 4 l.length fun k => enF (l.getD k en0))]) := by
  refine callV_own Try.func56 rfl ttok ftok rfl rfl rfl (Nat.le_of_ble_eq_true rfl) rfl ?_
  conv => whnf
  intro b hb
  cases b with
  | true =>
    have h0 := hb rfl
    obtain rfl : l = [] := List.eq_nil_of_length_eq_zero h0
    conv => whnf
    refine ⟨_, nil_row 2 41 4 (fun k => enF (([] : List En).getD k en0)) rfl, ?_⟩
    conv => whnf
    exact ⟨[some 0], rfl, rfl, rfl, rfl⟩
  | false =>
    clear hb
    conv => whnf
    refine ⟨⟨by omega, by show (0 + l.length) * 16 ≤ _; omega⟩, ?_⟩
    conv => whnf
    refine ⟨l.length, fun k => enF (l.getD k en0), by omega, fun k hk => by omega, fun k hk => by rw [Nat.zero_add], ?_⟩
    conv => whnf
    refine ⟨_, Weak.refl _, ?_⟩
    conv => whnf
    exact ⟨[some 1], rfl, rfl, rfl, rfl⟩
/-- slices.Insert of one element, into an own row. -/
theorem enInsert_get (l : List En) (x : En) (i : Nat) (hi : i ≤ l.length) (q : Nat) : (l.take i ++ x :: l.drop i).getD q en0 = if q < i then l.getD q en0 else if q = i then x else l.getD (q - 1) en0 := by
  split
  · rename_i h
    rw [List.getD_eq_getElem?_getD, List.getElem?_append_left (by rw [List.length_take]; omega), ← List.getD_eq_getElem?_getD, getD_take _ _ _ _ h]
  · rename_i h
    rw [List.getD_eq_getElem?_getD, List.getElem?_append_right (by rw [List.length_take]; omega), ← List.getD_eq_getElem?_getD, List.length_take, Nat.min_eq_left hi]
    split
    · rename_i e
      subst e
      simp
    · rename_i e
      obtain ⟨r, hr⟩ : ∃ r, q - i = r + 1 := ⟨q - i - 1, by omega⟩
      rw [hr, List.getD_cons_succ, getD_drop]
      congr 1
      omega
theorem enInsert_len (l : List En) (x : En) (i : Nat) (hi : i ≤ l.length) : (l.take i ++ x :: l.drop i).length = l.length + 1 := by
  rw [List.length_append, List.length_cons, List.length_take, List.length_drop]; omega
theorem enInsert (l : List En) (x : En) (i : Nat) (hi : i ≤ l.length) (hl : l.length ≤ 1000000000) (g : Nat → List IC) (hg : g 0 = enF x) : CallV Try.prog 55 [.c (.row 0), vci .i64 i, .c (.row 1)] [some (.row 41 4 l.length fun k => enF (l.getD k en0)), some (.row 41 4 1 g)]
    (fun r own' => r = .c (.row 3) ∧ own' = [none, none, none, some (.row 41 4 (l.take i ++ x :: l.drop i).length fun k => enF ((l.take i ++ x :: l.drop i).getD k en0))]) := by
  have hget := enInsert_get l x i hi
  have hlen := enInsert_len l x i hi
  have hg0 : ∀ q, q < 1 → g q = enF x := fun q hq => by
    obtain rfl : q = 0 := by omega
    exact hg
  generalize hl' : l.take i ++ x :: l.drop i = l' at hget hlen
  refine callV_view 0 rfl (fun h0 => ?_) (fun c hc hc2 => ?_)
  · obtain rfl : l = [] := List.eq_nil_of_length_eq_zero h0
    obtain rfl : i = 0 := by simpa using hi
    show CallV Try.prog 55 [.c (.v (.slice none 0 0)), vci .i64 (0 : Nat), .c (.row 1)] [none, some (.row 41 4 1 g)] _
    refine callV_own Try.func55 rfl ttok ftok rfl rfl rfl (Nat.le_of_ble_eq_true rfl) rfl ?_
    conv => whnf
    refine ⟨⟨rfl, rfl, rfl⟩, ?_⟩
    conv => whnf
    refine ⟨by omega, ?_⟩
    conv => whnf
    refine ⟨⟨by omega, by show (0 + 1) * 16 ≤ _; omega⟩, ?_⟩
    conv => whnf
    refine ⟨l'.length, fun k => enF (l'.getD k en0), by rw [hlen]; simp, fun k hk => by omega, fun k hk => ?_, ?_⟩
    · obtain rfl : k = 0 := by omega
      rw [hg]
      show enF (l'.getD (0 + 0) en0) = _
      rw [hget]
      rfl
    conv => whnf
    refine ⟨_, Weak.refl _, ?_⟩
    conv => whnf
    exact ⟨[none, none, none, some 2], rfl, rfl, rfl, rfl⟩
  show CallV Try.prog 55 [.c (.view 2 4 0 l.length c), vci .i64 i, .c (.row 1)] [none, some (.row 41 4 1 g), some (.arr 41 4 c l.length fun k => enF (l.getD k en0))] _
  refine callV_own Try.func55 rfl ttok ftok rfl rfl rfl (Nat.le_of_ble_eq_true rfl) rfl ?_
  conv => whnf
  refine ⟨⟨by omega, by omega, by omega, by omega⟩, ?_⟩
  conv => whnf
  refine onB_intro (fun h => ?_) (fun h => ?_)
  · have e : (i : Int) = l.length := by simpa using h
    have e : i = l.length := by omega
    subst e
    conv => whnf
    refine ⟨trivial, ⟨by omega, by omega⟩, fun h1 => ?_, fun h1 => ?_⟩
    · refine ⟨l'.length, fun k => enF (l'.getD k en0), fun q hq => ?_, ?_⟩
      rotate_left
      · conv => whnf
        refine ⟨_, view_row 6 2 (n := l'.length) rfl rfl (by omega) (by omega) (by omega) (by omega), ?_⟩
        conv => whnf
        exact ⟨[none, none, none, some 3], rfl, rfl, rfl, rfl⟩
      · rcases Nat.lt_or_ge q l.length with h2 | h2
        · exact .inr ⟨.inl (by omega), h2, by simp only [hget, if_pos h2]⟩
        · obtain rfl : q = l.length := by omega
          refine .inl ⟨by omega, by omega, ?_⟩
          rw [show l.length - (0 + l.length) = 0 by omega, hg]
          simp only [hget, if_neg (Nat.lt_irrefl _), if_true]
    · refine ⟨⟨by omega, by show (l.length + 1) * 16 ≤ _; omega⟩, fun k => enF (l'.getD k en0), fun q hq => by simp only [hget, if_pos hq, Nat.zero_add], fun q hq => ?_, fun cap' hcap => ?_⟩
      · rw [hg0 q hq]
        obtain rfl : q = 0 := by omega
        simp only [Nat.add_zero, hget, if_neg (Nat.lt_irrefl _), if_true]
      · conv => whnf
        refine ⟨_, view_row 6 3 (n := l'.length) rfl rfl rfl (by omega) (by omega) rfl, ?_⟩
        conv => whnf
        exact ⟨[none, none, none, some 4], rfl, rfl, rfl, rfl⟩
  have hne : i < l.length := by
    have : i ≠ l.length := fun e => by rw [e] at h; simp at h
    omega
  clear h
  conv => whnf
  have w1 : IntKind.i64.wrap ((l.length : Int) + (1 : Nat)) = (l.length : Int) + (1 : Nat) := w_i64 (by omega) (by omega)
  have w2 : IntKind.i64.wrap ((l.length : Int) + (1 : Nat) - i) = ((l.length + 1 - i : Nat) : Int) := by rw [w_i64 (by omega) (by omega)]; omega
  have w3 : IntKind.i64.wrap ((i : Int) + (1 : Nat)) = ((i + 1 : Nat) : Int) := by rw [w_i64 (by omega) (by omega)]; omega
  refine onB_intro (fun h => ?_) (fun h => ?_)
  · have h := of_decide_eq_true h
    rw [w1] at h
    conv => whnf
    refine ⟨⟨by omega, by omega, by omega, by omega⟩, ?_⟩
    conv => whnf
    rw [w1, w2]
    refine ⟨by omega, ⟨by omega, by omega, by omega, by show _ * (((16 : Nat)) : Int) ≤ _; omega⟩, fun q => if q < i then enF (l.getD q en0) else [vu 0, vu 0, vr 0, .v (.bool false)], fun q hq => ?_, fun q hq => ?_, fun cap' hcap => ?_⟩
    · dsimp only
      rw [if_pos (by omega), show 0 + Int.toNat 0 + q = q from by omega]
    · dsimp only
      rw [if_neg (by omega)]; rfl
    conv => whnf
    refine ⟨⟨by omega, by omega, by omega, by omega⟩, ?_⟩
    conv => whnf
    refine ⟨trivial, by omega, l.length + 1, fun q => if q < i then enF (l.getD q en0) else if q = i then enF x else [vu 0, vu 0, vr 0, .v (.bool false)], fun q hq => ?_, ?_⟩
    · rcases Nat.lt_trichotomy q i with h2 | h2 | h2
      · exact .inr ⟨.inl (by omega), by omega, by dsimp only; rw [if_pos h2, if_pos h2]⟩
      · subst h2
        exact .inl ⟨by omega, by omega, by dsimp only; rw [if_neg (Nat.lt_irrefl _), if_pos rfl, hg0 _ (by omega)]⟩
      · exact .inr ⟨.inr (by omega), by omega, by dsimp only; rw [if_neg (by omega), if_neg (by omega), if_neg (by omega)]⟩
    conv => whnf
    refine drawV_mix 8 mixed (by kernel_rfl) ttok ftok ?_
    conv => whnf
    rw [w3]
    refine ⟨⟨by omega, by omega, by omega, by omega⟩, ?_⟩
    conv => whnf
    refine ⟨⟨by omega, by omega, by omega, by omega⟩, ?_⟩
    conv => whnf
    refine ⟨by omega, by omega, l'.length, fun k => enF (l'.getD k en0), fun q hq => ?_, ?_⟩
    · rcases Nat.lt_trichotomy q i with h2 | h2 | h2
      · exact .inr ⟨.inl (by omega), by omega, by simp only [hget, if_pos h2]⟩
      · subst h2
        exact .inr ⟨.inl (by omega), by omega, by simp only [hget, if_neg (Nat.lt_irrefl _), if_true]⟩
      · refine .inl ⟨by omega, by omega, ?_⟩
        simp only [hget, if_neg (show ¬ q < i by omega), if_neg (show ¬ q = i by omega)]
        congr 2
        omega
    conv => whnf
    refine ⟨_, view_row 6 3 (n := l'.length) rfl rfl (by omega) (by omega) (by omega) (by omega), ?_⟩
    conv => whnf
    exact ⟨[none, none, none, some 4], rfl, rfl, rfl, rfl⟩
  · have h := of_decide_eq_false h
    rw [w1] at h
    conv => whnf
    rw [w1]
    refine ⟨⟨by omega, by omega, by omega, by omega⟩, ?_⟩
    conv => whnf
    rw [w3]
    refine ⟨⟨by omega, by omega, by omega, by omega⟩, ?_⟩
    conv => whnf
    refine ext_overlaps (t := 28) (r := 4) (ti := ti41) Try.func93 (by kernel_rfl) rfl (by kernel_rfl) (by kernel_rfl) tf41 Try.underlying28 (apart_row_view (by decide) rfl rfl (by omega) (by omega) (by omega) (by decide)) ?_
    conv => whnf
    refine drawV_mix 8 mixed (by kernel_rfl) ttok ftok ?_
    conv => whnf
    rw [w3]
    refine ⟨⟨by omega, by omega, by omega, by omega⟩, ?_⟩
    conv => whnf
    refine ⟨⟨by omega, by omega, by omega, by omega⟩, ?_⟩
    conv => whnf
    refine ⟨by omega, by omega, l'.length, fun q => if q < i + 1 then enF (l.getD q en0) else enF (l.getD (q - 1) en0), fun q hq => ?_, ?_⟩
    · rcases Nat.lt_or_ge q (i + 1) with h2 | h2
      · exact .inr ⟨.inl (by omega), by omega, by dsimp only; rw [if_pos h2]⟩
      · refine .inl ⟨by omega, by omega, ?_⟩
        dsimp only
        rw [if_neg (by omega)]
        congr 2
        omega
    conv => whnf
    refine ⟨⟨by omega, by omega, by omega, by omega⟩, ?_⟩
    conv => whnf
    refine ⟨trivial, by omega, l'.length, fun k => enF (l'.getD k en0), fun q hq => ?_, ?_⟩
    · rcases Nat.lt_trichotomy q i with h2 | h2 | h2
      · exact .inr ⟨.inl (by omega), by omega, by dsimp only; rw [hget, if_pos h2, if_pos (by omega)]⟩
      · subst h2
        exact .inl ⟨by omega, by omega, by dsimp only; rw [hget, if_neg (Nat.lt_irrefl _), if_pos rfl, hg0 _ (by omega)]⟩
      · exact .inr ⟨.inr (by omega), by omega, by dsimp only; rw [hget, if_neg (by omega), if_neg (by omega), if_neg (by omega)]⟩
    conv => whnf
    refine ⟨_, view_row 6 2 (n := l'.length) rfl rfl (by omega) (by omega) (by omega) (by omega), ?_⟩
    conv => whnf
    exact ⟨[none, none, none, some 3], rfl, rfl, rfl, rfl⟩
end Go.Eng
/- An index: an entry is hidden. -/
set_option linter.unusedVariables false
set_option linter.unusedSimpArgs false
set_option maxRecDepth 100000
set_option maxHeartbeats 4000000
namespace Go.Eng
open Go Go.RowKit Go.Proofs
abbrev ixZ : AV := .agg [.v (.slice none 0 0), vi 0, vi 0]
def hdC (cs : Ck) (a : I2) : Option Ck := (plcC cs a).map fun p => repL cs p.1 [hideAt (cs.getD p.1 []) p.2]
def hdV (o : Option Ck) : AV := match o with
  | some cs => .tup [ixA cs, .c (.v .nilIface)]
  | none => .tup [ixZ, erC 1]
theorem hide_c (cs : Ck) (hl : cs.length ≤ 10000) (hs : sumL cs ≤ 10000) (a : I2) : CallV Try.prog 21 [ixA cs, idA a] [] (fun r own' => own' = [] ∧ r = hdV (hdC cs a)) := by
  refine callV_pure Try.func21 rfl ttok ftok rfl rfl rfl (Nat.le_of_ble_eq_true rfl) ?_
  conv => whnf
  refine call_pure (place_c cs (by omega) (by omega) a) rfl ?_
  rintro _ rfl
  unfold hdC
  cases hp : plcC cs a with
  | none =>
    conv => whnf
    all_goals first | rfl | exact ⟨rfl, rfl⟩
  | some p =>
  obtain ⟨i, k⟩ := p
  obtain ⟨hi, hk⟩ := plcC_lt hp
  have s3 := sumL_le cs (i + 1)
  have s4 := sumL_at hi
  conv => whnf
  refine ⟨⟨by omega, by omega⟩, ?_⟩
  conv => whnf
  rw [ti_nat]
  refine call_frame2 [] rfl rfl rfl rfl (enClone (cs.getD i []) (by omega)) ?_
  rintro r own2 ⟨rfl, rfl⟩
  generalize hc : cs.getD i [] = c at *
  refine ⟨.c (.row 3), [some (.cells 32 (ixF cs)), some (.cells 39 (idF a)), some (.cells 32 [.v (.slice none 0 0), vi 0, vi 0]), some (.row 41 4 c.length (enR c))], rfl, rfl, ?_⟩
  conv => whnf
  refine ⟨⟨by omega, by omega⟩, ?_⟩
  conv => whnf
  have hlen : (hideAt c k).length = c.length := by unfold hideAt; rw [List.length_set]
  have hget : ∀ j, (hideAt c k).getD j en0 = if j = k then { c.getD k en0 with gone := true } else c.getD j en0 := fun j => by
    unfold hideAt
    rw [List.getD_eq_getElem?_getD, List.getElem?_set]
    by_cases h : k = j
    · rw [if_pos h, if_pos h.symm, if_pos hk]; rfl
    · rw [if_neg h, if_neg (Ne.symm h), ← List.getD_eq_getElem?_getD]
  have hpk := pack_c (hideAt c k) (by omega)
  refine ⟨enR (hideAt c k), fun j hj => ?_, ?_⟩
  · show enF ((hideAt c k).getD j en0) = _
    rw [hget, ti_nat]
    by_cases h : j = k
    · rw [if_pos h, if_pos h]
      rfl
    · rw [if_neg h, if_neg h]
  conv => whnf
  generalize hh : hideAt c k = h at hlen hpk
  rw [← hlen]
  refine drawV_sched (.rd 0 (.rd 1 (.rd 2 (.ef 3 (.ef 4 (.ef 5 (.ef 6 (.rd 7 (.nil))))))))) [2, 3, 4] mixed (by kernel_rfl) ttok ftok ?_
  conv => whnf
  refine ⟨fun _ _ => rfl, ?_⟩
  conv => whnf
  refine call_pure hpk rfl ?_
  rintro _ rfl
  conv => whnf
  refine ⟨chR [h], fun q hq => ?_, ?_⟩
  · obtain rfl : q = 0 := by omega
    rfl
  conv => whnf
  refine ⟨fun _ _ => rfl, ?_⟩
  conv => whnf
  refine call_pure (replace_c cs i hi (by omega) (by omega) [h] (by simp) (by simp) (by simp [sumL]; omega)) rfl ?_
  rintro _ rfl
  conv => whnf
  show _ = hdV (some (repL cs i [hideAt (cs.getD i []) k]))
  rw [hc, hh]
  all_goals first | rfl | exact ⟨rfl, rfl⟩
end Go.Eng
/- An index: an entry is put in. -/
set_option linter.unusedVariables false
set_option linter.unusedSimpArgs false
set_option maxRecDepth 100000
set_option maxHeartbeats 4000000
namespace Go.Eng
open Go Go.RowKit Go.Proofs
def OfC : Prop := ∀ l : List En, l.length ≤ 10000 → CallV Try.prog 26 [enS l] [] (fun r own' => own' = [] ∧ ∃ cs : Ck, cs.flatten = l ∧ cs.length ≤ l.length ∧ r = ixA cs)
structure putS (cs : Ck) (n : Int) (e : En) (r : AV) : Prop where
  out : if n < 0 ∨ (sumL cs : Int) < n then r = .tup [ixZ, erC 3] else if (fnE cs.flatten e.id).isSome = true then r = .tup [ixZ, erC 1] else
    ∃ cs' : Ck, cs'.flatten = cs.flatten.take n.toNat ++ [e] ++ cs.flatten.drop n.toNat ∧ cs'.length ≤ cs.length + 1 ∧ r = .tup [ixA cs', .c (.v .nilIface)]
def puI (cs : Ck) (N : Nat) (e : En) (n : Nat) (st : St) : Prop := ∃ i : Nat, n = cs.length - i ∧ i ≤ cs.length ∧ sumL (cs.take i) ≤ N ∧ (i = 0 ∨ sumL (cs.take i) < N) ∧
  st = ⟨81, 0, [(1, vci .i64 ((N - sumL (cs.take i) : Nat) : Int)), (3, .c (.own 0 0)), (5, .c (.own 1 0)), (6, .c (.own 2 0)), (34, chS cs), (35, vci .i64 (cs.length : Int)), (36, vci .i64 (i : Int))], [some (.cells 32 (ixF cs)), some (.cells 41 (enF e)), some (.cells 32 [.v (.slice none 0 0), vi 0, vi 0])]⟩
theorem put_c (hof : OfC) (cs : Ck) (hl : cs.length ≤ 10000) (hs : sumL cs ≤ 5000) (n : Int) (e : En) : CallV Try.prog 18 [ixA cs, vci .i64 n, .agg (enF e)] [] (fun r own' => own' = [] ∧ putS cs n e r) := by
  have hfl : cs.flatten.length = sumL cs := rfl
  refine callV_pure Try.func18 rfl ttok ftok rfl rfl rfl (Nat.le_of_ble_eq_true rfl) ?_
  conv => whnf
  refine onB_intro (fun h => ?_) (fun h => ?_)
  · have h : n < 0 ∨ (sumL cs : Int) < n := by
      simp only [pickB, isLit, Bool.or_eq_true, decide_eq_true_eq] at h
      omega
    conv => whnf
    exact ⟨by rw [if_pos h]; rfl⟩
  have h : ¬ (n < 0 ∨ (sumL cs : Int) < n) := by
    simp only [pickB, isLit, Bool.or_eq_false_iff, decide_eq_false_iff_not] at h
    omega
  obtain ⟨N, rfl⟩ : ∃ N : Nat, n = (N : Int) := ⟨n.toNat, (Int.toNat_of_nonneg (by omega)).symm⟩
  have hN : N ≤ sumL cs := by omega
  conv => whnf
  refine call_pure (find_c cs (by omega) (by omega) e.id) rfl ?_
  rintro _ rfl
  cases hf : fnE cs.flatten e.id with
  | some q =>
    conv => whnf
    exact ⟨by rw [if_neg h, hf, if_pos Option.isSome_some]; rfl⟩
  | none =>
  have hput : ∀ r, (∃ cs' : Ck, cs'.flatten = cs.flatten.take N ++ [e] ++ cs.flatten.drop N ∧ cs'.length ≤ cs.length + 1 ∧ r = .tup [ixA cs', .c (.v .nilIface)]) → putS cs N e r := fun r hr => ⟨by rw [if_neg h, hf, if_neg (by simp), ti_nat]; exact hr⟩
  conv => whnf
  refine loopV ttok ftok (puI cs N e) (norm_weak [1, 3, 5, 6, 34, 35, 36] [some 0, some 1, some 2] rfl rfl) ⟨0, rfl, Nat.zero_le _, by simp [sumL], .inl rfl, rfl⟩ ?_
  rintro m st ⟨i, rfl, hi, hiN, hi0, rfl⟩
  have e1 := e64 (k := i) (by omega)
  conv => whnf
  refine onB_intro (fun h => ?_) (fun h => ?_)
  · have h := of_decide_eq_true h
    have hil : i < cs.length := by omega
    have s5 := sumL_at hil
    have s6 := sumL_le cs (i + 1)
    conv => whnf
    refine ⟨⟨by omega, by omega⟩, ?_⟩
    conv => whnf
    rw [ti_nat]
    refine onB_intro (fun g => ?_) (fun g => ?_)
    · have g := of_decide_eq_true g
      conv => whnf
      rw [e1, show IntKind.i64.wrap (((N - sumL (cs.take i) : Nat) : Int) - ((cs.getD i []).length : Int)) = ((N - sumL (cs.take (i + 1)) : Nat) : Int) from by rw [w_i64 (by omega) (by omega)]; omega]
      exact ⟨cs.length - (i + 1), _, by omega, norm_weak [1, 3, 5, 6, 34, 35, 36] [some 0, some 1, some 2] rfl rfl, i + 1, rfl, by omega, by omega, .inr (by omega), rfl⟩
    · have g := of_decide_eq_false g
      obtain ⟨A, hA⟩ : ∃ A, A = N - sumL (cs.take i) := ⟨_, rfl⟩
      have hAl : A ≤ (cs.getD i []).length := by omega
      have hcl : (cs.getD i []).length ≤ 5000 := by omega
      rw [← hA]
      conv => whnf
      refine drawV_at ⟨81, 0, [(3, .c (.own 0 0)), (6, .c (.own 1 0)), (10, vci .i64 (i : Int)), (12, .c (.row 2))], [some (.cells 32 (ixF cs)), some (.cells 32 [.v (.slice none 0 0), vi 0, vi 0]), some (.row 41 4 ((cs.getD i []).take A ++ e :: (cs.getD i []).drop A).length (enR ((cs.getD i []).take A ++ e :: (cs.getD i []).drop A)))]⟩ ?_ ?_
      · generalize cs.getD i [] = c at hAl hcl
        refine drawV_sched (.rd 0 (.rd 1 (.rd 3 (.rd 4 (.alt (.ef 2 (.ef 5 (.ef 6 (.rd 7 (.nil))))) (.ef 5 (.ef 2 (.ef 6 (.rd 7 (.nil)))))))))) [4, 5] mixed (by kernel_rfl) ttok ftok ?_
        conv => whnf
        refine ⟨?_, ?_⟩
        · conv => whnf
          refine call_frame2 [] rfl rfl rfl rfl (enClone c (by omega)) ?_
          rintro r own2 ⟨rfl, rfl⟩
          refine ⟨.c (.row 4), [none, none, none, none, some (.row 41 4 c.length (enR c))], rfl, rfl, ?_⟩
          conv => whnf
          refine ⟨fun _ => enF e, fun q hq => ?_, ?_⟩
          · obtain rfl : q = 0 := by omega
            rfl
          conv => whnf
          refine call_frame2 [some 4, some 5] rfl rfl rfl rfl (enInsert c e A hAl (by omega) (fun _ => enF e) rfl) ?_
          rintro r own2 ⟨rfl, rfl⟩
          refine ⟨.c (.row 7), [none, none, none, none, none, none, none, some (.row 41 4 (c.take A ++ e :: c.drop A).length (enR (c.take A ++ e :: c.drop A)))], rfl, rfl, ?_⟩
          conv => whnf
          exact norm_weak [3, 6, 10, 12] [some 0, some 2, some 7] rfl rfl
        · conv => whnf
          refine ⟨fun _ => enF e, fun q hq => ?_, ?_⟩
          · obtain rfl : q = 0 := by omega
            rfl
          conv => whnf
          refine call_frame2 [] rfl rfl rfl rfl (enClone c (by omega)) ?_
          rintro r own2 ⟨rfl, rfl⟩
          refine ⟨.c (.row 5), [none, none, none, none, some (.row 41 4 1 fun _ => enF e), some (.row 41 4 c.length (enR c))], rfl, rfl, ?_⟩
          conv => whnf
          refine call_frame2 [some 5, some 4] rfl rfl rfl rfl (enInsert c e A hAl (by omega) (fun _ => enF e) rfl) ?_
          rintro r own2 ⟨rfl, rfl⟩
          refine ⟨.c (.row 7), [none, none, none, none, none, none, none, some (.row 41 4 (c.take A ++ e :: c.drop A).length (enR (c.take A ++ e :: c.drop A)))], rfl, rfl, ?_⟩
          conv => whnf
          exact norm_weak [3, 6, 10, 12] [some 0, some 2, some 7] rfl rfl
      generalize hc : cs.getD i [] = c at *
      have hL : (c.take A ++ e :: c.drop A).length = c.length + 1 := by rw [List.length_append, List.length_cons, List.length_take, List.length_drop]; omega
      obtain ⟨L, hLd⟩ : ∃ L, L = c.take A ++ e :: c.drop A := ⟨_, rfl⟩
      rw [← hLd] at hL ⊢
      conv => whnf
      refine onB_intro (fun g2 => ?_) (fun g2 => ?_)
      · have g2 := of_decide_eq_true g2
        conv => whnf
        refine drawV_sched (.rd 0 (.rd 1 (.rd 2 (.ef 3 (.ef 4 (.ef 5 (.ef 6 (.rd 7 (.nil))))))))) [1, 2, 3] mixed (by kernel_rfl) ttok ftok ?_
        conv => whnf
        refine ⟨fun _ _ => rfl, ?_⟩
        conv => whnf
        refine call_pure (pack_c L (by omega)) rfl ?_
        rintro _ rfl
        conv => whnf
        refine ⟨chR [L], fun q hq => ?_, ?_⟩
        · obtain rfl : q = 0 := by omega
          rfl
        conv => whnf
        refine ⟨fun _ _ => rfl, ?_⟩
        conv => whnf
        refine call_pure (replace_c cs i hil (by omega) (by omega) [L] (by simp) (by simp) (by simp [sumL]; omega)) rfl ?_
        rintro _ rfl
        conv => whnf
        refine hput _ ⟨repL cs i [L], ?_, by rw [repL_len _ hil]; show cs.length - 1 + 1 ≤ _; omega, rfl⟩
        have := flat_put hil (at_ := A) (by rw [hc]; omega) [L] e (by rw [hc, hLd]; simp)
        rw [show sumL (cs.take i) + A = N by omega] at this
        exact this
      have g2 := of_decide_eq_false g2
      conv => whnf
      refine drawV_frz [2] ?_
      conv => whnf
      refine ⟨fun _ _ => rfl, ?_⟩
      conv => whnf
      refine drawV_sched (.rd 0 (.rd 1 (.rd 2 (.rd 3 (.rd 5 (.rd 6 (.ef 4 (.ef 7 (.ef 8 (.ef 9 (.ef 10 (.rd 11 (.nil))))))))))))) [1, 3] mixed (by kernel_rfl) ttok ftok ?_
      conv => whnf
      have ht : (L.take 16).length = 16 := by rw [List.length_take]; omega
      have hd : (L.drop 16).length = L.length - 16 := List.length_drop
      refine ⟨⟨by omega, by omega, by omega, by omega⟩, ?_⟩
      refine ⟨(L.take 16).length, enR (L.take 16), by rw [ht]; rfl, fun q hq => ?_, ?_⟩
      · show enF _ = enF (L.getD (Int.toNat 0 + q) en0)
        rw [getD_take _ _ _ _ (by omega), show Int.toNat 0 + q = q from Nat.zero_add q]
      conv => whnf
      refine ⟨⟨by omega, by omega, by omega, by omega⟩, ?_⟩
      refine ⟨(L.drop 16).length, enR (L.drop 16), by rw [hd]; rfl, fun q hq => ?_, ?_⟩
      · show enF _ = enF (L.getD (Int.toNat 16 + q) en0)
        rw [getD_drop]
        rfl
      conv => whnf
      refine call_pure (pack_c (L.take 16) (by omega)) rfl ?_
      rintro _ rfl
      conv => whnf
      refine call_pure (pack_c (L.drop 16) (by omega)) rfl ?_
      rintro _ rfl
      conv => whnf
      refine ⟨chR [L.take 16, L.drop 16], fun q hq => ?_, ?_⟩
      · match q, hq with
        | 0, _ => rfl
        | 1, _ => rfl
      conv => whnf
      refine ⟨fun j hj => ?_, ?_⟩
      · rfl
      conv => whnf
      refine call_pure (replace_c cs i hil (by omega) (by omega) [L.take 16, L.drop 16] (by simp) (by simp) (by simp [sumL]; omega)) rfl ?_
      rintro _ rfl
      conv => whnf
      refine hput _ ⟨repL cs i [L.take 16, L.drop 16], ?_, by rw [repL_len _ hil]; show cs.length - 1 + 2 ≤ _; omega, rfl⟩
      have := flat_put hil (at_ := A) (by rw [hc]; omega) [L.take 16, L.drop 16] e (by rw [hc]; simp only [List.flatten_cons, List.flatten_nil, List.append_nil]; rw [List.take_append_drop, hLd]; simp)
      rw [show sumL (cs.take i) + A = N by omega] at this
      exact this
  · have h := of_decide_eq_false h
    obtain rfl : i = cs.length := by omega
    have hcs : cs = [] := by
      rw [List.take_length] at hi0
      rcases hi0 with h0 | h0
      · exact List.eq_nil_of_length_eq_zero h0
      · omega
    subst hcs
    have hN0 : N = 0 := by simpa [sumL] using hN
    subst hN0
    conv => whnf
    refine ⟨enR [e], fun q hq => ?_, ?_⟩
    · obtain rfl : q = 0 := by omega
      rfl
    conv => whnf
    refine ⟨fun _ _ => rfl, ?_⟩
    conv => whnf
    refine call_pure (hof [e] (by simp)) rfl ?_
    rintro _ ⟨cs', h1, h2, rfl⟩
    conv => whnf
    exact hput _ ⟨cs', h1, by simpa using h2, rfl⟩
end Go.Eng
/- An index: the chunks of a list. -/
set_option linter.unusedVariables false
set_option linter.unusedSimpArgs false
set_option maxRecDepth 100000
set_option maxHeartbeats 4000000
namespace Go.Eng
open Go Go.RowKit Go.Proofs
def ckAt (l : List En) (i : Nat) : List En := (l.drop i).take 16
theorem ckAt_len (l : List En) (i : Nat) : (ckAt l i).length = min 16 (l.length - i) := by simp [ckAt]
theorem ckAt_get (l : List En) (i k : Nat) (hk : k < (ckAt l i).length) : enR (ckAt l i) k = enR l (i + k) := by
  have : k < 16 := by rw [ckAt_len] at hk; omega
  unfold enR ckAt
  rw [List.getD_eq_getElem?_getD, List.getD_eq_getElem?_getD, List.getElem?_take, if_pos this, List.getElem?_drop]
theorem take_ck (l : List En) (i : Nat) : l.take i ++ ckAt l i = l.take (i + 16) := by
  unfold ckAt
  rw [List.take_add]
def chBx (l : List En) : IC := .fp [.sl 4 l.length (enR l)]
def n16 : IC := .fp [.v (.int .i64 16)]
theorem chunk_c (l : List En) : CallV Try.prog 60 [enS l, vci .i64 16] [] (fun r own' => own' = [] ∧ r = .c (.fn 99 [(false, [chBx l]), (false, [n16])])) := by
  refine callV_pureL [0, 1] Try.func60 rfl ttok ftok rfl rfl rfl (Nat.le_of_ble_eq_true rfl) ?_
  conv => whnf
  all_goals first | rfl | exact ⟨rfl, rfl⟩
abbrev CkA (L : Nat → Value) (m : Nat → Option Obj) := { p : Value × List En // DenA L ⟨m, 0⟩ (enS p.2) p.1 ∧ p.2 ≠ [] ∧ p.2.length ≤ 16 }
def ckS (l : List En) (y : Value) (i : Nat) : St := ⟨31, 0, [(0, .c (.v y)), (1, .c (chBx l)), (2, .c n16), (4, vci .i64 (i : Int))], []⟩
theorem chunkg_stops (l : List En) (hl : l.length ≤ 10000) {L : Nat → Value} {m : Nat → Option Obj} {v1 v2 : Value} (h1 : Den L ⟨m, 0⟩ (chBx l) v1) (h2 : Den L ⟨m, 0⟩ n16 v2) (w1 : World) (hf : FzIn m w1) (hgl : HasGl.ok Try.prog m) (n : Nat) :
    SeqStopsK Fence.wide n Try.prog 99 #[v1, v2] (fun x : CkA L m => #[x.1.1]) (fun W W' => FzIn m W → FzIn m W') (fun xs => (xs.map (fun x => x.1.2)).flatten = l) (fun _ => True) l.length w1 := by
  intro ln J Jx W hW hJ hJx hY h0
  have hfW : FzIn m W := hf.below hW
  have hJb : ∀ pre A B, J pre A → Below A.heap.size A B → J pre B := fun pre A B hs hb => hJ pre A B none hs (below_grown hb) (fun r e => by cases e)
  obtain ⟨y, hy⟩ : ∃ y, y = Value.func (.yield ln) #[] #[] := ⟨_, rfl⟩
  have ha : Agree L ⟨m, 0⟩ ⟨31, 0, [(0, .c (.v y)), (1, .c (chBx l)), (2, .c n16)], []⟩ { tmps := #[y, v1, v2] ++ Array.replicate (31 - 3) undef, defers := [] } :=
    agree0 (args := [.c (.v y), .c (chBx l), .c n16]) (vs := [y, v1, v2]) (n := 31) (Nat.le_of_ble_eq_true rfl) ⟨rfl, fun j a v ha hv => by
      match j with
      | 0 => cases ha; cases hv; exact Den.v _ (by rw [hy]; rfl)
      | 1 => cases ha; cases hv; exact h1
      | 2 => cases ha; cases hv; exact h2
      | j + 3 => cases ha⟩ 0 []
  rw [← hy]
  refine callsIn_of_wp Try.func99 rfl trivial ?_ rfl
  refine wpIn_seq ?_
  refine wpIn_mono (wpIn_wide.2 (quietR (K := fun st => st.n = 31 ∧ pickE st.env [0, 1, 2, 4] = some (ckS l y 0).env) ttok hfW rfl ?_ ha)) ?_
  · conv => whnf
    all_goals first | rfl | exact ⟨rfl, rfl⟩
  rintro e a' w' ⟨rfl, rfl, st, ha', ho, hn, hp⟩
  have ha0 := agree_pick (k := 0) (own := []) ha' hn hp
  refine then_n ?_
  refine wpIn_block ?_
  refine wpIn_loop (fun a w => ∃ (pre : List (CkA L m)) (i : Nat), Agree L ⟨m, 0⟩ (ckS l y i) a ∧ FzIn m w ∧ J pre w ∧ (pre.map (fun x => x.1.2)).flatten = l.take i ∧ i = 16 * pre.length) (fun a _ => l.length + 16 - (RowKit.intOf (a.eval (.tmp 4))).toNat) ⟨[], 0, ha0, hfW, h0, rfl, rfl⟩ ?_
  clear ha0 ho hp hn ha' ha h0 st a' hfW
  rintro a w ⟨pre, i, ha, hfw, hJp, hpre, hi⟩
  have e4 : a.eval (.tmp 4) = .int .i64 (i : Int) := ev_v (st := ckS l y i) ha rfl
  refine wpIn_seq (wpIn_seq ?_)
  refine wpIn_mono (wpIn_wide.2 (quietR (K := fun st => st.n = 31 ∧ pickE st.env [9, 0, 1, 2, 4] = some ((9, .c (.v (.bool (decide (i < l.length))))) :: (ckS l y i).env)) ttok hfw rfl ?_ ha)) ?_
  · conv => whnf
    rw [show decide ((i : Int) < (l.length : Int)) = decide (i < l.length) from by simp]
    exact ⟨rfl, rfl⟩
  rintro e a' w' ⟨rfl, rfl, st, ha', ho, hn, hp⟩
  have ha1 := agree_pick (k := 0) (own := []) ha' hn hp
  refine then_n ?_
  by_cases hil : i < l.length
  · rw [decide_eq_true hil] at ha1
    refine wpIn_cond_true (ev_v ha1 rfl) (wpIn_skip (then_n ?_))
    refine wpIn_seq ?_
    refine wpIn_block ?_
    refine wpIn_seq ?_
    refine wpIn_mono (wpIn_wide.2 (quietD (K := fun st => st.n = 31 ∧ pickE st.env [5, 0, 1, 2, 4] = some ((5, vci .i64 ((min 16 (l.length - i) : Nat) : Int)) :: (ckS l y i).env)) hgl mixed (by kernel_rfl) ttok ftok hfw rfl ?_ ha1)) ?_
    · have hmin : minI 16 ((l.length - i : Nat) : Int) = ((min 16 (l.length - i) : Nat) : Int) := by unfold minI; split <;> omega
      conv => whnf
      refine ⟨by omega, l.length - i, fun k => enR l (i + k), by omega, fun k _ => by rw [ti_nat], ?_⟩
      conv => whnf
      rw [hmin]
      exact ⟨rfl, rfl⟩
    rintro e a2 w2 ⟨rfl, hb2, st2, ha2, ho2, hn2, hp2⟩
    have ha3 := agree_pick (k := 0) (own := []) ha2 hn2 hp2
    have hf2 := hfw.below hb2
    have hJ2 := hJb _ _ _ hJp hb2
    refine then_n (wpIn_seq ?_)
    refine region_pre 10 (R := fun a' w' => w' = w2 ∧ ∃ st', Agree L ⟨m, 0⟩ st' a' ∧ st'.own = [] ∧ (st'.n = 31 ∧ pickE st'.env [19, 28, 0, 1, 2, 4] = some ((19, .c (.v y)) :: (28, enS (ckAt l i)) :: (ckS l y i).env))) rfl (quietL_G ttok hf2 _ _ [] _ rfl ?_ ha3 gok_nil) ?_
    · have hlen := ckAt_len l i
      have hw : IntKind.i64.wrap ((i : Int) + ((min 16 (l.length - i) : Nat) : Int)) = ((i + min 16 (l.length - i) : Nat) : Int) := by rw [w_i64 (by omega) (by omega)]; omega
      conv => whnf
      rw [hw]
      refine ⟨by omega, (ckAt l i).length, enR (ckAt l i), by omega, fun k hk => by rw [ti_nat]; exact ckAt_get l i k hk, ?_⟩
      conv => whnf
      all_goals first | rfl | exact ⟨rfl, rfl⟩
    rintro a4 w4 ⟨rfl, st4, ha4, ho4, hn4, hp4⟩
    have ha5 := agree_pick (k := 0) (own := []) ha4 hn4 hp4
    have hx : DenA L ⟨m, 0⟩ (enS (ckAt l i)) (a4.eval (.tmp 28)) := ha5.env 28 _ rfl
    have hlen := ckAt_len l i
    have hne : ckAt l i ≠ [] := fun e => by rw [e] at hlen; simp at hlen; omega
    have hle : (ckAt l i).length ≤ 16 := by omega
    have hyx := hY pre ⟨(a4.eval (.tmp 28), ckAt l i), hx, hne, hle⟩ w4 hJ2 (by omega)
    show wpListIn _ _ _ _ _ (_ :: _ :: []) _ _
    refine wpListIn_plain rfl (fun K hK => yield_op rfl ?_ hyx ?_)
    · exact (ev_v ha5 rfl).trans hy
    rintro e W' (⟨rfl, hJ', hf'⟩ | ⟨rfl, hJx'⟩)
    · refine ⟨_, rfl, hK _ _ ?_⟩
      have ha6 := agree_put (d := 29) ha5 (Nat.le_of_ble_eq_true rfl) (av := vcb true) (Den.v _ rfl)
      refine list_in0 (l := [_]) (l2 := []) (R := fun a' w' => w' = W' ∧ ∃ st', Agree L ⟨m, 0⟩ st' a' ∧ st'.own = [] ∧ (st'.n = 31 ∧ pickE st'.env [30, 0, 1, 2, 4] = some ((30, vcb false) :: (ckS l y i).env))) rfl (quietL_G ttok (hf' hf2) [_] _ [] _ rfl ?_ ha6 gok_nil) ?_
      · conv => whnf
        all_goals first | rfl | exact ⟨rfl, rfl⟩
      rintro a7 w7 ⟨rfl, st7, ha7, ho7, hn7, hp7⟩
      have ha8 := agree_pick (k := 0) (own := []) ha7 hn7 hp7
      refine wpListIn_nil (then_n (wpIn_cond_false (ev_v ha8 rfl) (wpIn_skip (inb_n (then_n ?_)))))
      refine wpIn_mono (wpIn_wide.2 (quietR (K := fun st => st.n = 31 ∧ pickE st.env [0, 1, 2, 4] = some (ckS l y (i + 16)).env) ttok (hf' hf2) rfl ?_ ha8)) ?_
      · have hw : IntKind.i64.wrap ((i : Int) + 16) = ((i + 16 : Nat) : Int) := by rw [w_i64 (by omega) (by omega)]; omega
        conv => whnf
        rw [hw]
        exact ⟨rfl, rfl⟩
      rintro e a9 w9 ⟨rfl, rfl, st9, ha9, ho9, hn9, hp9⟩
      have ha10 := agree_pick (k := 0) (own := []) ha9 hn9 hp9
      have e10 : a9.eval (.tmp 4) = .int .i64 ((i + 16 : Nat) : Int) := ev_v (st := ckS l y (i + 16)) ha10 rfl
      refine then_n ⟨⟨_, i + 16, ha10, hf' hf2, hJ', ?_, ?_⟩, ?_⟩
      · rw [List.map_append, List.flatten_append, hpre]
        simp only [List.map_cons, List.map_nil, List.flatten_cons, List.flatten_nil, List.append_nil]
        exact take_ck l i
      · rw [List.length_append]; simp; omega
      · rw [e10, e4]
        show l.length + 16 - ((i + 16 : Nat) : Int).toNat < l.length + 16 - (i : Int).toNat
        omega
    · refine ⟨_, rfl, hK _ _ ?_⟩
      have ha50 : Agree L ⟨fun _ => none, 0⟩ ⟨31, 0, [], []⟩ a4 := ⟨ha5.size, fun t av ht => by simp at ht, ha5.defers⟩
      have ha6 := agree_put (d := 29) ha50 (Nat.le_of_ble_eq_true rfl) (av := vcb false) (Den.v _ rfl)
      have hf9 : FzIn (fun _ => none) W' := fun k o hk => by cases hk
      refine list_in0 (l := [_]) (l2 := []) (R := fun a' w' => w' = W' ∧ ∃ st', Agree L ⟨fun _ => none, 0⟩ st' a' ∧ st'.own = [] ∧ (st'.n = 31 ∧ pickE st'.env [30] = some [(30, vcb true)])) rfl (quietL_G ttok hf9 [_] _ [] _ rfl ?_ ha6 gok_nil) ?_
      · conv => whnf
        all_goals first | rfl | exact ⟨rfl, rfl⟩
      rintro a7 w7 ⟨rfl, st7, ha7, ho7, hn7, hp7⟩
      have ha8 := agree_pick (k := 0) (own := []) ha7 hn7 hp7
      refine wpListIn_nil (then_n (wpIn_cond_true (ev_v ha8 rfl) (wpIn_ret (inb_r (then_r (then_r (inb_r ?_)))))))
      refine bodyPost_ret (results_none rfl _ _ _) ha8.defers ?_
      exact ⟨⟨_, rfl⟩, .inr ⟨_, trivial, hJx'⟩⟩
  · rw [decide_eq_false hil] at ha1
    refine wpIn_cond_false (ev_v ha1 rfl) (wpIn_exit (then_e (then_e (inb_e ?_))))
    refine bodyPost_end (results_none rfl _ _ _) ha1.defers ?_
    exact ⟨⟨_, rfl⟩, .inl ⟨pre, hpre.trans (List.take_of_length_le (by omega)), hJp⟩⟩
end Go.Eng
/- An index: of a list. -/
set_option linter.unusedVariables false
set_option linter.unusedSimpArgs false
set_option maxRecDepth 100000
set_option maxHeartbeats 4000000
namespace Go.Eng
open Go Go.RowKit Go.Proofs
def ofOwn (cs : Ck) : List (Option Ob) := [some (.cells 32 [.v (.slice none 0 0), vi 0, vi 0]), some (.cells 30 [.row 2]), some (.row 97 2 cs.length (chR cs))]
theorem of_c : OfC := by
  intro l hl
  refine ⟨fun mine L F h w vs hgl hm hden => ?_⟩
  refine (callsIn_wide (n := 5)).1 ?_
  have hm0 : Mem (mineOf (footOf F []) w) L F h [] w := hm.mine_mono (fun b hb => .inl hb)
  have hs : Sat (footOf F []) w (⟨h, L, hgl⟩ : Base Try.prog) ⟨16, 0, env0 [enS l], []⟩ { tmps := vs.toArray ++ Array.replicate (16 - vs.toArray.size) undef, defers := [] } w :=
    ⟨⟨L, F, h, hm0, agree0 (Nat.le_of_ble_eq_true rfl) hden 0 [], ⟨Sub.refl h, fun _ _ => rfl, hm.hn.symm⟩, fun k hk => .inl hk⟩, Keep.refl _ w⟩
  refine callsIn_of_wp_marks Try.func26 rfl trivial ?_ rfl
  refine wpIn_seq (wpIn_mono (wpIn_wide.2 (vc_ok (Q := fun e st => e = .normal ∧ Weak st ⟨16, 0, [(0, enS l), (2, .c (.own 0 0))], [some (.cells 32 [.v (.slice none 0 0), vi 0, vi 0])]⟩) ttok ftok _ _ _ _ ?_ hs)) ?_)
  · conv => whnf
    exact ⟨rfl, norm_weak [0, 2] [some 0] rfl rfl⟩
  rintro e a1 w1 ⟨e1, st1, rfl, hs1, rfl, hw1⟩
  replace hs1 := hw1.out _ _ _ _ _ hs1
  refine then_n (wpIn_seq (wpIn_mono (wpIn_wide.2 (vc_ok (Q := fun e st => e = .normal ∧ Weak st ⟨16, 0, [(0, enS l), (2, .c (.own 0 0)), (3, .c (.own 1 0))], [some (.cells 32 [.v (.slice none 0 0), vi 0, vi 0]), some (.cells 30 [.v (.slice none 0 0)])]⟩) ttok ftok _ _ _ _ ?_ hs1)) ?_))
  · conv => whnf
    exact ⟨rfl, norm_weak [0, 2, 3] [some 0, some 1] rfl rfl⟩
  rintro e a2 w2 ⟨e2, st2, rfl, hs2, rfl, hw2⟩
  replace hs2 := hw2.out _ _ _ _ _ hs2
  refine then_n (wpIn_seq (wpIn_seq (wpIn_mono (wpIn_wide.2 (vc_ok (Q := fun e st => e = .normal ∧ Weak st ⟨16, 0, [(2, .c (.own 0 0)), (3, .c (.own 1 0)), (7, .c (.fn 99 [(false, [chBx l]), (false, [n16])]))], [some (.cells 32 [.v (.slice none 0 0), vi 0, vi 0]), some (.cells 30 [.v (.slice none 0 0)])]⟩) ttok ftok _ _ _ _ ?_ hs2)) ?_)))
  · conv => whnf
    refine call_frame2 [] rfl rfl rfl rfl (enClone l (by omega)) ?_
    rintro r own2 ⟨rfl, rfl⟩
    refine ⟨.c (.row 2), [some (.cells 32 [.v (.slice none 0 0), vi 0, vi 0]), some (.cells 30 [.v (.slice none 0 0)]), some (.row 41 4 l.length (enR l))], rfl, rfl, ?_⟩
    conv => whnf
    refine ⟨fun _ _ => rfl, ?_⟩
    conv => whnf
    refine call_pure (chunk_c l) rfl ?_
    rintro _ rfl
    conv => whnf
    exact ⟨rfl, norm_weak [2, 3, 7] [some 0, some 1] rfl rfl⟩
  rintro e a3 w3 ⟨e3, st3, rfl, hs3, rfl, hw3⟩
  replace hs3 := hw3.out _ _ _ _ _ hs3
  obtain ⟨b, f, hfz, hbn, hab, hsr, hback⟩ := sat_rebase hs3
  clear hs3 hw3 hs2 hw2 hs1 hw1 hs hm0
  obtain ⟨v1, v2, hg, hv1, hv2⟩ : ∃ v1 v2, a3.eval (.tmp 7) = .func (.func 99) #[] #[v1, v2] ∧ Den b.L ⟨b.h.m, 0⟩ (chBx l) v1 ∧ Den b.L ⟨b.h.m, 0⟩ n16 v2 := by
    have hd : Den b.L b.h (.fn 99 [(false, [chBx l]), (false, [n16])]) (a3.eval (.tmp 7)) := hab.env 7 _ rfl
    generalize a3.eval (.tmp 7) = z at hd
    cases hd with
    | fn _ _ vs g hl hv h1 hr =>
      match vs, hl with
      | [v1, v2], _ =>
        refine ⟨v1, v2, rfl, ?_, ?_⟩
        · have := hv 0 false [chBx l] v1 rfl rfl
          rw [this]
          exact Den.clo (hr 0 false [chBx l] rfl 0 _ rfl) 0 rfl
        · have := hv 1 false [n16] v2 rfl rfl
          rw [this]
          exact Den.clo (hr 1 false [n16] rfl 0 _ rfl) 0 rfl
  have hbB : ∀ x, b.h.m x ≠ none → x < w3.heap.size := fun x hx => by
    cases e : b.h.m x with
    | none => exact absurd e hx
    | some o => exact (Array.getElem?_eq_some_iff.1 (hfz x o e)).1
  have hsr2 : Sat f w3 b ⟨16, 2, [], ofOwn []⟩ a3 w3 := ((nil_cell 1 0 97 2 (chR []) rfl rfl).trans (norm_weak [] [some 0, some 1, some 2] rfl rfl)).out _ _ _ _ _ hsr
  have hR0 : RInv f w3 b 2 w3.heap.size (ofOwn []) w3 := RInv.of_sat hsr2 rfl hbB
  refine then_n (wpIn_block ?_)
  refine wpIn_rangeFunc_ownF rfl (by decide) (gf := 99) (lb := #[v1, v2]) hg trivial (enters_of Try.func99 (by kernel_rfl) rfl)
    (chunkg_stops l hl hv1 hv2 w3 hfz b.gl 4) (fun h1 h2 h => h2 (h1 h)) ?_ (Below.refl _ _) (fun _ => rfl)
    (fun pre W => RInv f w3 b 2 w3.heap.size (ofOwn (pre.map (fun x => x.1.2))) W) (fun _ _ _ => False) ?_ (fun _ _ _ _ _ hs _ _ => hs) hR0
    (fun x => (a3.put (some 8) x.1.1).put (some 4) x.1.1) ?_ ?_ ?_ ?_
  · intro W x o o' hx _ _ _ h k o2 hk
    rw [World.putObj_heap_other (by have := hbB k (by rw [hk]; simp); omega)]
    exact h k o2 hk
  · exact fun s A B row hs hg hr => hs.grown (Nat.le_refl _) hg hr
  · intro lr x W K hK
    refine assign_in ?_
    have e : (a3.put (some 8) x.1.1).eval (.tmp 8) = x.1.1 := by
      have := hab.size
      simp [Act.eval, Act.put, this]
    have hd0 : a3.defers = [] := hab.defers
    have ea : (⟨(#[8].zip #[x.1.1]).foldl (fun t (p, v) => t.setIfInBounds p v) a3.tmps, []⟩ : Act) = a3.put (some 8) x.1.1 := by
      obtain ⟨t, d⟩ := a3
      cases hd0
      simp [Act.put]
    show K ((⟨(#[8].zip #[x.1.1]).foldl (fun t (p, v) => t.setIfInBounds p v) a3.tmps, []⟩ : Act).put (some 4) ((⟨(#[8].zip #[x.1.1]).foldl (fun t (p, v) => t.setIfInBounds p v) a3.tmps, []⟩ : Act).eval (.tmp 8))) W
    rw [ea, e]
    exact hK
  · rintro lr pre x W hI hlen
    have hd0 : a3.defers = [] := hab.defers
    have hlx : (x.1.2 : List En).length ≤ 16 := x.2.2.2
    have hxl : pre.length < l.length := hlen
    have hag : ∀ (L : Nat → Value) (h : Hp), Sub b.h h → (∀ i, i < b.h.n → L i = b.L i) → Agree L h ⟨16, 2, [(4, enS x.1.2), (2, .c (.own 0 0)), (3, .c (.own 1 0))], ofOwn (pre.map (fun x => x.1.2))⟩ ((a3.put (some 8) x.1.1).put (some 4) x.1.1) := fun L h h1 h2 => by
      have g1 := hab.mono2 (k := 2) (own := ofOwn (pre.map (fun x => x.1.2))) h1 h2
      have hx : DenA L h (enS x.1.2) x.1.1 := DenA.mono ⟨h1.m, Nat.zero_le _⟩ (fun i hi => by cases hi) (h := ⟨b.h.m, 0⟩) (L := b.L) x.2.1
      have g2 := agree_put (d := 8) g1 (Nat.le_of_ble_eq_true rfl) hx
      have g3 := agree_put (d := 4) g2 (Nat.le_of_ble_eq_true rfl) hx
      exact agree_pick (ts := [4, 2, 3]) g3 rfl rfl
    obtain ⟨b2, f2, hs2, hb2⟩ := hI.open (Nat.le_refl _) hag
    refine wpIn_block ?_
    refine wpIn_mono (round_loud 4 [0, 1] [2, 3] [2, 3, 4] (ro := some lr) (K := fun st => Weak ⟨st.n, 2, st.env, st.own⟩ ⟨16, 2, [], ofOwn ((pre ++ [x]).map (fun x => x.1.2))⟩) mixed (by kernel_rfl) (by kernel_rfl) ttok ftok ?_ hs2) ?_
    · conv => whnf
      refine call_pure (pack_c x.1.2 (by omega)) rfl ?_
      rintro _ rfl
      conv => whnf
      refine ⟨chR [x.1.2], fun q hq => ?_, ?_⟩
      · obtain rfl : q = 0 := by omega
        rfl
      conv => whnf
      refine ⟨rfl, ?_⟩
      conv => whnf
      have hml : (pre.map (fun x => x.1.2)).length = pre.length := List.length_map ..
      refine ⟨⟨by rw [hml]; omega, by rw [hml]; show (pre.length + 1) * 32 ≤ _; omega⟩, ?_⟩
      conv => whnf
      refine app_list (enc := chF) (d := []) (l := pre.map (fun x => x.1.2)) (b := [x.1.2]) (fun k hk => rfl) (fun k hk => rfl) ?_
      conv => whnf
      rw [List.map_append]
      exact norm_weak [] [some 0, some 1, some 4] rfl rfl
    · rintro e a' W' ⟨rfl, st', hs', hw⟩
      obtain ⟨hko, hsb, _⟩ := hb2 _ a' W' hs'
      replace hsb := hw.out _ _ _ _ _ hsb
      refine inb_n ⟨hko, fun _ => ?_, RInv.of_sat hsb rfl hbB⟩
      obtain ⟨⟨L', F', h', hm', _, hsub', _⟩, _⟩ := hsb
      exact fun k o hk => hm'.hsub k o (hsub'.sub.m k o hk)
  · rintro D xs W hD hS hI hK
    obtain ⟨cs, hcs⟩ : ∃ cs : Ck, xs.map (fun x => x.1.2) = cs := ⟨_, rfl⟩
    have hS : (xs.map (fun x => x.1.2)).flatten = l := hS
    have hI : RInv f w3 b 2 w3.heap.size (ofOwn (xs.map (fun x => x.1.2))) W := hI
    have hne : ∀ c, c ∈ cs → 1 ≤ c.length := fun c hc => by
      rw [← hcs] at hc
      obtain ⟨x, _, rfl⟩ := List.mem_map.1 hc
      exact List.length_pos_iff.2 x.2.2.1
    rw [hcs] at hS hI
    have hcl : cs.length ≤ l.length := by
      rw [← hS]
      clear hS hI hcs
      induction cs with
      | nil => exact Nat.zero_le _
      | cons c r ih =>
        have h1 := hne c (List.mem_cons_self ..)
        have h2 := ih (fun c hc => hne c (List.mem_cons_of_mem _ hc))
        rw [List.flatten_cons, List.length_append, List.length_cons]
        omega
    have hsl : sumL cs = l.length := by show cs.flatten.length = _; rw [hS]
    have hag : ∀ (L : Nat → Value) (h : Hp), Sub b.h h → (∀ i, i < b.h.n → L i = b.L i) → Agree L h ⟨16, 2, [(2, .c (.own 0 0)), (3, .c (.own 1 0))], ofOwn cs⟩ a3 := fun L h h1 h2 => 
      agree_pick (ts := [2, 3]) (hab.mono2 (k := 2) (own := ofOwn cs) h1 h2) rfl rfl
    obtain ⟨b2, f2, hs2, hb2⟩ := hI.open (Nat.le_refl _) hag
    refine inb_n (then_n (wpIn_seq (wpIn_region_list ?_)))
    have hd0 : a3.defers = [] := hab.defers
    rw [addD_mark hd0]
    refine list_end (ro := none) (Q := fun e a' w' => e = .normal ∧ ∃ st, Sat f2 W b2 st a' w' ∧ Weak ⟨st.n, 0, st.env, st.own⟩ ⟨16, 0, [(2, .c (.own 0 0))], [some (.cells 32 (ixF cs))]⟩) (fun e a w h => h.1) ?_ (by kernel_rfl)
      (ops_ok (K := fun st => Weak ⟨st.n, 0, st.env, st.own⟩ ⟨16, 0, [(2, .c (.own 0 0))], [some (.cells 32 (ixF cs))]⟩) ttok ftok (fun st a w h1 h2 => ⟨rfl, st, h1, h2⟩) _ _ _ _ ?_ hs2)
    · rintro a' W' ⟨_, st', hs', hw⟩
      obtain ⟨hko, _, hput⟩ := hb2 _ a' W' hs'
      have hK' := hko.same D _ hK rfl
      have hfin := hw.out _ _ _ _ _ (hback ⟨st'.n, 2, st'.env, st'.own⟩ _ _ (hput D _ (.deferred none) hD hK rfl))
      have hda : a'.defers = [] := by
        obtain ⟨⟨_, _, _, _, ha, _⟩, _⟩ := hfin
        exact ha.defers
      refine then_n (wpIn_ret ?_)
      show LeavesInM _ _ _ _ _ _ (a'.defers ++ [_]) _ _
      rw [hda]
      refine ⟨by simp, .inl ⟨D, _, rfl, run_takeDeferred hK', ?_⟩⟩
      have hz := sat_fin (fn := Try.f26) (Q := fun r => ∃ cs : Ck, cs.flatten = l ∧ cs.length ≤ l.length ∧ r = ixA cs) ttok hm.hn hfin (by
        conv => whnf
        exact ⟨cs, hS, hcl, rfl⟩)
      exact hz
    · conv => whnf
      refine ⟨fun _ _ => rfl, ?_⟩
      conv => whnf
      refine call_pure (with_c cs (by omega) (by omega)) rfl ?_
      rintro _ rfl
      conv => whnf
      exact norm_weak [2] [some 0] rfl rfl
  · rintro D c pre W _ _ h _
    exact h.elim
end Go.Eng
/- The law's reckoning of entries. -/
set_option linter.unusedVariables false
set_option linter.unusedSimpArgs false
set_option maxRecDepth 100000
set_option maxHeartbeats 4000000
namespace Go.Eng
open Go Go.RowKit Go.Proofs
theorem tm_em (n b : Int) (hb : 0 < b) : (n.tmod b < 0 → n % b = n.tmod b + b) ∧ (¬ n.tmod b < 0 → n % b = n.tmod b) := by
  have h0 := Int.emod_nonneg n (show b ≠ 0 by omega)
  have h1 := Int.emod_lt_of_pos n hb
  have h2 : (b.natAbs : Int) = b := Int.natAbs_of_nonneg (by omega)
  rw [Int.tmod_eq_emod]
  split <;> constructor <;> intro h <;> omega
theorem pick_c (n by_ : Int) (hn : -9223372036854775808 ≤ n ∧ n ≤ 9223372036854775807) (hb : 0 < by_ ∧ by_ ≤ 1000000) : CallV Try.prog 20 [vci .i64 n, vci .i64 by_] [] (fun r own' => own' = [] ∧ r = vci .i64 (n % by_)) := by
  refine callV_pure Try.func20 rfl ttok ftok rfl rfl rfl (Nat.le_of_ble_eq_true rfl) ?_
  conv => whnf
  refine ⟨hb.1, ?_⟩
  conv => whnf
  obtain ⟨t1, t2⟩ := tm_em n by_ hb.1
  have h0 := Int.emod_nonneg n (show by_ ≠ 0 by omega)
  have h1 := Int.emod_lt_of_pos n hb.1
  by_cases h : n.tmod by_ < 0
  · rw [decide_eq_true h]
    conv => whnf
    rw [← t1 h, w_i64 (by omega) (by omega)]
    all_goals first | rfl | exact ⟨rfl, rfl⟩
  · rw [decide_eq_false h]
    conv => whnf
    rw [← t2 h]
    all_goals first | rfl | exact ⟨rfl, rfl⟩
theorem code_0 : CallV Try.prog 29 [.c (.v .nilIface)] [] (fun r own' => own' = [] ∧ r = vci .i64 0) := by
  refine callV_pure Try.func29 rfl ttok ftok rfl rfl rfl (Nat.le_of_ble_eq_true rfl) ?_
  conv => whnf
  all_goals first | rfl | exact ⟨rfl, rfl⟩
theorem code_1 : CallV Try.prog 29 [erC 1] [] (fun r own' => own' = [] ∧ r = vci .i64 1) := by
  refine callV_pure Try.func29 rfl ttok ftok rfl rfl rfl (Nat.le_of_ble_eq_true rfl) ?_
  conv => whnf
  refine loop_rounds 8 ttok ftok ?_
  conv => whnf
  all_goals first | rfl | exact ⟨rfl, rfl⟩
theorem code_3 : CallV Try.prog 29 [erC 3] [] (fun r own' => own' = [] ∧ r = vci .i64 3) := by
  refine callV_pure Try.func29 rfl ttok ftok rfl rfl rfl (Nat.le_of_ble_eq_true rfl) ?_
  conv => whnf
  refine loop_rounds 8 ttok ftok ?_
  conv => whnf
  all_goals first | rfl | exact ⟨rfl, rfl⟩
/-- An index without any entries, as its cells are at first. -/
theorem argsZ {bs : List AV} : ArgsLe (ixZ :: bs) (ixA [] :: bs) := by
  refine argsLe_cons (fun L h v hd => ?_) (argsLe_refl bs)
  obtain ⟨us, e, hd⟩ : Den1 L h ixZ v := hd
  obtain ⟨u, r, rfl, h1, h2⟩ := hd.uncons
  refine (show Den1 L h (ixA []) v from ⟨_, e, DenL.cons ?_ h2⟩)
  have := den_one h1
  rw [this]
  exact .sl 2 0 _ none 0 ⟨0, 0, none⟩ (fun _ _ => undef) (Nat.le_refl _) (by decide) (fun h => by omega) (fun k hk => by omega) (fun k hk => by omega) (fun k hk => by omega) (fun k hk => by omega)
theorem putZ (e : En) (n : Int) : CallV Try.prog 18 [ixZ, vci .i64 n, .agg (enF e)] [] (fun r own' => own' = [] ∧ putS [] n e r) :=
  callV_args argsZ (put_c of_c [] (by decide) (by decide) n e)
theorem lenZ : CallV Try.prog 19 [ixZ] [] (fun r own' => own' = [] ∧ r = vci .i64 0) := callV_args argsZ (len_c [])
/-- Where an Id is, as a number. -/
def fnN (l : List En) (a : I2) : Int := match fnE l a with
  | some k => (k : Int)
  | none => -1
def lfI (l : List En) (a : I2) (n : Nat) (st : St) : Prop := ∃ k : Nat, n = l.length - k ∧ k ≤ l.length ∧ (∀ j, j < k → (l.getD j en0).id ≠ a) ∧
  st = ⟨20, 0, [(0, enS l), (3, .c (.own 0 0)), (5, vci .i64 (k : Int))], [some (.cells 39 (idF a))]⟩
theorem fnE_at {l : List En} {a : I2} {k : Nat} (hk : k < l.length) (h : ∀ j, j < k → (l.getD j en0).id ≠ a) (e : (l.getD k en0).id = a) : fnE l a = some k := by
  unfold fnE
  rw [List.findIdx?_eq_some_iff_getElem]
  refine ⟨hk, ?_, fun j hj => ?_⟩
  · rw [List.getD_eq_getElem?_getD, List.getElem?_eq_getElem hk] at e
    exact beq_iff_eq.2 e
  · have := h j hj
    rw [List.getD_eq_getElem?_getD, List.getElem?_eq_getElem (by omega)] at this
    simpa using this
theorem fnE_no {l : List En} {a : I2} (h : ∀ j, j < l.length → (l.getD j en0).id ≠ a) : fnE l a = none := by
  unfold fnE
  rw [List.findIdx?_eq_none_iff]
  intro x hx
  obtain ⟨j, hj, rfl⟩ := List.getElem_of_mem hx
  have := h j hj
  rw [List.getD_eq_getElem?_getD, List.getElem?_eq_getElem hj] at this
  simpa using this
theorem lfind_c (l : List En) (hl : l.length ≤ 1000000) (a : I2) : CallV Try.prog 28 [enS l, idA a] [] (fun r own' => own' = [] ∧ r = vci .i64 (fnN l a)) := by
  refine callV_pure Try.func28 rfl ttok ftok rfl rfl rfl (Nat.le_of_ble_eq_true rfl) ?_
  conv => whnf
  refine loopV ttok ftok (lfI l a) (norm_weak [0, 3, 5] [some 0] rfl rfl) ⟨0, rfl, Nat.zero_le _, fun j hj => by omega, rfl⟩ ?_
  rintro n st ⟨k, rfl, hk, hj, rfl⟩
  have e1 := e64 (k := k) (by omega)
  conv => whnf
  refine onB_intro (fun h => ?_) (fun h => ?_)
  · have h := of_decide_eq_true h
    have hk2 : k < l.length := by omega
    conv => whnf
    refine drawV_join mixed (by kernel_rfl) ttok ?_
    conv => whnf
    refine ⟨⟨by omega, by omega⟩, ?_⟩
    conv => whnf
    rw [ti_nat]
    refine onB_intro (fun g => ?_) (fun g => ?_)
    · have g2 : (l.getD k en0).id = a := by
        simp only [Bool.and_true, Bool.and_eq_true, beq_iff_eq] at g
        exact Prod.ext g.1 g.2
      have := fnE_at hk2 hj g2
      conv => whnf
      unfold fnN
      rw [this]
    · have g2 : (l.getD k en0).id ≠ a := fun e => by
        rw [e] at g
        simp at g
      conv => whnf
      rw [e1]
      refine ⟨l.length - (k + 1), _, by omega, norm_weak [0, 3, 5] [some 0] rfl rfl, k + 1, rfl, by omega, fun j h2 => ?_, rfl⟩
      rcases Nat.lt_succ_iff_lt_or_eq.1 h2 with h3 | rfl
      · exact hj j h3
      · exact g2
  · have h := of_decide_eq_false h
    have := fnE_no (l := l) (a := a) (fun j h2 => hj j (by omega))
    conv => whnf
    unfold fnN
    rw [this]
abbrev inR (l : List Nat) : Nat → List IC := fun k => [vi ((l.getD k 0 : Nat) : Int)]
abbrev inS (l : List Nat) : AV := .c (.sl 1 l.length (inR l))
def shI (l : List En) (n : Nat) (st : St) : Prop := ∃ k : Nat, n = l.length - k ∧ k ≤ l.length ∧ st = ⟨22, 0, [(0, enS l), (3, .c (.row 0)), (4, vci .i64 (k : Int))], [some (.row 3 1 (shp (l.take k) 0).length (inR (shp (l.take k) 0)))]⟩
theorem shp_snoc {l : List En} {k : Nat} (hk : k < l.length) : shp (l.take (k + 1)) 0 = shp (l.take k) 0 ++ if (l.getD k en0).gone = true then [] else [k] := by
  rw [take_snocE hk, shp_append, List.length_take, Nat.min_eq_left (by omega), Nat.zero_add]
  unfold shp
  split <;> rfl
theorem rshown_c (l : List En) (hl : l.length ≤ 1000000) : CallV Try.prog 62 [enS l] [] (fun r own' => own' = [] ∧ r = inS (shp l 0)) := by
  refine callV_pure Try.func62 rfl ttok ftok rfl rfl rfl (Nat.le_of_ble_eq_true rfl) ?_
  conv => whnf
  refine loopV ttok ftok (shI l) ((nil_row 3 3 1 (inR []) rfl).trans (norm_weak [0, 3, 4] [some 0] rfl rfl)) ⟨0, rfl, Nat.zero_le _, rfl⟩ ?_
  rintro n st ⟨k, rfl, hk, rfl⟩
  have e1 := e64 (k := k) (by omega)
  conv => whnf
  refine onB_intro (fun h => ?_) (fun h => ?_)
  · have h := of_decide_eq_true h
    have hk2 : k < l.length := by omega
    have hs := shp_snoc hk2
    have hsl : (shp (l.take k) 0).length ≤ k := by rw [shp_len]; have := shn_len (l.take k); rw [List.length_take] at this; omega
    conv => whnf
    refine ⟨⟨by omega, by omega⟩, ?_⟩
    conv => whnf
    rw [ti_nat]
    cases hg : (l.getD k en0).gone with
    | true =>
      rw [hg, if_pos rfl, List.append_nil] at hs
      conv => whnf
      rw [e1]
      refine ⟨l.length - (k + 1), _, by omega, norm_weak [0, 3, 4] [some 0] rfl rfl, k + 1, rfl, by omega, ?_⟩
      rw [hs]
      all_goals rfl
    | false =>
      rw [hg, if_neg (by decide)] at hs
      conv => whnf
      refine ⟨fun _ => [vi (k : Int)], fun j hj2 => ?_, ?_⟩
      · obtain rfl : j = 0 := by omega
        rfl
      conv => whnf
      refine ⟨⟨by omega, by show (List.length (shp (l.take k) 0) + 1) * 8 ≤ _; omega⟩, ?_⟩
      conv => whnf
      refine app1 (enc := fun k : Nat => [vi (k : Int)]) (d := 0) (l := shp (l.take k) 0) k (fun k hk => rfl) rfl ?_
      conv => whnf
      rw [e1, ← hs]
      exact ⟨l.length - (k + 1), _, by omega, norm_weak [0, 3, 4] [some 2] rfl rfl, k + 1, rfl, by omega, rfl⟩
  · have h := of_decide_eq_false h
    have hk2 : k = l.length := by omega
    subst hk2
    rw [List.take_length]
    conv => whnf
    refine ⟨fun _ _ => rfl, ?_⟩
    conv => whnf
    all_goals first | rfl | exact ⟨rfl, rfl⟩
def seI (a : List En) (n : Nat) (st : St) : Prop := ∃ k : Nat, n = a.length - k ∧ k ≤ a.length ∧ st = ⟨26, 0, [(0, enS a), (1, enS a), (5, vci .i64 (k : Int))], []⟩
theorem same_c (a : List En) (ha : a.length ≤ 1000000) : CallV Try.prog 63 [enS a, enS a] [] (fun r own' => own' = [] ∧ r = vcb true) := by
  refine callV_pure Try.func63 rfl ttok ftok rfl rfl rfl (Nat.le_of_ble_eq_true rfl) ?_
  conv => whnf
  rw [show (((a.length : Nat) : Int) != (a.length : Nat)) = false from bne_self_eq_false _]
  conv => whnf
  refine loopV ttok ftok (seI a) (env_weak [0, 1, 5] rfl) ⟨0, rfl, Nat.zero_le _, rfl⟩ ?_
  rintro n st ⟨k, rfl, hk, rfl⟩
  conv => whnf
  refine onB_intro (fun h => ?_) (fun h => ?_)
  · have h := of_decide_eq_true h
    have hk2 : k < a.length := by omega
    conv => whnf
    refine drawV_join mixed (by kernel_rfl) ttok ?_
    conv => whnf
    refine ⟨⟨by omega, by omega⟩, ?_⟩
    conv => whnf
    refine ⟨⟨by omega, by omega⟩, ?_⟩
    conv => whnf
    simp only [ti_nat]
    refine onB_intro (fun g => ?_) (fun g => ?_)
    · simp at g
    · conv => whnf
      rw [e64 (by omega)]
      exact ⟨a.length - (k + 1), _, by omega, env_weak [0, 1, 5] rfl, k + 1, rfl, by omega, rfl⟩
  · conv => whnf
    all_goals first | rfl | exact ⟨rfl, rfl⟩
def apOk (o : List En) : Prop := o.Pairwise (fun x y => x.id ≠ y.id)
def apI (l : List En) (n : Nat) (st : St) : Prop := ∃ (k : Nat) (o : List En), n = l.length - k ∧ k ≤ l.length ∧ o.length ≤ k ∧ (∀ x, x ∈ o → x ∈ l) ∧ apOk o ∧
  st = ⟨43, 0, [(0, enS l), (3, .c (.row 0)), (4, vci .i64 (k : Int))], [some (.row 41 4 o.length (enR o))]⟩
def apJ (l o : List En) (k : Nat) (n : Nat) (st : St) : Prop := ∃ (j : Nat) (b : Bool), n = o.length - j ∧ j ≤ o.length ∧ (b = true ↔ ∃ q, q < j ∧ (o.getD q en0).id = (l.getD k en0).id) ∧
  st = ⟨43, 0, [(0, enS l), (3, .c (.row 0)), (4, vci .i64 (k : Int)), (5, vcb b), (6, vci .i64 (j : Int))], [some (.row 41 4 o.length (enR o))]⟩
theorem apart_c (l : List En) (hl : l.length ≤ 10000000) : CallV Try.prog 17 [enS l] [] (fun r own' => own' = [] ∧ ∃ o : List En, o.length ≤ l.length ∧ (∀ x, x ∈ o → x ∈ l) ∧ apOk o ∧ r = enS o) := by
  refine callV_pure Try.func17 rfl ttok ftok rfl rfl rfl (Nat.le_of_ble_eq_true rfl) ?_
  conv => whnf
  refine loopV ttok ftok (apI l) ((nil_row 3 41 4 (enR []) rfl).trans (norm_weak [0, 3, 4] [some 0] rfl rfl)) ⟨0, [], rfl, Nat.zero_le _, Nat.le_refl _, fun x hx => (by cases hx), List.Pairwise.nil, rfl⟩ ?_
  rintro m st ⟨k, o, rfl, hk, hol, ho, hnd, rfl⟩
  have e1 := e64 (k := k) (by omega)
  conv => whnf
  refine onB_intro (fun h => ?_) (fun h => ?_)
  · have h := of_decide_eq_true h
    have hkl : k < l.length := by omega
    conv => whnf
    refine loopV ttok ftok (apJ l o k) (norm_weak [0, 3, 4, 5, 6] [some 0] rfl rfl) ⟨0, false, rfl, Nat.zero_le _, ⟨fun e => (by cases e), fun ⟨q, hq, _⟩ => by omega⟩, rfl⟩ ?_
    rintro m st ⟨j, b, rfl, hj, hb, rfl⟩
    have e2 := e64 (k := j) (by omega)
    conv => whnf
    refine onB_intro (fun h2 => ?_) (fun h2 => ?_)
    · have h2 := of_decide_eq_true h2
      have hjl : j < o.length := by omega
      conv => whnf
      refine drawV_join mixed (by kernel_rfl) ttok ?_
      conv => whnf
      refine ⟨?_, ?_⟩
      · conv => whnf
        intro g1
        conv => whnf
        omega
      conv => whnf
      refine ⟨?_, ?_⟩
      · conv => whnf
        intro g1
        conv => whnf
        omega
      conv => whnf
      rw [ti_nat, ti_nat, e2]
      refine ⟨o.length - (j + 1), _, by omega, norm_weak [0, 3, 4, 5, 6] [some 0] rfl rfl, j + 1, _, rfl, by omega, ?_, rfl⟩
      have hne : ((o.getD j en0).id.1 == (l.getD k en0).id.1 && ((o.getD j en0).id.2 == (l.getD k en0).id.2 && true)) = true ↔ (o.getD j en0).id = (l.getD k en0).id := by
        rw [Bool.and_true, Bool.and_eq_true, beq_iff_eq, beq_iff_eq]
        exact ⟨fun e => Prod.ext e.1 e.2, fun e => by rw [e]; exact ⟨rfl, rfl⟩⟩
      show (b || _) = true ↔ _
      rw [Bool.or_eq_true, hne, hb]
      constructor
      · rintro (⟨q, hq, e⟩ | e)
        · exact ⟨q, by omega, e⟩
        · exact ⟨j, by omega, e⟩
      · rintro ⟨q, hq, e⟩
        rcases Nat.lt_succ_iff_lt_or_eq.1 hq with h3 | rfl
        · exact .inl ⟨q, h3, e⟩
        · exact .inr e
    · have h2 := of_decide_eq_false h2
      have hjl : j = o.length := by omega
      subst hjl
      cases b with
      | true =>
        conv => whnf
        rw [e1]
        exact ⟨l.length - (k + 1), _, by omega, norm_weak [0, 3, 4] [some 0] rfl rfl, k + 1, o, rfl, by omega, by omega, ho, hnd, rfl⟩
      | false =>
        have hne : ∀ q, q < o.length → (o.getD q en0).id ≠ (l.getD k en0).id := fun q hq e => by
          have := hb.2 ⟨q, hq, e⟩
          cases this
        conv => whnf
        refine ⟨⟨by omega, by omega⟩, ?_⟩
        conv => whnf
        rw [ti_nat]
        have hin : l.getD k en0 ∈ l := by rw [List.getD_eq_getElem?_getD, List.getElem?_eq_getElem hkl]; exact List.getElem_mem hkl
        generalize l.getD k en0 = x at hne hin
        refine ⟨fun _ => enF x, fun j hj2 => ?_, ?_⟩
        · obtain rfl : j = 0 := by omega
          rfl
        conv => whnf
        refine ⟨⟨by (try simp only [List.length_append, List.length_singleton]); omega, by show (List.length o + 1) * 16 ≤ _; (try simp only [List.length_append, List.length_singleton]); omega⟩, ?_⟩
        conv => whnf
        refine app1 (enc := enF) (d := en0) (l := o) x (fun k hk => rfl) rfl ?_
        conv => whnf
        rw [e1]
        refine ⟨l.length - (k + 1), _, by omega, norm_weak [0, 3, 4] [some 2] rfl rfl, k + 1, o ++ [x], rfl, by omega, by simp; omega, fun y hy => ?_, ?_, rfl⟩
        · rcases List.mem_append.1 hy with hy | hy
          · exact ho y hy
          · rw [List.mem_singleton] at hy; rw [hy]; exact hin
        · refine List.pairwise_append.2 ⟨hnd, by simp, fun y hy z hz => ?_⟩
          rw [List.mem_singleton] at hz
          rw [hz]
          obtain ⟨q, hq, rfl⟩ := List.getElem_of_mem hy
          have := hne q hq
          rwa [List.getD_eq_getElem?_getD, List.getElem?_eq_getElem hq] at this
  · have h := of_decide_eq_false h
    have hk2 : k = l.length := by omega
    subst hk2
    conv => whnf
    refine ⟨fun _ _ => rfl, ?_⟩
    conv => whnf
    exact ⟨o, hol, ho, hnd, rfl⟩
end Go.Eng
/- The law's example, and whether an index has some entries. -/
set_option linter.unusedVariables false
set_option linter.unusedSimpArgs false
set_option maxRecDepth 100000
set_option maxHeartbeats 4000000
namespace Go.Eng
open Go Go.RowKit Go.Proofs
theorem putS_ok {cs : Ck} {n : Nat} {e : En} {r : AV} (h : putS cs n e r) (hn : n ≤ sumL cs) (hf : fnE cs.flatten e.id = none) : ∃ cs' : Ck, cs'.flatten = cs.flatten.take n ++ [e] ++ cs.flatten.drop n ∧ cs'.length ≤ cs.length + 1 ∧ r = .tup [ixA cs', .c (.v .nilIface)] := by
  have := h.out
  rw [if_neg (by omega), hf, if_neg (by simp), ti_nat] at this
  exact this
theorem up_c : CallV Try.prog 16 [] [] (fun r own' => own' = [] ∧ r = vcb true) := by
  refine callV_pure Try.func16 rfl ttok ftok rfl rfl rfl (Nat.le_of_ble_eq_true rfl) ?_
  conv => whnf
  refine call_pure (putZ ⟨(1, 0), 0, false⟩ 0) rfl ?_
  rintro _ hp
  obtain ⟨cs, hc, _, rfl⟩ := putS_ok (n := 0) hp (Nat.zero_le _) rfl
  have h1 : sumL cs = 1 := by unfold sumL; rw [hc]; rfl
  have h2 : shnC cs = 1 := by unfold shnC; rw [hc]; rfl
  conv => whnf
  refine call_pure lenZ rfl ?_
  rintro _ rfl
  conv => whnf
  refine call_pure (len_c cs) rfl ?_
  rintro _ rfl
  conv => whnf
  rw [show ((sumL cs : Int) == 1) = true from by rw [h1]; rfl]
  conv => whnf
  refine call_pure (shown_c cs) rfl ?_
  rintro _ rfl
  conv => whnf
  rw [show ((shnC cs : Int) == 1) = true from by rw [h2]; rfl]
def isE (cs : Ck) (a : I2) (n : Nat) (st : St) : Prop := ∃ i : Int, n = (cs.flatten.length + 1 - i).toNat ∧ -1 ≤ i ∧ i ≤ cs.flatten.length + 1 ∧
  st = ⟨134, 0, [(1, enS cs.flatten), (3, .c (.own 0 0)), (5, .c (.own 1 0)), (7, inS (shp cs.flatten 0)), (9, vci .i64 i)], [some (.cells 32 (ixF cs)), some (.cells 39 (idF a))]⟩
def isA (cs : Ck) (a : I2) (n : Nat) (st : St) : Prop := ∃ i : Int, n = ((shp cs.flatten 0).length + 1 - i).toNat ∧ -1 ≤ i ∧ i ≤ (shp cs.flatten 0).length + 1 ∧
  st = ⟨134, 0, [(1, enS cs.flatten), (3, .c (.own 0 0)), (5, .c (.own 1 0)), (7, inS (shp cs.flatten 0)), (12, vci .i64 i)], [some (.cells 32 (ixF cs)), some (.cells 39 (idF a))]⟩
theorem i64_p {i : Int} (h1 : -1 ≤ i) (h2 : i ≤ 1000000000) : IntKind.i64.wrap (i + 1) = i + 1 := w_i64 (by omega) (by omega)
theorem is_c (cs : Ck) (hl : cs.length ≤ 10000) (hs : sumL cs ≤ 10000) (a : I2) : CallV Try.prog 27 [ixA cs, enS cs.flatten, idA a] [] (fun r own' => own' = [] ∧ r = vci .i64 1) := by
  have hfl : cs.flatten.length = sumL cs := rfl
  have hsh : (shp cs.flatten 0).length = shnC cs := shp_len _ _
  have hsc := shnC_le cs
  refine callV_pure Try.func27 rfl ttok ftok rfl rfl rfl (Nat.le_of_ble_eq_true rfl) ?_
  conv => whnf
  refine call_pure (rshown_c cs.flatten (by omega)) rfl ?_
  rintro _ rfl
  conv => whnf
  refine call_pure (all_c cs (by omega) (by omega)) rfl ?_
  rintro _ rfl
  conv => whnf
  refine call_pure (same_c cs.flatten (by omega)) rfl ?_
  rintro _ rfl
  conv => whnf
  refine call_pure (len_c cs) rfl ?_
  rintro _ rfl
  conv => whnf
  rw [show ((sumL cs : Int) != (cs.flatten.length : Int)) = false from bne_self_eq_false _]
  conv => whnf
  refine call_pure (shown_c cs) rfl ?_
  rintro _ rfl
  conv => whnf
  rw [show ((shnC cs : Int) != ((shp cs.flatten 0).length : Int)) = false from by rw [hsh]; exact bne_self_eq_false _]
  conv => whnf
  refine loopV_cut 0 (fun st => st = ⟨134, 0, [(1, enS cs.flatten), (3, .c (.own 0 0)), (5, .c (.own 1 0)), (7, inS (shp cs.flatten 0))], [some (.cells 32 (ixF cs)), some (.cells 39 (idF a))]⟩) ?_ ?_
  · refine loopV ttok ftok (isE cs a) (norm_weak [1, 3, 5, 7, 9] [some 0, some 1] rfl rfl) ⟨-1, rfl, by omega, by omega, rfl⟩ ?_
    rintro m st ⟨i, rfl, hi1, hi2, rfl⟩
    have e1 := i64_p hi1 (by omega)
    conv => whnf
    refine onB_intro (fun h => ?_) (fun h => ?_)
    · have h := of_decide_eq_true h
      conv => whnf
      refine call_pure (entry_c cs (by omega) (by omega) i) rfl ?_
      rintro _ rfl
      unfold enV
      by_cases hb : 0 ≤ i ∧ i < cs.flatten.length
      · obtain ⟨k, rfl⟩ : ∃ k : Nat, i = (k : Int) := ⟨i.toNat, (Int.toNat_of_nonneg hb.1).symm⟩
        rw [if_pos hb, ti_nat]
        conv => whnf
        refine onB_intro (fun g => ?_) (fun g => ?_)
        · simp [pickB, isLit, - List.length_flatten] at g
          omega
        conv => whnf
        refine drawV_join mixed (by kernel_rfl) ttok ?_
        conv => whnf
        refine ⟨?_, ?_⟩
        · conv => whnf
          intro g1
          conv => whnf
          omega
        conv => whnf
        rw [ti_nat]
        refine onB_intro (fun g => ?_) (fun g => ?_)
        · simp [pickB, isLit, - List.length_flatten] at g
        conv => whnf
        rw [e1]
        exact ⟨(cs.flatten.length + 1 - ((k : Int) + 1)).toNat, _, by omega, norm_weak [1, 3, 5, 7, 9] [some 0, some 1] rfl rfl, (k : Int) + 1, rfl, by omega, by omega, rfl⟩
      · rw [if_neg hb]
        conv => whnf
        refine onB_intro (fun g => ?_) (fun g => ?_)
        rotate_left
        · simp [pickB, isLit, - List.length_flatten] at g
          omega
        conv => whnf
        refine call_pure code_3 rfl ?_
        rintro _ rfl
        conv => whnf
        rw [e1]
        exact ⟨(cs.flatten.length + 1 - (i + 1)).toNat, _, by omega, norm_weak [1, 3, 5, 7, 9] [some 0, some 1] rfl rfl, i + 1, rfl, by omega, by omega, rfl⟩
    · have h := of_decide_eq_false h
      conv => whnf
      exact ⟨rfl, _, norm_weak [1, 3, 5, 7] [some 0, some 1] rfl rfl, rfl⟩
  rintro st rfl
  conv => whnf
  refine loopV_cut 2 (fun st => st = ⟨134, 0, [(1, enS cs.flatten), (3, .c (.own 0 0)), (5, .c (.own 1 0)), (7, inS (shp cs.flatten 0))], [some (.cells 32 (ixF cs)), some (.cells 39 (idF a))]⟩) ?_ ?_
  · refine loopV ttok ftok (isA cs a) (norm_weak [1, 3, 5, 7, 12] [some 0, some 1] rfl rfl) ⟨-1, rfl, by omega, by omega, rfl⟩ ?_
    rintro m st ⟨i, rfl, hi1, hi2, rfl⟩
    have e1 := i64_p hi1 (by omega)
    conv => whnf
    refine onB_intro (fun h => ?_) (fun h => ?_)
    · have h := of_decide_eq_true h
      conv => whnf
      refine call_pure (at_c cs (by omega) (by omega) i) rfl ?_
      rintro _ rfl
      unfold atV
      have hse : shn cs.flatten = (shp cs.flatten 0).length := (shp_len _ _).symm
      rw [hse]
      by_cases hb : 0 ≤ i ∧ i < (shp cs.flatten 0).length
      · obtain ⟨k, rfl⟩ : ∃ k : Nat, i = (k : Int) := ⟨i.toNat, (Int.toNat_of_nonneg hb.1).symm⟩
        rw [if_pos hb, ti_nat]
        conv => whnf
        refine onB_intro (fun g => ?_) (fun g => ?_)
        · simp [pickB, isLit, - List.length_flatten] at g
          omega
        conv => whnf
        refine ⟨?_, ?_⟩
        · conv => whnf
          intro g1
          conv => whnf
          omega
        conv => whnf
        rw [ti_nat]
        refine onB_intro (fun g => ?_) (fun g => ?_)
        · simp [pickB, isLit, - List.length_flatten] at g
        conv => whnf
        rw [e1]
        exact ⟨((shp cs.flatten 0).length + 1 - ((k : Int) + 1)).toNat, _, by omega, norm_weak [1, 3, 5, 7, 12] [some 0, some 1] rfl rfl, (k : Int) + 1, rfl, by omega, by omega, rfl⟩
      · rw [if_neg hb]
        conv => whnf
        refine onB_intro (fun g => ?_) (fun g => ?_)
        rotate_left
        · simp [pickB, isLit, - List.length_flatten] at g
          omega
        conv => whnf
        refine call_pure code_3 rfl ?_
        rintro _ rfl
        conv => whnf
        rw [e1]
        exact ⟨((shp cs.flatten 0).length + 1 - (i + 1)).toNat, _, by omega, norm_weak [1, 3, 5, 7, 12] [some 0, some 1] rfl rfl, i + 1, rfl, by omega, by omega, rfl⟩
    · have h := of_decide_eq_false h
      conv => whnf
      exact ⟨rfl, _, norm_weak [1, 3, 5, 7] [some 0, some 1] rfl rfl, rfl⟩
  rintro st rfl
  conv => whnf
  refine call_pure (find_c cs (by omega) (by omega) a) rfl ?_
  rintro _ rfl
  cases hf : fnE cs.flatten a with
  | some k =>
    have hk : fnN cs.flatten a = (k : Int) := by unfold fnN; rw [hf]
    conv => whnf
    refine call_pure (lfind_c cs.flatten (by omega) a) rfl ?_
    rintro _ rfl
    rw [hk]
    conv => whnf
    refine onB_intro (fun g => ?_) (fun g => ?_)
    · exfalso
      have h1 : decide ((k : Int) ≥ 0) = true := decide_eq_true (by omega)
      have h2 : maxI (k : Int) 0 = k := by unfold maxI; split <;> omega
      rw [h1, h2] at g
      simp [pickB, isLit] at g
    conv => whnf
    all_goals first | rfl | exact ⟨rfl, rfl⟩
  | none =>
    have hk : fnN cs.flatten a = -1 := by unfold fnN; rw [hf]
    conv => whnf
    refine call_pure (lfind_c cs.flatten (by omega) a) rfl ?_
    rintro _ rfl
    rw [hk]
    conv => whnf
    trace_state
    all_goals first | rfl | exact ⟨rfl, rfl⟩
end Go.Eng
/- The statement: what any deeds make of an index. -/
set_option linter.unusedVariables false
set_option linter.unusedSimpArgs false
set_option maxRecDepth 100000
set_option maxHeartbeats 4000000
namespace Go.Eng
open Go Go.RowKit Go.Proofs
structure Dd where
  what : Int
  at_ : Int
  e : En
def dd0 : Dd := ⟨0, 0, en0⟩
abbrev ddF (d : Dd) : List IC := [vi d.what, vi d.at_, vu d.e.id.1, vu d.e.id.2, vr d.e.ch, .v (.bool d.e.gone)]
abbrev ddS (l : List Dd) : AV := .c (.sl 6 l.length fun k => ddF (l.getD k dd0))
def i64P (n : Int) : Prop := -9223372036854775808 ≤ n ∧ n ≤ 9223372036854775807
def ddOk (d : Dd) : Prop := i64P d.what ∧ i64P d.at_
def ipI (ds : List Dd) (n : Nat) (st : St) : Prop := ∃ (i : Nat) (cs : Ck), n = ds.length - i ∧ i ≤ ds.length ∧ sumL cs ≤ 100 + i ∧ cs.length ≤ 100 + i ∧
  st = ⟨135, 0, [(1, ddS ds), (5, vcb true), (6, enS cs.flatten), (7, .c (.own 0 0)), (8, vci .i64 (i : Int))], [some (.cells 32 (ixF cs))]⟩
theorem fnE_lt {l : List En} {a : I2} {k : Nat} (h : fnE l a = some k) : k < l.length := by
  unfold fnE at h
  rw [List.findIdx?_eq_some_iff_getElem] at h
  exact h.1
theorem hide_get {l : List En} {k : Nat} (hk : k < l.length) (j : Nat) : (hideAt l k).getD j en0 = if j = k then { l.getD k en0 with gone := true } else l.getD j en0 := by
  unfold hideAt
  rw [List.getD_eq_getElem?_getD, List.getElem?_set]
  by_cases h : j = k
  · subst h; simp [hk]
  · rw [if_neg (Ne.symm h), if_neg h, ← List.getD_eq_getElem?_getD]
theorem iplays_c (l : List En) (ds : List Dd) (hl : l.length ≤ 1048576) (hd : ds.length ≤ 1048576) (hok : ∀ d, d ∈ ds → ddOk d) : CallV Try.prog 5 [enS l, ddS ds] [] (fun r own' => own' = [] ∧ r = vcb true) := by
  refine callV_pure Try.func5 rfl ttok ftok rfl rfl rfl (Nat.le_of_ble_eq_true rfl) ?_
  conv => whnf
  refine call_pure up_c rfl ?_
  rintro _ rfl
  conv => whnf
  refine onB_intro (fun h => ?_) (fun h => ?_)
  · conv => whnf
    all_goals first | rfl | exact ⟨rfl, rfl⟩
  have h : l.length ≤ 100 ∧ ds.length ≤ 40 := by
    simp only [pickB, isLit, Bool.or_eq_false_iff, decide_eq_false_iff_not] at h
    omega
  obtain ⟨hl2, hd2⟩ := h
  conv => whnf
  refine call_pure (apart_c l (by omega)) rfl ?_
  rintro _ ⟨o, hol, _, _, rfl⟩
  conv => whnf
  refine call_pure (of_c o (by omega)) rfl ?_
  rintro _ ⟨cs, rfl, hcl, rfl⟩
  have hsl : sumL cs ≤ l.length := hol
  conv => whnf
  refine call_pure (is_c cs (by omega) (by show cs.flatten.length ≤ _; omega) (0, 0)) rfl ?_
  rintro _ rfl
  conv => whnf
  refine loopV ttok ftok (ipI ds) (norm_weak [1, 5, 6, 7, 8] [some 0] rfl rfl) ⟨0, cs, rfl, Nat.zero_le _, by omega, by omega, rfl⟩ ?_
  rintro m st ⟨i, cs, rfl, hi, hs, hcl, rfl⟩
  have hsf : cs.flatten.length = sumL cs := rfl
  have e1 := e64 (k := i) (by omega)
  conv => whnf
  refine onB_intro (fun h => ?_) (fun h => ?_)
  · have h := of_decide_eq_true h
    have hil : i < ds.length := by omega
    have hdk : ddOk (ds.getD i dd0) := hok _ (by rw [List.getD_eq_getElem?_getD, List.getElem?_eq_getElem hil]; exact List.getElem_mem hil)
    conv => whnf
    refine ⟨⟨by omega, by omega⟩, ?_⟩
    conv => whnf
    rw [ti_nat]
    generalize ds.getD i dd0 = d at hdk
    refine call_pure (lfind_c cs.flatten (by omega) d.e.id) rfl ?_
    rintro _ rfl
    conv => whnf
    refine ⟨⟨by omega, by show (0 + cs.flatten.length) * 16 ≤ _; omega⟩, ?_⟩
    conv => whnf
    refine ⟨cs.flatten.length, enR cs.flatten, by omega, fun k hk => by omega, fun k hk => by rw [Nat.zero_add], ?_⟩
    conv => whnf
    refine call_pure (pick_c d.what 3 hdk.1 (by decide)) rfl ?_
    rintro _ rfl
    have hpf : (plcC cs d.e.id).map (fun p => sumL (cs.take p.1) + p.2) = fnE cs.flatten d.e.id := plcC_find cs d.e.id
    by_cases hw : d.what % 3 = 2
    · rw [hw]
      conv => whnf
      refine call_pure (hide_c cs (by omega) (by omega) d.e.id) rfl ?_
      rintro _ rfl
      cases hp : plcC cs d.e.id with
      | none =>
        rw [hp] at hpf
        have hfn : fnN cs.flatten d.e.id = -1 := by unfold fnN; rw [← hpf]; rfl
        have hhd : hdC cs d.e.id = none := by unfold hdC; rw [hp]; rfl
        rw [hhd, hfn]
        conv => whnf
        refine call_pure code_1 rfl ?_
        rintro _ rfl
        conv => whnf
        refine call_pure (is_c cs (by omega) (by omega) d.e.id) rfl ?_
        rintro _ rfl
        conv => whnf
        rw [e1]
        exact ⟨ds.length - (i + 1), _, by omega, norm_weak [1, 5, 6, 7, 8] [some 0] rfl rfl, i + 1, cs, rfl, by omega, by omega, by omega, rfl⟩
      | some p =>
        obtain ⟨p, q⟩ := p
        rw [hp] at hpf
        obtain ⟨hpl, hql⟩ := plcC_lt hp
        have hfn : fnN cs.flatten d.e.id = ((sumL (cs.take p) + q : Nat) : Int) := by unfold fnN; rw [← hpf]; rfl
        have hhd : hdC cs d.e.id = some (repL cs p [hideAt (cs.getD p []) q]) := by unfold hdC; rw [hp]; rfl
        have hfl : (repL cs p [hideAt (cs.getD p []) q]).flatten = hideAt cs.flatten (sumL (cs.take p) + q) := flat_hide hpl hql
        rw [hhd, hfn]
        have hk : sumL (cs.take p) + q < cs.flatten.length := fnE_lt hpf.symm
        have hl2 : (repL cs p [hideAt (cs.getD p []) q]).length ≤ 101 + i := by rw [repL_len _ hpl]; simp; omega
        have hs2 : sumL (repL cs p [hideAt (cs.getD p []) q]) ≤ 101 + i := by
          show (repL cs p [hideAt (cs.getD p []) q]).flatten.length ≤ _
          rw [hfl]
          unfold hideAt
          rw [List.length_set]; omega
        have hlen : (hideAt cs.flatten (sumL (cs.take p) + q)).length = cs.flatten.length := by unfold hideAt; rw [List.length_set]
        have hget : ∀ j, (hideAt cs.flatten (sumL (cs.take p) + q)).getD j en0 = if j = sumL (cs.take p) + q then { cs.flatten.getD (sumL (cs.take p) + q) en0 with gone := true } else cs.flatten.getD j en0 := fun j => hide_get hk j
        clear hp hpl hql hhd hpf
        generalize repL cs p [hideAt (cs.getD p []) q] = cs2 at hfl hl2 hs2
        generalize sumL (cs.take p) + q = k at hfl hk hlen hget
        conv => whnf
        refine ⟨by omega, ?_⟩
        conv => whnf
        refine ⟨enR (hideAt cs.flatten k), fun j hj => ?_, ?_⟩
        · show enF ((hideAt cs.flatten k).getD j en0) = _
          rw [hget, ti_nat]
          by_cases h : j = k
          · rw [if_pos h, if_pos h]
            rfl
          · rw [if_neg h, if_neg h]
        conv => whnf
        rw [← hlen, ← hfl]
        refine call_pure code_0 rfl ?_
        rintro _ rfl
        conv => whnf
        refine call_pure (is_c cs (by omega) (by omega) d.e.id) rfl ?_
        rintro _ rfl
        conv => whnf
        refine ⟨fun _ _ => rfl, ?_⟩
        conv => whnf
        refine call_pure (is_c cs2 (by omega) (by omega) d.e.id) rfl ?_
        rintro _ rfl
        conv => whnf
        rw [e1]
        exact ⟨ds.length - (i + 1), _, by omega, norm_weak [1, 5, 6, 7, 8] [some 0] rfl rfl, i + 1, cs2, rfl, by omega, by omega, by omega, rfl⟩
    · conv => whnf
      refine onB_intro (fun g => ?_) (fun g => ?_)
      · exact absurd (beq_iff_eq.1 g) hw
      conv => whnf
      have hw3 : IntKind.i64.wrap ((cs.flatten.length : Int) + 3) = ((cs.flatten.length + 3 : Nat) : Int) := by rw [w_i64 (by omega) (by omega)]; omega
      have hlen0 : cs.flatten.length ≤ 140 := by omega
      rw [hw3]
      refine call_pure (pick_c d.at_ ((cs.flatten.length + 3 : Nat) : Int) hdk.2 (by omega)) rfl ?_
      rintro _ rfl
      have hm0 := Int.emod_nonneg d.at_ (show ((cs.flatten.length + 3 : Nat) : Int) ≠ 0 by omega)
      have hm1 := Int.emod_lt_of_pos d.at_ (show (0 : Int) < ((cs.flatten.length + 3 : Nat) : Int) by omega)
      have hw1 : IntKind.i64.wrap (d.at_ % ((cs.flatten.length + 3 : Nat) : Int) - 1) = d.at_ % ((cs.flatten.length + 3 : Nat) : Int) - 1 := w_i64 (by omega) (by omega)
      conv => whnf
      rw [hw1]
      clear hw1 hm0 hm1
      generalize d.at_ % ((cs.flatten.length + 3 : Nat) : Int) - 1 = n
      refine call_pure (put_c of_c cs (by omega) (by omega) n d.e) rfl ?_
      rintro _ ⟨hput⟩
      by_cases hr : n < 0 ∨ (sumL cs : Int) < n
      · rw [if_pos hr] at hput
        subst hput
        conv => whnf
        refine onB_intro (fun g => ?_) (fun g => ?_)
        rotate_left
        · simp [pickB, isLit, - List.length_flatten] at g
          omega
        conv => whnf
        refine call_pure code_3 rfl ?_
        rintro _ rfl
        conv => whnf
        refine call_pure (is_c cs (by omega) (by omega) d.e.id) rfl ?_
        rintro _ rfl
        conv => whnf
        rw [e1]
        exact ⟨ds.length - (i + 1), _, by omega, norm_weak [1, 5, 6, 7, 8] [some 0] rfl rfl, i + 1, cs, rfl, by omega, by omega, by omega, rfl⟩
      rw [if_neg hr] at hput
      cases hf : fnE cs.flatten d.e.id with
      | some k =>
        have hfn : fnN cs.flatten d.e.id = (k : Int) := by unfold fnN; rw [hf]
        rw [hf, if_pos Option.isSome_some] at hput
        subst hput
        rw [hfn]
        conv => whnf
        refine onB_intro (fun g => ?_) (fun g => ?_)
        · simp [pickB, isLit, - List.length_flatten] at g
          omega
        conv => whnf
        refine call_pure code_1 rfl ?_
        rintro _ rfl
        conv => whnf
        refine call_pure (is_c cs (by omega) (by omega) d.e.id) rfl ?_
        rintro _ rfl
        conv => whnf
        rw [e1]
        exact ⟨ds.length - (i + 1), _, by omega, norm_weak [1, 5, 6, 7, 8] [some 0] rfl rfl, i + 1, cs, rfl, by omega, by omega, by omega, rfl⟩
      | none =>
        have hfn : fnN cs.flatten d.e.id = -1 := by unfold fnN; rw [hf]
        rw [hf, if_neg (by simp)] at hput
        obtain ⟨cs2, hc2, hl2, rfl⟩ := hput
        rw [hfn]
        conv => whnf
        refine onB_intro (fun g => ?_) (fun g => ?_)
        · simp [pickB, isLit, - List.length_flatten] at g
          omega
        obtain ⟨N, rfl⟩ : ∃ N : Nat, n = (N : Int) := ⟨n.toNat, (Int.toNat_of_nonneg (by omega)).symm⟩
        have hN : N ≤ cs.flatten.length := by omega
        rw [ti_nat] at hc2
        have hs2 : sumL cs2 ≤ 101 + i := by
          show cs2.flatten.length ≤ _
          rw [hc2, List.length_append, List.length_append, List.length_take, List.length_drop]
          simp only [List.length_singleton]
          omega
        have htl : (cs.flatten.take N).length = N := by rw [List.length_take]; omega
        conv => whnf
        refine drawV_at ⟨135, 0, [(1, ddS ds), (5, vcb true), (6, enS cs.flatten), (7, .c (.own 0 0)), (8, vci .i64 (i : Int)), (9, .c (.own 1 0)), (11, .c (.row 2)), (12, vci .i64 0), (13, .c (.own 3 0)), (14, .c (.v .nilIface)), (15, vci .i64 (N : Int))], [some (.cells 32 (ixF cs)), some (.cells 56 (ddF d)), some (.row 41 4 (cs.flatten.take N ++ [d.e]).length (enR (cs.flatten.take N ++ [d.e]))), some (.cells 32 (ixF cs2))]⟩ ?_ ?_
        · refine drawV_sched (.rd 1 (.rd 2 (.rd 3 (.rd 5 (.rd 6 (.alt (.ef 0 (.alt (.ef 4 (.ef 7 (.ef 8 (.rd 9 (.nil))))) (.ef 7 (.ef 4 (.ef 8 (.rd 9 (.nil))))))) (.ef 7 (.ef 0 (.ef 4 (.ef 8 (.rd 9 (.nil)))))))))))) [5, 6, 7] mixed (by kernel_rfl) ttok ftok ?_
          conv => whnf
          refine ⟨by omega, (cs.flatten.take N).length, enR (cs.flatten.take N), by omega, fun k hk => ?_, ?_⟩
          · show enF ((cs.flatten.take N).getD k en0) = enF (cs.flatten.getD (0 + k) en0)
            rw [Nat.zero_add, getD_take _ _ _ _ (by omega)]
          conv => whnf
          refine ⟨?_, ?_⟩
          · conv => whnf
            refine ⟨?_, ?_⟩
            · conv => whnf
              refine ⟨⟨by omega, by show (0 + (cs.flatten.take N).length) * 16 ≤ _; omega⟩, ?_⟩
              conv => whnf
              refine ⟨(cs.flatten.take N).length, enR (cs.flatten.take N), by omega, fun k hk => by omega, fun k hk => by rw [Nat.zero_add], ?_⟩
              conv => whnf
              refine ⟨fun _ => enF d.e, fun q hq => (by obtain rfl : q = 0 := by omega
                                                        rfl), ?_⟩
              conv => whnf
              refine ⟨⟨by omega, by show ((cs.flatten.take N).length + 1) * 16 ≤ _; omega⟩, ?_⟩
              conv => whnf
              refine app1 (enc := enF) (d := en0) (l := cs.flatten.take N) d.e (fun k hk => rfl) rfl ?_
              conv => whnf
              exact norm_weak [1, 5, 6, 7, 8, 9, 11, 12, 13, 14, 15] [some 0, some 1, some 8, some 4] rfl rfl
            · conv => whnf
              refine ⟨fun _ => enF d.e, fun q hq => (by obtain rfl : q = 0 := by omega
                                                        rfl), ?_⟩
              conv => whnf
              refine ⟨⟨by omega, by show (0 + (cs.flatten.take N).length) * 16 ≤ _; omega⟩, ?_⟩
              conv => whnf
              refine ⟨(cs.flatten.take N).length, enR (cs.flatten.take N), by omega, fun k hk => by omega, fun k hk => by rw [Nat.zero_add], ?_⟩
              conv => whnf
              refine ⟨⟨by omega, by show ((cs.flatten.take N).length + 1) * 16 ≤ _; omega⟩, ?_⟩
              conv => whnf
              refine app1 (enc := enF) (d := en0) (l := cs.flatten.take N) d.e (fun k hk => rfl) rfl ?_
              conv => whnf
              exact norm_weak [1, 5, 6, 7, 8, 9, 11, 12, 13, 14, 15] [some 0, some 1, some 8, some 4] rfl rfl
          · conv => whnf
            refine ⟨fun _ => enF d.e, fun q hq => (by obtain rfl : q = 0 := by omega
                                                      rfl), ?_⟩
            conv => whnf
            refine ⟨⟨by omega, by show (0 + (cs.flatten.take N).length) * 16 ≤ _; omega⟩, ?_⟩
            conv => whnf
            refine ⟨(cs.flatten.take N).length, enR (cs.flatten.take N), by omega, fun k hk => by omega, fun k hk => by rw [Nat.zero_add], ?_⟩
            conv => whnf
            refine ⟨⟨by omega, by show ((cs.flatten.take N).length + 1) * 16 ≤ _; omega⟩, ?_⟩
            conv => whnf
            refine app1 (enc := enF) (d := en0) (l := cs.flatten.take N) d.e (fun k hk => rfl) rfl ?_
            conv => whnf
            exact norm_weak [1, 5, 6, 7, 8, 9, 11, 12, 13, 14, 15] [some 0, some 1, some 8, some 4] rfl rfl
        conv => whnf
        have hdl : (cs.flatten.drop N).length = cs.flatten.length - N := by rw [List.length_drop]
        refine ⟨by omega, (cs.flatten.drop N).length, enR (cs.flatten.drop N), by omega, fun k hk => ?_, ?_⟩
        · show enF ((cs.flatten.drop N).getD k en0) = enF (cs.flatten.getD ((N : Int).toNat + k) en0)
          rw [ti_nat, getD_drop]
        conv => whnf
        have hal : (cs.flatten.take N ++ [d.e]).length = N + 1 := by rw [List.length_append, htl]; rfl
        refine ⟨⟨by omega, by show ((cs.flatten.take N ++ [d.e]).length + (cs.flatten.drop N).length) * 16 ≤ _; omega⟩, ?_⟩
        conv => whnf
        refine app_list (enc := enF) (d := en0) (l := cs.flatten.take N ++ [d.e]) (b := cs.flatten.drop N) (fun k hk => rfl) (fun k hk => rfl) ?_
        rw [← hc2]
        conv => whnf
        refine call_pure code_0 rfl ?_
        rintro _ rfl
        conv => whnf
        refine call_pure (is_c cs (by omega) (by omega) d.e.id) rfl ?_
        rintro _ rfl
        conv => whnf
        refine ⟨fun _ _ => rfl, ?_⟩
        conv => whnf
        refine call_pure (is_c cs2 (by omega) (by omega) d.e.id) rfl ?_
        rintro _ rfl
        conv => whnf
        rw [e1]
        exact ⟨ds.length - (i + 1), _, by omega, norm_weak [1, 5, 6, 7, 8] [some 0] rfl rfl, i + 1, cs2, rfl, by omega, by omega, by omega, rfl⟩
  · have h := of_decide_eq_false h
    conv => whnf
    all_goals first | rfl | exact ⟨rfl, rfl⟩
theorem mem_getD {α : Type} {l : List α} {x d : α} (h : x ∈ l) : ∃ j, j < l.length ∧ l.getD j d = x := by
  obtain ⟨j, hj, rfl⟩ := List.getElem_of_mem h
  exact ⟨j, hj, by rw [List.getD_eq_getElem?_getD, List.getElem?_eq_getElem hj]; rfl⟩
theorem rd_idX {B d : Nat} {cs : List IC} (h : Rd tt B (d + 2) 39 cs) : ∃ a : I2, cs = idF a := by
  obtain ⟨x1, y1, ⟨v, w1, rfl⟩, ⟨x2, y2, ⟨w, w2, rfl⟩, rfl, rfl⟩, rfl⟩ := h
  exact ⟨(v, w), rfl⟩
theorem rd_enX {B d : Nat} {cs : List IC} (h : Rd tt B (d + 3) 41 cs) : ∃ e : En, cs = enF e := by
  obtain ⟨x1, y1, ha, ⟨x2, y2, ⟨v, wv, rfl⟩, ⟨x3, y3, ⟨b, rfl⟩, rfl, rfl⟩, rfl⟩, rfl⟩ := h
  obtain ⟨a, rfl⟩ := rd_idX ha
  exact ⟨⟨a, v, b⟩, rfl⟩
theorem rd_ensX {B d : Nat} {a : AV} (h : RdA tt B (d + 4) 28 a) : ∃ l : List En, l.length ≤ B ∧ ∀ (L : Nat → Value) (hp : Hp) v, DenA L hp a v → DenA L hp (enS l) v := by
  obtain ⟨c, ⟨n, f, hn, hf, e⟩, rfl⟩ := h
  cases e
  obtain ⟨l, hl, hf2, _⟩ := list_of (enc := enF) (R := fun _ => True) en0 (fun k hk => by obtain ⟨e, he⟩ := rd_enX (hf k hk); exact ⟨e, trivial, he⟩)
  refine ⟨l, by omega, fun L hp v hd => ?_⟩
  subst hl
  exact den_sl_ext hd (fun k hk => (hf2 k hk).symm)
theorem rd_ddX {B d : Nat} {cs : List IC} (h : Rd tt B (d + 4) 56 cs) : ∃ x : Dd, ddOk x ∧ cs = ddF x := by
  obtain ⟨x1, y1, ⟨v, w1, rfl⟩, ⟨x2, y2, ⟨w, w2, rfl⟩, ⟨x3, y3, he, rfl, rfl⟩, rfl⟩, rfl⟩ := h
  obtain ⟨e, rfl⟩ := rd_enX he
  exact ⟨⟨v, w, e⟩, ⟨wf_i64 w1, wf_i64 w2⟩, rfl⟩
theorem rd_ddsX {B d : Nat} {a : AV} (h : RdA tt B (d + 5) 52 a) : ∃ l : List Dd, l.length ≤ B ∧ (∀ x, x ∈ l → ddOk x) ∧ ∀ (L : Nat → Value) (hp : Hp) v, DenA L hp a v → DenA L hp (ddS l) v := by
  obtain ⟨c, ⟨n, f, hn, hf, e⟩, rfl⟩ := h
  cases e
  obtain ⟨l, hl, hf2, hR⟩ := list_of (enc := ddF) (R := ddOk) dd0 (fun k hk => rd_ddX (hf k hk))
  refine ⟨l, by omega, fun s hs => ?_, fun L hp v hd => ?_⟩
  · obtain ⟨j, hj, rfl⟩ := mem_getD (d := dd0) hs
    exact hR j (by omega)
  subst hl
  exact den_sl_ext hd (fun k hk => (hf2 k hk).symm)
theorem indexPlays_law : ∀ avs, RdArgs tt 1048576 30 [28, 52] avs → CallV Try.prog 5 avs [] (fun r own' => own' = [] ∧ r = vcb true) := by
  rintro avs ⟨a0, r0, h0, ⟨a1, r1, h1, rfl, rfl⟩, rfl⟩
  obtain ⟨l, hl, hdl⟩ := rd_ensX h0
  obtain ⟨ds, hd, hok, hdd⟩ := rd_ddsX h1
  refine callV_args (argsLe_cons hdl (argsLe_cons hdd (argsLe_refl _))) ?_
  exact iplays_c l ds hl hd hok
end Go.Eng
/- The statement: entries put in one behind the other. -/
set_option linter.unusedVariables false
set_option linter.unusedSimpArgs false
set_option maxRecDepth 100000
set_option maxHeartbeats 4000000
namespace Go.Eng
open Go Go.RowKit Go.Proofs
/-- A cell of an own object that holds nil may be taken for a slice that stays, of no elements. -/
theorem nil_cellS (i j : Nat) (sz : Nat) (f : Nat → List IC) {st : St} {t : TypeId} {cs : List IC} (hi : st.own[i]? = some (some (.cells t cs))) (hj : cs[j]? = some (.v (.slice none 0 0))) :
    Weak st ⟨st.n, st.k, st.env, st.own.set i (some (.cells t (cs.set j (.sl sz 0 f))))⟩ := by
  refine ⟨fun may w0 h0 a w hs => ?_⟩
  obtain ⟨⟨L, F, h, hm, ha, hsub, hnew⟩, hk⟩ := hs
  refine ⟨⟨L, F, h, mem_set hm hi rfl (fun _ _ => rfl) ?_, ⟨ha.size, ha.env, ha.defers⟩, hsub, hnew⟩, hk⟩
  obtain ⟨b, vs, h1, h2, h3, h4, h5⟩ := hm.obs i _ hi
  refine ⟨b, vs, h1, h2, h3, by simpa using h4, fun q c u hc hu => ?_⟩
  rw [List.getElem?_set] at hc
  split at hc
  · rename_i e
    subst e
    split at hc
    · cases hc
      have := den_one (h5 j _ u hj hu)
      rw [this]
      exact .sl sz 0 f none 0 ⟨0, 0, none⟩ (fun _ _ => undef) (Nat.le_refl _) (by decide) (fun h => by omega) (fun k hk => by omega) (fun k hk => by omega) (fun k hk => by omega) (fun k hk => by omega)
    · cases hc
  · exact h5 q c u hc hu
theorem hdC_some {cs : Ck} {a : I2} {j : Nat} (h : fnE cs.flatten a = some j) : ∃ cs2 : Ck, hdC cs a = some cs2 ∧ cs2.flatten = hideAt cs.flatten j ∧ cs2.length = cs.length := by
  have hpf : (plcC cs a).map (fun p => sumL (cs.take p.1) + p.2) = fnE cs.flatten a := plcC_find cs a
  rw [h] at hpf
  cases hp : plcC cs a with
  | none => rw [hp] at hpf; cases hpf
  | some p =>
    obtain ⟨p, q⟩ := p
    rw [hp] at hpf
    obtain ⟨hpl, hql⟩ := plcC_lt hp
    have e : sumL (cs.take p) + q = j := by simpa using hpf
    refine ⟨repL cs p [hideAt (cs.getD p []) q], by unfold hdC; rw [hp]; rfl, ?_, ?_⟩
    · rw [← e]; exact flat_hide hpl hql
    · rw [repL_len _ hpl]; simp; omega
theorem apOk_getD {l : List En} (h : apOk l) {i j : Nat} (hi : i < l.length) (hj : j < l.length) (hne : i ≠ j) : (l.getD i en0).id ≠ (l.getD j en0).id := by
  rw [List.getD_eq_getElem?_getD, List.getD_eq_getElem?_getD, List.getElem?_eq_getElem hi, List.getElem?_eq_getElem hj]
  rcases Nat.lt_or_gt_of_ne hne with g | g
  · exact List.pairwise_iff_getElem.1 h i j hi hj g
  · exact fun e => List.pairwise_iff_getElem.1 h j i hj hi g e.symm
theorem apOk_rev {l : List En} (h : apOk l) : apOk l.reverse := by
  unfold apOk at *
  rw [List.pairwise_reverse]
  exact h.imp (fun h => Ne.symm h)
theorem fnE_of {l : List En} (h : apOk l) {j : Nat} (hj : j < l.length) : fnE l (l.getD j en0).id = some j :=
  fnE_at hj (fun i hi => apOk_getD h (by omega) hj (by omega)) rfl
theorem rev_getD {l : List En} {k : Nat} (hk : k < l.length) : l.reverse.getD (l.length - 1 - k) en0 = l.getD k en0 := by
  rw [List.getD_eq_getElem?_getD, List.getElem?_reverse (by omega), List.getD_eq_getElem?_getD]
  congr 2
  omega
theorem hideAt_len (l : List En) (k : Nat) : (hideAt l k).length = l.length := by unfold hideAt; rw [List.length_set]
theorem hide_ids {l : List En} {k : Nat} (hk : k < l.length) (j : Nat) : ((hideAt l k).getD j en0).id = (l.getD j en0).id := by
  rw [hide_get hk]
  split
  · rename_i e; subst e; rfl
  · rfl
theorem shp_mem : ∀ (l : List En) (n p : Nat), p ∈ shp l n → n ≤ p ∧ p < n + l.length ∧ (l.getD (p - n) en0).gone = false
  | [], n, p, h => by cases h
  | e :: l, n, p, h => by
    have ih := shp_mem l (n + 1) p
    unfold shp at h
    have tail : p ∈ shp l (n + 1) → n ≤ p ∧ p < n + (e :: l).length ∧ ((e :: l).getD (p - n) en0).gone = false := fun h => by
      obtain ⟨h1, h2, h3⟩ := ih h
      refine ⟨by omega, by rw [List.length_cons]; omega, ?_⟩
      rw [show p - n = (p - (n + 1)) + 1 from by omega, List.getD_cons_succ]
      exact h3
    split at h
    · exact tail h
    · rename_i hg
      rcases List.mem_cons.1 h with rfl | h
      · exact ⟨Nat.le_refl _, by rw [List.length_cons]; omega, by rw [Nat.sub_self, List.getD_cons_zero]; simpa using hg⟩
      · exact tail h
theorem shp_hide {l : List En} {k : Nat} (hk : k < l.length) {i : Nat} (hi : i < (shp (hideAt l k) 0).length) : (shp (hideAt l k) 0).getD i 0 ≠ k := by
  intro e
  have hin : (shp (hideAt l k) 0).getD i 0 ∈ shp (hideAt l k) 0 := by rw [List.getD_eq_getElem?_getD, List.getElem?_eq_getElem hi]; exact List.getElem_mem hi
  obtain ⟨_, _, h3⟩ := shp_mem _ _ _ hin
  rw [e, Nat.sub_zero, hide_get hk, if_pos rfl] at h3
  cases h3
theorem drawV_cut {P : Program} [HasGl P] (J : St → Prop) {id : Nat} {ops : Array Oper} {K : St → Prop} {st : St} (h : DrawV P id ops (fun st' => ∃ S, Weak st' S ∧ J S) st) (hK : ∀ S, J S → K S) : DrawV P id ops K st := by
  refine ⟨fun may w0 h0 a w hs => ?_⟩
  refine Code.wp_mono (fun e a' w' hh => ?_) (h.out may w0 h0 a w hs)
  obtain ⟨h1, st', h2, S, h3, h4⟩ := hh
  exact ⟨h1, S, h3.out may w0 h0 a' w' h2, hK S h4⟩
def keI (o : List En) (a : Int) (n : Nat) (st : St) : Prop := ∃ (i : Nat) (cs : Ck), n = o.length - i ∧ i ≤ o.length ∧ cs.flatten = (o.take i).reverse ∧ cs.length ≤ i ∧
  st = ⟨186, 0, [(1, vci .i64 a), (5, vcb true), (6, enS o), (7, .c (.own 0 0)), (8, .c (.own 1 0)), (9, vci .i64 (i : Int))], [some (.cells 32 [.v (.slice none 0 0), vi 0, vi 0]), some (.cells 32 (ixF cs))]⟩
def keJ (o : List En) (a : Int) (st : St) : Prop := ∃ cs : Ck, cs.flatten = o.reverse ∧ cs.length ≤ o.length ∧
  st = ⟨186, 0, [(1, vci .i64 a), (5, vcb true), (6, enS o), (7, .c (.own 0 0)), (8, .c (.own 1 0))], [some (.cells 32 [.v (.slice none 0 0), vi 0, vi 0]), some (.cells 32 (ixF cs))]⟩
theorem same4 (x : En) : (!((x.id.1 == x.id.1 && (x.id.2 == x.id.2 && true)) && (x.ch == x.ch && (x.gone == x.gone && true)))) = false := by simp
def keQ (o : List En) (a : Int) (k j : Nat) (cs cs2 : Ck) (n : Nat) (st : St) : Prop := ∃ i : Nat, n = shnC cs2 - i ∧ i ≤ shnC cs2 ∧
  st = ⟨186, 0, [(5, vcb true), (13, .c (.own 0 0)), (15, vci .i64 (j : Int)), (23, vci .i64 (i : Int))], [some (.cells 32 (ixF cs2))]⟩
theorem ikeeps_c (l : List En) (a : Int) (hl : l.length ≤ 1048576) (ha : i64P a) : CallV Try.prog 4 [enS l, vci .i64 a] [] (fun r own' => own' = [] ∧ r = vcb true) := by
  refine callV_pure Try.func4 rfl ttok ftok rfl rfl rfl (Nat.le_of_ble_eq_true rfl) ?_
  conv => whnf
  refine call_pure up_c rfl ?_
  rintro _ rfl
  conv => whnf
  refine call_pure (apart_c l (by omega)) rfl ?_
  rintro _ ⟨o, hol, _, hap, rfl⟩
  conv => whnf
  refine onB_intro (fun h => ?_) (fun h => ?_)
  · conv => whnf
    all_goals first | rfl | exact ⟨rfl, rfl⟩
  have h : o.length ≤ 100 ∧ 0 < o.length := by
    simp only [pickB, isLit, Bool.or_eq_false_iff, decide_eq_false_iff_not, beq_eq_false_iff_ne, ne_eq] at h
    omega
  obtain ⟨ho1, ho2⟩ := h
  conv => whnf
  refine loopV_cut 0 (keJ o a) ?_ ?_
  · refine loopV ttok ftok (keI o a) ((nil_cellS 1 0 2 (chR []) rfl rfl).trans (norm_weak [1, 5, 6, 7, 8, 9] [some 0, some 1] rfl rfl)) ⟨0, [], rfl, Nat.zero_le _, rfl, Nat.le_refl _, rfl⟩ ?_
    rintro m st ⟨i, cs, rfl, hi, hfl, hcl, rfl⟩
    have hs : sumL cs = i := by show cs.flatten.length = _; rw [hfl, List.length_reverse, List.length_take]; omega
    have e1 := e64 (k := i) (by omega)
    conv => whnf
    refine onB_intro (fun h => ?_) (fun h => ?_)
    · have h := of_decide_eq_true h
      have hil : i < o.length := by omega
      have hno : fnE cs.flatten (o.getD i en0).id = none := fnE_no (fun j hj => by
        rw [hfl] at hj ⊢
        rw [List.length_reverse, List.length_take, Nat.min_eq_left hi] at hj
        have := rev_getD (l := o.take i) (k := i - 1 - j) (by rw [List.length_take]; omega)
        rw [List.length_take, Nat.min_eq_left hi, show i - 1 - (i - 1 - j) = j from by omega] at this
        rw [this, getD_take _ _ _ _ (by omega)]
        exact apOk_getD hap (by omega) hil (by omega))
      have hput : ∀ r, putS cs 0 (o.getD i en0) r → ∃ cs2 : Ck, cs2.flatten = (o.take (i + 1)).reverse ∧ cs2.length ≤ i + 1 ∧ r = .tup [ixA cs2, .c (.v .nilIface)] := fun r hr => by
        obtain ⟨cs2, g1, g2, g3⟩ := putS_ok (n := 0) hr (Nat.zero_le _) hno
        refine ⟨cs2, ?_, by omega, g3⟩
        rw [g1, List.take_zero, List.nil_append, List.drop_zero, hfl, take_snocE hil, List.reverse_append]
        rfl
      conv => whnf
      refine drawV_cut (fun S => ∃ cs2 : Ck, cs2.flatten = (o.take (i + 1)).reverse ∧ cs2.length ≤ i + 1 ∧ S = ⟨186, 0, [(1, vci .i64 a), (5, vcb true), (6, enS o), (7, .c (.own 0 0)), (8, .c (.own 1 0)), (9, vci .i64 (i : Int)), (10, .c (.own 2 0)), (11, .c (.v .nilIface))], [some (.cells 32 [.v (.slice none 0 0), vi 0, vi 0]), some (.cells 32 (ixF cs)), some (.cells 32 (ixF cs2))]⟩) ?_ ?_
      · refine drawV_sched (.rd 0 (.rd 1 (.rd 2 (.rd 3 (.rd 4 (.alt (.ef 5 (.rd 6 (.rd 7 (.rd 8 (.ef 9 (.ef 10 (.rd 11 (.nil)))))))) (.ef 9 (.ef 5 (.rd 6 (.rd 7 (.rd 8 (.ef 10 (.rd 11 (.nil)))))))))))))) [2] mixed (by kernel_rfl) ttok ftok ?_
        conv => whnf
        refine ⟨by omega, ?_⟩
        conv => whnf
        rw [ti_nat]
        refine ⟨?_, ?_⟩
        · conv => whnf
          refine call_pure (put_c of_c cs (by omega) (by omega) 0 (o.getD i en0)) rfl ?_
          rintro _ hr
          obtain ⟨cs2, g1, g2, rfl⟩ := hput _ hr
          conv => whnf
          exact ⟨_, norm_weak [1, 5, 6, 7, 8, 9, 10, 11] [some 0, some 1, some 2] rfl rfl, cs2, g1, g2, rfl⟩
        · conv => whnf
          refine call_pure (put_c of_c cs (by omega) (by omega) 0 (o.getD i en0)) rfl ?_
          rintro _ hr
          obtain ⟨cs2, g1, g2, rfl⟩ := hput _ hr
          conv => whnf
          exact ⟨_, norm_weak [1, 5, 6, 7, 8, 9, 10, 11] [some 0, some 1, some 2] rfl rfl, cs2, g1, g2, rfl⟩
      rintro st ⟨cs2, g1, g2, rfl⟩
      have hs2 : sumL cs2 = i + 1 := by show cs2.flatten.length = _; rw [g1, List.length_reverse, List.length_take]; omega
      conv => whnf
      refine call_pure (len_c cs2) rfl ?_
      rintro _ rfl
      conv => whnf
      rw [hs2, e1, show (((i + 1 : Nat) : Int) != ((i + 1 : Nat) : Int)) = false from bne_self_eq_false _]
      conv => whnf
      refine call_pure (len_c cs) rfl ?_
      rintro _ rfl
      conv => whnf
      rw [hs, show ((i : Int) != (i : Int)) = false from bne_self_eq_false _]
      conv => whnf
      rw [e1]
      exact ⟨o.length - (i + 1), _, by omega, norm_weak [1, 5, 6, 7, 8, 9] [some 0, some 1] rfl rfl, i + 1, cs2, rfl, by omega, g1, g2, rfl⟩
    · have h := of_decide_eq_false h
      have : i = o.length := by omega
      subst this
      rw [List.take_length] at hfl
      conv => whnf
      exact ⟨rfl, _, norm_weak [1, 5, 6, 7, 8] [some 0, some 1] rfl rfl, cs, hfl, hcl, rfl⟩
  rintro st ⟨cs, hfl, hcl, rfl⟩
  have hs : sumL cs = o.length := by show cs.flatten.length = _; rw [hfl, List.length_reverse]
  conv => whnf
  refine call_pure (pick_c a (o.length : Int) ha (by omega)) rfl ?_
  rintro _ rfl
  have hm0 := Int.emod_nonneg a (show (o.length : Int) ≠ 0 by omega)
  have hm1 := Int.emod_lt_of_pos a (show (0 : Int) < (o.length : Int) by omega)
  generalize a % (o.length : Int) = K at hm0 hm1
  obtain ⟨k, rfl⟩ : ∃ k : Nat, K = (k : Int) := ⟨K.toNat, (Int.toNat_of_nonneg hm0).symm⟩
  have hk : k < o.length := by omega
  obtain ⟨j, hj⟩ : ∃ j, j = o.length - 1 - k := ⟨_, rfl⟩
  have hjl : j < cs.flatten.length := by rw [hfl, List.length_reverse]; omega
  have hjo : cs.flatten.getD j en0 = o.getD k en0 := by rw [hfl, hj]; exact rev_getD hk
  have hapf : apOk cs.flatten := by rw [hfl]; exact apOk_rev hap
  have hfx : fnE cs.flatten (o.getD k en0).id = some j := by rw [← hjo]; exact fnE_of hapf hjl
  obtain ⟨cs2, hh1, hh2, hh3⟩ := hdC_some hfx
  have hfl2 : cs2.flatten.length = o.length := by rw [hh2, hideAt_len, hfl, List.length_reverse]
  have hs2 : sumL cs2 = o.length := hfl2
  have hfy : fnE cs2.flatten (o.getD k en0).id = some j := by
    rw [hh2]
    refine fnE_at (by rw [hideAt_len]; exact hjl) (fun i hi => ?_) ?_
    · rw [hide_ids hjl, ← hjo]
      exact apOk_getD hapf (by omega) hjl (by omega)
    · rw [hide_ids hjl, hjo]
  have hcH := hide_c cs (by omega) (by omega) (o.getD k en0).id
  rw [hh1] at hcH
  have hcX := find_c cs (by omega) (by omega) (o.getD k en0).id
  rw [hfx] at hcX
  have hcY := find_c cs2 (by omega) (by omega) (o.getD k en0).id
  rw [hfy] at hcY
  have hcG := entry_c cs2 (by omega) (by omega) (j : Int)
  have hcO := entry_c cs (by omega) (by omega) (j : Int)
  have hgY : cs2.flatten.getD j en0 = { o.getD k en0 with gone := true } := by rw [hh2, hide_get hjl, if_pos rfl, hjo]
  unfold enV at hcG hcO
  rw [if_pos (by omega), ti_nat, hgY] at hcG
  rw [if_pos (by omega), ti_nat, hjo] at hcO
  have hno : ∀ i, i < (shp cs2.flatten 0).length → (shp cs2.flatten 0).getD i 0 ≠ j := fun i hi => by rw [hh2] at hi ⊢; exact shp_hide hjl hi
  conv => whnf
  refine drawV_at ⟨186, 0, [(1, vci .i64 a), (5, vcb true), (6, enS o), (7, .c (.own 0 0)), (8, .c (.own 1 0)), (12, vci .i64 (k : Int)), (13, .c (.own 2 0)), (14, .c (.v .nilIface))], [some (.cells 32 [.v (.slice none 0 0), vi 0, vi 0]), some (.cells 32 (ixF cs)), some (.cells 32 (ixF cs2))]⟩ ?_ ?_
  · refine drawV_sched (.rd 0 (.rd 1 (.rd 2 (.rd 3 (.rd 4 (.rd 5 (.alt (.ef 6 (.rd 7 (.rd 8 (.rd 9 (.ef 10 (.ef 11 (.rd 12 (.nil)))))))) (.ef 10 (.ef 6 (.rd 7 (.rd 8 (.rd 9 (.ef 11 (.rd 12 (.nil))))))))))))))) [2] mixed (by kernel_rfl) ttok ftok ?_
    conv => whnf
    refine ⟨by omega, ?_⟩
    conv => whnf
    rw [ti_nat]
    refine ⟨?_, ?_⟩
    · conv => whnf
      refine call_pure hcH rfl ?_
      rintro _ rfl
      conv => whnf
      exact norm_weak [1, 5, 6, 7, 8, 12, 13, 14] [some 0, some 1, some 2] rfl rfl
    · conv => whnf
      refine call_pure hcH rfl ?_
      rintro _ rfl
      conv => whnf
      exact norm_weak [1, 5, 6, 7, 8, 12, 13, 14] [some 0, some 1, some 2] rfl rfl
  conv => whnf
  refine drawV_quiet mixed (by kernel_rfl) ttok ftok ?_
  conv => whnf
  refine ⟨by omega, ?_⟩
  conv => whnf
  rw [ti_nat]
  refine callQ hcY rfl rfl ?_
  conv => whnf
  refine drawV_quiet mixed (by kernel_rfl) ttok ftok ?_
  conv => whnf
  refine ⟨by omega, ?_⟩
  conv => whnf
  rw [ti_nat]
  refine callQ hcX rfl rfl ?_
  conv => whnf
  refine call_pure hcG rfl ?_
  rintro _ rfl
  conv => whnf
  refine call_pure hcO rfl ?_
  rintro _ rfl
  conv => whnf
  refine drawV_quiet mixed (by kernel_rfl) ttok ftok ?_
  conv => whnf
  have hwj : IntKind.i64.wrap (IntKind.i64.wrap ((o.length : Int) - 1) - (k : Int)) = (j : Int) := by
    rw [w_i64 (x := (o.length : Int) - 1) (by omega) (by omega), w_i64 (by omega) (by omega)]; omega
  rw [hwj, show ((j : Int) != (j : Int)) = false from bne_self_eq_false _]
  conv => whnf
  rw [show ((j : Int) != (j : Int)) = false from bne_self_eq_false _]
  conv => whnf
  refine ⟨by omega, ?_⟩
  conv => whnf
  rw [ti_nat, same4]
  conv => whnf
  refine callQ lenZ rfl rfl ?_
  conv => whnf
  have hsh : (shp cs2.flatten 0).length = shnC cs2 := shp_len _ _
  have hshl := shnC_le cs2
  refine loopV ttok ftok (keQ o a k j cs cs2) (norm_weak [5, 13, 15, 23] [some 2] rfl rfl) ⟨0, rfl, Nat.zero_le _, rfl⟩ ?_
  rintro m st ⟨i, rfl, hi, rfl⟩
  have e1 := e64 (k := i) (by omega)
  conv => whnf
  refine call_pure (shown_c cs2) rfl ?_
  rintro _ rfl
  conv => whnf
  refine onB_intro (fun g => ?_) (fun g => ?_)
  · have g := of_decide_eq_true g
    have hil : i < shnC cs2 := by omega
    have hcA := at_c cs2 (by omega) (by omega) (i : Int)
    unfold atV at hcA
    rw [if_pos (by show (0 : Int) ≤ i ∧ (i : Int) < (shnC cs2 : Nat); omega), ti_nat] at hcA
    have hne := hno i (by omega)
    generalize (shp cs2.flatten 0).getD i 0 = p at hcA hne
    conv => whnf
    refine call_pure hcA rfl ?_
    rintro _ rfl
    conv => whnf
    refine onB_intro (fun g => ?_) (fun g => ?_)
    · exfalso
      simp [pickB, isLit] at g
      omega
    conv => whnf
    rw [e1]
    exact ⟨shnC cs2 - (i + 1), _, by omega, norm_weak [5, 13, 15, 23] [some 0] rfl rfl, i + 1, rfl, by omega, rfl⟩
  · conv => whnf
    all_goals first | rfl | exact ⟨rfl, rfl⟩
theorem rd_i64X {B d : Nat} {a : AV} (h : RdA tt B (d + 1) 3 a) : ∃ n : Int, i64P n ∧ a = vci .i64 n := by
  obtain ⟨c, ⟨v, w, e⟩, rfl⟩ := h
  cases e
  exact ⟨v, wf_i64 w, rfl⟩
theorem indexKeeps_law : ∀ avs, RdArgs tt 1048576 30 [28, 3] avs → CallV Try.prog 4 avs [] (fun r own' => own' = [] ∧ r = vcb true) := by
  rintro avs ⟨a0, r0, h0, ⟨a1, r1, h1, rfl, rfl⟩, rfl⟩
  obtain ⟨l, hl, hdl⟩ := rd_ensX h0
  obtain ⟨n, hn, rfl⟩ := rd_i64X h1
  refine callV_args (argsLe_cons hdl (argsLe_refl _)) ?_
  exact ikeeps_c l n hl hn
end Go.Eng
