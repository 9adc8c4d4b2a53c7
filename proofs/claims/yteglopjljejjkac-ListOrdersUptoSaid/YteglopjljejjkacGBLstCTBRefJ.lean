/- A part of the proof: what the functions of the program come to, told by a small reckoner of states. -/
import Derived.Test.YteglopjljejjkacGBIdxBTBLstN
/- A list: an item comes; one is deleted; what it tells. -/
set_option linter.unusedVariables false
set_option linter.unusedSimpArgs false
set_option maxRecDepth 100000
set_option maxHeartbeats 4000000
namespace Go.Eng
open Go Go.RowKit Go.Proofs
/-- slices.Clone. -/
theorem ndClone (l : List Nd) (hl : l.length ≤ 1000000000) : CallV Try.prog 46 [.c (.sl 10 l.length fun k => ndF (l.getD k nd0))] []
    (fun r own' => r = .c (.row 0) ∧ own' = [some (.row 96 10 l.length fun k => ndF (l.getD k nd0))]) := by
  refine callV_own Try.func46 rfl ttok ftok rfl rfl rfl (Nat.le_of_ble_eq_true rfl) rfl ?_
  conv => whnf
  intro b hb
  cases b with
  | true =>
    have h0 := hb rfl
    obtain rfl : l = [] := List.eq_nil_of_length_eq_zero h0
    conv => whnf
    refine ⟨_, nil_row 2 96 10 (fun k => ndF (([] : List Nd).getD k nd0)) rfl, ?_⟩
    conv => whnf
    exact ⟨[some 0], rfl, rfl, rfl, rfl⟩
  | false =>
    clear hb
    conv => whnf
    refine ⟨⟨by omega, by show (0 + l.length) * 40 ≤ _; omega⟩, ?_⟩
    conv => whnf
    refine ⟨l.length, fun k => ndF (l.getD k nd0), by omega, fun k hk => by omega, fun k hk => by rw [Nat.zero_add], ?_⟩
    conv => whnf
    refine ⟨_, Weak.refl _, ?_⟩
    conv => whnf
    exact ⟨[some 1], rfl, rfl, rfl, rfl⟩
/-- slices.Insert of one element, into an own row. -/
theorem ndInsert_get (l : List Nd) (x : Nd) (i : Nat) (hi : i ≤ l.length) (q : Nat) : (l.take i ++ x :: l.drop i).getD q nd0 = if q < i then l.getD q nd0 else if q = i then x else l.getD (q - 1) nd0 := by
  split
  · rename_i h
    rw [List.getD_eq_getElem?_getD, List.getElem?_append_left (by rw [List.length_take]; omega), ← List.getD_eq_getElem?_getD, getD_take _ _ _ _ h]
  · rename_i h
    rw [List.getD_eq_getElem?_getD, List.getElem?_append_right (by rw [List.length_take]; omega), ← List.getD_eq_getElem?_getD, List.length_take, Nat.min_eq_left hi]
    split
    · rename_i e
      subst e
      simp
    · rename_i e
      obtain ⟨r, hr⟩ : ∃ r, q - i = r + 1 := ⟨q - i - 1, by omega⟩
      rw [hr, List.getD_cons_succ, getD_drop]
      congr 1
      omega
theorem ndInsert_len (l : List Nd) (x : Nd) (i : Nat) (hi : i ≤ l.length) : (l.take i ++ x :: l.drop i).length = l.length + 1 := by
  rw [List.length_append, List.length_cons, List.length_take, List.length_drop]; omega
theorem ndInsert (l : List Nd) (x : Nd) (i : Nat) (hi : i ≤ l.length) (hl : l.length ≤ 1000000000) (g : Nat → List IC) (hg : g 0 = ndF x) : CallV Try.prog 45 [.c (.row 0), vci .i64 i, .c (.row 1)] [some (.row 96 10 l.length fun k => ndF (l.getD k nd0)), some (.row 96 10 1 g)]
    (fun r own' => r = .c (.row 3) ∧ own' = [none, none, none, some (.row 96 10 (l.take i ++ x :: l.drop i).length fun k => ndF ((l.take i ++ x :: l.drop i).getD k nd0))]) := by
  have hget := ndInsert_get l x i hi
  have hlen := ndInsert_len l x i hi
  have hg0 : ∀ q, q < 1 → g q = ndF x := fun q hq => by
    obtain rfl : q = 0 := by omega
    exact hg
  generalize hl' : l.take i ++ x :: l.drop i = l' at hget hlen
  refine callV_view 0 rfl (fun h0 => ?_) (fun c hc hc2 => ?_)
  · obtain rfl : l = [] := List.eq_nil_of_length_eq_zero h0
    obtain rfl : i = 0 := by simpa using hi
    show CallV Try.prog 45 [.c (.v (.slice none 0 0)), vci .i64 (0 : Nat), .c (.row 1)] [none, some (.row 96 10 1 g)] _
    refine callV_own Try.func45 rfl ttok ftok rfl rfl rfl (Nat.le_of_ble_eq_true rfl) rfl ?_
    conv => whnf
    refine ⟨⟨rfl, rfl, rfl⟩, ?_⟩
    conv => whnf
    refine ⟨by omega, ?_⟩
    conv => whnf
    refine ⟨⟨by omega, by show (0 + 1) * 40 ≤ _; omega⟩, ?_⟩
    conv => whnf
    refine ⟨l'.length, fun k => ndF (l'.getD k nd0), by rw [hlen]; simp, fun k hk => by omega, fun k hk => ?_, ?_⟩
    · obtain rfl : k = 0 := by omega
      rw [hg]
      show ndF (l'.getD (0 + 0) nd0) = _
      rw [hget]
      rfl
    conv => whnf
    refine ⟨_, Weak.refl _, ?_⟩
    conv => whnf
    exact ⟨[none, none, none, some 2], rfl, rfl, rfl, rfl⟩
  show CallV Try.prog 45 [.c (.view 2 10 0 l.length c), vci .i64 i, .c (.row 1)] [none, some (.row 96 10 1 g), some (.arr 96 10 c l.length fun k => ndF (l.getD k nd0))] _
  refine callV_own Try.func45 rfl ttok ftok rfl rfl rfl (Nat.le_of_ble_eq_true rfl) rfl ?_
  conv => whnf
  refine ⟨⟨by omega, by omega, by omega, by omega⟩, ?_⟩
  conv => whnf
  refine onB_intro (fun h => ?_) (fun h => ?_)
  · have e : (i : Int) = l.length := by simpa using h
    have e : i = l.length := by omega
    subst e
    conv => whnf
    refine ⟨trivial, ⟨by omega, by omega⟩, fun h1 => ?_, fun h1 => ?_⟩
    · refine ⟨l'.length, fun k => ndF (l'.getD k nd0), fun q hq => ?_, ?_⟩
      rotate_left
      · conv => whnf
        refine ⟨_, view_row 6 2 (n := l'.length) rfl rfl (by omega) (by omega) (by omega) (by omega), ?_⟩
        conv => whnf
        exact ⟨[none, none, none, some 3], rfl, rfl, rfl, rfl⟩
      · rcases Nat.lt_or_ge q l.length with h2 | h2
        · exact .inr ⟨.inl (by omega), h2, by simp only [hget, if_pos h2]⟩
        · obtain rfl : q = l.length := by omega
          refine .inl ⟨by omega, by omega, ?_⟩
          rw [show l.length - (0 + l.length) = 0 by omega, hg]
          simp only [hget, if_neg (Nat.lt_irrefl _), if_true]
    · refine ⟨⟨by omega, by show (l.length + 1) * 40 ≤ _; omega⟩, fun k => ndF (l'.getD k nd0), fun q hq => by simp only [hget, if_pos hq, Nat.zero_add], fun q hq => ?_, fun cap' hcap => ?_⟩
      · rw [hg0 q hq]
        obtain rfl : q = 0 := by omega
        simp only [Nat.add_zero, hget, if_neg (Nat.lt_irrefl _), if_true]
      · conv => whnf
        refine ⟨_, view_row 6 3 (n := l'.length) rfl rfl rfl (by omega) (by omega) rfl, ?_⟩
        conv => whnf
        exact ⟨[none, none, none, some 4], rfl, rfl, rfl, rfl⟩
  have hne : i < l.length := by
    have : i ≠ l.length := fun e => by rw [e] at h; simp at h
    omega
  clear h
  conv => whnf
  have w1 : IntKind.i64.wrap ((l.length : Int) + (1 : Nat)) = (l.length : Int) + (1 : Nat) := w_i64 (by omega) (by omega)
  have w2 : IntKind.i64.wrap ((l.length : Int) + (1 : Nat) - i) = ((l.length + 1 - i : Nat) : Int) := by rw [w_i64 (by omega) (by omega)]; omega
  have w3 : IntKind.i64.wrap ((i : Int) + (1 : Nat)) = ((i + 1 : Nat) : Int) := by rw [w_i64 (by omega) (by omega)]; omega
  refine onB_intro (fun h => ?_) (fun h => ?_)
  · have h := of_decide_eq_true h
    rw [w1] at h
    conv => whnf
    refine ⟨⟨by omega, by omega, by omega, by omega⟩, ?_⟩
    conv => whnf
    rw [w1, w2]
    refine ⟨by omega, ⟨by omega, by omega, by omega, by show _ * (((40 : Nat)) : Int) ≤ _; omega⟩, fun q => if q < i then ndF (l.getD q nd0) else [vu 0, vu 0, vu 0, vu 0, vu 0, vu 0, vr 0, vu 0, vu 0, .v (.bool false)], fun q hq => ?_, fun q hq => ?_, fun cap' hcap => ?_⟩
    · dsimp only
      rw [if_pos (by omega), show 0 + Int.toNat 0 + q = q from by omega]
    · dsimp only
      rw [if_neg (by omega)]; rfl
    conv => whnf
    refine ⟨⟨by omega, by omega, by omega, by omega⟩, ?_⟩
    conv => whnf
    refine ⟨trivial, by omega, l.length + 1, fun q => if q < i then ndF (l.getD q nd0) else if q = i then ndF x else [vu 0, vu 0, vu 0, vu 0, vu 0, vu 0, vr 0, vu 0, vu 0, .v (.bool false)], fun q hq => ?_, ?_⟩
    · rcases Nat.lt_trichotomy q i with h2 | h2 | h2
      · exact .inr ⟨.inl (by omega), by omega, by dsimp only; rw [if_pos h2, if_pos h2]⟩
      · subst h2
        exact .inl ⟨by omega, by omega, by dsimp only; rw [if_neg (Nat.lt_irrefl _), if_pos rfl, hg0 _ (by omega)]⟩
      · exact .inr ⟨.inr (by omega), by omega, by dsimp only; rw [if_neg (by omega), if_neg (by omega), if_neg (by omega)]⟩
    conv => whnf
    refine drawV_mix 8 mixed (by kernel_rfl) ttok ftok ?_
    conv => whnf
    rw [w3]
    refine ⟨⟨by omega, by omega, by omega, by omega⟩, ?_⟩
    conv => whnf
    refine ⟨⟨by omega, by omega, by omega, by omega⟩, ?_⟩
    conv => whnf
    refine ⟨by omega, by omega, l'.length, fun k => ndF (l'.getD k nd0), fun q hq => ?_, ?_⟩
    · rcases Nat.lt_trichotomy q i with h2 | h2 | h2
      · exact .inr ⟨.inl (by omega), by omega, by simp only [hget, if_pos h2]⟩
      · subst h2
        exact .inr ⟨.inl (by omega), by omega, by simp only [hget, if_neg (Nat.lt_irrefl _), if_true]⟩
      · refine .inl ⟨by omega, by omega, ?_⟩
        simp only [hget, if_neg (show ¬ q < i by omega), if_neg (show ¬ q = i by omega)]
        congr 2
        omega
    conv => whnf
    refine ⟨_, view_row 6 3 (n := l'.length) rfl rfl (by omega) (by omega) (by omega) (by omega), ?_⟩
    conv => whnf
    exact ⟨[none, none, none, some 4], rfl, rfl, rfl, rfl⟩
  · have h := of_decide_eq_false h
    rw [w1] at h
    conv => whnf
    rw [w1]
    refine ⟨⟨by omega, by omega, by omega, by omega⟩, ?_⟩
    conv => whnf
    rw [w3]
    refine ⟨⟨by omega, by omega, by omega, by omega⟩, ?_⟩
    conv => whnf
    refine ext_overlaps (t := 29) (r := 4) (ti := ti96) Try.func83 (by kernel_rfl) rfl (by kernel_rfl) (by kernel_rfl) tf96 Try.underlying29 (apart_row_view (by decide) rfl rfl (by omega) (by omega) (by omega) (by decide)) ?_
    conv => whnf
    refine drawV_mix 8 mixed (by kernel_rfl) ttok ftok ?_
    conv => whnf
    rw [w3]
    refine ⟨⟨by omega, by omega, by omega, by omega⟩, ?_⟩
    conv => whnf
    refine ⟨⟨by omega, by omega, by omega, by omega⟩, ?_⟩
    conv => whnf
    refine ⟨by omega, by omega, l'.length, fun q => if q < i + 1 then ndF (l.getD q nd0) else ndF (l.getD (q - 1) nd0), fun q hq => ?_, ?_⟩
    · rcases Nat.lt_or_ge q (i + 1) with h2 | h2
      · exact .inr ⟨.inl (by omega), by omega, by dsimp only; rw [if_pos h2]⟩
      · refine .inl ⟨by omega, by omega, ?_⟩
        dsimp only
        rw [if_neg (by omega)]
        congr 2
        omega
    conv => whnf
    refine ⟨⟨by omega, by omega, by omega, by omega⟩, ?_⟩
    conv => whnf
    refine ⟨trivial, by omega, l'.length, fun k => ndF (l'.getD k nd0), fun q hq => ?_, ?_⟩
    · rcases Nat.lt_trichotomy q i with h2 | h2 | h2
      · exact .inr ⟨.inl (by omega), by omega, by dsimp only; rw [hget, if_pos h2, if_pos (by omega)]⟩
      · subst h2
        exact .inl ⟨by omega, by omega, by dsimp only; rw [hget, if_neg (Nat.lt_irrefl _), if_pos rfl, hg0 _ (by omega)]⟩
      · exact .inr ⟨.inr (by omega), by omega, by dsimp only; rw [hget, if_neg (by omega), if_neg (by omega), if_neg (by omega)]⟩
    conv => whnf
    refine ⟨_, view_row 6 2 (n := l'.length) rfl rfl (by omega) (by omega) (by omega) (by omega), ?_⟩
    conv => whnf
    exact ⟨[none, none, none, some 3], rfl, rfl, rfl, rfl⟩
abbrev liZ : AV := .agg [.v (.slice none 0 0), vi 0, vi 0, .v (.slice none 0 0)]
theorem vr_c (c : Int) : CallV Try.prog 41 [vci .i32 c] [] (fun r own' => own' = [] ∧ r = vcb (vldR c)) := by
  refine callV_pure Try.func41 rfl ttok ftok rfl rfl rfl (Nat.le_of_ble_eq_true rfl) ?_
  conv => whnf
  have hp : ∀ (a b : Bool) (x : Operand), pickB a x (.const (.bool false)) b false = (a && b) := fun a b x => by cases a <;> cases b <;> rfl
  refine onB_intro (fun g => ?_) (fun g => ?_)
  · have g : (decide (0 ≤ c) && decide (c < 55296)) = true := by
      cases h1 : decide (0 ≤ c) <;> cases h2 : decide (c < 55296) <;> rw [h1, h2] at g <;> first | rfl | cases g
    conv => whnf
    unfold vldR
    rw [g]
    all_goals first | rfl | exact ⟨rfl, rfl⟩
  · have g : (decide (0 ≤ c) && decide (c < 55296)) = false := by
      cases h1 : decide (0 ≤ c) <;> cases h2 : decide (c < 55296) <;> rw [h1, h2] at g <;> first | rfl | cases g
    conv => whnf
    refine onB_intro (fun g2 => ?_) (fun g2 => ?_)
    · have g2 : (decide (57343 < c) && decide (c ≤ 1114111)) = true := by
        cases h1 : decide (57343 < c) <;> cases h2 : decide (c ≤ 1114111) <;> rw [h1, h2] at g2 <;> first | rfl | cases g2
      conv => whnf
      unfold vldR
      rw [g2]
      simp
    · have g2 : (decide (57343 < c) && decide (c ≤ 1114111)) = false := by
        cases h1 : decide (57343 < c) <;> cases h2 : decide (c ≤ 1114111) <;> rw [h1, h2] at g2 <;> first | rfl | cases g2
      conv => whnf
      unfold vldR
      rw [g, g2]
      all_goals first | rfl | exact ⟨rfl, rfl⟩
theorem litem_c {hs : HS} {l : List Nd} (L : LSt hs l) (cs : Ck) (a : I2) : CallV Try.prog 50 [liA cs l, idA a] [] (fun r own' => own' = [] ∧ ((∃ p, p ∈ hs ∧ p.1.id = a ∧ r = .tup [.agg (itF p.1), vcb true]) ∨ (¬ hasI hs a ∧ r = .tup [.agg (itF it0), vcb false]))) := by
  refine callV_pure Try.func50 rfl ttok ftok rfl rfl rfl (Nat.le_of_ble_eq_true rfl) ?_
  conv => whnf
  refine call_pure (lfind_c cs l L.srt L.len a) rfl ?_
  rintro _ ⟨i, hf, rfl⟩
  by_cases hh : hasI hs a
  · rw [decide_eq_true ((L.has a).2 hh)]
    obtain ⟨hil, hie, him⟩ := L.at_ hf hh
    conv => whnf
    refine ⟨⟨by omega, by omega⟩, ?_⟩
    conv => whnf
    rw [ti_nat]
    exact .inl ⟨_, him, hie, rfl⟩
  · rw [decide_eq_false (fun g => hh ((L.has a).1 g))]
    conv => whnf
    exact .inr ⟨hh, rfl⟩
theorem lindex_c (cs : Ck) (l : List Nd) : CallV Try.prog 14 [liA cs l] [] (fun r own' => own' = [] ∧ r = ixA cs) := by
  refine callV_pure Try.func14 rfl ttok ftok rfl rfl rfl (Nat.le_of_ble_eq_true rfl) ?_
  conv => whnf
  all_goals first | rfl | exact ⟨rfl, rfl⟩
theorem ldel_c {hs : HS} {G : I2 → Bool} {cs : Ck} {l : List Nd} {N : Nat} (V : LV hs G cs l N) (hN : N ≤ 3000) (a : I2) : CallV Try.prog 11 [liA cs l, idA a] []
    (fun r own' => own' = [] ∧ ((hasI hs a ∧ ∃ cs2, LV hs (updG G a true) cs2 l N ∧ r = .tup [liA cs2 l, .c (.v .nilIface)]) ∨ (¬ hasI hs a ∧ r = .tup [liZ, erC 1]))) := by
  have hs1 := V.sum
  have hc1 := V.ck
  have hl1 := V.len
  obtain ⟨o, hO, hf⟩ := V.ord
  have hix := LV.ixO hf
  refine callV_pure Try.func11 rfl ttok ftok rfl rfl rfl (Nat.le_of_ble_eq_true rfl) ?_
  conv => whnf
  refine call_pure (hide_c cs (by omega) (by omega) a) rfl ?_
  rintro _ rfl
  by_cases hh : hasI hs a
  · obtain ⟨q, hq1, hq2, hq3⟩ := ixO_find hix (hO.has.2 hh)
    obtain ⟨cs2, h1, h2, h3⟩ := hdC_some hq1
    rw [h1]
    conv => whnf
    refine .inl ⟨hh, cs2, ⟨V.L, ⟨o, hO, ?_⟩, V.len, by omega⟩, rfl⟩
    rw [h2, hf, hideAt_map o (hO.nodup V.L.ok) hq2, hq3]
  · have hn : hdC cs a = none := by
      have := ixO_none hix (fun g => hh (hO.has.1 g))
      have hpf : (plcC cs a).map (fun p => sumL (cs.take p.1) + p.2) = fnE cs.flatten a := plcC_find cs a
      rw [this] at hpf
      unfold hdC
      cases hp : plcC cs a with
      | none => rfl
      | some p => rw [hp] at hpf; cases hpf
    rw [hn]
    conv => whnf
    exact .inr ⟨hh, rfl⟩
end Go.Eng
/- A list: an item comes. -/
set_option linter.unusedVariables false
set_option linter.unusedSimpArgs false
set_option maxRecDepth 100000
set_option maxHeartbeats 4000000
namespace Go.Eng
open Go Go.RowKit Go.Proofs
theorem drawV_cut {P : Program} [HasGl P] (J : St → Prop) {id : Nat} {ops : Array Oper} {K : St → Prop} {st : St} (h : DrawV P id ops (fun st' => ∃ S, Weak st' S ∧ J S) st) (hK : ∀ S, J S → K S) : DrawV P id ops K st := by
  refine ⟨fun may w0 h0 a w hs => ?_⟩
  refine Code.wp_mono (fun e a' w' hh => ?_) (h.out may w0 h0 a w hs)
  obtain ⟨h1, st', h2, S, h3, h4⟩ := hh
  exact ⟨h1, S, h3.out may w0 h0 a' w' h2, hK S h4⟩
def adV (hs : HS) (G : I2 → Bool) (N : Nat) (x : It) (gone : Bool) (r : AV) : Prop :=
  (okA hs x ∧ ∃ cs2 l2, LV ((x, hgOf hs x) :: hs) (updG G x.id gone) cs2 l2 (N + 1) ∧ r = .tup [liA cs2 l2, .c (.v .nilIface)]) ∨ (¬ okA hs x ∧ r = .tup [liZ, erC 1])
theorem ladd_c {hs : HS} {G : I2 → Bool} {cs : Ck} {l : List Nd} {N : Nat} (V : LV hs G cs l N) (hN : N ≤ 3000) (x : It) (gone : Bool) : CallV Try.prog 10 [liA cs l, .agg (itF x), vcb gone] [] (fun r own' => own' = [] ∧ adV hs G N x gone r) := by
  have hs1 := V.sum
  have hc1 := V.ck
  have hl1 := V.len
  have L := V.L
  obtain ⟨o, hO, hf⟩ := V.ord
  have hix := LV.ixO hf
  have hlo := hO.length
  refine callV_pure Try.func10 rfl ttok ftok rfl rfl rfl (Nat.le_of_ble_eq_true rfl) ?_
  conv => whnf
  refine call_pure (lfind_c cs l L.srt L.len x.id) rfl ?_
  rintro _ ⟨i, hfd, rfl⟩
  by_cases hh : hasI hs x.id
  · rw [decide_eq_true ((L.has _).2 hh)]
    conv => whnf
    exact .inr ⟨fun h => h.new hh, rfl⟩
  rw [decide_eq_false (fun g => hh ((L.has _).1 g))]
  conv => whnf
  refine call_pure (none_c x.id) rfl ?_
  rintro _ rfl
  by_cases hz : x.id.1 = 0
  · rw [beq_iff_eq.2 hz]
    conv => whnf
    exact .inr ⟨fun h => h.nz hz, rfl⟩
  rw [beq_eq_false_iff_ne.2 hz]
  conv => whnf
  have hkn : ∀ a, (decide (hasN l a) || a.1 == 0) = true ↔ (hasI hs a ∨ a.1 = 0) := fun a => by
    rw [Bool.or_eq_true, decide_eq_true_iff, beq_iff_eq, L.has]
  refine call_pure (lknown_c cs l L.srt L.len x.left) rfl ?_
  rintro _ rfl
  by_cases hL : hasI hs x.left ∨ x.left.1 = 0
  rotate_left
  · rw [Bool.eq_false_iff.2 (fun g => hL ((hkn _).1 g))]
    conv => whnf
    exact .inr ⟨fun h => hL h.left, rfl⟩
  rw [(hkn _).2 hL]
  conv => whnf
  refine call_pure (lknown_c cs l L.srt L.len x.right) rfl ?_
  rintro _ rfl
  by_cases hR : hasI hs x.right ∨ x.right.1 = 0
  rotate_left
  · rw [Bool.eq_false_iff.2 (fun g => hR ((hkn _).1 g))]
    conv => whnf
    exact .inr ⟨fun h => hR h.right, rfl⟩
  rw [(hkn _).2 hR]
  conv => whnf
  refine call_pure (vr_c x.ch) rfl ?_
  rintro _ rfl
  cases hch : vldR x.ch with
  | false =>
    conv => whnf
    exact .inr ⟨fun h => (by rw [h.ch] at hch; cases hch), rfl⟩
  | true =>
  have hok : okA hs x := ⟨hh, hz, hL, hR, hch⟩
  have hoH := okA_okH L.ok hok
  conv => whnf
  refine call_pure (lhang_c L cs x) rfl ?_
  rintro _ rfl
  have hfn : fnE cs.flatten x.id = none := ixO_none hix (fun g => hh (hO.has.1 g))
  have hpl := lplace_c L cs (by omega) (by omega) hO hix x (hgOf hs x) hoH
  obtain ⟨h, hhe⟩ : ∃ h, hgOf hs x = h := ⟨_, rfl⟩
  rw [hhe] at hoH hpl ⊢
  conv => whnf
  refine drawV_cut (fun S => ∃ (n : Nat) (cs2 : Ck), n ≤ o.length ∧ isOrd ((x, h) :: hs) (o.take n ++ [x.id] ++ o.drop n) ∧ cs2.flatten = cs.flatten.take n ++ [⟨x.id, x.ch, gone⟩] ++ cs.flatten.drop n ∧ cs2.length ≤ cs.length + 1 ∧
    S = ⟨82, 0, [(2, vcb gone), (3, .c (.own 0 0)), (4, .c (.own 1 0)), (6, .c (.own 2 0)), (8, vci .i64 (i : Int)), (10, .c (.own 3 0)), (11, .c (.own 4 0)), (12, .c (.v .nilIface))],
      [some (.cells 31 (liF cs l)), some (.cells 40 (itF x)), some (.cells 31 [.v (.slice none 0 0), vi 0, vi 0, .v (.slice none 0 0)]), some (.cells 87 (hgF h)), some (.cells 28 (ixF cs2))]⟩) ?_ ?_
  · refine drawV_sched (.rd 0 (.rd 1 (.rd 2 (.rd 3 (.rd 4 (.rd 6 (.rd 7 (.rd 8 (.rd 9 (.rd 10 (.rd 11 (.alt (.ef 5 (.alt (.ef 12 (.rd 13 (.rd 14 (.rd 15 (.ef 16 (.ef 17 (.rd 18 (.nil)))))))) (.ef 16 (.ef 12 (.rd 13 (.rd 14 (.rd 15 (.ef 17 (.rd 18 (.nil)))))))))) (.ef 16 (.ef 5 (.ef 12 (.rd 13 (.rd 14 (.rd 15 (.ef 17 (.rd 18 (.nil))))))))))))))))))))) [4] mixed (by kernel_rfl) ttok ftok ?_
    conv => whnf
    refine ⟨?_, ?_⟩
    · conv => whnf
      refine call_pure hpl rfl ?_
      rintro _ ⟨n, hn, hO2, rfl⟩
      conv => whnf
      refine ⟨?_, ?_⟩
      · conv => whnf
        refine call_pure (put_c of_c cs (by omega) (by omega) (n : Int) ⟨x.id, x.ch, gone⟩) rfl ?_
        rintro _ hp
        obtain ⟨cs2, g1, g2, rfl⟩ := putS_ok (n := n) hp (by omega) hfn
        conv => whnf
        exact ⟨_, norm_weak [2, 3, 4, 6, 8, 10, 11, 12] [some 0, some 1, some 2, some 3, some 4] rfl rfl, n, cs2, hn, hO2, g1, g2, rfl⟩
      · conv => whnf
        refine call_pure (put_c of_c cs (by omega) (by omega) (n : Int) ⟨x.id, x.ch, gone⟩) rfl ?_
        rintro _ hp
        obtain ⟨cs2, g1, g2, rfl⟩ := putS_ok (n := n) hp (by omega) hfn
        conv => whnf
        exact ⟨_, norm_weak [2, 3, 4, 6, 8, 10, 11, 12] [some 0, some 1, some 2, some 3, some 4] rfl rfl, n, cs2, hn, hO2, g1, g2, rfl⟩
    · conv => whnf
      refine call_pure hpl rfl ?_
      rintro _ ⟨n, hn, hO2, rfl⟩
      conv => whnf
      refine call_pure (put_c of_c cs (by omega) (by omega) (n : Int) ⟨x.id, x.ch, gone⟩) rfl ?_
      rintro _ hp
      obtain ⟨cs2, g1, g2, rfl⟩ := putS_ok (n := n) hp (by omega) hfn
      conv => whnf
      exact ⟨_, norm_weak [2, 3, 4, 6, 8, 10, 11, 12] [some 0, some 1, some 2, some 3, some 4] rfl rfl, n, cs2, hn, hO2, g1, g2, rfl⟩
  · rintro st ⟨n, cs2, hn, hO2, hc2, hl2, rfl⟩
    have hil := hfd.le
    have hll : l.length ≤ 3000 := by rw [L.perm.length_eq]; omega
    conv => whnf
    refine drawV_at ⟨82, 0, [(6, .c (.own 0 0)), (7, .c (.v .nilIface))], [some (.cells 31 [.sl 2 cs2.length (chR cs2), vi (sumL cs2 : Int), vi (shnC cs2 : Int), .row 1]), some (.row 96 10 (l.take i ++ (x, h) :: l.drop i).length (ndR (l.take i ++ (x, h) :: l.drop i)))]⟩ ?_ ?_
    · refine drawV_sched (.rd 0 (.rd 1 (.rd 2 (.rd 4 (.rd 5 (.rd 6 (.rd 7 (.alt (.ef 3 (.ef 8 (.ef 9 (.rd 10 (.ef 11 (.rd 12 (.nil))))))) (.ef 8 (.ef 3 (.ef 9 (.rd 10 (.ef 11 (.rd 12 (.nil))))))))))))))) [2, 5, 6] mixed (by kernel_rfl) ttok ftok ?_
      conv => whnf
      refine ⟨?_, ?_⟩
      · conv => whnf
        refine call_frame2 [] rfl rfl rfl rfl (ndClone l (by omega)) ?_
        rintro r own2 ⟨rfl, rfl⟩
        refine ⟨.c (.row 5), [none, none, some (.cells 31 [.v (.slice none 0 0), vi 0, vi 0, .v (.slice none 0 0)]), none, none, some (.row 96 10 l.length (ndR l))], rfl, rfl, ?_⟩
        conv => whnf
        refine ⟨fun _ => ndF (x, h), fun q hq => ?_, ?_⟩
        · obtain rfl : q = 0 := by omega
          rfl
        conv => whnf
        refine call_frame2 [some 5, some 6] rfl rfl rfl rfl (ndInsert l (x, h) i hil (by omega) (fun _ => ndF (x, h)) rfl) ?_
        rintro r own2 ⟨rfl, rfl⟩
        refine ⟨.c (.row 8), [none, none, some (.cells 31 [.v (.slice none 0 0), vi 0, vi 0, .v (.slice none 0 0)]), none, none, none, none, none, some (.row 96 10 (l.take i ++ (x, h) :: l.drop i).length (ndR (l.take i ++ (x, h) :: l.drop i)))], rfl, rfl, ?_⟩
        conv => whnf
        exact norm_weak [6, 7] [some 2, some 8] rfl rfl
      · conv => whnf
        refine ⟨fun _ => ndF (x, h), fun q hq => ?_, ?_⟩
        · obtain rfl : q = 0 := by omega
          rfl
        conv => whnf
        refine call_frame2 [] rfl rfl rfl rfl (ndClone l (by omega)) ?_
        rintro r own2 ⟨rfl, rfl⟩
        refine ⟨.c (.row 6), [none, none, some (.cells 31 [.v (.slice none 0 0), vi 0, vi 0, .v (.slice none 0 0)]), none, none, some (.row 96 10 1 fun _ => ndF (x, h)), some (.row 96 10 l.length (ndR l))], rfl, rfl, ?_⟩
        conv => whnf
        refine call_frame2 [some 6, some 5] rfl rfl rfl rfl (ndInsert l (x, h) i hil (by omega) (fun _ => ndF (x, h)) rfl) ?_
        rintro r own2 ⟨rfl, rfl⟩
        refine ⟨.c (.row 8), [none, none, some (.cells 31 [.v (.slice none 0 0), vi 0, vi 0, .v (.slice none 0 0)]), none, none, none, none, none, some (.row 96 10 (l.take i ++ (x, h) :: l.drop i).length (ndR (l.take i ++ (x, h) :: l.drop i)))], rfl, rfl, ?_⟩
        conv => whnf
        exact norm_weak [6, 7] [some 2, some 8] rfl rfl
    conv => whnf
    refine ⟨fun _ _ => rfl, ?_⟩
    conv => whnf
    have hnd := nd_put L hoH hfd (by omega)
    refine .inl ⟨hok, cs2, l.take i ++ (x, h) :: l.drop i, ?_, rfl⟩
    rw [hhe]
    refine ⟨hnd, ⟨_, hO2, ?_⟩, by rw [List.length_cons]; omega, by omega⟩
    rw [hc2, hf, ents_put hoH hO n]
end Go.Eng
/- A list: its text; what stands where. -/
set_option linter.unusedVariables false
set_option linter.unusedSimpArgs false
set_option maxRecDepth 100000
set_option maxHeartbeats 4000000
namespace Go.Eng
open Go Go.RowKit Go.Proofs
/-- The characters that aren't deleted. -/
def txL : List En → List Int
  | [] => []
  | e :: l => if e.gone = true then txL l else e.ch :: txL l
theorem txL_append : ∀ (a b : List En), txL (a ++ b) = txL a ++ txL b
  | [], b => rfl
  | e :: a, b => by
    rw [List.cons_append, txL, txL, txL_append a b]
    split <;> rfl
theorem txL_snoc {l : List En} {k : Nat} (hk : k < l.length) : txL (l.take (k + 1)) = txL (l.take k) ++ if (l.getD k en0).gone = true then [] else [(l.getD k en0).ch] := by
  rw [take_snocE hk, txL_append]
  unfold txL
  split <;> rfl
theorem txL_len : ∀ (l : List En), (txL l).length ≤ l.length
  | [] => Nat.le_refl _
  | e :: l => by
    have := txL_len l
    unfold txL
    split
    · rw [List.length_cons]; omega
    · rw [List.length_cons, List.length_cons]; omega
def txS (es : List En) : ByteArray := runesBytes (txL es)
def txI (cs : Ck) (l : List Nd) (n : Nat) (st : St) : Prop := ∃ k : Nat, n = cs.flatten.length - k ∧ k ≤ cs.flatten.length ∧
  st = ⟨25, 0, [(3, .c (.row 0)), (8, enS cs.flatten), (9, vci .i64 (cs.flatten.length : Int)), (10, vci .i64 (k : Int))], [some (.row 21 1 (txL (cs.flatten.take k)).length (runeF (txL (cs.flatten.take k))))]⟩
theorem text_c (cs : Ck) (l : List Nd) (hl : cs.length ≤ 100000) (hs : sumL cs ≤ 100000) : CallV Try.prog 16 [liA cs l] [] (fun r own' => own' = [] ∧ r = vcs (txS cs.flatten)) := by
  have hfl : cs.flatten.length = sumL cs := rfl
  refine callV_pure Try.func16 rfl ttok ftok rfl rfl rfl (Nat.le_of_ble_eq_true rfl) ?_
  conv => whnf
  refine call_pure (all_c cs (by omega) (by omega)) rfl ?_
  rintro _ rfl
  conv => whnf
  refine loopV ttok ftok (txI cs l) ((nil_row 3 21 1 (runeF []) rfl).trans (norm_weak [3, 8, 9, 10] [some 1] rfl rfl)) ⟨0, rfl, Nat.zero_le _, rfl⟩ ?_
  rintro m st ⟨k, rfl, hk, rfl⟩
  have e1 := e64 (k := k) (by omega)
  have hx := txL_len (cs.flatten.take k)
  rw [List.length_take] at hx
  conv => whnf
  refine onB_intro (fun h => ?_) (fun h => ?_)
  · have h := of_decide_eq_true h
    have hkl : k < cs.flatten.length := by omega
    have hsn := txL_snoc hkl
    conv => whnf
    refine ⟨⟨by omega, by omega⟩, ?_⟩
    conv => whnf
    rw [ti_nat]
    cases hg : (cs.flatten.getD k en0).gone with
    | true =>
      rw [hg, if_pos rfl, List.append_nil] at hsn
      conv => whnf
      rw [e1]
      refine ⟨cs.flatten.length - (k + 1), _, by omega, norm_weak [3, 8, 9, 10] [some 0] rfl rfl, k + 1, rfl, by omega, ?_⟩
      rw [hsn]
      all_goals rfl
    | false =>
      rw [hg, if_neg (by decide)] at hsn
      generalize cs.flatten.getD k en0 = e at hsn
      conv => whnf
      refine ⟨fun _ => [vr e.ch], fun j hj2 => ?_, ?_⟩
      · obtain rfl : j = 0 := by omega
        rfl
      conv => whnf
      refine ⟨⟨by omega, by show (List.length (txL (cs.flatten.take k)) + 1) * 4 ≤ _; omega⟩, ?_⟩
      conv => whnf
      refine app1 (enc := fun n : Int => [vr n]) (d := 0) (l := txL (cs.flatten.take k)) e.ch (fun k hk => rfl) rfl ?_
      conv => whnf
      rw [e1, ← hsn]
      exact ⟨cs.flatten.length - (k + 1), _, by omega, norm_weak [3, 8, 9, 10] [some 3] rfl rfl, k + 1, rfl, by omega, rfl⟩
  · have h := of_decide_eq_false h
    have hk2 : k = cs.flatten.length := by omega
    subst hk2
    rw [List.take_length]
    conv => whnf
    refine ⟨fun _ _ => rfl, ?_⟩
    conv => whnf
    refine ⟨txL cs.flatten, rfl, fun _ _ => rfl, ?_⟩
    conv => whnf
    all_goals first | rfl | exact ⟨rfl, rfl⟩
theorem shp_mem' : ∀ (l : List En) (n p : Nat), p ∈ shp l n → n ≤ p ∧ p < n + l.length
  | [], n, p, h => by cases h
  | e :: l, n, p, h => by
    have ih := shp_mem' l (n + 1) p
    unfold shp at h
    rw [List.length_cons]
    split at h
    · have := ih h; omega
    · rcases List.mem_cons.1 h with rfl | h
      · omega
      · have := ih h; omega
/-- What stands on both sides of a place. -/
def btA (es : List En) (k : Nat) : Nat := if k = 0 then 0 else (shp es 0).getD (k - 1) 0 + 1
def btL (es : List En) (k : Nat) : I2 := if k = 0 then (0, 0) else (es.getD (btA es k - 1) en0).id
def btR (es : List En) (k : Nat) : I2 := if btA es k < es.length then (es.getD (btA es k) en0).id else (0, 0)
def btV (es : List En) (k : Int) : AV := if k < 0 ∨ (shn es : Int) < k then .tup [idA (0, 0), idA (0, 0), erC 3] else .tup [idA (btL es k.toNat), idA (btR es k.toNat), .c (.v .nilIface)]
theorem between_c (cs : Ck) (l : List Nd) (hl : cs.length ≤ 100000) (hs : sumL cs ≤ 100000) (k : Int) : CallV Try.prog 22 [liA cs l, vci .i64 k] [] (fun r own' => own' = [] ∧ r = btV cs.flatten k) := by
  have hfl : cs.flatten.length = sumL cs := rfl
  have hse : shn cs.flatten = shnC cs := rfl
  have hsl := shnC_le cs
  have hsh : (shp cs.flatten 0).length = shnC cs := shp_len _ _
  refine callV_pure Try.func22 rfl ttok ftok rfl rfl rfl (Nat.le_of_ble_eq_true rfl) ?_
  conv => whnf
  by_cases h0 : k < 0
  · rw [decide_eq_true h0]
    conv => whnf
    unfold btV
    rw [if_pos (.inl h0)]
    all_goals first | rfl | exact ⟨rfl, rfl⟩
  rw [decide_eq_false h0]
  conv => whnf
  refine call_pure (shown_c cs) rfl ?_
  rintro _ rfl
  conv => whnf
  refine onB_intro (fun h => ?_) (fun h => ?_)
  · have h := of_decide_eq_true h
    conv => whnf
    unfold btV
    rw [if_pos (.inr (by omega))]
    all_goals first | rfl | exact ⟨rfl, rfl⟩
  have h := of_decide_eq_false h
  obtain ⟨K, rfl⟩ : ∃ K : Nat, k = (K : Int) := ⟨k.toNat, (Int.toNat_of_nonneg (by omega)).symm⟩
  have hres : ∀ r, r = .tup [idA (btL cs.flatten K), idA (btR cs.flatten K), .c (.v .nilIface)] → r = btV cs.flatten (K : Int) := fun r hr => by
    unfold btV; rw [if_neg (by omega), ti_nat]; exact hr
  conv => whnf
  refine onB_intro (fun h2 => ?_) (fun h2 => ?_)
  · have h2 := of_decide_eq_true h2
    have hK : 0 < K := by omega
    have hw : IntKind.i64.wrap ((K : Int) - 1) = ((K - 1 : Nat) : Int) := by rw [w_i64 (by omega) (by omega)]; omega
    have hca := at_c cs (by omega) (by omega) ((K - 1 : Nat) : Int)
    unfold atV at hca
    rw [if_pos (by rw [hse]; omega), ti_nat] at hca
    have hAp : btA cs.flatten K = (shp cs.flatten 0).getD (K - 1) 0 + 1 := by unfold btA; rw [if_neg (by omega)]
    have hpm : (shp cs.flatten 0).getD (K - 1) 0 < cs.flatten.length := by
      have hin := getD_mem (d := 0) (show K - 1 < (shp cs.flatten 0).length by omega)
      have := (shp_mem' _ _ _ hin).2
      omega
    have hL : btL cs.flatten K = (cs.flatten.getD ((shp cs.flatten 0).getD (K - 1) 0) en0).id := by unfold btL; rw [if_neg (by omega), hAp, Nat.add_sub_cancel]
    generalize (shp cs.flatten 0).getD (K - 1) 0 = p at hca hAp hpm hL
    have hce := entry_c cs (by omega) (by omega) (p : Int)
    unfold enV at hce
    rw [if_pos (by omega), ti_nat] at hce
    have e1 := e64 (k := p) (by omega)
    have hce2 := entry_c cs (by omega) (by omega) ((p + 1 : Nat) : Int)
    unfold enV at hce2
    generalize cs.flatten.getD p en0 = e at hce hL
    conv => whnf
    rw [hw]
    refine call_pure hca rfl ?_
    rintro _ rfl
    conv => whnf
    refine call_pure hce rfl ?_
    rintro _ rfl
    conv => whnf
    rw [e1]
    refine call_pure hce2 rfl ?_
    rintro _ rfl
    by_cases h3 : p + 1 < cs.flatten.length
    · have hR : btR cs.flatten K = (cs.flatten.getD (p + 1) en0).id := by unfold btR; rw [hAp, if_pos h3]
      rw [if_pos (by omega), ti_nat]
      generalize cs.flatten.getD (p + 1) en0 = e2 at hR
      conv => whnf
      refine drawV_sched (.rd 0 (.rd 1 (.ef 2 (.ef 3 (.rd 4 (.nil)))))) [1, 2] mixed (by kernel_rfl) ttok ftok ?_
      conv => whnf
      exact hres _ (by rw [hL, hR]; rfl)
    · have hR : btR cs.flatten K = (0, 0) := by unfold btR; rw [hAp, if_neg h3]
      rw [if_neg (by omega)]
      conv => whnf
      refine drawV_sched (.rd 0 (.rd 1 (.ef 2 (.ef 3 (.rd 4 (.nil)))))) [1, 2] mixed (by kernel_rfl) ttok ftok ?_
      conv => whnf
      exact hres _ (by rw [hL, hR]; rfl)
  · have h2 := of_decide_eq_false h2
    obtain rfl : K = 0 := by omega
    have hA0 : btA cs.flatten 0 = 0 := rfl
    have hce2 := entry_c cs (by omega) (by omega) 0
    unfold enV at hce2
    conv => whnf
    refine call_pure hce2 rfl ?_
    rintro _ rfl
    by_cases h3 : 0 < cs.flatten.length
    · have hR : btR cs.flatten 0 = (cs.flatten.getD 0 en0).id := by unfold btR; rw [hA0, if_pos h3]
      rw [if_pos (by omega), show Int.toNat 0 = 0 from rfl]
      generalize cs.flatten.getD 0 en0 = e2 at hR
      conv => whnf
      refine drawV_sched (.rd 0 (.rd 1 (.ef 2 (.ef 3 (.rd 4 (.nil)))))) [1, 2] mixed (by kernel_rfl) ttok ftok ?_
      conv => whnf
      exact hres _ (by rw [hR]; rfl)
    · have hR : btR cs.flatten 0 = (0, 0) := by unfold btR; rw [hA0, if_neg h3]
      rw [if_neg (by omega)]
      conv => whnf
      refine drawV_sched (.rd 0 (.rd 1 (.ef 2 (.ef 3 (.rd 4 (.nil)))))) [1, 2] mixed (by kernel_rfl) ttok ftok ?_
      conv => whnf
      exact hres _ (by rw [hR]; rfl)
end Go.Eng
/- The reference: entries. -/
set_option linter.unusedVariables false
set_option linter.unusedSimpArgs false
set_option maxRecDepth 100000
set_option maxHeartbeats 4000000
namespace Go.Eng
open Go Go.RowKit Go.Proofs
theorem tm_em (n b : Int) (hb : 0 < b) : (n.tmod b < 0 → n % b = n.tmod b + b) ∧ (¬ n.tmod b < 0 → n % b = n.tmod b) := by
  have h0 := Int.emod_nonneg n (show b ≠ 0 by omega)
  have h1 := Int.emod_lt_of_pos n hb
  have h2 : (b.natAbs : Int) = b := Int.natAbs_of_nonneg (by omega)
  rw [Int.tmod_eq_emod]
  split <;> constructor <;> intro h <;> omega
theorem pick_c (n by_ : Int) (hn : -9223372036854775808 ≤ n ∧ n ≤ 9223372036854775807) (hb : 0 < by_ ∧ by_ ≤ 1000000) : CallV Try.prog 12 [vci .i64 n, vci .i64 by_] [] (fun r own' => own' = [] ∧ r = vci .i64 (n % by_)) := by
  refine callV_pure Try.func12 rfl ttok ftok rfl rfl rfl (Nat.le_of_ble_eq_true rfl) ?_
  conv => whnf
  refine ⟨hb.1, ?_⟩
  conv => whnf
  obtain ⟨t1, t2⟩ := tm_em n by_ hb.1
  have h0 := Int.emod_nonneg n (show by_ ≠ 0 by omega)
  have h1 := Int.emod_lt_of_pos n hb.1
  by_cases h : n.tmod by_ < 0
  · rw [decide_eq_true h]
    conv => whnf
    rw [← t1 h, w_i64 (by omega) (by omega)]
    all_goals first | rfl | exact ⟨rfl, rfl⟩
  · rw [decide_eq_false h]
    conv => whnf
    rw [← t2 h]
    all_goals first | rfl | exact ⟨rfl, rfl⟩
theorem code_0 : CallV Try.prog 19 [.c (.v .nilIface)] [] (fun r own' => own' = [] ∧ r = vci .i64 0) := by
  refine callV_pure Try.func19 rfl ttok ftok rfl rfl rfl (Nat.le_of_ble_eq_true rfl) ?_
  conv => whnf
  all_goals first | rfl | exact ⟨rfl, rfl⟩
theorem code_1 : CallV Try.prog 19 [erC 1] [] (fun r own' => own' = [] ∧ r = vci .i64 1) := by
  refine callV_pure Try.func19 rfl ttok ftok rfl rfl rfl (Nat.le_of_ble_eq_true rfl) ?_
  conv => whnf
  refine loop_rounds 8 ttok ftok ?_
  conv => whnf
  all_goals first | rfl | exact ⟨rfl, rfl⟩
theorem code_3 : CallV Try.prog 19 [erC 3] [] (fun r own' => own' = [] ∧ r = vci .i64 3) := by
  refine callV_pure Try.func19 rfl ttok ftok rfl rfl rfl (Nat.le_of_ble_eq_true rfl) ?_
  conv => whnf
  refine loop_rounds 8 ttok ftok ?_
  conv => whnf
  all_goals first | rfl | exact ⟨rfl, rfl⟩
abbrev inR (l : List Nat) : Nat → List IC := fun k => [vi ((l.getD k 0 : Nat) : Int)]
abbrev inS (l : List Nat) : AV := .c (.sl 1 l.length (inR l))
def shI (l : List En) (n : Nat) (st : St) : Prop := ∃ k : Nat, n = l.length - k ∧ k ≤ l.length ∧ st = ⟨22, 0, [(0, enS l), (3, .c (.row 0)), (4, vci .i64 (k : Int))], [some (.row 3 1 (shp (l.take k) 0).length (inR (shp (l.take k) 0)))]⟩
theorem shp_snoc {l : List En} {k : Nat} (hk : k < l.length) : shp (l.take (k + 1)) 0 = shp (l.take k) 0 ++ if (l.getD k en0).gone = true then [] else [k] := by
  rw [take_snocE hk, shp_append, List.length_take, Nat.min_eq_left (by omega), Nat.zero_add]
  unfold shp
  split <;> rfl
theorem rshown_c (l : List En) (hl : l.length ≤ 1000000) : CallV Try.prog 57 [enS l] [] (fun r own' => own' = [] ∧ r = inS (shp l 0)) := by
  refine callV_pure Try.func57 rfl ttok ftok rfl rfl rfl (Nat.le_of_ble_eq_true rfl) ?_
  conv => whnf
  refine loopV ttok ftok (shI l) ((nil_row 3 3 1 (inR []) rfl).trans (norm_weak [0, 3, 4] [some 0] rfl rfl)) ⟨0, rfl, Nat.zero_le _, rfl⟩ ?_
  rintro n st ⟨k, rfl, hk, rfl⟩
  have e1 := e64 (k := k) (by omega)
  conv => whnf
  refine onB_intro (fun h => ?_) (fun h => ?_)
  · have h := of_decide_eq_true h
    have hk2 : k < l.length := by omega
    have hs := shp_snoc hk2
    have hsl : (shp (l.take k) 0).length ≤ k := by rw [shp_len]; have := shn_len (l.take k); rw [List.length_take] at this; omega
    conv => whnf
    refine ⟨⟨by omega, by omega⟩, ?_⟩
    conv => whnf
    rw [ti_nat]
    cases hg : (l.getD k en0).gone with
    | true =>
      rw [hg, if_pos rfl, List.append_nil] at hs
      conv => whnf
      rw [e1]
      refine ⟨l.length - (k + 1), _, by omega, norm_weak [0, 3, 4] [some 0] rfl rfl, k + 1, rfl, by omega, ?_⟩
      rw [hs]
      all_goals rfl
    | false =>
      rw [hg, if_neg (by decide)] at hs
      conv => whnf
      refine ⟨fun _ => [vi (k : Int)], fun j hj2 => ?_, ?_⟩
      · obtain rfl : j = 0 := by omega
        rfl
      conv => whnf
      refine ⟨⟨by omega, by show (List.length (shp (l.take k) 0) + 1) * 8 ≤ _; omega⟩, ?_⟩
      conv => whnf
      refine app1 (enc := fun k : Nat => [vi (k : Int)]) (d := 0) (l := shp (l.take k) 0) k (fun k hk => rfl) rfl ?_
      conv => whnf
      rw [e1, ← hs]
      exact ⟨l.length - (k + 1), _, by omega, norm_weak [0, 3, 4] [some 2] rfl rfl, k + 1, rfl, by omega, rfl⟩
  · have h := of_decide_eq_false h
    have hk2 : k = l.length := by omega
    subst hk2
    rw [List.take_length]
    conv => whnf
    refine ⟨fun _ _ => rfl, ?_⟩
    conv => whnf
    all_goals first | rfl | exact ⟨rfl, rfl⟩
def seI (a : List En) (n : Nat) (st : St) : Prop := ∃ k : Nat, n = a.length - k ∧ k ≤ a.length ∧ st = ⟨26, 0, [(0, enS a), (1, enS a), (5, vci .i64 (k : Int))], []⟩
theorem same_c (a : List En) (ha : a.length ≤ 1000000) : CallV Try.prog 13 [enS a, enS a] [] (fun r own' => own' = [] ∧ r = vcb true) := by
  refine callV_pure Try.func13 rfl ttok ftok rfl rfl rfl (Nat.le_of_ble_eq_true rfl) ?_
  conv => whnf
  rw [show (((a.length : Nat) : Int) != (a.length : Nat)) = false from bne_self_eq_false _]
  conv => whnf
  refine loopV ttok ftok (seI a) (env_weak [0, 1, 5] rfl) ⟨0, rfl, Nat.zero_le _, rfl⟩ ?_
  rintro n st ⟨k, rfl, hk, rfl⟩
  conv => whnf
  refine onB_intro (fun h => ?_) (fun h => ?_)
  · have h := of_decide_eq_true h
    have hk2 : k < a.length := by omega
    conv => whnf
    refine drawV_join mixed (by kernel_rfl) ttok ?_
    conv => whnf
    refine ⟨⟨by omega, by omega⟩, ?_⟩
    conv => whnf
    refine ⟨⟨by omega, by omega⟩, ?_⟩
    conv => whnf
    simp only [ti_nat]
    refine onB_intro (fun g => ?_) (fun g => ?_)
    · simp at g
    · conv => whnf
      rw [e64 (by omega)]
      exact ⟨a.length - (k + 1), _, by omega, env_weak [0, 1, 5] rfl, k + 1, rfl, by omega, rfl⟩
  · conv => whnf
    all_goals first | rfl | exact ⟨rfl, rfl⟩
def rtI (es : List En) (n : Nat) (st : St) : Prop := ∃ k : Nat, n = es.length - k ∧ k ≤ es.length ∧
  st = ⟨27, 0, [(0, enS es), (3, .c (.row 0)), (4, vci .i64 (k : Int))], [some (.row 21 1 (txL (es.take k)).length (runeF (txL (es.take k))))]⟩
theorem rtext_c (es : List En) (hl : es.length ≤ 100000) : CallV Try.prog 52 [enS es] [] (fun r own' => own' = [] ∧ r = vcs (txS es)) := by
  refine callV_pure Try.func52 rfl ttok ftok rfl rfl rfl (Nat.le_of_ble_eq_true rfl) ?_
  conv => whnf
  refine loopV ttok ftok (rtI es) ((nil_row 3 21 1 (runeF []) rfl).trans (norm_weak [0, 3, 4] [some 0] rfl rfl)) ⟨0, rfl, Nat.zero_le _, rfl⟩ ?_
  rintro m st ⟨k, rfl, hk, rfl⟩
  have e1 := e64 (k := k) (by omega)
  have hx := txL_len (es.take k)
  rw [List.length_take] at hx
  conv => whnf
  refine onB_intro (fun h => ?_) (fun h => ?_)
  · have h := of_decide_eq_true h
    have hkl : k < es.length := by omega
    have hsn := txL_snoc hkl
    conv => whnf
    refine ⟨⟨by omega, by omega⟩, ?_⟩
    conv => whnf
    rw [ti_nat]
    cases hg : (es.getD k en0).gone with
    | true =>
      rw [hg, if_pos rfl, List.append_nil] at hsn
      conv => whnf
      rw [e1]
      refine ⟨es.length - (k + 1), _, by omega, norm_weak [0, 3, 4] [some 0] rfl rfl, k + 1, rfl, by omega, ?_⟩
      rw [hsn]
      all_goals rfl
    | false =>
      rw [hg, if_neg (by decide)] at hsn
      conv => whnf
      refine ⟨⟨by omega, by omega⟩, ?_⟩
      conv => whnf
      rw [ti_nat]
      generalize es.getD k en0 = e at hsn
      refine ⟨fun _ => [vr e.ch], fun j hj2 => ?_, ?_⟩
      · obtain rfl : j = 0 := by omega
        rfl
      conv => whnf
      refine ⟨⟨by omega, by show (List.length (txL (es.take k)) + 1) * 4 ≤ _; omega⟩, ?_⟩
      conv => whnf
      refine app1 (enc := fun n : Int => [vr n]) (d := 0) (l := txL (es.take k)) e.ch (fun k hk => rfl) rfl ?_
      conv => whnf
      rw [e1, ← hsn]
      exact ⟨es.length - (k + 1), _, by omega, norm_weak [0, 3, 4] [some 2] rfl rfl, k + 1, rfl, by omega, rfl⟩
  · have h := of_decide_eq_false h
    have hk2 : k = es.length := by omega
    subst hk2
    rw [List.take_length]
    conv => whnf
    refine ⟨fun _ _ => rfl, ?_⟩
    conv => whnf
    refine ⟨txL es, rfl, fun _ _ => rfl, ?_⟩
    conv => whnf
    all_goals first | rfl | exact ⟨rfl, rfl⟩
abbrev idR (l : List I2) : Nat → List IC := fun k => idF (l.getD k (0, 0))
abbrev idS (l : List I2) : AV := .c (.sl 2 l.length (idR l))
def siI2 (a : List I2) (n : Nat) (st : St) : Prop := ∃ k : Nat, n = a.length - k ∧ k ≤ a.length ∧ st = ⟨26, 0, [(0, idS a), (1, idS a), (5, vci .i64 (k : Int))], []⟩
theorem sameids_c (a : List I2) (ha : a.length ≤ 1000000) : CallV Try.prog 26 [idS a, idS a] [] (fun r own' => own' = [] ∧ r = vcb true) := by
  refine callV_pure Try.func26 rfl ttok ftok rfl rfl rfl (Nat.le_of_ble_eq_true rfl) ?_
  conv => whnf
  rw [show (((a.length : Nat) : Int) != (a.length : Nat)) = false from bne_self_eq_false _]
  conv => whnf
  refine loopV ttok ftok (siI2 a) (env_weak [0, 1, 5] rfl) ⟨0, rfl, Nat.zero_le _, rfl⟩ ?_
  rintro n st ⟨k, rfl, hk, rfl⟩
  conv => whnf
  refine onB_intro (fun h => ?_) (fun h => ?_)
  · have h := of_decide_eq_true h
    have hk2 : k < a.length := by omega
    conv => whnf
    refine drawV_join mixed (by kernel_rfl) ttok ?_
    conv => whnf
    refine ⟨⟨by omega, by omega⟩, ?_⟩
    conv => whnf
    refine ⟨⟨by omega, by omega⟩, ?_⟩
    conv => whnf
    simp only [ti_nat]
    refine onB_intro (fun g => ?_) (fun g => ?_)
    · simp at g
    · conv => whnf
      rw [e64 (by omega)]
      exact ⟨a.length - (k + 1), _, by omega, env_weak [0, 1, 5] rfl, k + 1, rfl, by omega, rfl⟩
  · conv => whnf
    all_goals first | rfl | exact ⟨rfl, rfl⟩
theorem sameids0 : CallV Try.prog 26 [.c (.v (.slice none 0 0)), .c (.v (.slice none 0 0))] [] (fun r own' => own' = [] ∧ r = vcb true) :=
  callV_args (argsLe_nil 2 (idR []) (argsLe_nil 2 (idR []) (argsLe_refl []))) (sameids_c [] (by decide))
end Go.Eng
/- What stands where: the reference's, and a list's part. -/
set_option linter.unusedVariables false
set_option linter.unusedSimpArgs false
set_option maxRecDepth 100000
set_option maxHeartbeats 4000000
namespace Go.Eng
open Go Go.RowKit Go.Proofs
def rbV (es : List En) (k : Int) : AV := if k < 0 ∨ (shn es : Int) < k then .tup [idA (0, 0), idA (0, 0), vcb false] else .tup [idA (btL es k.toNat), idA (btR es k.toNat), vcb true]
theorem rbetween_c (es : List En) (hl : es.length ≤ 100000) (k : Int) : CallV Try.prog 23 [enS es, vci .i64 k] [] (fun r own' => own' = [] ∧ r = rbV es k) := by
  have hsh : (shp es 0).length = shn es := shp_len _ _
  have hsl := shn_len es
  refine callV_pure Try.func23 rfl ttok ftok rfl rfl rfl (Nat.le_of_ble_eq_true rfl) ?_
  conv => whnf
  refine call_pure (rshown_c es (by omega)) rfl ?_
  rintro _ rfl
  conv => whnf
  refine onB_intro (fun h => ?_) (fun h => ?_)
  · have h : k < 0 ∨ (shn es : Int) < k := by
      simp only [pickB, isLit, Bool.or_eq_true, decide_eq_true_eq] at h
      omega
    conv => whnf
    unfold rbV
    rw [if_pos h]
    all_goals first | rfl | exact ⟨rfl, rfl⟩
  have h : ¬ (k < 0 ∨ (shn es : Int) < k) := by
    simp only [pickB, isLit, Bool.or_eq_false_iff, decide_eq_false_iff_not] at h
    omega
  obtain ⟨K, rfl⟩ : ∃ K : Nat, k = (K : Int) := ⟨k.toNat, (Int.toNat_of_nonneg (by omega)).symm⟩
  have hres : ∀ r, r = .tup [idA (btL es K), idA (btR es K), vcb true] → r = rbV es (K : Int) := fun r hr => by
    unfold rbV; rw [if_neg h, ti_nat]; exact hr
  conv => whnf
  refine onB_intro (fun h2 => ?_) (fun h2 => ?_)
  · have h2 := of_decide_eq_true h2
    have hK : 0 < K := by omega
    have hw : IntKind.i64.wrap ((K : Int) - 1) = ((K - 1 : Nat) : Int) := by rw [w_i64 (by omega) (by omega)]; omega
    have hAp : btA es K = (shp es 0).getD (K - 1) 0 + 1 := by unfold btA; rw [if_neg (by omega)]
    have hpm : (shp es 0).getD (K - 1) 0 < es.length := by
      have hin := getD_mem (d := 0) (show K - 1 < (shp es 0).length by omega)
      have := (shp_mem' _ _ _ hin).2
      omega
    have hL : btL es K = (es.getD ((shp es 0).getD (K - 1) 0) en0).id := by unfold btL; rw [if_neg (by omega), hAp, Nat.add_sub_cancel]
    have hk1 : K - 1 < (shp es 0).length := by omega
    obtain ⟨p, hp⟩ : ∃ p, (shp es 0).getD (K - 1) 0 = p := ⟨_, rfl⟩
    rw [hp] at hAp hpm hL
    have e1 := e64 (k := p) (by omega)
    conv => whnf
    rw [hw]
    refine ⟨by omega, ?_⟩
    conv => whnf
    rw [ti_nat, hp]
    refine ⟨by omega, ?_⟩
    conv => whnf
    rw [ti_nat, hw]
    refine ⟨by omega, ?_⟩
    conv => whnf
    rw [ti_nat, hp, e1]
    by_cases h3 : p + 1 < es.length
    · have hR : btR es K = (es.getD (p + 1) en0).id := by unfold btR; rw [hAp, if_pos h3]
      rw [show (((p + 1 : Nat) : Int) == (es.length : Int)) = false from beq_eq_false_iff_ne.2 (by omega)]
      conv => whnf
      refine drawV_sched (.rd 0 (.rd 1 (.rd 2 (.rd 3 (.rd 4 (.rd 5 (.ef 6 (.ef 7 (.rd 8 (.nil)))))))))) [0, 1] mixed (by kernel_rfl) ttok ftok ?_
      conv => whnf
      refine ⟨by omega, ?_⟩
      conv => whnf
      rw [ti_nat]
      exact hres _ (by rw [hL, hR]; rfl)
    · have hR : btR es K = (0, 0) := by unfold btR; rw [hAp, if_neg h3]
      rw [show (((p + 1 : Nat) : Int) == (es.length : Int)) = true from beq_iff_eq.2 (by omega)]
      conv => whnf
      exact hres _ (by rw [hL, hR]; rfl)
  · have h2 := of_decide_eq_false h2
    obtain rfl : K = 0 := by omega
    conv => whnf
    by_cases h3 : 0 < es.length
    · have hR : btR es 0 = (es.getD 0 en0).id := by unfold btR; rw [show btA es 0 = 0 from rfl, if_pos h3]
      rw [show ((0 : Int) == (es.length : Int)) = false from beq_eq_false_iff_ne.2 (by omega)]
      conv => whnf
      refine drawV_sched (.rd 0 (.rd 1 (.rd 2 (.rd 3 (.rd 4 (.rd 5 (.ef 6 (.ef 7 (.rd 8 (.nil)))))))))) [0, 1] mixed (by kernel_rfl) ttok ftok ?_
      conv => whnf
      refine ⟨by omega, ?_⟩
      conv => whnf
      exact hres _ (by rw [hR]; rfl)
    · have hR : btR es 0 = (0, 0) := by unfold btR; rw [show btA es 0 = 0 from rfl, if_neg h3]
      rw [show ((0 : Int) == (es.length : Int)) = true from beq_iff_eq.2 (by omega)]
      conv => whnf
      exact hres _ (by rw [hR]; rfl)
/-- The Ids of a part of the text. -/
def idsL (es : List En) (at_ n : Nat) : List I2 := (List.range n).map (fun k => (es.getD ((shp es 0).getD (at_ + k) 0) en0).id)
theorem idsL_len (es : List En) (at_ n : Nat) : (idsL es at_ n).length = n := by unfold idsL; rw [List.length_map, List.length_range]
theorem idsL_snoc (es : List En) (at_ n : Nat) : idsL es at_ (n + 1) = idsL es at_ n ++ [(es.getD ((shp es 0).getD (at_ + n) 0) en0).id] := by
  unfold idsL
  rw [List.range_succ, List.map_append]; rfl
def noPart (es : List En) (a n : Int) : Prop := a < 0 ∨ n < 0 ∨ (shn es : Int) < a ∨ (shn es : Int) - a < n
instance (es : List En) (a n : Int) : Decidable (noPart es a n) := inferInstanceAs (Decidable (_ ∨ _ ∨ _ ∨ _))
def riI (es : List En) (a n : Nat) (m : Nat) (st : St) : Prop := ∃ k : Nat, m = n - k ∧ k ≤ n ∧
  st = ⟨51, 0, [(0, enS es), (1, vci .i64 (a : Int)), (2, vci .i64 (n : Int)), (8, inS (shp es 0)), (9, .c (.row 0)), (10, vci .i64 ((a + k : Nat) : Int))], [some (.row 38 2 (idsL es a k).length (idR (idsL es a k)))]⟩
theorem rids_c (es : List En) (hl : es.length ≤ 100000) (a n : Int) (hn : n ≤ 9223372036854775807) : CallV Try.prog 25 [enS es, vci .i64 a, vci .i64 n] []
    (fun r own' => own' = [] ∧ r = if noPart es a n then .tup [.c (.v (.slice none 0 0)), vcb false] else .tup [idS (idsL es a.toNat n.toNat), vcb true]) := by
  have hsh : (shp es 0).length = shn es := shp_len _ _
  have hsl := shn_len es
  refine callV_pure Try.func25 rfl ttok ftok rfl rfl rfl (Nat.le_of_ble_eq_true rfl) ?_
  conv => whnf
  refine call_pure (rshown_c es (by omega)) rfl ?_
  rintro _ rfl
  have hbad : ∀ r : AV, noPart es a n → r = .tup [.c (.v (.slice none 0 0)), vcb false] → r = if noPart es a n then .tup [.c (.v (.slice none 0 0)), vcb false] else .tup [idS (idsL es a.toNat n.toNat), vcb true] := fun r h1 h2 => by rw [if_pos h1]; exact h2
  conv => whnf
  refine onB_intro (fun h => ?_) (fun h => ?_)
  · have h : noPart es a n := by
      unfold noPart
      simp only [pickB, isLit, Bool.or_eq_true, decide_eq_true_eq] at h
      omega
    conv => whnf
    exact hbad _ h rfl
  have h : ¬ a < 0 ∧ ¬ n < 0 ∧ ¬ (shn es : Int) < a := by
    simp only [pickB, isLit, Bool.or_eq_false_iff, decide_eq_false_iff_not] at h
    omega
  obtain ⟨A, rfl⟩ : ∃ A : Nat, a = (A : Int) := ⟨a.toNat, (Int.toNat_of_nonneg (by omega)).symm⟩
  obtain ⟨N, rfl⟩ : ∃ N : Nat, n = (N : Int) := ⟨n.toNat, (Int.toNat_of_nonneg (by omega)).symm⟩
  have hw : IntKind.i64.wrap (((shp es 0).length : Int) - (A : Int)) = ((shp es 0).length : Int) - A := w_i64 (by omega) (by omega)
  conv => whnf
  rw [hw]
  refine onB_intro (fun g => ?_) (fun g => ?_)
  · have g := of_decide_eq_true g
    conv => whnf
    exact hbad _ (.inr (.inr (.inr (by omega)))) rfl
  have g := of_decide_eq_false g
  have hno : ¬ noPart es (A : Int) (N : Int) := by unfold noPart; omega
  rw [if_neg hno, ti_nat, ti_nat]
  have hAN : A + N ≤ (shp es 0).length := by omega
  conv => whnf
  refine loopV ttok ftok (riI es A N) ((nil_row 9 38 2 (idR []) rfl).trans (norm_weak [0, 1, 2, 8, 9, 10] [some 0] rfl rfl)) ⟨0, rfl, Nat.zero_le _, rfl⟩ ?_
  rintro m st ⟨k, rfl, hk, rfl⟩
  have e1 := e64 (k := A + k) (by omega)
  have hw2 : IntKind.i64.wrap ((A : Int) + (N : Int)) = ((A + N : Nat) : Int) := by rw [w_i64 (by omega) (by omega)]; omega
  have hil := idsL_len es A k
  conv => whnf
  rw [hw2]
  refine onB_intro (fun g2 => ?_) (fun g2 => ?_)
  · have g2 := of_decide_eq_true g2
    have hkN : k < N := by omega
    have hpm : (shp es 0).getD (A + k) 0 < es.length := by
      have hin := getD_mem (d := 0) (show A + k < (shp es 0).length by omega)
      have := (shp_mem' _ _ _ hin).2
      omega
    have hsn := idsL_snoc es A k
    conv => whnf
    refine ⟨by omega, ?_⟩
    conv => whnf
    rw [ti_nat]
    generalize (shp es 0).getD (A + k) 0 = p at hpm hsn
    refine ⟨by omega, ?_⟩
    conv => whnf
    rw [ti_nat]
    generalize (es.getD p en0) = e at hsn
    conv => whnf
    refine ⟨fun _ => idF e.id, fun j hj2 => ?_, ?_⟩
    · obtain rfl : j = 0 := by omega
      rfl
    conv => whnf
    refine ⟨⟨by omega, by show (List.length (idsL es A k) + 1) * 8 ≤ _; omega⟩, ?_⟩
    conv => whnf
    refine app1 (enc := idF) (d := (0, 0)) (l := idsL es A k) e.id (fun k hk => rfl) rfl ?_
    conv => whnf
    rw [e1, ← hsn]
    exact ⟨N - (k + 1), _, by omega, norm_weak [0, 1, 2, 8, 9, 10] [some 2] rfl rfl, k + 1, rfl, by omega, rfl⟩
  · have g2 := of_decide_eq_false g2
    obtain rfl : k = N := by omega
    conv => whnf
    refine ⟨fun _ _ => rfl, ?_⟩
    conv => whnf
    all_goals first | rfl | exact ⟨rfl, rfl⟩
def lsI (cs : Ck) (l : List Nd) (a n : Nat) (m : Nat) (st : St) : Prop := ∃ k : Nat, m = n - k ∧ k ≤ n ∧
  st = ⟨64, 0, [(1, vci .i64 (a : Int)), (3, .c (.own 0 0)), (8, .c (.row 1)), (37, vci .i64 (n : Int)), (38, vci .i64 (k : Int))], [some (.cells 31 (liF cs l)), some (.row 38 2 (idsL cs.flatten a k).length (idR (idsL cs.flatten a k)))]⟩
theorem lshown_c (cs : Ck) (l : List Nd) (hl : cs.length ≤ 100000) (hs : sumL cs ≤ 100000) (a n : Int) : CallV Try.prog 24 [liA cs l, vci .i64 a, vci .i64 n] []
    (fun r own' => own' = [] ∧ r = if noPart cs.flatten a n then .tup [.c (.v (.slice none 0 0)), erC 3] else .tup [idS (idsL cs.flatten a.toNat n.toNat), .c (.v .nilIface)]) := by
  have hfl : cs.flatten.length = sumL cs := rfl
  have hse : shn cs.flatten = shnC cs := rfl
  have hsl := shnC_le cs
  have hsh : (shp cs.flatten 0).length = shnC cs := shp_len _ _
  have hbad : ∀ r : AV, noPart cs.flatten a n → r = .tup [.c (.v (.slice none 0 0)), erC 3] → r = if noPart cs.flatten a n then .tup [.c (.v (.slice none 0 0)), erC 3] else .tup [idS (idsL cs.flatten a.toNat n.toNat), .c (.v .nilIface)] := fun r h1 h2 => by rw [if_pos h1]; exact h2
  refine callV_pure Try.func24 rfl ttok ftok rfl rfl rfl (Nat.le_of_ble_eq_true rfl) ?_
  conv => whnf
  by_cases h1 : a < 0
  · rw [decide_eq_true h1]
    conv => whnf
    exact hbad _ (.inl h1) rfl
  rw [decide_eq_false h1]
  conv => whnf
  by_cases h2 : n < 0
  · rw [decide_eq_true h2]
    conv => whnf
    exact hbad _ (.inr (.inl h2)) rfl
  rw [decide_eq_false h2]
  conv => whnf
  refine call_pure (shown_c cs) rfl ?_
  rintro _ rfl
  conv => whnf
  by_cases h3 : a > (shnC cs : Int)
  · rw [decide_eq_true h3]
    conv => whnf
    exact hbad _ (.inr (.inr (.inl (by omega)))) rfl
  rw [decide_eq_false h3]
  obtain ⟨A, rfl⟩ : ∃ A : Nat, a = (A : Int) := ⟨a.toNat, (Int.toNat_of_nonneg (by omega)).symm⟩
  obtain ⟨N, rfl⟩ : ∃ N : Nat, n = (N : Int) := ⟨n.toNat, (Int.toNat_of_nonneg (by omega)).symm⟩
  have hw : IntKind.i64.wrap ((shnC cs : Int) - (A : Int)) = (shnC cs : Int) - A := w_i64 (by omega) (by omega)
  conv => whnf
  refine call_pure (shown_c cs) rfl ?_
  rintro _ rfl
  conv => whnf
  rw [hw]
  refine onB_intro (fun g => ?_) (fun g => ?_)
  · have g := of_decide_eq_true g
    conv => whnf
    exact hbad _ (.inr (.inr (.inr (by omega)))) rfl
  have g := of_decide_eq_false g
  have hno : ¬ noPart cs.flatten (A : Int) (N : Int) := by unfold noPart; omega
  rw [if_neg hno, ti_nat, ti_nat]
  have hAN : A + N ≤ shnC cs := by omega
  conv => whnf
  refine loopV ttok ftok (lsI cs l A N) ((nil_row 8 38 2 (idR []) rfl).trans (norm_weak [1, 3, 8, 37, 38] [some 0, some 1] rfl rfl)) ⟨0, rfl, Nat.zero_le _, rfl⟩ ?_
  rintro m st ⟨k, rfl, hk, rfl⟩
  have e1 := e64 (k := k) (by omega)
  have hw2 : IntKind.i64.wrap ((A : Int) + (k : Int)) = ((A + k : Nat) : Int) := by rw [w_i64 (by omega) (by omega)]; omega
  have hil := idsL_len cs.flatten A k
  conv => whnf
  refine onB_intro (fun g2 => ?_) (fun g2 => ?_)
  · have g2 := of_decide_eq_true g2
    have hkN : k < N := by omega
    have hpm : (shp cs.flatten 0).getD (A + k) 0 < cs.flatten.length := by
      have hin := getD_mem (d := 0) (show A + k < (shp cs.flatten 0).length by omega)
      have := (shp_mem' _ _ _ hin).2
      omega
    have hsn := idsL_snoc cs.flatten A k
    have hca := at_c cs (by omega) (by omega) ((A + k : Nat) : Int)
    unfold atV at hca
    rw [if_pos (by rw [hse]; omega), ti_nat] at hca
    generalize (shp cs.flatten 0).getD (A + k) 0 = p at hpm hsn hca
    have hce := entry_c cs (by omega) (by omega) (p : Int)
    unfold enV at hce
    rw [if_pos (by omega), ti_nat] at hce
    generalize (cs.flatten.getD p en0) = e at hsn hce
    conv => whnf
    rw [hw2]
    refine call_pure hca rfl ?_
    rintro _ rfl
    conv => whnf
    refine call_pure hce rfl ?_
    rintro _ rfl
    conv => whnf
    refine ⟨fun _ => idF e.id, fun j hj2 => ?_, ?_⟩
    · obtain rfl : j = 0 := by omega
      rfl
    conv => whnf
    refine ⟨⟨by omega, by show (List.length (idsL cs.flatten A k) + 1) * 8 ≤ _; omega⟩, ?_⟩
    conv => whnf
    refine app1 (enc := idF) (d := (0, 0)) (l := idsL cs.flatten A k) e.id (fun k hk => rfl) rfl ?_
    conv => whnf
    rw [e1, ← hsn]
    exact ⟨N - (k + 1), _, by omega, norm_weak [1, 3, 8, 37, 38] [some 0, some 4] rfl rfl, k + 1, rfl, by omega, rfl⟩
  · have g2 := of_decide_eq_false g2
    obtain rfl : k = N := by omega
    conv => whnf
    refine ⟨fun _ _ => rfl, ?_⟩
    conv => whnf
    all_goals first | rfl | exact ⟨rfl, rfl⟩
end Go.Eng
/- The reference: on what items hang. -/
set_option linter.unusedVariables false
set_option linter.unusedSimpArgs false
set_option maxRecDepth 100000
set_option maxHeartbeats 4000000
namespace Go.Eng
open Go Go.RowKit Go.Proofs
abbrev itR (l : List It) : Nat → List IC := fun k => itF (l.getD k it0)
def hg0 : Hg := ⟨(0, 0), false⟩
abbrev hgR (l : List Hg) : Nat → List IC := fun k => hgF (l.getD k hg0)
abbrev hgS (l : List Hg) : AV := .c (.sl 3 l.length (hgR l))
/-- Items, in the order in which they came; on what they hang. -/
def itsH (hs : HS) : List It := (hs.map (fun p => p.1)).reverse
def hgsH (hs : HS) : List Hg := (hs.map (fun p => p.2)).reverse
theorem itsH_len (hs : HS) : (itsH hs).length = hs.length := by unfold itsH; rw [List.length_reverse, List.length_map]
theorem hgsH_len (hs : HS) : (hgsH hs).length = hs.length := by unfold hgsH; rw [List.length_reverse, List.length_map]
theorem itsH_cons (x : It) (h : Hg) (r : HS) : itsH ((x, h) :: r) = itsH r ++ [x] := by unfold itsH; rw [List.map_cons, List.reverse_cons]
theorem hgsH_cons (x : It) (h : Hg) (r : HS) : hgsH ((x, h) :: r) = hgsH r ++ [h] := by unfold hgsH; rw [List.map_cons, List.reverse_cons]
theorem its_at {hs : HS} {i : Nat} (hi : i < hs.length) : ((itsH hs).getD i it0, (hgsH hs).getD i hg0) ∈ hs := by
  have e1 : (itsH hs).getD i it0 = (hs[hs.length - 1 - i]).1 := by
    unfold itsH
    rw [List.getD_eq_getElem?_getD, List.getElem?_reverse (by simpa using hi), List.getElem?_map, List.length_map, List.getElem?_eq_getElem (by omega)]; rfl
  have e2 : (hgsH hs).getD i hg0 = (hs[hs.length - 1 - i]).2 := by
    unfold hgsH
    rw [List.getD_eq_getElem?_getD, List.getElem?_reverse (by simpa using hi), List.getElem?_map, List.length_map, List.getElem?_eq_getElem (by omega)]; rfl
  rw [e1, e2]
  exact List.getElem_mem _
theorem its_ex {hs : HS} {x : It} {h : Hg} (hm : (x, h) ∈ hs) : ∃ i, i < hs.length ∧ (itsH hs).getD i it0 = x ∧ (hgsH hs).getD i hg0 = h := by
  obtain ⟨j, hj, e⟩ := List.getElem_of_mem hm
  refine ⟨hs.length - 1 - j, by omega, ?_, ?_⟩
  · unfold itsH
    rw [List.getD_eq_getElem?_getD, List.getElem?_reverse (by simp; omega), List.getElem?_map, List.length_map, show hs.length - 1 - (hs.length - 1 - j) = j from by omega, List.getElem?_eq_getElem hj, e]; rfl
  · unfold hgsH
    rw [List.getD_eq_getElem?_getD, List.getElem?_reverse (by simp; omega), List.getElem?_map, List.length_map, show hs.length - 1 - (hs.length - 1 - j) = j from by omega, List.getElem?_eq_getElem hj, e]; rfl
/-- Where an Id's item is. -/
def fiE (l : List It) (a : I2) : Option Nat := l.findIdx? (fun e => e.id == a)
def fiN (l : List It) (a : I2) : Int := match fiE l a with
  | some k => (k : Int)
  | none => -1
theorem fiE_at {l : List It} {a : I2} {k : Nat} (hk : k < l.length) (h : ∀ j, j < k → (l.getD j it0).id ≠ a) (e : (l.getD k it0).id = a) : fiE l a = some k := by
  unfold fiE
  rw [List.findIdx?_eq_some_iff_getElem]
  refine ⟨hk, ?_, fun j hj => ?_⟩
  · rw [List.getD_eq_getElem?_getD, List.getElem?_eq_getElem hk] at e
    exact beq_iff_eq.2 e
  · have := h j hj
    rw [List.getD_eq_getElem?_getD, List.getElem?_eq_getElem (by omega)] at this
    simpa using this
theorem fiE_no {l : List It} {a : I2} (h : ∀ j, j < l.length → (l.getD j it0).id ≠ a) : fiE l a = none := by
  unfold fiE
  rw [List.findIdx?_eq_none_iff]
  intro x hx
  obtain ⟨j, hj, rfl⟩ := List.getElem_of_mem hx
  have := h j hj
  rw [List.getD_eq_getElem?_getD, List.getElem?_eq_getElem hj] at this
  simpa using this
theorem fiE_some {l : List It} {a : I2} {k : Nat} (h : fiE l a = some k) : k < l.length ∧ (l.getD k it0).id = a := by
  unfold fiE at h
  rw [List.findIdx?_eq_some_iff_getElem] at h
  obtain ⟨h1, h2, _⟩ := h
  refine ⟨h1, ?_⟩
  rw [List.getD_eq_getElem?_getD, List.getElem?_eq_getElem h1]
  exact beq_iff_eq.1 h2
theorem fiE_has {hs : HS} {a : I2} (ha : hasI hs a) : ∃ k, fiE (itsH hs) a = some k ∧ k < hs.length ∧ ((itsH hs).getD k it0).id = a ∧ ((itsH hs).getD k it0, (hgsH hs).getD k hg0) ∈ hs := by
  cases hf : fiE (itsH hs) a with
  | some k =>
    obtain ⟨h1, h2⟩ := fiE_some hf
    rw [itsH_len] at h1
    exact ⟨k, rfl, h1, h2, its_at h1⟩
  | none =>
    exfalso
    obtain ⟨⟨x, h⟩, hm, rfl⟩ := ha
    obtain ⟨i, hi, e, _⟩ := its_ex hm
    unfold fiE at hf
    rw [List.findIdx?_eq_none_iff] at hf
    have := hf _ (getD_mem (d := it0) (show i < (itsH hs).length by rw [itsH_len]; exact hi))
    rw [e] at this
    simp at this
theorem fiE_hasn {hs : HS} {a : I2} (ha : ¬ hasI hs a) : fiE (itsH hs) a = none := by
  cases hf : fiE (itsH hs) a with
  | none => rfl
  | some k =>
    obtain ⟨h1, h2⟩ := fiE_some hf
    rw [itsH_len] at h1
    exact absurd ⟨_, its_at h1, h2⟩ ha
def rfI (l : List It) (a : I2) (n : Nat) (st : St) : Prop := ∃ k : Nat, n = l.length - k ∧ k ≤ l.length ∧ (∀ j, j < k → (l.getD j it0).id ≠ a) ∧
  st = ⟨20, 0, [(0, itS l), (3, .c (.own 0 0)), (5, vci .i64 (k : Int))], [some (.cells 38 (idF a))]⟩
theorem rfind_c (l : List It) (hl : l.length ≤ 100000000) (a : I2) : CallV Try.prog 48 [itS l, idA a] [] (fun r own' => own' = [] ∧ r = vci .i64 (fiN l a)) := by
  refine callV_pure Try.func48 rfl ttok ftok rfl rfl rfl (Nat.le_of_ble_eq_true rfl) ?_
  conv => whnf
  refine loopV ttok ftok (rfI l a) (norm_weak [0, 3, 5] [some 0] rfl rfl) ⟨0, rfl, Nat.zero_le _, fun j hj => by omega, rfl⟩ ?_
  rintro n st ⟨k, rfl, hk, hj, rfl⟩
  have e1 := e64 (k := k) (by omega)
  conv => whnf
  refine onB_intro (fun h => ?_) (fun h => ?_)
  · have h := of_decide_eq_true h
    have hk2 : k < l.length := by omega
    conv => whnf
    refine drawV_join mixed (by kernel_rfl) ttok ?_
    conv => whnf
    refine ⟨⟨by omega, by omega⟩, ?_⟩
    conv => whnf
    rw [ti_nat]
    refine onB_intro (fun g => ?_) (fun g => ?_)
    · have g2 : (l.getD k it0).id = a := by
        simp only [Bool.and_true, Bool.and_eq_true, beq_iff_eq] at g
        exact Prod.ext g.1 g.2
      have := fiE_at hk2 hj g2
      conv => whnf
      unfold fiN
      rw [this]
    · have g2 : (l.getD k it0).id ≠ a := fun e => by
        rw [e] at g
        simp at g
      conv => whnf
      rw [e1]
      refine ⟨l.length - (k + 1), _, by omega, norm_weak [0, 3, 5] [some 0] rfl rfl, k + 1, rfl, by omega, fun j h2 => ?_, rfl⟩
      rcases Nat.lt_succ_iff_lt_or_eq.1 h2 with h3 | rfl
      · exact hj j h3
      · exact g2
  · have h := of_decide_eq_false h
    have := fiE_no (l := l) (a := a) (fun j h2 => hj j (by omega))
    conv => whnf
    unfold fiN
    rw [this]
theorem pth_len : ∀ (hs : HS) (a : I2), (pth hs a).length ≤ hs.length
  | [], a => Nat.le_refl _
  | (x, h) :: r, a => by
    unfold pth
    split
    · have := pth_len r h.on
      rw [List.length_append, List.length_singleton, List.length_cons]
      omega
    · have := pth_len r a
      rw [List.length_cons]
      omega
theorem bel_at {hs : HS} (ho : okH hs) {x : It} {h : Hg} (hm : (x, h) ∈ hs) (b : I2) : bel hs x.id b = (decide (h.on = b) || bel hs h.on b) := by
  unfold bel
  rw [und_at ho hm, und_at ho hm]
  by_cases e : h.on = b
  · rw [decide_eq_true e, Bool.true_or]
    obtain ⟨o, s⟩ := h
    simp only at e
    subst e
    cases s
    · rw [if_pos rfl]; rfl
    · rw [if_pos (show (⟨o, true⟩ : Hg) = ⟨o, true⟩ from rfl)]
      simp
  · rw [decide_eq_false e, Bool.false_or, if_neg (fun g => e (by rw [g])), if_neg (fun g => e (by rw [g]))]
theorem bel_no {hs : HS} {a b : I2} (ha : ¬ hasI hs a) : bel hs a b = false := by
  unfold bel
  rw [und_no ha, und_no ha]; rfl
def rbI (hs : HS) (a b : I2) (m : Nat) (st : St) : Prop := ∃ (c : I2) (n : Nat), m = hs.length + 1 - n ∧ (pth hs c).length + n ≤ hs.length ∧ bel hs c b = bel hs a b ∧
  st = ⟨41, 0, [(0, itS (itsH hs)), (1, hgS (hgsH hs)), (7, .c (.own 0 0)), (9, vci .i64 (fiN (itsH hs) c)), (10, vci .i64 (n : Int))], [some (.cells 38 (idF b))]⟩
theorem rbelow_c {hs : HS} (ho : okH hs) (hlen : hs.length ≤ 100000) (a b : I2) : CallV Try.prog 128 [itS (itsH hs), hgS (hgsH hs), idA a, idA b] [] (fun r own' => own' = [] ∧ r = vcb (belR hs a b)) := by
  have hil := itsH_len hs
  have hhl := hgsH_len hs
  have hcase : ∀ c, (hasI hs c ∧ ∃ k : Nat, fiN (itsH hs) c = (k : Int) ∧ k < hs.length ∧ ((itsH hs).getD k it0).id = c ∧ ((itsH hs).getD k it0, (hgsH hs).getD k hg0) ∈ hs) ∨ (¬ hasI hs c ∧ fiN (itsH hs) c = -1) := fun c => by
    by_cases hc : hasI hs c
    · obtain ⟨k, h1, h2, h3, h4⟩ := fiE_has hc
      exact .inl ⟨hc, k, by unfold fiN; rw [h1], h2, h3, h4⟩
    · exact .inr ⟨hc, by unfold fiN; rw [fiE_hasn hc]⟩
  refine callV_pure Try.func128 rfl ttok ftok rfl rfl rfl (Nat.le_of_ble_eq_true rfl) ?_
  conv => whnf
  unfold belR
  by_cases hz : b.1 = 0
  · rw [beq_iff_eq.2 hz]
    conv => whnf
    all_goals first | rfl | exact ⟨rfl, rfl⟩
  rw [beq_eq_false_iff_ne.2 hz]
  conv => whnf
  refine call_pure (rfind_c (itsH hs) (by omega) a) rfl ?_
  rintro _ rfl
  conv => whnf
  refine loopV ttok ftok (rbI hs a b) (norm_weak [0, 1, 7, 9, 10] [some 1] rfl rfl) ⟨a, 0, rfl, pth_len hs a, rfl, rfl⟩ ?_
  rintro m st ⟨c, n, rfl, hn, hb, rfl⟩
  have e1 := e64 (k := n) (by omega)
  rcases hcase c with ⟨hc, k, hk1, hk2, hk3, hk4⟩ | ⟨hc, hk1⟩
  · have hpl : 0 < (pth hs c).length := List.length_pos_iff.2 (pth_ne ho hc)
    have hba := bel_at ho hk4 b
    have hpa := pth_at ho hk4
    rw [hk3] at hba hpa
    rw [hk1]
    conv => whnf
    refine onB_intro (fun g => ?_) (fun g => ?_)
    rotate_left
    · exfalso
      simp [pickB, isLit, hil] at g
      omega
    conv => whnf
    refine drawV_join mixed (by kernel_rfl) ttok ?_
    conv => whnf
    refine ⟨⟨by omega, by omega⟩, ?_⟩
    conv => whnf
    rw [ti_nat]
    have hbe : (((hgsH hs).getD k hg0).on.1 == b.1 && (((hgsH hs).getD k hg0).on.2 == b.2 && true)) = decide (((hgsH hs).getD k hg0).on = b) := by
      rw [Bool.eq_iff_iff, decide_eq_true_iff, Bool.and_true, Bool.and_eq_true, beq_iff_eq, beq_iff_eq]
      exact ⟨fun e => Prod.ext e.1 e.2, fun e => by rw [e]; exact ⟨rfl, rfl⟩⟩
    rw [hbe]
    by_cases he : ((hgsH hs).getD k hg0).on = b
    · rw [decide_eq_true he] at hba ⊢
      conv => whnf
      rw [← hb, hba]
      all_goals first | rfl | exact ⟨rfl, rfl⟩
    · rw [decide_eq_false he] at hba ⊢
      rw [Bool.false_or, hb] at hba
      conv => whnf
      refine ⟨⟨by omega, by omega⟩, ?_⟩
      conv => whnf
      rw [ti_nat]
      refine call_pure (rfind_c (itsH hs) (by omega) ((hgsH hs).getD k hg0).on) rfl ?_
      rintro _ rfl
      conv => whnf
      rw [e1]
      refine ⟨hs.length + 1 - (n + 1), _, by omega, norm_weak [0, 1, 7, 9, 10] [some 0] rfl rfl, ((hgsH hs).getD k hg0).on, n + 1, rfl, ?_, hba.symm, rfl⟩
      rw [hpa] at hn
      rw [List.length_append, List.length_singleton] at hn
      omega
  · rw [hk1]
    conv => whnf
    refine onB_intro (fun g => ?_) (fun g => ?_)
    · exfalso
      simp [pickB, isLit] at g
    conv => whnf
    rw [← hb, bel_no hc]
    all_goals first | rfl | exact ⟨rfl, rfl⟩
theorem il_b (a b : I2) : (decide (a.1 < b.1) || (a.1 == b.1 && decide (a.2 < b.2))) = true ↔ il a b := by
  unfold il
  rw [Bool.or_eq_true, Bool.and_eq_true, decide_eq_true_iff, decide_eq_true_iff, beq_iff_eq]
instance (a b : I2) : Decidable (il a b) := inferInstanceAs (Decidable (_ ∨ _ ∧ _))
theorem rbefore_c (a b : I2) : CallV Try.prog 95 [idA a, idA b] [] (fun r own' => own' = [] ∧ r = vcb (decide (il a b))) := by
  have hd : decide (il a b) = (decide (a.1 < b.1) || (a.1 == b.1 && decide (a.2 < b.2))) := by
    rw [Bool.eq_iff_iff, decide_eq_true_iff]; exact (il_b a b).symm
  rw [hd]
  refine callV_pure Try.func95 rfl ttok ftok rfl rfl rfl (Nat.le_of_ble_eq_true rfl) ?_
  conv => whnf
  cases h1 : decide (a.1 < b.1) <;> cases h2 : (a.1 == b.1)
  all_goals first | rfl | exact ⟨rfl, rfl⟩
/-- On what an item hangs, told raw. -/
def hgP (hs : HS) (x : It) : Hg := if (x.right.1 != 0 && belR hs x.right x.left) = true then ⟨x.right, false⟩ else ⟨x.left, true⟩
theorem rplace_c {hs : HS} (ho : okH hs) (hlen : hs.length ≤ 100000) (x : It) : CallV Try.prog 105 [itS (itsH hs), hgS (hgsH hs), .agg (itF x)] [] (fun r own' => own' = [] ∧ r = hgA (hgP hs x)) := by
  refine callV_pure Try.func105 rfl ttok ftok rfl rfl rfl (Nat.le_of_ble_eq_true rfl) ?_
  conv => whnf
  refine call_pure (rbelow_c ho hlen x.right x.left) rfl ?_
  rintro _ rfl
  unfold hgP
  cases h1 : (x.right.1 != 0) <;> cases h2 : belR hs x.right x.left
  all_goals
    conv => whnf
    rw [h1]
    conv => whnf
    all_goals first | rfl | exact ⟨rfl, rfl⟩
/-- Each hangs where it should. -/
def bldH : HS → Prop
  | [] => True
  | (x, h) :: r => bldH r ∧ h = hgOf r x
theorem hgOf_raw (hs : HS) (x : It) : hgOf hs x = if x.left.1 = 0 ∧ (hgP hs x).right = true then rootH else hgP hs x := by
  unfold hgOf hgP
  by_cases h : (x.right.1 != 0 && belR hs x.right x.left) = true
  · rw [if_pos h, if_pos h, if_neg (fun g => by cases g.2)]
  · rw [if_neg h, if_neg h]
    by_cases h2 : x.left.1 = 0
    · rw [if_pos h2, if_pos ⟨h2, rfl⟩]
    · rw [if_neg h2, if_neg (fun g => h2 g.1)]
/-- The items that came first. -/
def firstH (hs : HS) (i : Nat) : HS := hs.drop (hs.length - i)
theorem firstH_len {hs : HS} {i : Nat} (hi : i ≤ hs.length) : (firstH hs i).length = i := by unfold firstH; rw [List.length_drop]; omega
theorem firstH_its {hs : HS} {i : Nat} (hi : i ≤ hs.length) : itsH (firstH hs i) = (itsH hs).take i := by
  unfold itsH firstH
  rw [List.map_drop, List.take_reverse, List.length_map]
theorem okH_drop : ∀ {hs : HS} (n : Nat), okH hs → okH (hs.drop n)
  | hs, 0, h => by rw [List.drop_zero]; exact h
  | [], n + 1, h => h
  | p :: r, n + 1, h => by rw [List.drop_succ_cons]; exact okH_drop n (by obtain ⟨x, g⟩ := p; exact h.1)
theorem bldH_drop : ∀ {hs : HS} (n : Nat), bldH hs → bldH (hs.drop n)
  | hs, 0, h => by rw [List.drop_zero]; exact h
  | [], n + 1, h => h
  | p :: r, n + 1, h => by rw [List.drop_succ_cons]; exact bldH_drop n (by obtain ⟨x, g⟩ := p; exact h.1)
theorem firstH_hgs {hs : HS} {i : Nat} (hi : i ≤ hs.length) : hgsH (firstH hs i) = (hgsH hs).take i := by
  unfold hgsH firstH
  rw [List.map_drop, List.take_reverse, List.length_map]
theorem firstH_at {hs : HS} (hb : bldH hs) {i : Nat} (hi : i < hs.length) : (hgsH hs).getD i hg0 = hgOf (firstH hs i) ((itsH hs).getD i it0) ∧ firstH hs (i + 1) = ((itsH hs).getD i it0, (hgsH hs).getD i hg0) :: firstH hs i := by
  have e1 : (itsH hs).getD i it0 = (hs[hs.length - 1 - i]).1 := by
    unfold itsH
    rw [List.getD_eq_getElem?_getD, List.getElem?_reverse (by simpa using hi), List.getElem?_map, List.length_map, List.getElem?_eq_getElem (by omega)]; rfl
  have e2 : (hgsH hs).getD i hg0 = (hs[hs.length - 1 - i]).2 := by
    unfold hgsH
    rw [List.getD_eq_getElem?_getD, List.getElem?_reverse (by simpa using hi), List.getElem?_map, List.length_map, List.getElem?_eq_getElem (by omega)]; rfl
  have e3 : firstH hs (i + 1) = hs[hs.length - 1 - i] :: firstH hs i := by
    unfold firstH
    rw [List.drop_eq_getElem_cons (by omega)]
    congr 1
    · congr 1; omega
    · congr 1; omega
  have e4 := bldH_drop (hs.length - (i + 1)) hb
  have e5 : hs.drop (hs.length - (i + 1)) = hs[hs.length - 1 - i] :: firstH hs i := e3
  rw [e5] at e4
  refine ⟨?_, by rw [e3, e1, e2]⟩
  rw [e1, e2]
  exact e4.2
def rhI (hs : HS) (n : Nat) (st : St) : Prop := ∃ i : Nat, n = hs.length - i ∧ i ≤ hs.length ∧
  st = ⟨39, 0, [(0, itS (itsH hs)), (3, .c (.row 0)), (4, vci .i64 (i : Int))], [some (.row 141 3 (hgsH (firstH hs i)).length (hgR (hgsH (firstH hs i))))]⟩
theorem rhangs_c {hs : HS} (ho : okH hs) (hb : bldH hs) (hlen : hs.length ≤ 100000) : CallV Try.prog 87 [itS (itsH hs)] [] (fun r own' => own' = [] ∧ r = hgS (hgsH hs)) := by
  have hil := itsH_len hs
  have hhl := hgsH_len hs
  refine callV_pure Try.func87 rfl ttok ftok rfl rfl rfl (Nat.le_of_ble_eq_true rfl) ?_
  conv => whnf
  refine loopV ttok ftok (rhI hs) ((nil_row 3 141 3 (hgR []) rfl).trans (norm_weak [0, 3, 4] [some 0] rfl rfl)) ⟨0, rfl, Nat.zero_le _, by rw [show firstH hs 0 = [] from by unfold firstH; rw [Nat.sub_zero, List.drop_length]]; rfl⟩ ?_
  rintro m st ⟨i, rfl, hi, rfl⟩
  have e1 := e64 (k := i) (by omega)
  have hF := firstH_len hi
  have hfi := firstH_its hi
  have hfl : (hgsH (firstH hs i)).length = i := by rw [hgsH_len, hF]
  have hoF : okH (firstH hs i) := okH_drop _ ho
  conv => whnf
  refine onB_intro (fun h => ?_) (fun h => ?_)
  · have h := of_decide_eq_true h
    have hil2 : i < hs.length := by omega
    obtain ⟨ha1, ha2⟩ := firstH_at hb hil2
    have hti : ((itsH hs).take i).length = i := by rw [List.length_take]; omega
    conv => whnf
    refine drawV_at ⟨39, 0, [(0, itS (itsH hs)), (3, .c (.row 0)), (4, vci .i64 (i : Int)), (5, .c (.own 1 0))], [some (.row 141 3 (hgsH (firstH hs i)).length (hgR (hgsH (firstH hs i)))), some (.cells 141 (hgF (hgP (firstH hs i) ((itsH hs).getD i it0))))]⟩ ?_ ?_
    · refine drawV_sched (.rd 0 (.rd 1 (.rd 2 (.rd 3 (.rd 4 (.rd 5 (.rd 6 (.rd 7 (.alt (.ef 8 (.ef 9 (.ef 10 (.nil)))) (.ef 9 (.ef 8 (.ef 10 (.nil))))))))))))) [0, 1] mixed (by kernel_rfl) ttok ftok ?_
      conv => whnf
      have hpl := rplace_c hoF (by omega) ((itsH hs).getD i it0)
      have hfil : (itsH (firstH hs i)).length = i := by rw [hfi, hti]
      refine ⟨by omega, (itsH (firstH hs i)).length, itR (itsH (firstH hs i)), by omega, fun k hk => ?_, ?_⟩
      · show itF ((itsH (firstH hs i)).getD k it0) = itF ((itsH hs).getD (0 + k) it0)
        rw [Nat.zero_add, hfi, getD_take _ _ _ _ (by omega)]
      conv => whnf
      refine ⟨by omega, ?_⟩
      conv => whnf
      rw [ti_nat]
      refine ⟨?_, ?_⟩
      · conv => whnf
        refine (callV_lendS 0 rfl (fun j hj => rfl) hpl rfl (fun r hr => by subst hr; rfl)).mono ?_
        rintro r own2 ⟨rfl, rfl⟩
        conv => whnf
        exact norm_weak [0, 3, 4, 5] [some 0, some 1] rfl rfl
      · conv => whnf
        refine (callV_lendS 0 rfl (fun j hj => rfl) hpl rfl (fun r hr => by subst hr; rfl)).mono ?_
        rintro r own2 ⟨rfl, rfl⟩
        conv => whnf
        exact norm_weak [0, 3, 4, 5] [some 0, some 1] rfl rfl
    · have hraw := hgOf_raw (firstH hs i) ((itsH hs).getD i it0)
      rw [← ha1] at hraw
      generalize hgP (firstH hs i) ((itsH hs).getD i it0) = p at hraw
      have hsn : hgsH (firstH hs (i + 1)) = hgsH (firstH hs i) ++ [(hgsH hs).getD i hg0] := by rw [ha2, hgsH_cons]
      conv => whnf
      refine ⟨by omega, ?_⟩
      conv => whnf
      rw [ti_nat]
      by_cases hz : ((itsH hs).getD i it0).left.1 = 0 ∧ p.right = true
      · rw [if_pos hz] at hraw
        obtain ⟨po, pr⟩ := p
        obtain ⟨hz1, hz2⟩ := hz
        simp only at hz2
        subst hz2
        rw [beq_iff_eq.2 hz1]
        conv => whnf
        refine ⟨fun _ => hgF rootH, fun j hj2 => ?_, ?_⟩
        · obtain rfl : j = 0 := by omega
          rfl
        conv => whnf
        refine ⟨⟨by omega, by show (List.length (hgsH (firstH hs i)) + 1) * 12 ≤ _; omega⟩, ?_⟩
        conv => whnf
        refine app1 (enc := hgF) (d := hg0) (l := hgsH (firstH hs i)) rootH (fun k hk => rfl) rfl ?_
        conv => whnf
        rw [hraw] at hsn
        rw [e1, ← hsn]
        exact ⟨hs.length - (i + 1), _, by omega, norm_weak [0, 3, 4] [some 3] rfl rfl, i + 1, rfl, by omega, rfl⟩
      · rw [if_neg hz] at hraw
        refine onB_intro (fun g => ?_) (fun g => ?_)
        · exfalso
          refine hz ?_
          cases h1 : (((itsH hs).getD i it0).left.1 == 0) <;> cases h2 : p.right <;> rw [h1, h2] at g <;> first | (cases g; done) | exact ⟨beq_iff_eq.1 h1, rfl⟩
        conv => whnf
        refine ⟨fun _ => hgF p, fun j hj2 => ?_, ?_⟩
        · obtain rfl : j = 0 := by omega
          rfl
        conv => whnf
        refine ⟨⟨by omega, by show (List.length (hgsH (firstH hs i)) + 1) * 12 ≤ _; omega⟩, ?_⟩
        conv => whnf
        refine app1 (enc := hgF) (d := hg0) (l := hgsH (firstH hs i)) p (fun k hk => rfl) rfl ?_
        conv => whnf
        rw [hraw] at hsn
        rw [e1, ← hsn]
        exact ⟨hs.length - (i + 1), _, by omega, norm_weak [0, 3, 4] [some 3] rfl rfl, i + 1, rfl, by omega, rfl⟩
  · have h := of_decide_eq_false h
    have : i = hs.length := by omega
    subst this
    rw [show firstH hs hs.length = hs from by unfold firstH; rw [Nat.sub_self, List.drop_zero]]
    conv => whnf
    refine ⟨fun _ _ => rfl, ?_⟩
    conv => whnf
    all_goals first | rfl | exact ⟨rfl, rfl⟩
end Go.Eng
/- The reference's walk: plain laws. -/
set_option linter.unusedVariables false
set_option linter.unusedSimpArgs false
namespace Go.Eng
theorem nodup_len {α : Type} [BEq α] [LawfulBEq α] : ∀ {l m : List α}, l.Nodup → (∀ a, a ∈ l → a ∈ m) → l.length ≤ m.length
  | [], m, _, _ => Nat.zero_le _
  | a :: l, m, hn, hs => by
    rw [List.nodup_cons] at hn
    have ha := hs a (List.mem_cons_self ..)
    have h1 : l.length ≤ (m.erase a).length := nodup_len hn.2 (fun b hb => (List.mem_erase_of_ne (fun e => hn.1 (by rw [← e]; exact hb))).2 (hs b (List.mem_cons_of_mem _ hb)))
    rw [List.length_erase_of_mem ha] at h1
    have : 0 < m.length := List.length_pos_of_mem ha
    rw [List.length_cons]
    omega
/-- All that hangs on h, with all below it, by rising keys. -/
structure wkP (hs : HS) (h : Hg) (w : List I2) : Prop where
  srt : w.Pairwise (fun a b => klt (kyO hs a) (kyO hs b))
  mem : ∀ e, e ∈ w ↔ (und hs e h).isSome = true
theorem srt_nodup {hs : HS} {w : List I2} (h : w.Pairwise (fun a b => klt (kyO hs a) (kyO hs b))) : w.Nodup := by
  refine List.Pairwise.imp (fun {a b} hab => ?_) h
  intro e
  subst e
  exact klt_irr _ hab
theorem wkP.len {hs : HS} {h : Hg} {w : List I2} (k : wkP hs h w) : w.length ≤ hs.length := by
  have := nodup_len (m := idsH hs) (srt_nodup k.srt) (fun a ha => mem_idsH.2 (by
    have h1 := (k.mem a).1 ha
    by_cases g : hasI hs a
    · exact g
    · rw [und_no g] at h1; cases h1))
  unfold idsH at this
  rwa [List.length_map] at this
theorem okOn_kid {hs : HS} (ho : okH hs) {x : It} {h : Hg} (hm : (x, h) ∈ hs) (s : Bool) : okOn hs ⟨x.id, s⟩ := .inr ⟨okH_none ho ⟨_, hm, rfl⟩, _, hm, rfl⟩
theorem und_kid {hs : HS} (ho : okH hs) {x : It} {h : Hg} (hm : (x, h) ∈ hs) (e : I2) : und hs e h = some x.id ↔ ((und hs e ⟨x.id, false⟩).isSome = true ∨ e = x.id ∨ (und hs e ⟨x.id, true⟩).isSome = true) := by
  have hoo := on_ok ho hm
  have hp := pth_at ho hm
  constructor
  · intro hu
    obtain ⟨t, ht⟩ := (und_iff ho hoo _).1 hu
    have ht2 : pth hs e = pth hs x.id ++ t := by rw [ht, hp, List.append_assoc]; rfl
    cases t with
    | nil =>
      rw [List.append_nil] at ht2
      have hx : hasI hs x.id := ⟨_, hm, rfl⟩
      exact .inr (.inl (pth_inj ho (hasI_of (by rw [ht2]; exact pth_ne ho hx)) hx ht2))
    | cons b t =>
      have hb := pth_side hs e b (by rw [ht2]; simp)
      rcases hb with hb | hb
      · have := (und_iff ho (okOn_kid ho hm false) b.2).2 ⟨t, by rw [ht2, show sideN ⟨x.id, false⟩ = 0 from rfl, ← hb]⟩
        exact .inl (by rw [this]; rfl)
      · have := (und_iff ho (okOn_kid ho hm true) b.2).2 ⟨t, by rw [ht2, show sideN ⟨x.id, true⟩ = 2 from rfl, ← hb]⟩
        exact .inr (.inr (by rw [this]; rfl))
  · have key : ∀ s, (und hs e ⟨x.id, s⟩).isSome = true → und hs e h = some x.id := fun s hi => by
      obtain ⟨k, hk⟩ := Option.isSome_iff_exists.1 hi
      obtain ⟨t, ht⟩ := (und_iff ho (okOn_kid ho hm s) k).1 hk
      refine (und_iff ho hoo _).2 ⟨(sideN ⟨x.id, s⟩, k) :: t, ?_⟩
      rw [ht]
      show pth hs x.id ++ _ = _
      rw [hp, List.append_assoc]; rfl
    rintro (h1 | rfl | h1)
    · exact key _ h1
    · rw [und_at ho hm, if_pos rfl]
    · exact key _ h1
theorem kid_lt {hs : HS} (ho : okH hs) {x : It} {h : Hg} (hm : (x, h) ∈ hs) {e : I2} (hi : (und hs e ⟨x.id, false⟩).isSome = true) : klt (kyO hs e) (kyO hs x.id) := by
  obtain ⟨k, hk⟩ := Option.isSome_iff_exists.1 hi
  obtain ⟨t, ht⟩ := (und_iff ho (okOn_kid ho hm false) k).1 hk
  unfold kyO
  rw [ht, List.append_assoc]
  exact klt_app _ (Or.inl (Or.inl (show (0 : Nat) < 1 by omega)))
theorem kid_gt {hs : HS} (ho : okH hs) {x : It} {h : Hg} (hm : (x, h) ∈ hs) {e : I2} (hi : (und hs e ⟨x.id, true⟩).isSome = true) : klt (kyO hs x.id) (kyO hs e) := by
  obtain ⟨k, hk⟩ := Option.isSome_iff_exists.1 hi
  obtain ⟨t, ht⟩ := (und_iff ho (okOn_kid ho hm true) k).1 hk
  unfold kyO
  rw [ht, List.append_assoc]
  exact klt_app _ (Or.inl (Or.inl (show (1 : Nat) < 2 by omega)))
theorem kids_lt {hs : HS} (ho : okH hs) {h : Hg} (hh : okOn hs h) {e1 e2 k1 k2 : I2} (h1 : und hs e1 h = some k1) (h2 : und hs e2 h = some k2) (hl : il k1 k2) : klt (kyO hs e1) (kyO hs e2) := by
  obtain ⟨t1, g1⟩ := (und_iff ho hh k1).1 h1
  obtain ⟨t2, g2⟩ := (und_iff ho hh k2).1 h2
  unfold kyO
  rw [g1, g2, List.append_assoc, List.append_assoc]
  exact klt_app _ (Or.inl (Or.inr ⟨rfl, hl⟩))
theorem its_inj {hs : HS} (ho : okH hs) {i j : Nat} (hi : i < hs.length) (hj : j < hs.length) (hne : i ≠ j) : ((itsH hs).getD i it0).id ≠ ((itsH hs).getD j it0).id := by
  have hn := idsH_nodup ho
  have e : ∀ k, k < hs.length → ((itsH hs).getD k it0).id = (idsH hs)[hs.length - 1 - k]'(by unfold idsH; rw [List.length_map]; omega) := fun k hk => by
    unfold itsH idsH
    rw [List.getD_eq_getElem?_getD, List.getElem?_reverse (by simpa using hk), List.getElem?_map, List.length_map, List.getElem?_eq_getElem (by omega), List.getElem_map]; rfl
  rw [e i hi, e j hj]
  intro g
  have := (List.getElem_inj hn).1 g
  omega
/-- Between two rounds: those of d are done. -/
structure wkI (hs : HS) (h : Hg) (d : List Bool) (w : List I2) (n : Nat) : Prop where
  dl : d.length = hs.length
  dk : ∀ i, i < hs.length → d.getD i false = true → (hgsH hs).getD i hg0 = h
  ws : w.Pairwise (fun a b => klt (kyO hs a) (kyO hs b))
  wm : ∀ e, e ∈ w ↔ ∃ i, i < hs.length ∧ d.getD i false = true ∧ und hs e h = some ((itsH hs).getD i it0).id
  lo : ∀ i j, i < hs.length → j < hs.length → d.getD i false = true → d.getD j false = false → (hgsH hs).getD j hg0 = h → il ((itsH hs).getD i it0).id ((itsH hs).getD j it0).id
  ct : d.countP (fun b => b) = n
theorem countP_set : ∀ {d : List Bool} {b : Nat}, b < d.length → d.getD b false = false → (d.set b true).countP (fun b => b) = d.countP (fun b => b) + 1
  | [], b, hb, _ => by cases hb
  | x :: d, 0, _, hx => by
    have : x = false := by simpa using hx
    subst this
    simp
  | x :: d, b + 1, hb, hx => by
    have h1 : (d.set b true).countP (fun b => b) = d.countP (fun b => b) + 1 := countP_set (by simpa using hb) (by simpa using hx)
    rw [List.set_cons_succ, List.countP_cons, List.countP_cons, h1]
    omega
theorem set_getD {d : List Bool} {b i : Nat} (hb : b < d.length) : (d.set b true).getD i false = if i = b then true else d.getD i false := by
  rw [List.getD_eq_getElem?_getD, List.getElem?_set]
  by_cases h : i = b
  · subst h; simp [hb]
  · rw [if_neg (Ne.symm h), if_neg h, ← List.getD_eq_getElem?_getD]
theorem wkI.step {hs : HS} (ho : okH hs) {h : Hg} {d : List Bool} {w : List I2} {n : Nat} (k : wkI hs h d w n) {b : Nat} (hb : b < hs.length) (hbk : (hgsH hs).getD b hg0 = h) (hbd : d.getD b false = false)
    (hmin : ∀ j, j < hs.length → (hgsH hs).getD j hg0 = h → d.getD j false = false → ¬ il ((itsH hs).getD j it0).id ((itsH hs).getD b it0).id)
    {wl wr : List I2} (hl : wkP hs ⟨((itsH hs).getD b it0).id, false⟩ wl) (hr : wkP hs ⟨((itsH hs).getD b it0).id, true⟩ wr) :
    wkI hs h (d.set b true) (w ++ wl ++ [((itsH hs).getD b it0).id] ++ wr) (n + 1) := by
  have hm : ((itsH hs).getD b it0, h) ∈ hs := by have := its_at hb; rwa [hbk] at this
  have hoo := on_ok ho hm
  have hbl : b < d.length := by rw [k.dl]; exact hb
  have hlt : ∀ e, e ∈ w → ∀ e2, und hs e2 h = some ((itsH hs).getD b it0).id → klt (kyO hs e) (kyO hs e2) := fun e he e2 h2 => by
    obtain ⟨i, hi, hd, hu⟩ := (k.wm e).1 he
    exact kids_lt ho hoo hu h2 (k.lo i b hi hb hd hbd hbk)
  have hul : ∀ e, e ∈ wl → und hs e h = some ((itsH hs).getD b it0).id := fun e he => (und_kid ho hm e).2 (.inl ((hl.mem e).1 he))
  have hur : ∀ e, e ∈ wr → und hs e h = some ((itsH hs).getD b it0).id := fun e he => (und_kid ho hm e).2 (.inr (.inr ((hr.mem e).1 he)))
  have hub : und hs ((itsH hs).getD b it0).id h = some ((itsH hs).getD b it0).id := (und_kid ho hm _).2 (.inr (.inl rfl))
  refine ⟨by rw [List.length_set]; exact k.dl, fun i hi hd => ?_, ?_, fun e => ?_, fun i j hi hj hd1 hd2 hk2 => ?_, by rw [countP_set hbl hbd, k.ct]⟩
  · rw [set_getD hbl] at hd
    split at hd
    · rename_i e; rw [e]; exact hbk
    · exact k.dk i hi hd
  · rw [List.pairwise_append]
    refine ⟨?_, hr.srt, fun a ha c hc => ?_⟩
    · rw [List.pairwise_append]
      refine ⟨?_, List.pairwise_singleton _ _, fun a ha c hc => ?_⟩
      · rw [List.pairwise_append]
        exact ⟨k.ws, hl.srt, fun a ha c hc => hlt a ha c (hul c hc)⟩
      · rw [List.mem_singleton] at hc
        subst hc
        rcases List.mem_append.1 ha with ha | ha
        · exact hlt a ha _ hub
        · exact kid_lt ho hm ((hl.mem a).1 ha)
    · have hg := kid_gt ho hm ((hr.mem c).1 hc)
      rcases List.mem_append.1 ha with ha | ha
      · rcases List.mem_append.1 ha with ha | ha
        · exact hlt a ha c (hur c hc)
        · exact klt_tr (kid_lt ho hm ((hl.mem a).1 ha)) hg
      · rw [List.mem_singleton] at ha
        subst ha
        exact hg
  · rw [List.mem_append, List.mem_append, List.mem_append, List.mem_singleton, k.wm e, hl.mem e, hr.mem e]
    constructor
    · rintro (((⟨i, hi, hd, hu⟩ | h1) | h1) | h1)
      · refine ⟨i, hi, ?_, hu⟩
        rw [set_getD hbl]
        split
        · rfl
        · exact hd
      · exact ⟨b, hb, by rw [set_getD hbl, if_pos rfl], (und_kid ho hm e).2 (.inl h1)⟩
      · exact ⟨b, hb, by rw [set_getD hbl, if_pos rfl], (und_kid ho hm e).2 (.inr (.inl h1))⟩
      · exact ⟨b, hb, by rw [set_getD hbl, if_pos rfl], (und_kid ho hm e).2 (.inr (.inr h1))⟩
    · rintro ⟨i, hi, hd, hu⟩
      rw [set_getD hbl] at hd
      split at hd
      · rename_i e2
        subst e2
        rcases (und_kid ho hm e).1 hu with h1 | h1 | h1
        · exact .inl (.inl (.inr h1))
        · exact .inl (.inr h1)
        · exact .inr h1
      · exact .inl (.inl (.inl ⟨i, hi, hd, hu⟩))
  · rw [set_getD hbl] at hd1 hd2
    split at hd2
    · cases hd2
    · rename_i hjb
      split at hd1
      · rename_i e
        subst e
        rcases il_tri (its_inj ho hj hi hjb) with g | g
        · exact absurd g (hmin j hj hk2 hd2)
        · exact g
      · exact k.lo i j hi hj hd1 hd2 hk2
theorem wkI.done {hs : HS} (ho : okH hs) {h : Hg} {d : List Bool} {w : List I2} {n : Nat} (k : wkI hs h d w n) (hall : ∀ j, j < hs.length → (hgsH hs).getD j hg0 = h → d.getD j false = true) : wkP hs h w := by
  refine ⟨k.ws, fun e => ?_⟩
  rw [k.wm e]
  constructor
  · rintro ⟨i, _, _, hu⟩
    rw [hu]; rfl
  · intro hi
    obtain ⟨q, hq⟩ := Option.isSome_iff_exists.1 hi
    obtain ⟨x, hx, rfl, _⟩ := und_some ho _ e h q rfl hq
    obtain ⟨i, hi, e1, e2⟩ := its_ex hx
    exact ⟨i, hi, hall i hi e2, by rw [hq, e1]⟩
theorem wkI.len {hs : HS} {h : Hg} {d : List Bool} {w : List I2} {n : Nat} (k : wkI hs h d w n) : w.length ≤ hs.length := by
  have := nodup_len (m := idsH hs) (srt_nodup k.ws) (fun a ha => mem_idsH.2 (by
    obtain ⟨i, _, _, hu⟩ := (k.wm a).1 ha
    by_cases g : hasI hs a
    · exact g
    · rw [und_no g] at hu; cases hu))
  unfold idsH at this
  rwa [List.length_map] at this
theorem wkI.full {hs : HS} {h : Hg} {d : List Bool} {w : List I2} (k : wkI hs h d w hs.length) : ∀ j, j < hs.length → d.getD j false = true := fun j hj => by
  have h1 : d.countP (fun b => b) = d.length := by rw [k.ct, k.dl]
  have h2 := List.countP_eq_length.1 h1
  have hjl : j < d.length := by rw [k.dl]; exact hj
  exact h2 _ (getD_mem hjl)
theorem wkP.ord {hs : HS} (ho : okH hs) {w : List I2} (k : wkP hs rootH w) : isOrd hs w := by
  refine ⟨?_, k.srt⟩
  have key : ∀ n (y : It) (g : Hg), (pth hs y.id).length = n → (y, g) ∈ hs → (und hs y.id rootH).isSome = true := by
    intro n
    induction n with
    | zero => intro y g hn hm; exact absurd (List.eq_nil_of_length_eq_zero hn) (pth_ne ho ⟨(y, g), hm, rfl⟩)
    | succ n ih =>
      intro y g hn hm
      rw [und_at ho hm]
      split
      · rfl
      · rename_i hg
        rcases on_ok ho hm with h1 | ⟨_, ⟨z, k⟩, hz, hze⟩
        · exact absurd h1 hg
        · rw [pth_at ho hm] at hn
          simp at hn
          rw [← hze]
          exact ih z k (by rw [hze]; exact hn) hz
  refine (List.perm_ext_iff_of_nodup (srt_nodup k.srt) (idsH_nodup ho)).2 (fun a => ?_)
  rw [k.mem a, mem_idsH]
  constructor
  · intro h
    by_cases g : hasI hs a
    · exact g
    · rw [und_no g] at h; cases h
  · rintro ⟨⟨y, g⟩, hm, rfl⟩
    exact key _ y g rfl hm
end Go.Eng
/- The reference: the order of items. -/
set_option linter.unusedVariables false
set_option linter.unusedSimpArgs false
set_option maxRecDepth 100000
set_option maxHeartbeats 4000000
namespace Go.Eng
open Go Go.RowKit Go.Proofs
abbrev blR (d : List Bool) : Nat → List IC := fun k => [.v (.bool (d.getD k false))]
def rwI (hs : HS) (h : Hg) (m : Nat) (st : St) : Prop := ∃ (n : Nat) (d : List Bool) (w : List I2), m = hs.length - n ∧ n ≤ hs.length ∧ wkI hs h d w n ∧
  st = ⟨92, 0, [(0, itS (itsH hs)), (1, hgS (hgsH hs)), (5, .c (.own 0 0)), (7, .c (.row 1)), (8, .c (.row 2)), (9, vci .i64 (n : Int))], [some (.cells 141 (hgF h)), some (.row 38 2 w.length (idR w)), some (.row 4 1 hs.length (blR d))]⟩
/-- The best so far. -/
def bsP (hs : HS) (h : Hg) (d : List Bool) (q : Nat) (b : Int) : Prop := (b = -1 ∧ ∀ j, j < q → (hgsH hs).getD j hg0 = h → d.getD j false = true) ∨
  (∃ p : Nat, b = (p : Int) ∧ p < q ∧ (hgsH hs).getD p hg0 = h ∧ d.getD p false = false ∧ ∀ j, j < q → (hgsH hs).getD j hg0 = h → d.getD j false = false → ¬ il ((itsH hs).getD j it0).id ((itsH hs).getD p it0).id)
def rwQ (hs : HS) (h : Hg) (d : List Bool) (w : List I2) (n : Nat) (m : Nat) (st : St) : Prop := ∃ (q : Nat) (b : Int), m = hs.length - q ∧ q ≤ hs.length ∧ bsP hs h d q b ∧
  st = ⟨92, 0, [(0, itS (itsH hs)), (1, hgS (hgsH hs)), (5, .c (.own 0 0)), (7, .c (.row 1)), (8, .c (.row 2)), (9, vci .i64 (n : Int)), (10, vci .i64 b), (11, vci .i64 (q : Int))], [some (.cells 141 (hgF h)), some (.row 38 2 w.length (idR w)), some (.row 4 1 hs.length (blR d))]⟩
def wkC (hs : HS) (h : Hg) : Prop := CallV Try.prog 86 [itS (itsH hs), hgS (hgsH hs), hgA h] [] (fun r own' => ∃ w : List I2, wkP hs h w ∧ r = .c (.row 0) ∧ own' = [some (.row 38 2 w.length (idR w))])
theorem rwalk_step {hs : HS} (ho : okH hs) (hlen : hs.length ≤ 100000) (h : Hg) (ih : ∀ x, (x, h) ∈ hs → ∀ s, wkC hs ⟨x.id, s⟩) : wkC hs h := by
  have hil := itsH_len hs
  have hhl := hgsH_len hs
  unfold wkC
  refine callV_own Try.func86 rfl ttok ftok rfl rfl rfl (Nat.le_of_ble_eq_true rfl) rfl ?_
  conv => whnf
  have hN : ((itsH hs).length : Int).toNat = hs.length := by rw [ti_nat, hil]
  refine ⟨⟨by omega, rfl, by show ((itsH hs).length : Int) * 1 ≤ _; omega, by omega⟩, hs.length, blR (List.replicate hs.length false), hN.symm, fun k hk => ?_, ?_⟩
  · show [IC.v (.bool ((List.replicate hs.length false).getD k false))] = [IC.v (.bool false)]
    rw [List.getD_eq_getElem?_getD, List.getElem?_replicate]
    split <;> rfl
  conv => whnf
  refine loopV_cut 0 (fun st => ∃ w, wkP hs h w ∧ st = ⟨92, 0, [(7, .c (.row 0))], [some (.row 38 2 w.length (idR w))]⟩) ?_ ?_
  · refine loopV ttok ftok (rwI hs h) ((nil_row 7 38 2 (idR []) rfl).trans (norm_weak [0, 1, 5, 7, 8, 9] [some 0, some 2, some 1] rfl rfl)) ⟨0, List.replicate hs.length false, [], rfl, Nat.zero_le _, ?_, rfl⟩ ?_
    · have hd0 : ∀ i, (List.replicate hs.length false).getD i false = false := fun i => by
        rw [List.getD_eq_getElem?_getD, List.getElem?_replicate]
        split <;> rfl
      refine ⟨List.length_replicate .., fun i hi hd => ?_, List.Pairwise.nil, fun e => ⟨fun he => (by cases he), fun ⟨i, hi, hd, _⟩ => ?_⟩, fun i j hi hj hd => ?_, ?_⟩
      · rw [hd0] at hd; cases hd
      · rw [hd0] at hd; cases hd
      · rw [hd0] at hd; cases hd
      · rw [List.countP_eq_zero]
        intro a ha
        rw [List.eq_of_mem_replicate ha]
        simp
    rintro m st ⟨n, d, w, rfl, hn, hW, rfl⟩
    have e1 := e64 (k := n) (by omega)
    have hwl := hW.len
    conv => whnf
    refine onB_intro (fun g => ?_) (fun g => ?_)
    rotate_left
    · have g := of_decide_eq_false g
      obtain rfl : n = hs.length := by omega
      conv => whnf
      exact ⟨rfl, _, norm_weak [7] [some 1] rfl rfl, w, hW.done ho (fun j hj _ => hW.full j hj), rfl⟩
    have g := of_decide_eq_true g
    have hnl : n < hs.length := by omega
    conv => whnf
    refine loopV_cut 2 (fun st => ∃ b, bsP hs h d hs.length b ∧ st = ⟨92, 0, [(0, itS (itsH hs)), (1, hgS (hgsH hs)), (5, .c (.own 0 0)), (7, .c (.row 1)), (8, .c (.row 2)), (9, vci .i64 (n : Int)), (10, vci .i64 b)], [some (.cells 141 (hgF h)), some (.row 38 2 w.length (idR w)), some (.row 4 1 hs.length (blR d))]⟩) ?_ ?_
    · refine loopV ttok ftok (rwQ hs h d w n) (norm_weak [0, 1, 5, 7, 8, 9, 10, 11] [some 0, some 1, some 2] rfl rfl) ⟨0, -1, rfl, Nat.zero_le _, .inl ⟨rfl, fun j hj => by omega⟩, rfl⟩ ?_
      rintro m st ⟨q, b, rfl, hq, hb, rfl⟩
      have e2 := e64 (k := q) (by omega)
      conv => whnf
      refine onB_intro (fun g2 => ?_) (fun g2 => ?_)
      rotate_left
      · have g2 := of_decide_eq_false g2
        obtain rfl : q = hs.length := by omega
        conv => whnf
        exact ⟨rfl, _, norm_weak [0, 1, 5, 7, 8, 9, 10] [some 0, some 1, some 2] rfl rfl, b, hb, rfl⟩
      have g2 := of_decide_eq_true g2
      have hql : q < hs.length := by omega
      conv => whnf
      refine drawV_join mixed (by kernel_rfl) ttok ?_
      conv => whnf
      refine ⟨⟨by omega, by omega⟩, ?_⟩
      conv => whnf
      refine ⟨?_, ?_⟩
      · conv => whnf
        intro g1
        conv => whnf
        omega
      conv => whnf
      rw [ti_nat, hg_beq]
      refine onB_intro (fun g3 => ?_) (fun g3 => ?_)
      · have g3 : (hgsH hs).getD q hg0 = h → d.getD q false = true := fun e => by
          rw [decide_eq_true e] at g3
          simpa [pickB, isLit] using g3
        conv => whnf
        rw [e2]
        refine ⟨hs.length - (q + 1), _, by omega, norm_weak [0, 1, 5, 7, 8, 9, 10, 11] [some 0, some 1, some 2] rfl rfl, q + 1, b, rfl, by omega, ?_, rfl⟩
        rcases hb with ⟨rfl, h1⟩ | ⟨p, rfl, h1, h2, h3, h4⟩
        · refine .inl ⟨rfl, fun j hj hk => ?_⟩
          rcases Nat.lt_succ_iff_lt_or_eq.1 hj with g4 | rfl
          · exact h1 j g4 hk
          · exact g3 hk
        · refine .inr ⟨p, rfl, by omega, h2, h3, fun j hj hk hd => ?_⟩
          rcases Nat.lt_succ_iff_lt_or_eq.1 hj with g4 | rfl
          · exact h4 j g4 hk hd
          · rw [g3 hk] at hd; cases hd
      have g4 : (hgsH hs).getD q hg0 = h ∧ d.getD q false = false := by
        by_cases e : (hgsH hs).getD q hg0 = h
        · rw [decide_eq_true e] at g3
          exact ⟨e, by simpa [pickB, isLit] using g3⟩
        · rw [decide_eq_false e] at g3
          simp [pickB, isLit] at g3
      obtain ⟨hqk, hqd⟩ := g4
      rcases hb with ⟨rfl, h1⟩ | ⟨p, rfl, h1, h2, h3, h4⟩
      · conv => whnf
        refine drawV_quiet mixed (by kernel_rfl) ttok ftok ?_
        conv => whnf
        refine ⟨⟨by omega, by omega⟩, ?_⟩
        conv => whnf
        rw [ti_nat]
        refine ⟨⟨by omega, by omega⟩, ?_⟩
        conv => whnf
        (try rw [ti_nat])
        refine callQ (rbefore_c ((itsH hs).getD q it0).id ((itsH hs).getD q it0).id) rfl rfl ?_
        rw [decide_eq_false (il_irr _)]
        conv => whnf
        rw [e2]
        refine ⟨hs.length - (q + 1), _, by omega, norm_weak [0, 1, 5, 7, 8, 9, 10, 11] [some 0, some 1, some 2] rfl rfl, q + 1, (q : Int), rfl, by omega, ?_, rfl⟩
        refine .inr ⟨q, rfl, by omega, hqk, hqd, fun j hj hk hd => ?_⟩
        rcases Nat.lt_succ_iff_lt_or_eq.1 hj with g5 | rfl
        · rw [h1 j g5 hk] at hd; cases hd
        · exact il_irr _
      · conv => whnf
        refine drawV_quiet mixed (by kernel_rfl) ttok ftok ?_
        conv => whnf
        refine ⟨⟨by omega, by omega⟩, ?_⟩
        conv => whnf
        rw [ti_nat]
        refine ⟨⟨by omega, by omega⟩, ?_⟩
        conv => whnf
        rw [ti_nat]
        refine callQ (rbefore_c ((itsH hs).getD q it0).id ((itsH hs).getD p it0).id) rfl rfl ?_
        by_cases hB : il ((itsH hs).getD q it0).id ((itsH hs).getD p it0).id
        · rw [decide_eq_true hB]
          conv => whnf
          rw [e2]
          refine ⟨hs.length - (q + 1), _, by omega, norm_weak [0, 1, 5, 7, 8, 9, 10, 11] [some 0, some 1, some 2] rfl rfl, q + 1, (q : Int), rfl, by omega, ?_, rfl⟩
          refine .inr ⟨q, rfl, by omega, hqk, hqd, fun j hj hk hd => ?_⟩
          rcases Nat.lt_succ_iff_lt_or_eq.1 hj with g5 | rfl
          · exact fun g6 => h4 j g5 hk hd (il_tr g6 hB)
          · exact il_irr _
        · rw [decide_eq_false hB]
          conv => whnf
          rw [e2]
          refine ⟨hs.length - (q + 1), _, by omega, norm_weak [0, 1, 5, 7, 8, 9, 10, 11] [some 0, some 1, some 2] rfl rfl, q + 1, (p : Int), rfl, by omega, ?_, rfl⟩
          refine .inr ⟨p, rfl, by omega, h2, h3, fun j hj hk hd => ?_⟩
          rcases Nat.lt_succ_iff_lt_or_eq.1 hj with g5 | rfl
          · exact h4 j g5 hk hd
          · exact hB
    · rintro st ⟨b, hb, rfl⟩
      rcases hb with ⟨rfl, h1⟩ | ⟨p, rfl, h1, h2, h3, h4⟩
      · conv => whnf
        exact ⟨rfl, _, norm_weak [7] [some 1] rfl rfl, w, hW.done ho h1, rfl⟩
      have hm : ((itsH hs).getD p it0, h) ∈ hs := by have := its_at h1; rwa [h2] at this
      have ihl := ih _ hm false
      have ihr := ih _ hm true
      have hst := fun {wl wr} hl hr => hW.step ho h1 h2 h3 h4 (wl := wl) (wr := wr) hl hr
      have hpl : p < (itsH hs).length := by omega
      unfold wkC at ihl ihr
      conv => whnf
      refine ⟨by omega, ?_⟩
      conv => whnf
      have hdl : d.length = hs.length := hW.dl
      refine ⟨blR (d.set p true), fun j hj => ?_, ?_⟩
      · show [IC.v (.bool ((d.set p true).getD j false))] = _
        rw [set_getD (by omega), ti_nat]
        split <;> rfl
      conv => whnf
      refine ⟨by omega, ?_⟩
      conv => whnf
      rw [ti_nat]
      refine call_frame2 [] rfl rfl rfl rfl ihl ?_
      rintro r own2 ⟨wl, hwL, rfl, rfl⟩
      have hwL2 := hwL.len
      refine ⟨.c (.row 3), [some (.cells 141 (hgF h)), some (.row 38 2 w.length (idR w)), some (.row 4 1 hs.length (blR (d.set p true))), some (.row 38 2 wl.length (idR wl))], rfl, rfl, ?_⟩
      conv => whnf
      refine ⟨⟨by omega, by show (w.length + wl.length) * 8 ≤ _; omega⟩, ?_⟩
      conv => whnf
      refine app_list (enc := idF) (d := (0, 0)) (l := w) (b := wl) (fun k hk => rfl) (fun k hk => rfl) ?_
      have hl1 : (w ++ wl).length = w.length + wl.length := List.length_append ..
      conv => whnf
      refine ⟨by omega, ?_⟩
      conv => whnf
      rw [ti_nat]
      refine ⟨fun _ => idF ((itsH hs).getD p it0).id, fun j hj2 => ?_, ?_⟩
      · obtain rfl : j = 0 := by omega
        rfl
      conv => whnf
      refine ⟨⟨by omega, by show ((w ++ wl).length + 1) * 8 ≤ _; omega⟩, ?_⟩
      conv => whnf
      refine app1 (enc := idF) (d := (0, 0)) (l := w ++ wl) ((itsH hs).getD p it0).id (fun k hk => rfl) rfl ?_
      have hl2 : (w ++ wl ++ [((itsH hs).getD p it0).id]).length = w.length + wl.length + 1 := by rw [List.length_append, hl1]; rfl
      conv => whnf
      refine ⟨by omega, ?_⟩
      conv => whnf
      rw [ti_nat]
      refine call_frame2 [] rfl rfl rfl rfl ihr ?_
      rintro r own2 ⟨wr, hwR, rfl, rfl⟩
      have hwR2 := hwR.len
      refine ⟨.c (.row 7), [some (.cells 141 (hgF h)), none, some (.row 4 1 hs.length (blR (d.set p true))), some (.row 38 2 wl.length (idR wl)), none, some (.row 38 2 1 fun _ => idF ((itsH hs).getD p it0).id), some (.row 38 2 (w ++ wl ++ [((itsH hs).getD p it0).id]).length (idR (w ++ wl ++ [((itsH hs).getD p it0).id]))), some (.row 38 2 wr.length (idR wr))], rfl, rfl, ?_⟩
      conv => whnf
      refine ⟨⟨by omega, by show ((w ++ wl ++ [((itsH hs).getD p it0).id]).length + wr.length) * 8 ≤ _; omega⟩, ?_⟩
      conv => whnf
      refine app_list (enc := idF) (d := (0, 0)) (l := w ++ wl ++ [((itsH hs).getD p it0).id]) (b := wr) (fun k hk => rfl) (fun k hk => rfl) ?_
      conv => whnf
      rw [e1]
      exact ⟨hs.length - (n + 1), _, by omega, norm_weak [0, 1, 5, 7, 8, 9] [some 0, some 8, some 2] rfl rfl, n + 1, _, _, rfl, by omega, hst hwL hwR, rfl⟩
  · rintro st ⟨w, hw, rfl⟩
    conv => whnf
    refine ⟨_, Weak.refl _, ?_⟩
    conv => whnf
    exact ⟨[some 0], rfl, rfl, w, hw, rfl, rfl⟩
end Go.Eng
/- The reference: the order of items, told. -/
set_option linter.unusedVariables false
set_option linter.unusedSimpArgs false
set_option maxRecDepth 100000
set_option maxHeartbeats 4000000
namespace Go.Eng
open Go Go.RowKit Go.Proofs
theorem rwalk_all {hs : HS} (ho : okH hs) (hlen : hs.length ≤ 100000) : ∀ (n : Nat) (h : Hg), hs.length < n + (pth hs h.on).length → wkC hs h := by
  intro n
  induction n with
  | zero => intro h hn; have := pth_len hs h.on; omega
  | succ n ih =>
    intro h hn
    refine rwalk_step ho hlen h (fun x hm s => ih _ ?_)
    show hs.length < n + (pth hs x.id).length
    rw [pth_at ho hm, List.length_append, List.length_singleton]
    omega
theorem rorder_c {hs : HS} (ho : okH hs) (hb : bldH hs) (hlen : hs.length ≤ 100000) : CallV Try.prog 53 [itS (itsH hs)] [] (fun r own' => ∃ o : List I2, isOrd hs o ∧ r = .c (.row 0) ∧ own' = [some (.row 38 2 o.length (idR o))]) := by
  have hw : wkC hs rootH := rwalk_all ho hlen (hs.length + 1) rootH (by omega)
  unfold wkC at hw
  refine callV_own Try.func53 rfl ttok ftok rfl rfl rfl (Nat.le_of_ble_eq_true rfl) rfl ?_
  conv => whnf
  refine call_pure (rhangs_c ho hb hlen) rfl ?_
  rintro _ rfl
  conv => whnf
  refine call_frame2 [] rfl rfl rfl rfl hw ?_
  rintro r own2 ⟨w, hwk, rfl, rfl⟩
  refine ⟨.c (.row 0), [some (.row 38 2 w.length (idR w))], rfl, rfl, ?_⟩
  conv => whnf
  refine ⟨_, Weak.refl _, ?_⟩
  conv => whnf
  exact ⟨[some 0], rfl, rfl, w, hwk.ord ho, rfl, rfl⟩
theorem valid_c (c : Int) : CallV Try.prog 36 [vci .i32 c] [] (fun r own' => own' = [] ∧ r = vcb (vldR c)) := by
  have hv : vldR c = (decide (c ≥ 0) && decide (c ≤ 1114111) && (decide (c < 55296) || decide (c > 57343))) := by
    unfold vldR
    rw [Bool.eq_iff_iff]
    simp only [Bool.or_eq_true, Bool.and_eq_true, decide_eq_true_eq]
    omega
  rw [hv]
  refine callV_pure Try.func36 rfl ttok ftok rfl rfl rfl (Nat.le_of_ble_eq_true rfl) ?_
  conv => whnf
  cases h1 : decide (c ≥ 0) <;> cases h2 : decide (c ≤ 1114111) <;> cases h3 : decide (c < 55296) <;> cases h4 : decide (c > 57343)
  all_goals first | rfl | exact ⟨rfl, rfl⟩ | (rw [h1] ; skip)
  all_goals
    conv => whnf
    all_goals first | rfl | exact ⟨rfl, rfl⟩
instance (hs : HS) (a : I2) : Decidable (hasI hs a) := inferInstanceAs (Decidable (∃ p, p ∈ hs ∧ p.1.id = a))
/-- The document's list. -/
abbrev mOwn (hs : HS) (gs : List I2) : List (Option Ob) := [some (.cells 53 [.row 1, .row 2]), some (.row 40 7 (itsH hs).length (itR (itsH hs))), some (.row 38 2 gs.length (idR gs))]
theorem fiN_neg (hs : HS) (a : I2) : decide (fiN (itsH hs) a < 0) = !decide (hasI hs a) := by
  by_cases h : hasI hs a
  · obtain ⟨k, h1, h2, _⟩ := fiE_has h
    have : fiN (itsH hs) a = (k : Int) := by unfold fiN; rw [h1]
    rw [this, decide_eq_true h, decide_eq_false (by omega)]; rfl
  · have : fiN (itsH hs) a = -1 := by unfold fiN; rw [fiE_hasn h]
    rw [this, decide_eq_false h]; rfl
theorem fiN_ge (hs : HS) (a : I2) : decide (fiN (itsH hs) a ≥ 0) = decide (hasI hs a) := by
  have h1 := fiN_neg hs a
  have h2 : decide (fiN (itsH hs) a ≥ 0) = !decide (fiN (itsH hs) a < 0) := by
    by_cases h : fiN (itsH hs) a < 0
    · rw [decide_eq_true h, decide_eq_false (by omega)]; rfl
    · rw [decide_eq_false h, decide_eq_true (by omega)]; rfl
  rw [h2, h1, Bool.not_not]
theorem rhas_c (hs : HS) (gs : List I2) (hlen : hs.length ≤ 100000) (a : I2) : CallV Try.prog 49 [.c (.own 0 0), idA a] (mOwn hs gs) (fun r own' => own' = mOwn hs gs ∧ r = vcb (a.1 == 0 || decide (hasI hs a))) := by
  have hil := itsH_len hs
  have hge := fiN_ge hs a
  refine callV_own Try.func49 rfl ttok ftok rfl rfl rfl (Nat.le_of_ble_eq_true rfl) rfl ?_
  conv => whnf
  refine drawV_sched (.rd 0 (.rd 1 (.rd 2 (.rd 3 (.rd 4 (.rd 5 (.rd 6 (.rd 7 (.rd 8 (.ef 9 (.rd 10 (.rd 11 (.rd 12 (.nil)))))))))))))) [1] mixed (by kernel_rfl) ttok ftok ?_
  conv => whnf
  by_cases hz : a.1 = 0
  · rw [beq_iff_eq.2 hz]
    conv => whnf
    refine ⟨_, Weak.refl _, ?_⟩
    conv => whnf
    exact ⟨[some 0, some 1, some 2], rfl, rfl, rfl, rfl⟩
  rw [beq_eq_false_iff_ne.2 hz]
  conv => whnf
  have hf := rfind_c (itsH hs) (by omega) a
  refine (callV_lendS 1 rfl (fun j hj => rfl) hf rfl (fun r hr => by subst hr; rfl)).mono ?_
  rintro r own2 ⟨rfl, rfl⟩
  conv => whnf
  rw [hge]
  refine ⟨_, Weak.refl _, ?_⟩
  conv => whnf
  exact ⟨[some 0, some 1, some 2], rfl, rfl, rfl, rfl⟩
theorem ritem_c (hs : HS) (gs : List I2) (hlen : hs.length ≤ 100000) (a : I2) : CallV Try.prog 51 [.c (.own 0 0), idA a] (mOwn hs gs) (fun r own' => own' = mOwn hs gs ∧
    r = if hasI hs a then .tup [.agg (itF ((itsH hs).getD (fiN (itsH hs) a).toNat it0)), vcb true] else .tup [.agg (itF it0), vcb false]) := by
  have hil := itsH_len hs
  have hneg := fiN_neg hs a
  refine callV_own Try.func51 rfl ttok ftok rfl rfl rfl (Nat.le_of_ble_eq_true rfl) rfl ?_
  conv => whnf
  refine drawV_sched (.rd 0 (.rd 1 (.rd 2 (.rd 3 (.rd 4 (.ef 5 (.rd 6 (.nil)))))))) [1] mixed (by kernel_rfl) ttok ftok ?_
  conv => whnf
  have hf := rfind_c (itsH hs) (by omega) a
  refine (callV_lendS 1 rfl (fun j hj => rfl) hf rfl (fun r hr => by subst hr; rfl)).mono ?_
  rintro r own2 ⟨rfl, rfl⟩
  conv => whnf
  rw [hneg]
  by_cases h : hasI hs a
  · obtain ⟨k, h1, h2, _⟩ := fiE_has h
    have hk : fiN (itsH hs) a = (k : Int) := by unfold fiN; rw [h1]
    rw [decide_eq_true h, if_pos h, hk]
    conv => whnf
    refine ⟨by omega, ?_⟩
    conv => whnf
    refine ⟨_, Weak.refl _, ?_⟩
    conv => whnf
    exact ⟨[some 0, some 1, some 2], rfl, rfl, rfl, rfl⟩
  · rw [decide_eq_false h, if_neg h]
    conv => whnf
    refine ⟨_, Weak.refl _, ?_⟩
    conv => whnf
    exact ⟨[some 0, some 1, some 2], rfl, rfl, rfl, rfl⟩
theorem rdel_c (hs : HS) (gs : List I2) (hlen : hs.length ≤ 100000) (hgl : gs.length ≤ 100000) (a : I2) : CallV Try.prog 17 [.c (.own 0 0), idA a] (mOwn hs gs) (fun r own' =>
    (hasI hs a ∧ own' = [some (.cells 53 [.row 1, .row 3]), some (.row 40 7 (itsH hs).length (itR (itsH hs))), none, some (.row 38 2 (gs ++ [a]).length (idR (gs ++ [a])))] ∧ r = vcb true) ∨ (¬ hasI hs a ∧ own' = mOwn hs gs ∧ r = vcb false)) := by
  have hil := itsH_len hs
  have hneg := fiN_neg hs a
  refine callV_own Try.func17 rfl ttok ftok rfl rfl rfl (Nat.le_of_ble_eq_true rfl) rfl ?_
  conv => whnf
  refine drawV_sched (.rd 0 (.rd 1 (.rd 2 (.rd 3 (.rd 4 (.ef 5 (.rd 6 (.nil)))))))) [1] mixed (by kernel_rfl) ttok ftok ?_
  conv => whnf
  have hf := rfind_c (itsH hs) (by omega) a
  refine (callV_lendS 1 rfl (fun j hj => rfl) hf rfl (fun r hr => by subst hr; rfl)).mono ?_
  rintro r own2 ⟨rfl, rfl⟩
  conv => whnf
  rw [hneg]
  by_cases h : hasI hs a
  · rw [decide_eq_true h]
    conv => whnf
    refine drawV_loud 8 [0, 1, 2, 3, 4, 5] [6, 7] [2, 4] mixed (by kernel_rfl) ttok ftok ?_
    conv => whnf
    refine ⟨fun _ => idF a, fun j hj2 => ?_, ?_⟩
    · obtain rfl : j = 0 := by omega
      rfl
    conv => whnf
    refine ⟨⟨by omega, by show (List.length gs + 1) * 8 ≤ _; omega⟩, ?_⟩
    conv => whnf
    refine app1 (enc := idF) (d := (0, 0)) (l := gs) a (fun k hk => rfl) rfl ?_
    conv => whnf
    refine ⟨rfl, ?_⟩
    conv => whnf
    refine ⟨_, Weak.refl _, ?_⟩
    conv => whnf
    exact ⟨[some 0, some 1, none, some 5], rfl, rfl, .inl ⟨h, rfl, rfl⟩⟩
  · rw [decide_eq_false h]
    conv => whnf
    refine ⟨_, Weak.refl _, ?_⟩
    conv => whnf
    exact ⟨[some 0, some 1, some 2], rfl, rfl, .inr ⟨h, rfl, rfl⟩⟩
theorem radd_c (hs : HS) (gs : List I2) (hlen : hs.length ≤ 100000) (hgl : gs.length ≤ 100000) (x : It) (gone : Bool) : CallV Try.prog 18 [.c (.own 0 0), .agg (itF x), vcb gone] (mOwn hs gs) (fun r own' =>
    (okA hs x ∧ r = vcb true ∧ own' = if gone = true then [some (.cells 53 [.row 3, .row 4]), none, none, some (.row 40 7 (itsH hs ++ [x]).length (itR (itsH hs ++ [x]))), some (.row 38 2 (gs ++ [x.id]).length (idR (gs ++ [x.id])))]
      else [some (.cells 53 [.row 3, .row 2]), none, some (.row 38 2 gs.length (idR gs)), some (.row 40 7 (itsH hs ++ [x]).length (itR (itsH hs ++ [x])))]) ∨ (¬ okA hs x ∧ own' = mOwn hs gs ∧ r = vcb false)) := by
  have hil := itsH_len hs
  have h1 := rhas_c hs gs hlen x.id
  have h2 := rhas_c hs gs hlen x.left
  have h3 := rhas_c hs gs hlen x.right
  have k1 : (x.id.1 == 0 || decide (hasI hs x.id)) = true ↔ (x.id.1 = 0 ∨ hasI hs x.id) := by rw [Bool.or_eq_true, beq_iff_eq, decide_eq_true_iff]
  have k2 : (x.left.1 == 0 || decide (hasI hs x.left)) = true ↔ (x.left.1 = 0 ∨ hasI hs x.left) := by rw [Bool.or_eq_true, beq_iff_eq, decide_eq_true_iff]
  have k3 : (x.right.1 == 0 || decide (hasI hs x.right)) = true ↔ (x.right.1 = 0 ∨ hasI hs x.right) := by rw [Bool.or_eq_true, beq_iff_eq, decide_eq_true_iff]
  generalize (x.id.1 == 0 || decide (hasI hs x.id)) = b1 at h1 k1
  generalize (x.left.1 == 0 || decide (hasI hs x.left)) = b2 at h2 k2
  generalize (x.right.1 == 0 || decide (hasI hs x.right)) = b3 at h3 k3
  refine callV_own Try.func18 rfl ttok ftok rfl rfl rfl (Nat.le_of_ble_eq_true rfl) rfl ?_
  conv => whnf
  refine call_frame2 [some 0, some 1, some 2] rfl rfl rfl rfl h1 ?_
  rintro r own2 ⟨rfl, rfl⟩
  refine ⟨vcb b1, [some (.cells 53 [.row 1, .row 2]), some (.row 40 7 (itsH hs).length (itR (itsH hs))), some (.row 38 2 gs.length (idR gs)), some (.cells 40 (itF x))], rfl, rfl, ?_⟩
  conv => whnf
  refine call_frame2 [some 0, some 1, some 2] rfl rfl rfl rfl h2 ?_
  rintro r own2 ⟨rfl, rfl⟩
  refine ⟨vcb b2, [some (.cells 53 [.row 1, .row 2]), some (.row 40 7 (itsH hs).length (itR (itsH hs))), some (.row 38 2 gs.length (idR gs)), some (.cells 40 (itF x))], rfl, rfl, ?_⟩
  conv => whnf
  refine call_frame2 [some 0, some 1, some 2] rfl rfl rfl rfl h3 ?_
  rintro r own2 ⟨rfl, rfl⟩
  refine ⟨vcb b3, [some (.cells 53 [.row 1, .row 2]), some (.row 40 7 (itsH hs).length (itR (itsH hs))), some (.row 38 2 gs.length (idR gs)), some (.cells 40 (itF x))], rfl, rfl, ?_⟩
  conv => whnf
  refine call_pure (valid_c x.ch) rfl ?_
  rintro _ rfl
  by_cases hok : okA hs x
  · have e1 : b1 = false := by
      rw [Bool.eq_false_iff]
      intro g
      rcases k1.1 g with g | g
      · exact hok.nz g
      · exact hok.new g
    have e2 : b2 = true := k2.2 hok.left.symm
    have e3 : b3 = true := k3.2 hok.right.symm
    rw [e1, e2, e3, hok.ch]
    conv => whnf
    refine drawV_loud 8 [0, 1, 2, 3, 4, 5] [6, 7] [1, 4] mixed (by kernel_rfl) ttok ftok ?_
    conv => whnf
    refine ⟨fun _ => itF x, fun j hj2 => ?_, ?_⟩
    · obtain rfl : j = 0 := by omega
      rfl
    conv => whnf
    refine ⟨⟨by omega, by show (List.length (itsH hs) + 1) * 28 ≤ _; omega⟩, ?_⟩
    conv => whnf
    refine app1 (enc := itF) (d := it0) (l := (itsH hs)) x (fun k hk => rfl) rfl ?_
    conv => whnf
    refine ⟨rfl, ?_⟩
    cases gone with
    | false =>
      conv => whnf
      refine ⟨_, Weak.refl _, ?_⟩
      conv => whnf
      exact ⟨[some 0, none, some 2, some 5], rfl, rfl, .inl ⟨hok, rfl, rfl⟩⟩
    | true =>
      conv => whnf
      refine drawV_loud 9 [0, 1, 2, 3, 4, 5, 6] [7, 8] [2, 6] mixed (by kernel_rfl) ttok ftok ?_
      conv => whnf
      refine ⟨fun _ => idF x.id, fun j hj2 => ?_, ?_⟩
      · obtain rfl : j = 0 := by omega
        rfl
      conv => whnf
      refine ⟨⟨by omega, by show (List.length gs + 1) * 8 ≤ _; omega⟩, ?_⟩
      conv => whnf
      refine app1 (enc := idF) (d := (0, 0)) (l := gs) x.id (fun k hk => rfl) rfl ?_
      conv => whnf
      refine ⟨rfl, ?_⟩
      conv => whnf
      refine ⟨_, Weak.refl _, ?_⟩
      conv => whnf
      exact ⟨[some 0, none, none, some 5, some 7], rfl, rfl, .inl ⟨hok, rfl, rfl⟩⟩
  · have hno : b1 = true ∨ b2 = false ∨ b3 = false ∨ vldR x.ch = false := by
      cases b1 <;> cases b2 <;> cases b3 <;> cases hch : vldR x.ch <;> simp
      refine hok ⟨fun g => ?_, fun g => ?_, (k2.1 rfl).symm, (k3.1 rfl).symm, hch⟩
      · have := k1.2 (.inr g); cases this
      · have := k1.2 (.inl g); cases this
    generalize vldR x.ch = b4 at hno
    cases b1 <;> cases b2 <;> cases b3 <;> cases b4 <;> simp at hno
    all_goals
      conv => whnf
      refine ⟨_, Weak.refl _, ?_⟩
      conv => whnf
      exact ⟨[some 0, some 1, some 2], rfl, rfl, .inr ⟨hok, rfl, rfl⟩⟩
end Go.Eng
/- The reference: the entries of a list. -/
set_option linter.unusedVariables false
set_option linter.unusedSimpArgs false
set_option maxRecDepth 100000
set_option maxHeartbeats 4000000
namespace Go.Eng
open Go Go.RowKit Go.Proofs
def Gof (gs : List I2) : I2 → Bool := fun a => decide (a ∈ gs)
theorem rorder_l {hs : HS} (ho : okH hs) (hb : bldH hs) (hlen : hs.length ≤ 100000) : CallV Try.prog 53 [itS (itsH hs)] [] (fun r own' => ∃ n g2, r = .c (.row 0) ∧ own' = [some (.row 38 2 n g2)] ∧ (∀ k, k < n → (g2 k).all scalC = true) ∧ ∃ o : List I2, isOrd hs o ∧ n = o.length ∧ g2 = idR o) :=
  (rorder_c ho hb hlen).mono (fun r own' ⟨o, h1, h2, h3⟩ => ⟨_, _, h2, h3, fun k hk => rfl, o, h1, rfl, rfl⟩)
abbrev entL (hs : HS) (gs : List I2) (o : List I2) : List En := o.map (enOf hs (Gof gs))
def reI (hs : HS) (gs : List I2) (o : List I2) (n : Nat) (st : St) : Prop := ∃ k : Nat, n = o.length - k ∧ k ≤ o.length ∧
  st = ⟨69, 3, [(0, .c (.own 0 0)), (3, .c (.row 3)), (4, .c (.row 4)), (5, vci .i64 (k : Int))], mOwn hs gs ++ [some (.row 38 2 o.length (idR o)), some (.row 93 4 (entL hs gs (o.take k)).length (enR (entL hs gs (o.take k))))]⟩
theorem chOf_mem : ∀ {hs : HS} {x : It} {h : Hg}, okH hs → (x, h) ∈ hs → chOf hs x.id = x.ch
  | (y, g) :: r, x, h, ho, hm => by
    rcases List.mem_cons.1 hm with e | hm
    · cases e; exact chOf_new
    · rw [chOf_cons (fun e => ho.2.2.1 _ hm e.symm)]
      exact chOf_mem ho.1 hm
theorem Gof_snoc {gs : List I2} {j : Nat} (hj : j < gs.length) (a : I2) : Gof (gs.take (j + 1)) a = (Gof (gs.take j) a || decide (gs.getD j (0, 0) = a)) := by
  have e : gs.take (j + 1) = gs.take j ++ [gs.getD j (0, 0)] := by
    rw [List.getD_eq_getElem?_getD, List.getElem?_eq_getElem hj]
    exact (List.take_append_getElem hj).symm
  unfold Gof
  rw [e, Bool.eq_iff_iff, Bool.or_eq_true, decide_eq_true_iff, decide_eq_true_iff, decide_eq_true_iff, List.mem_append, List.mem_singleton]
  exact ⟨fun h => h.imp id Eq.symm, fun h => h.imp id Eq.symm⟩
theorem entL_snoc (hs : HS) (gs o : List I2) {k : Nat} (hk : k < o.length) : entL hs gs (o.take (k + 1)) = entL hs gs (o.take k) ++ [enOf hs (Gof gs) (o.getD k (0, 0))] := by
  have e : o.take (k + 1) = o.take k ++ [o.getD k (0, 0)] := by
    rw [List.getD_eq_getElem?_getD, List.getElem?_eq_getElem hk]
    exact (List.take_append_getElem hk).symm
  unfold entL
  rw [e, List.map_append, List.map_singleton]
abbrev reO (hs : HS) (gs o : List I2) (k : Nat) : List (Option Ob) := mOwn hs gs ++ [some (.row 38 2 o.length (idR o)), some (.row 93 4 (entL hs gs (o.take k)).length (enR (entL hs gs (o.take k))))]
def reQ (hs : HS) (gs : List I2) (o : List I2) (k : Nat) (n : Nat) (st : St) : Prop := ∃ j : Nat, n = gs.length - j ∧ j ≤ gs.length ∧
  st = ⟨69, 3, [(0, .c (.own 0 0)), (3, .c (.row 3)), (4, .c (.row 4)), (5, vci .i64 (k : Int)), (6, .c (.own 5 0)), (7, vci .i64 (j : Int))], reO hs gs o k ++ [some (.cells 93 (enF ⟨o.getD k (0, 0), chOf hs (o.getD k (0, 0)), Gof (gs.take j) (o.getD k (0, 0))⟩))]⟩
theorem rentries_c {hs : HS} (ho : okH hs) (hb : bldH hs) (gs : List I2) (hlen : hs.length ≤ 100000) (hgl : gs.length ≤ 100000) : CallV Try.prog 21 [.c (.own 0 0)] (mOwn hs gs) (fun r own' => ∃ o, isOrd hs o ∧ r = .c (.row 3) ∧ own' = mOwn hs gs ++ [some (.row 93 4 (entL hs gs o).length (enR (entL hs gs o)))]) := by
  have hil := itsH_len hs
  refine callV_own Try.func21 rfl ttok ftok rfl rfl rfl (Nat.le_of_ble_eq_true rfl) rfl ?_
  conv => whnf
  refine (callV_lendR 1 rfl (fun j hj => rfl) (rorder_l ho hb hlen) rfl).mono ?_
  rintro r own2 ⟨_, _, rfl, rfl, o, hO, rfl, rfl⟩
  have hol := hO.length
  conv => whnf
  refine loopV ttok ftok (reI hs gs o) ((nil_row 4 93 4 (enR []) rfl).trans (norm_weak [0, 3, 4, 5] [some 0, some 1, some 2, some 3, some 4] rfl rfl)) ⟨0, rfl, Nat.zero_le _, rfl⟩ ?_
  rintro n st ⟨k, rfl, hk, rfl⟩
  have e1 := e64 (k := k) (by omega)
  have hel : (entL hs gs (o.take k)).length = k := by unfold entL; rw [List.length_map, List.length_take]; omega
  conv => whnf
  refine onB_intro (fun g => ?_) (fun g => ?_)
  · have g := of_decide_eq_true g
    have hkl : k < o.length := by omega
    have hin : hasI hs (o.getD k (0, 0)) := hO.has.1 (getD_mem hkl)
    obtain ⟨p, hp1, hp2, hp3, hp4⟩ := fiE_has hin
    have hfp : fiN (itsH hs) (o.getD k (0, 0)) = (p : Int) := by unfold fiN; rw [hp1]
    have hch : chOf hs (o.getD k (0, 0)) = ((itsH hs).getD p it0).ch := by rw [← hp3]; exact chOf_mem ho hp4
    conv => whnf
    have hfind := rfind_c (itsH hs) (by omega) (o.getD k (0, 0))
    have hpl : p < (itsH hs).length := by omega
    refine drawV_at ⟨69, 3, [(0, .c (.own 0 0)), (3, .c (.row 3)), (4, .c (.row 4)), (5, vci .i64 (k : Int)), (6, .c (.own 5 0))], reO hs gs o k ++ [some (.cells 93 (enF ⟨o.getD k (0, 0), ((itsH hs).getD p it0).ch, false⟩))]⟩ ?_ ?_
    · refine drawV_ords 22 6 [0, 1, 2, 3, 4, 5, 6, 7, 8, 9, 10, 11, 12, 13, 14, 15] [[16, 17, 18, 19, 20, 21], [16, 17, 18, 19, 21, 20], [16, 17, 18, 21, 19, 20], [16, 17, 21, 18, 19, 20], [16, 21, 17, 18, 19, 20], [21, 16, 17, 18, 19, 20]] [1, 5] mixed (by kernel_rfl) ttok ftok ?_
      conv => whnf
      refine ⟨by omega, ?_⟩
      conv => whnf
      rw [ti_nat]
      refine ⟨by omega, ?_⟩
      conv => whnf
      repeat' first
        | exact True.intro
        | rfl
        | (refine (callV_lendS 1 rfl (fun j hj => rfl) hfind rfl (fun r hr => by subst hr; rfl)).mono ?_; rintro r own2 ⟨rfl, rfl⟩; rw [hfp]; conv => whnf)
        | (refine ⟨⟨by omega, by omega⟩, ?_⟩; conv => whnf)
        | (rw [ti_nat]; exact norm_weak [0, 3, 4, 5, 6] [some 0, some 1, some 2, some 3, some 4, some 5] rfl rfl)
        | (refine ⟨?_, ?_⟩ <;> (conv => whnf))
    · rw [← hch]
      conv => whnf
      refine loopV_cut 2 (fun st => st = ⟨69, 3, [(0, .c (.own 0 0)), (3, .c (.row 3)), (4, .c (.row 4)), (5, vci .i64 (k : Int)), (6, .c (.own 5 0))], reO hs gs o k ++ [some (.cells 93 (enF (enOf hs (Gof gs) (o.getD k (0, 0)))))]⟩) ?_ ?_
      · refine loopV ttok ftok (reQ hs gs o k) (norm_weak [0, 3, 4, 5, 6, 7] [some 0, some 1, some 2, some 3, some 4, some 5] rfl rfl) ⟨0, rfl, Nat.zero_le _, by rw [show Gof (gs.take 0) (o.getD k (0, 0)) = false from by unfold Gof; simp]; rfl⟩ ?_
        rintro m st ⟨j, rfl, hj, rfl⟩
        have e2 := e64 (k := j) (by omega)
        conv => whnf
        refine onB_intro (fun g2 => ?_) (fun g2 => ?_)
        · have g2 := of_decide_eq_true g2
          have hjl : j < gs.length := by omega
          have hsn := Gof_snoc hjl (o.getD k (0, 0))
          generalize Gof (gs.take j) (o.getD k (0, 0)) = b at hsn
          conv => whnf
          cases b with
          | true =>
            rw [Bool.true_or] at hsn
            refine drawV_mix 14 mixed (by kernel_rfl) ttok ftok ?_
            conv => whnf
            rw [e2, ← hsn]
            exact ⟨gs.length - (j + 1), _, by omega, norm_weak [0, 3, 4, 5, 6, 7] [some 0, some 1, some 2, some 3, some 4, some 5] rfl rfl, j + 1, rfl, by omega, rfl⟩
          | false =>
            rw [Bool.false_or] at hsn
            refine drawV_mix 14 mixed (by kernel_rfl) ttok ftok ?_
            conv => whnf
            refine ⟨by omega, ?_⟩
            conv => whnf
            rw [ti_nat]
            rw [show ((gs.getD j (0, 0)).1 == (o.getD k (0, 0)).1 && ((gs.getD j (0, 0)).2 == (o.getD k (0, 0)).2 && true)) = decide (gs.getD j (0, 0) = o.getD k (0, 0)) from by
              rw [Bool.eq_iff_iff, decide_eq_true_iff, Bool.and_true, Bool.and_eq_true, beq_iff_eq, beq_iff_eq]
              exact ⟨fun e => Prod.ext e.1 e.2, fun e => by rw [e]; exact ⟨rfl, rfl⟩⟩]
            rw [e2, ← hsn]
            exact ⟨gs.length - (j + 1), _, by omega, norm_weak [0, 3, 4, 5, 6, 7] [some 0, some 1, some 2, some 3, some 4, some 5] rfl rfl, j + 1, rfl, by omega, rfl⟩
        · have g2 := of_decide_eq_false g2
          obtain rfl : j = gs.length := by omega
          rw [List.take_length]
          conv => whnf
          exact ⟨rfl, _, norm_weak [0, 3, 4, 5, 6] [some 0, some 1, some 2, some 3, some 4, some 5] rfl rfl, rfl⟩
      · rintro st rfl
        have hsn := entL_snoc hs gs o hkl
        conv => whnf
        refine ⟨fun _ => enF (enOf hs (Gof gs) (o.getD k (0, 0))), fun j hj2 => ?_, ?_⟩
        · obtain rfl : j = 0 := by omega
          rfl
        conv => whnf
        refine ⟨⟨by omega, by show (List.length (entL hs gs (o.take k)) + 1) * 16 ≤ _; omega⟩, ?_⟩
        conv => whnf
        refine app1 (enc := enF) (d := en0) (l := (entL hs gs (o.take k))) (enOf hs (Gof gs) (o.getD k (0, 0))) (fun k hk => rfl) rfl ?_
        conv => whnf
        rw [e1, ← hsn]
        exact ⟨o.length - (k + 1), _, by omega, norm_weak [0, 3, 4, 5] [some 0, some 1, some 2, some 3, some 7] rfl rfl, k + 1, rfl, by omega, rfl⟩
  · have g := of_decide_eq_false g
    have : k = o.length := by omega
    subst this
    rw [List.take_length]
    conv => whnf
    refine ⟨_, Weak.refl _, ?_⟩
    conv => whnf
    exact ⟨[some 0, some 1, some 2, some 4], rfl, rfl, o, hO, rfl, rfl⟩
end Go.Eng
