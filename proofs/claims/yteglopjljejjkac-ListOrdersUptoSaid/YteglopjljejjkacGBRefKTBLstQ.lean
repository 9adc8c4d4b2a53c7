/- A part of the proof: what the functions of the program come to, told by a small reckoner of states. -/
import Derived.Test.YteglopjljejjkacGBLstCTBRefJ
/- The reference: are items known? -/
set_option linter.unusedVariables false
set_option linter.unusedSimpArgs false
set_option maxRecDepth 100000
set_option maxHeartbeats 4000000
namespace Go.Eng
open Go Go.RowKit Go.Proofs
theorem fiN_lt0 (l : List It) (a : I2) : decide (fiN l a < 0) = (fiE l a).isNone := by
  unfold fiN
  cases fiE l a with
  | none => rfl
  | some k => show decide ((k : Int) < 0) = false; rw [decide_eq_false (by omega)]
theorem fiN_ge0 (l : List It) (a : I2) : decide (fiN l a ≥ 0) = (fiE l a).isSome := by
  unfold fiN
  cases fiE l a with
  | none => rfl
  | some k => show decide ((k : Int) ≥ 0) = true; rw [decide_eq_true (by omega)]
/-- May an item come behind these? -/
structure knA (l : List It) (x : It) : Prop where
  nz : x.id.1 ≠ 0
  new : (fiE l x.id).isSome = false
  left : x.left.1 = 0 ∨ (fiE l x.left).isNone = false
  right : x.right.1 = 0 ∨ (fiE l x.right).isNone = false
def knP (l : List It) : Prop := ∀ i, i < l.length → knA (l.take i) (l.getD i it0)
def rkI (l : List It) (n : Nat) (st : St) : Prop := ∃ k : Nat, n = l.length - k ∧ k ≤ l.length ∧ (∀ i, i < k → knA (l.take i) (l.getD i it0)) ∧ st = ⟨58, 0, [(0, itS l), (3, vci .i64 (k : Int))], []⟩
theorem rknown_c (l : List It) (hl : l.length ≤ 10000000) : CallV Try.prog 37 [itS l] [] (fun r own' => own' = [] ∧ ∃ b : Bool, (b = true ↔ knP l) ∧ r = vcb b) := by
  refine callV_pure Try.func37 rfl ttok ftok rfl rfl rfl (Nat.le_of_ble_eq_true rfl) ?_
  conv => whnf
  refine loopV ttok ftok (rkI l) (env_weak [0, 3] rfl) ⟨0, rfl, Nat.zero_le _, fun i hi => by omega, rfl⟩ ?_
  rintro n st ⟨k, rfl, hk, hP, rfl⟩
  have e1 := e64 (k := k) (by omega)
  conv => whnf
  refine onB_intro (fun g => ?_) (fun g => ?_)
  · have g := of_decide_eq_true g
    have hkl : k < l.length := by omega
    have htl : (l.take k).length = k := by rw [List.length_take]; omega
    have hbad : ¬ knA (l.take k) (l.getD k it0) → (false = true ↔ knP l) := fun h => ⟨fun e => (by cases e), fun h2 => absurd (h2 k hkl) h⟩
    have hA := fiN_ge0 (l.take k) (l.getD k it0).id
    have hB := fiN_lt0 (l.take k) (l.getD k it0).left
    have hC := fiN_lt0 (l.take k) (l.getD k it0).right
    conv => whnf
    refine ⟨by omega, ?_⟩
    conv => whnf
    rw [ti_nat]
    generalize hx : l.getD k it0 = x at hA hB hC hbad
    refine drawV_quiet mixed (by kernel_rfl) ttok ftok ?_
    conv => whnf
    by_cases hz : x.id.1 = 0
    · rw [beq_iff_eq.2 hz]
      conv => whnf
      exact ⟨_, hbad (fun h => h.nz hz), rfl⟩
    rw [beq_eq_false_iff_ne.2 hz]
    conv => whnf
    rw [ti_nat]
    refine ⟨by omega, (l.take k).length, itR (l.take k), by omega, fun q hq => ?_, ?_⟩
    · show itF ((l.take k).getD q it0) = itF (l.getD (0 + q) it0)
      rw [Nat.zero_add, getD_take _ _ _ _ (by omega)]
    conv => whnf
    refine callQ (rfind_c (l.take k) (by omega) x.id) rfl rfl ?_
    conv => whnf
    rw [hA]
    cases h1 : (fiE (l.take k) x.id).isSome with
    | true =>
      conv => whnf
      exact ⟨_, hbad (fun h => by rw [h.new] at h1; cases h1), rfl⟩
    | false =>
    by_cases hzl : x.left.1 = 0
    · conv => whnf
      rw [show (x.left.1 != 0) = false from by rw [hzl]; rfl]
      conv => whnf
      have hleft : x.left.1 = 0 ∨ (fiE (l.take k) x.left).isNone = false := .inl hzl
      by_cases hzr : x.right.1 = 0
      · rw [show (x.right.1 != 0) = false from by rw [hzr]; rfl]
        conv => whnf
        rw [e1]
        refine ⟨l.length - (k + 1), _, by omega, norm_weak [0, 3] [] rfl rfl, k + 1, rfl, by omega, fun i hi => ?_, rfl⟩
        rcases Nat.lt_succ_iff_lt_or_eq.1 hi with h | rfl
        · exact hP i h
        · rw [hx]; exact ⟨hz, h1, hleft, .inl hzr⟩
      · rw [show (x.right.1 != 0) = true from bne_iff_ne.2 hzr]
        conv => whnf
        rw [ti_nat]
        refine ⟨by omega, (l.take k).length, itR (l.take k), by omega, fun q hq => ?_, ?_⟩
        · show itF ((l.take k).getD q it0) = itF (l.getD (0 + q) it0)
          rw [Nat.zero_add, getD_take _ _ _ _ (by omega)]
        conv => whnf
        refine callQ (rfind_c (l.take k) (by omega) x.right) rfl rfl ?_
        conv => whnf
        rw [hC]
        cases h3 : (fiE (l.take k) x.right).isNone with
        | true =>
          conv => whnf
          exact ⟨_, hbad (fun h => by rcases h.right with h | h; exact hzr h; rw [h] at h3; cases h3), rfl⟩
        | false =>
          conv => whnf
          rw [e1]
          refine ⟨l.length - (k + 1), _, by omega, norm_weak [0, 3] [] rfl rfl, k + 1, rfl, by omega, fun i hi => ?_, rfl⟩
          rcases Nat.lt_succ_iff_lt_or_eq.1 hi with h | rfl
          · exact hP i h
          · rw [hx]; exact ⟨hz, h1, hleft, .inr h3⟩
    · conv => whnf
      rw [show (x.left.1 != 0) = true from bne_iff_ne.2 hzl]
      conv => whnf
      rw [ti_nat]
      refine ⟨by omega, (l.take k).length, itR (l.take k), by omega, fun q hq => ?_, ?_⟩
      · show itF ((l.take k).getD q it0) = itF (l.getD (0 + q) it0)
        rw [Nat.zero_add, getD_take _ _ _ _ (by omega)]
      conv => whnf
      refine callQ (rfind_c (l.take k) (by omega) x.left) rfl rfl ?_
      conv => whnf
      rw [hB]
      cases h2 : (fiE (l.take k) x.left).isNone with
      | true =>
        conv => whnf
        exact ⟨_, hbad (fun h => by rcases h.left with h | h; exact hzl h; rw [h] at h2; cases h2), rfl⟩
      | false =>
        conv => whnf
        have hleft : x.left.1 = 0 ∨ (fiE (l.take k) x.left).isNone = false := .inr h2
        by_cases hzr : x.right.1 = 0
        · rw [show (x.right.1 != 0) = false from by rw [hzr]; rfl]
          conv => whnf
          rw [e1]
          refine ⟨l.length - (k + 1), _, by omega, norm_weak [0, 3] [] rfl rfl, k + 1, rfl, by omega, fun i hi => ?_, rfl⟩
          rcases Nat.lt_succ_iff_lt_or_eq.1 hi with h | rfl
          · exact hP i h
          · rw [hx]; exact ⟨hz, h1, hleft, .inl hzr⟩
        · rw [show (x.right.1 != 0) = true from bne_iff_ne.2 hzr]
          conv => whnf
          rw [ti_nat]
          refine ⟨by omega, (l.take k).length, itR (l.take k), by omega, fun q hq => ?_, ?_⟩
          · show itF ((l.take k).getD q it0) = itF (l.getD (0 + q) it0)
            rw [Nat.zero_add, getD_take _ _ _ _ (by omega)]
          conv => whnf
          refine callQ (rfind_c (l.take k) (by omega) x.right) rfl rfl ?_
          conv => whnf
          rw [hC]
          cases h3 : (fiE (l.take k) x.right).isNone with
          | true =>
            conv => whnf
            exact ⟨_, hbad (fun h => by rcases h.right with h | h; exact hzr h; rw [h] at h3; cases h3), rfl⟩
          | false =>
            conv => whnf
            rw [e1]
            refine ⟨l.length - (k + 1), _, by omega, norm_weak [0, 3] [] rfl rfl, k + 1, rfl, by omega, fun i hi => ?_, rfl⟩
            rcases Nat.lt_succ_iff_lt_or_eq.1 hi with h | rfl
            · exact hP i h
            · rw [hx]; exact ⟨hz, h1, hleft, .inr h3⟩
  · have g := of_decide_eq_false g
    have : k = l.length := by omega
    subst this
    conv => whnf
    exact ⟨_, ⟨fun _ => hP, fun _ => rfl⟩, rfl⟩
end Go.Eng
/- Items as known ones. -/
set_option linter.unusedVariables false
set_option linter.unusedSimpArgs false
set_option maxRecDepth 100000
set_option maxHeartbeats 4000000
namespace Go.Eng
open Go Go.RowKit Go.Proofs
def k0I (l : List It) (n : Nat) (st : St) : Prop := ∃ (k : Nat) (out : List It), n = l.length - k ∧ k ≤ l.length ∧ out.length ≤ k ∧ knP out ∧ (∀ x, x ∈ out → vldR x.ch = true) ∧ st = ⟨37, 0, [(0, itS l), (3, itS out), (4, vci .i64 (k : Int))], []⟩
theorem known0_c (l : List It) (hl : l.length ≤ 2000000) : CallV Try.prog 9 [itS l] [] (fun r own' => own' = [] ∧ ∃ out : List It, out.length ≤ l.length ∧ knP out ∧ (∀ x, x ∈ out → vldR x.ch = true) ∧ r = itS out) := by
  refine callV_pure Try.func9 rfl ttok ftok rfl rfl rfl (Nat.le_of_ble_eq_true rfl) ?_
  conv => whnf
  refine loopV ttok ftok (k0I l) ((nil_sl 3 7 (itR []) rfl).trans (env_weak [0, 3, 4] rfl)) ⟨0, [], rfl, Nat.zero_le _, Nat.le_refl _, fun i hi => (by cases hi), fun x hx => (by cases hx), rfl⟩ ?_
  rintro n st ⟨k, out, rfl, hk, ho, hP, hV, rfl⟩
  have e1 := e64 (k := k) (by omega)
  conv => whnf
  refine onB_intro (fun g => ?_) (fun g => ?_)
  · have g := of_decide_eq_true g
    have hkl : k < l.length := by omega
    have hkn := rknown_c (out ++ [l.getD k it0]) (by rw [List.length_append, List.length_singleton]; omega)
    have hvl := valid_c (l.getD k it0).ch
    have hmv : ∀ y, vldR (l.getD k it0).ch = true → y ∈ out ++ [l.getD k it0] → vldR y.ch = true := fun y h hy => by
      rcases List.mem_append.1 hy with h2 | h2
      · exact hV y h2
      · rw [List.mem_singleton] at h2; rw [h2]; exact h
    conv => whnf
    refine drawV_at ⟨37, 0, [(0, itS l), (3, itS out), (4, vci .i64 (k : Int)), (5, .c (.row 0))], [some (.row 40 7 (out ++ [l.getD k it0]).length (itR (out ++ [l.getD k it0])))]⟩ ?_ ?_
    · refine drawV_sched (.rd 1 (.rd 3 (.rd 4 (.rd 5 (.rd 6 (.alt (.ef 0 (.alt (.ef 2 (.ef 7 (.ef 8 (.rd 9 (.nil))))) (.ef 7 (.ef 2 (.ef 8 (.rd 9 (.nil))))))) (.ef 7 (.ef 0 (.ef 2 (.ef 8 (.rd 9 (.nil)))))))))))) [0, 1, 2, 3] mixed (by kernel_rfl) ttok ftok ?_
      conv => whnf
      refine ⟨by omega, ?_⟩
      conv => whnf
      rw [ti_nat]
      refine ⟨?_, ?_⟩
      all_goals
        conv => whnf
        repeat' first
          | (refine ⟨fun _ => itF (l.getD k it0), fun j hj2 => (by obtain rfl : j = 0 := (by omega); rfl), ?_⟩; conv => whnf)
          | (refine ⟨⟨by omega, by show (0 + List.length out) * 28 ≤ _; omega⟩, ?_⟩; conv => whnf)
          | (refine ⟨⟨by show List.length out + 1 ≤ _; omega, by show (List.length out + 1) * 28 ≤ _; omega⟩, ?_⟩; conv => whnf)
          | exact norm_weak [0, 3, 4, 5] [some 3] rfl rfl
          | (refine app_list (enc := itF) (d := it0) (l := []) (b := out) (fun k hk => by cases hk) (fun k hk => rfl) ?_; conv => whnf)
          | (refine app1 (enc := itF) (d := it0) (l := out) (l.getD k it0) (fun k hk => rfl) rfl ?_; conv => whnf)
          | (refine ⟨?_, ?_⟩ <;> (conv => whnf))
    · generalize hx : l.getD k it0 = x at hkn hvl hmv
      conv => whnf
      refine ⟨by omega, ?_⟩
      conv => whnf
      rw [ti_nat, hx]
      refine call_pure hvl rfl ?_
      rintro _ rfl
      conv => whnf
      refine ⟨fun _ _ => rfl, ?_⟩
      conv => whnf
      refine call_pure hkn rfl ?_
      rintro _ ⟨b, hb, rfl⟩
      conv => whnf
      cases b <;> cases hv : vldR x.ch
      all_goals
        conv => whnf
        rw [e1]
        first
        | exact ⟨l.length - (k + 1), _, by omega, norm_weak [0, 3, 4] [] rfl rfl, k + 1, out, rfl, by omega, by omega, hP, hV, rfl⟩
        | exact ⟨l.length - (k + 1), _, by omega, norm_weak [0, 3, 4] [] rfl rfl, k + 1, out ++ [x], rfl, by omega, by rw [List.length_append, List.length_singleton]; omega, hb.1 rfl, fun y hy => hmv y hv hy, rfl⟩
  · have g := of_decide_eq_false g
    conv => whnf
    exact ⟨out, by omega, hP, hV, rfl⟩
end Go.Eng
/- A list and the document's list, side by side. -/
set_option linter.unusedVariables false
set_option linter.unusedSimpArgs false
set_option maxRecDepth 100000
set_option maxHeartbeats 4000000
namespace Go.Eng
open Go Go.RowKit Go.Proofs
/-- A cell of an own object that holds nil may be taken for a slice that stays, of no elements. -/
theorem nil_cellT (i j : Nat) (sz : Nat) (f : Nat → List IC) {st : St} {t : TypeId} {cs : List IC} (hi : st.own[i]? = some (some (.cells t cs))) (hj : cs[j]? = some (.v (.slice none 0 0))) :
    Weak st ⟨st.n, st.k, st.env, st.own.set i (some (.cells t (cs.set j (.sl sz 0 f))))⟩ := by
  refine ⟨fun may w0 h0 a w hs => ?_⟩
  obtain ⟨⟨L, F, h, hm, ha, hsub, hnew⟩, hk⟩ := hs
  refine ⟨⟨L, F, h, mem_set hm hi rfl (fun _ _ => rfl) ?_, ⟨ha.size, ha.env, ha.defers⟩, hsub, hnew⟩, hk⟩
  obtain ⟨b, vs, h1, h2, h3, h4, h5⟩ := hm.obs i _ hi
  refine ⟨b, vs, h1, h2, h3, by simpa using h4, fun q c u hc hu => ?_⟩
  rw [List.getElem?_set] at hc
  split at hc
  · rename_i e
    subst e
    split at hc
    · cases hc
      have := den_one (h5 j _ u hj hu)
      rw [this]
      exact .sl sz 0 f none 0 ⟨0, 0, none⟩ (fun _ _ => undef) (Nat.le_refl _) (by decide) (fun h => by omega) (fun k hk => by omega) (fun k hk => by omega) (fun k hk => by omega) (fun k hk => by omega)
    · cases hc
  · exact h5 q c u hc hu
theorem argsLZ {bs : List AV} : ArgsLe (liZ :: bs) (liA [] [] :: bs) := by
  refine argsLe_cons (fun L h v hd => ?_) (argsLe_refl bs)
  obtain ⟨us, e, hd⟩ : Den1 L h liZ v := hd
  obtain ⟨u, r, rfl, h1, h2⟩ := hd.uncons
  obtain ⟨u2, r2, rfl, h3, h4⟩ := h2.uncons
  obtain ⟨u3, r3, rfl, h5, h6⟩ := h4.uncons
  obtain ⟨u4, r4, rfl, h7, h8⟩ := h6.uncons
  refine (show Den1 L h (liA [] []) v from ⟨_, e, DenL.cons ?_ (DenL.cons h3 (DenL.cons h5 (DenL.cons ?_ h8)))⟩)
  · have := den_one h1
    rw [this]
    exact .sl 2 0 _ none 0 ⟨0, 0, none⟩ (fun _ _ => undef) (Nat.le_refl _) (by decide) (fun h => by omega) (fun k hk => by omega) (fun k hk => by omega) (fun k hk => by omega) (fun k hk => by omega)
  · have := den_one h7
    rw [this]
    exact .sl 10 0 _ none 0 ⟨0, 0, none⟩ (fun _ _ => undef) (Nat.le_refl _) (by decide) (fun h => by omega) (fun k hk => by omega) (fun k hk => by omega) (fun k hk => by omega) (fun k hk => by omega)
theorem LV.congr {hs : HS} {G G2 : I2 → Bool} {cs : Ck} {l : List Nd} {N : Nat} (V : LV hs G cs l N) (h : ∀ a, hasI hs a → G a = G2 a) : LV hs G2 cs l N := by
  obtain ⟨o, hO, hf⟩ := V.ord
  refine ⟨V.L, ⟨o, hO, ?_⟩, V.len, V.ck⟩
  rw [hf]
  exact List.map_congr_left (fun a ha => by unfold enOf; rw [h a (hO.has.1 ha)])
theorem LV.up {hs : HS} {G : I2 → Bool} {cs : Ck} {l : List Nd} {N M : Nat} (V : LV hs G cs l N) (h : N ≤ M) : LV hs G cs l M := ⟨V.L, V.ord, Nat.le_trans V.len h, Nat.le_trans V.ck h⟩
theorem LV.zero (G : I2 → Bool) : LV [] G [] [] 0 := ⟨⟨trivial, List.Perm.refl _, List.Pairwise.nil, by decide⟩, ⟨[], ⟨List.Perm.refl _, List.Pairwise.nil⟩, rfl⟩, Nat.le_refl _, Nat.le_refl _⟩
/-- Both. -/
structure LM (hs : HS) (gs : List I2) (cs : Ck) (l : List Nd) (N : Nat) : Prop where
  V : LV hs (Gof gs) cs l N
  bld : bldH hs
  gone : ∀ a, a ∈ gs → hasI hs a
  glen : gs.length ≤ N
theorem LM.zero : LM [] [] [] [] 0 := ⟨LV.zero _, trivial, fun a h => (by cases h), Nat.le_refl _⟩
theorem LM.add {hs : HS} {gs : List I2} {cs cs2 : Ck} {l l2 : List Nd} {N : Nat} (M : LM hs gs cs l N) {x : It} {gone : Bool} (hok : okA hs x) (V2 : LV ((x, hgOf hs x) :: hs) (updG (Gof gs) x.id gone) cs2 l2 (N + 1)) :
    LM ((x, hgOf hs x) :: hs) (if gone = true then gs ++ [x.id] else gs) cs2 l2 (N + 1) := by
  have hg := M.glen
  refine ⟨V2.congr (fun a ha => ?_), ⟨M.bld, rfl⟩, fun a ha => ?_, ?_⟩
  · unfold updG
    by_cases e : a = x.id
    · subst e
      rw [if_pos rfl]
      cases gone with
      | true => rw [if_pos rfl]; unfold Gof; rw [decide_eq_true (by simp)]
      | false =>
        rw [if_neg (by decide)]
        unfold Gof
        rw [decide_eq_false (fun h => hok.new (M.gone _ h))]
    · rw [if_neg e]
      cases gone with
      | true =>
        rw [if_pos rfl]
        unfold Gof
        rw [Bool.eq_iff_iff, decide_eq_true_iff, decide_eq_true_iff, List.mem_append, List.mem_singleton]
        exact ⟨.inl, fun h => h.resolve_right e⟩
      | false => rw [if_neg (by decide)]
  · cases gone with
    | true =>
      rw [if_pos rfl] at ha
      rcases List.mem_append.1 ha with h | h
      · exact hasI_cons (M.gone _ h)
      · rw [List.mem_singleton] at h; exact ⟨_, List.mem_cons_self .., h.symm⟩
    | false => rw [if_neg (by decide)] at ha; exact hasI_cons (M.gone _ ha)
  · cases gone with
    | true => rw [if_pos rfl, List.length_append, List.length_singleton]; omega
    | false => rw [if_neg (by decide)]; omega
theorem LM.del {hs : HS} {gs : List I2} {cs cs2 : Ck} {l : List Nd} {N : Nat} (M : LM hs gs cs l N) {a : I2} (ha : hasI hs a) (V2 : LV hs (updG (Gof gs) a true) cs2 l N) : LM hs (gs ++ [a]) cs2 l (N + 1) := by
  have hg := M.glen
  refine ⟨(V2.congr (fun b hb => ?_)).up (by omega), M.bld, fun b hb => ?_, by rw [List.length_append, List.length_singleton]; omega⟩
  · unfold updG Gof
    by_cases e : b = a
    · rw [if_pos e, decide_eq_true (by rw [e]; simp)]
    · rw [if_neg e, Bool.eq_iff_iff, decide_eq_true_iff, decide_eq_true_iff, List.mem_append, List.mem_singleton]
      exact ⟨.inl, fun h => h.resolve_right e⟩
  · rcases List.mem_append.1 hb with h | h
    · exact M.gone _ h
    · rw [List.mem_singleton] at h; rw [h]; exact ha
theorem LM.up {hs : HS} {gs : List I2} {cs : Ck} {l : List Nd} {N K : Nat} (M : LM hs gs cs l N) (h : N ≤ K) : LM hs gs cs l K := ⟨M.V.up h, M.bld, M.gone, Nat.le_trans M.glen h⟩
theorem okH_uniq {hs : HS} (ho : okH hs) {p q : It × Hg} (hp : p ∈ hs) (hq : q ∈ hs) (e : p.1.id = q.1.id) : p = q := by
  induction hs with
  | nil => cases hp
  | cons z r ih =>
    obtain ⟨y, g⟩ := z
    rcases List.mem_cons.1 hp with h1 | h1
    · rcases List.mem_cons.1 hq with h2 | h2
      · rw [h1, h2]
      · exact absurd (show q.1.id = y.id by rw [← e, h1]) (ho.2.2.1 q h2)
    · rcases List.mem_cons.1 hq with h2 | h2
      · exact absurd (show p.1.id = y.id by rw [e, h2]) (ho.2.2.1 p h1)
      · exact ih ho.1 h1 h2
end Go.Eng
/- A list and the document's list: is one the other? -/
set_option linter.unusedVariables false
set_option linter.unusedSimpArgs false
set_option maxRecDepth 100000
set_option maxHeartbeats 4000000
namespace Go.Eng
open Go Go.RowKit Go.Proofs
theorem is_c {hs : HS} {gs : List I2} {cs : Ck} {l : List Nd} {N : Nat} (M : LM hs gs cs l N) (hN : N ≤ 3000) (a : I2) : CallV Try.prog 20 [liA cs l, .c (.own 0 0), idA a] (mOwn hs gs) (fun r own' => own' = mOwn hs gs ∧ r = vci .i64 1) := by
  have V := M.V
  have hs1 := V.sum
  have hc1 := V.ck
  have hl1 := V.len
  have hg1 := M.glen
  obtain ⟨o, hO, hf⟩ := V.ord
  have hol := hO.length
  have hre := rentries_c V.L.ok M.bld gs (by omega) (by omega)
  have hri := ritem_c hs gs (by omega) a
  have hf2 : entL hs gs o = cs.flatten := hf.symm
  have hlen : cs.flatten.length ≤ 100000 := by show sumL cs ≤ _; omega
  refine callV_own Try.func20 rfl ttok ftok rfl rfl rfl (Nat.le_of_ble_eq_true rfl) rfl ?_
  conv => whnf
  refine call_frame2 [some 0, some 1, some 2] rfl rfl rfl rfl hre ?_
  rintro r own2 ⟨o2, hO2, rfl, rfl⟩
  obtain rfl := isOrd.uniq hO2 hO
  rw [hf2]
  refine ⟨.c (.row 5), [some (.cells 53 [.row 1, .row 2]), some (.row 40 7 (itsH hs).length (itR (itsH hs))), some (.row 38 2 gs.length (idR gs)), some (.cells 31 (liF cs l)), some (.cells 38 (idF a)), some (.row 93 4 cs.flatten.length (enR cs.flatten))], rfl, rfl, ?_⟩
  conv => whnf
  refine call_pure (lindex_c cs l) rfl ?_
  rintro _ rfl
  conv => whnf
  refine call_pure (all_c cs (by omega) (by omega)) rfl ?_
  rintro _ rfl
  conv => whnf
  refine ⟨fun _ _ => rfl, ?_⟩
  conv => whnf
  refine call_pure (same_c cs.flatten (by omega)) rfl ?_
  rintro _ rfl
  conv => whnf
  refine call_pure (litem_c V.L cs a) rfl ?_
  rintro r hli
  obtain ⟨x, b, rfl, he⟩ : ∃ (x : It) (b : Bool), r = .tup [.agg (itF x), vcb b] ∧ (if hasI hs a then (.tup [.agg (itF ((itsH hs).getD (fiN (itsH hs) a).toNat it0)), vcb true] : AV) else .tup [.agg (itF it0), vcb false]) = .tup [.agg (itF x), vcb b] := by
    rcases hli with ⟨p, hp, he, rfl⟩ | ⟨hno, rfl⟩
    · have hh : hasI hs a := ⟨p, hp, he⟩
      obtain ⟨k, h1, h2, h3, h4⟩ := fiE_has hh
      have hk : fiN (itsH hs) a = (k : Int) := by unfold fiN; rw [h1]
      have := okH_uniq V.L.ok h4 hp (by rw [h3, he])
      refine ⟨p.1, true, rfl, ?_⟩
      rw [if_pos hh, hk, ti_nat, ← this]
    · exact ⟨it0, false, rfl, by rw [if_neg hno]⟩
  rw [he] at hri
  conv => whnf
  refine call_frame2 [some 0, some 1, some 2] rfl rfl rfl rfl hri ?_
  rintro r own2 ⟨rfl, rfl⟩
  refine ⟨.tup [.agg (itF x), vcb b], [some (.cells 53 [.row 1, .row 2]), some (.row 40 7 (itsH hs).length (itR (itsH hs))), some (.row 38 2 gs.length (idR gs)), some (.cells 31 (liF cs l)), some (.cells 38 (idF a)), none, some (.cells 40 (itF x))], rfl, rfl, ?_⟩
  conv => whnf
  refine call_pure (text_c cs l (by omega) (by omega)) rfl ?_
  rintro _ rfl
  conv => whnf
  refine call_pure (rtext_c cs.flatten (by omega)) rfl ?_
  rintro _ rfl
  conv => whnf
  rw [decide_eq_true (rfl : txS cs.flatten = txS cs.flatten)]
  conv => whnf
  rw [beq_self_eq_true x.id.1, beq_self_eq_true x.id.2, beq_self_eq_true x.left.1, beq_self_eq_true x.left.2, beq_self_eq_true x.right.1, beq_self_eq_true x.right.2, beq_self_eq_true x.ch]
  conv => whnf
  rw [beq_self_eq_true b]
  conv => whnf
  refine ⟨_, Weak.refl _, ?_⟩
  conv => whnf
  exact ⟨[some 0, some 1, some 2], rfl, rfl, rfl, rfl⟩
end Go.Eng
/- The head of all statements. -/
set_option linter.unusedVariables false
set_option linter.unusedSimpArgs false
set_option maxRecDepth 100000
set_option maxHeartbeats 4000000
namespace Go.Eng
open Go Go.RowKit Go.Proofs
def upX : It := ⟨(1, 0), (0, 0), (0, 0), 97⟩
theorem isOrd1 {x : It} {h : Hg} {o : List I2} (hO : isOrd [(x, h)] o) : o = [x.id] := by
  have := hO.perm
  unfold idsH at this
  exact List.perm_singleton.1 this
theorem up_c : CallV Try.prog 8 [] [] (fun r own' => own' = [] ∧ r = vcb true) := by
  have hok : okA [] upX := ⟨fun ⟨p, hp, _⟩ => (by cases hp), by decide, .inr rfl, .inr rfl, by decide⟩
  have h1 := callV_args argsLZ (ladd_c (LV.zero (fun _ => false)) (by decide) upX false)
  have h0 := callV_args (argsLZ (bs := [])) (text_c [] [] (by decide) (by decide))
  refine callV_pure Try.func8 rfl ttok ftok rfl rfl rfl (Nat.le_of_ble_eq_true rfl) ?_
  conv => whnf
  refine call_pure h1 rfl ?_
  rintro _ ha
  rcases ha with ⟨_, cs2, l2, V, rfl⟩ | ⟨hno, _⟩
  rotate_left
  · exact absurd hok hno
  have h2 := ladd_c V (by decide) upX false
  have hs1 := V.sum
  have hc1 := V.ck
  have hs2 : sumL cs2 = 1 := hs1
  have h3 := text_c cs2 l2 (by omega) (by omega)
  obtain ⟨o, hO, hf⟩ := V.ord
  obtain rfl := isOrd1 hO
  rw [show cs2.flatten = [⟨(1, 0), 97, false⟩] from hf] at h3
  conv => whnf
  refine call_pure h2 rfl ?_
  rintro _ ha
  rcases ha with ⟨h, _⟩ | ⟨_, rfl⟩
  · exact absurd ⟨_, List.mem_cons_self .., rfl⟩ h.new
  conv => whnf
  refine call_pure h0 rfl ?_
  rintro _ rfl
  conv => whnf
  refine call_pure h3 rfl ?_
  rintro _ rfl
  conv => whnf
  refine call_pure code_1 rfl ?_
  rintro _ rfl
  conv => whnf
  all_goals first | rfl | exact ⟨rfl, rfl⟩
end Go.Eng
/- The law ListPlays. -/
set_option linter.unusedVariables false
set_option linter.unusedSimpArgs false
set_option maxRecDepth 100000
set_option maxHeartbeats 4000000
namespace Go.Eng
open Go Go.RowKit Go.Proofs
structure Ld where
  what : Int
  it : It
  gone : Bool
def ldd0 : Ld := ⟨0, it0, false⟩
abbrev lddF (d : Ld) : List IC := [vi d.what, vu d.it.id.1, vu d.it.id.2, vu d.it.left.1, vu d.it.left.2, vu d.it.right.1, vu d.it.right.2, vr d.it.ch, .v (.bool d.gone)]
abbrev lddS (l : List Ld) : AV := .c (.sl 9 l.length fun k => lddF (l.getD k ldd0))
def i64L (n : Int) : Prop := -9223372036854775808 ≤ n ∧ n ≤ 9223372036854775807
def lpI (ds : List Ld) (n : Nat) (st : St) : Prop := ∃ (i : Nat) (hs : HS) (gs : List I2) (cs : Ck) (l : List Nd), n = ds.length - i ∧ i ≤ ds.length ∧ LM hs gs cs l i ∧
  st = ⟨93, 0, [(0, lddS ds), (3, vcb true), (4, .c (.own 3 0)), (5, .c (.own 0 0)), (6, vci .i64 (i : Int))], mOwn hs gs ++ [some (.cells 31 (liF cs l))]⟩
theorem radd_l (hs : HS) (gs : List I2) (hlen : hs.length ≤ 100000) (hgl : gs.length ≤ 100000) (x : It) (gone : Bool) : CallV Try.prog 18 [.c (.own 0 0), .agg (itF x), vcb gone] (mOwn hs gs) (fun r own' =>
    (okA hs x ∧ r = vcb true ∧ own' = if gone = true then [some (.cells 53 [.row 3, .row 4]), none, none, some (.row 40 7 (itsH ((x, hgOf hs x) :: hs)).length (itR (itsH ((x, hgOf hs x) :: hs)))), some (.row 38 2 (gs ++ [x.id]).length (idR (gs ++ [x.id])))]
      else [some (.cells 53 [.row 3, .row 2]), none, some (.row 38 2 gs.length (idR gs)), some (.row 40 7 (itsH ((x, hgOf hs x) :: hs)).length (itR (itsH ((x, hgOf hs x) :: hs))))]) ∨ (¬ okA hs x ∧ own' = mOwn hs gs ∧ r = vcb false)) := by
  rw [itsH_cons]
  exact radd_c hs gs hlen hgl x gone
theorem lplays_c (ds : List Ld) (hd : ds.length ≤ 1048576) (hok : ∀ d, d ∈ ds → i64L d.what) : CallV Try.prog 4 [lddS ds] [] (fun r own' => own' = [] ∧ r = vcb true) := by
  refine callV_pure Try.func4 rfl ttok ftok rfl rfl rfl (Nat.le_of_ble_eq_true rfl) ?_
  conv => whnf
  refine call_pure up_c rfl ?_
  rintro _ rfl
  conv => whnf
  refine onB_intro (fun h => ?_) (fun h => ?_)
  · conv => whnf
    all_goals first | rfl | exact ⟨rfl, rfl⟩
  have h := of_decide_eq_false h
  have hd2 : ds.length ≤ 40 := by omega
  conv => whnf
  refine loopV ttok ftok (lpI ds) ((nil_cellT 0 0 2 (chR []) rfl rfl).trans ((nil_cellT 0 3 10 (ndR []) rfl rfl).trans ((nil_cell 1 0 40 7 (itR []) rfl rfl).trans ((nil_cell 1 1 38 2 (idR []) rfl rfl).trans (norm_weak [0, 3, 4, 5, 6] [some 1, some 2, some 3, some 0] rfl rfl))))) ⟨0, [], [], [], [], rfl, Nat.zero_le _, LM.zero, rfl⟩ ?_
  rintro m st ⟨i, hs, gs, cs, l, rfl, hi, M, rfl⟩
  have e1 := e64 (k := i) (by omega)
  have V := M.V
  have hs1 := V.sum
  have hc1 := V.ck
  have hl1 := V.len
  have hg1 := M.glen
  conv => whnf
  refine onB_intro (fun h => ?_) (fun h => ?_)
  · have h := of_decide_eq_true h
    have hil : i < ds.length := by omega
    have hdk := hok _ (getD_mem (d := ldd0) hil)
    conv => whnf
    refine ⟨⟨by omega, by omega⟩, ?_⟩
    conv => whnf
    rw [ti_nat]
    generalize ds.getD i ldd0 = d at hdk
    refine call_pure (text_c cs l (by omega) (by omega)) rfl ?_
    rintro _ rfl
    conv => whnf
    refine call_pure (pick_c d.what 4 hdk (by decide)) rfl ?_
    rintro _ rfl
    conv => whnf
    by_cases hw : d.what % 4 = 3
    · rw [hw]
      conv => whnf
      refine call_pure (ldel_c V (by omega) d.it.id) rfl ?_
      rintro _ (⟨hh, cs2, V2, rfl⟩ | ⟨hno, rfl⟩)
      · have M2 := M.del hh V2
        conv => whnf
        refine call_frame2 [some 0, some 1, some 2] rfl rfl rfl rfl (rdel_c hs gs (by omega) (by omega) d.it.id) ?_
        rintro r own2 (⟨_, rfl, rfl⟩ | ⟨h2, _⟩)
        rotate_left
        · exact absurd hh h2
        refine ⟨_, _, rfl, rfl, ?_⟩
        conv => whnf
        refine call_pure (text_c cs l (by omega) (by omega)) rfl ?_
        rintro _ rfl
        conv => whnf
        rw [decide_eq_true (rfl : txS cs.flatten = txS cs.flatten)]
        conv => whnf
        refine call_frame2 [some 0, some 1, some 6] rfl rfl rfl rfl (is_c M2 (by omega) d.it.id) ?_
        rintro r own2 ⟨rfl, rfl⟩
        refine ⟨_, _, rfl, rfl, ?_⟩
        conv => whnf
        rw [e1]
        exact ⟨ds.length - (i + 1), _, by omega, norm_weak [0, 3, 4, 5, 6] [some 0, some 1, some 6, some 3] rfl rfl, i + 1, _, _, _, _, rfl, by omega, M2, rfl⟩
      · conv => whnf
        refine call_frame2 [some 0, some 1, some 2] rfl rfl rfl rfl (rdel_c hs gs (by omega) (by omega) d.it.id) ?_
        rintro r own2 (⟨h2, _⟩ | ⟨_, rfl, rfl⟩)
        · exact absurd h2 hno
        refine ⟨_, _, rfl, rfl, ?_⟩
        conv => whnf
        refine call_pure code_1 rfl ?_
        rintro _ rfl
        conv => whnf
        refine call_pure (text_c cs l (by omega) (by omega)) rfl ?_
        rintro _ rfl
        conv => whnf
        rw [decide_eq_true (rfl : txS cs.flatten = txS cs.flatten)]
        conv => whnf
        refine call_frame2 [some 0, some 1, some 2] rfl rfl rfl rfl (is_c M (by omega) d.it.id) ?_
        rintro r own2 ⟨rfl, rfl⟩
        refine ⟨_, _, rfl, rfl, ?_⟩
        conv => whnf
        rw [e1]
        exact ⟨ds.length - (i + 1), _, by omega, norm_weak [0, 3, 4, 5, 6] [some 0, some 1, some 2, some 3] rfl rfl, i + 1, hs, gs, cs, l, rfl, by omega, M.up (by omega), rfl⟩
    · rw [beq_eq_false_iff_ne.2 hw]
      conv => whnf
      refine call_pure (ladd_c V (by omega) d.it d.gone) rfl ?_
      rintro _ (⟨hh, cs2, l2, V2, rfl⟩ | ⟨hno, rfl⟩)
      · have M2 := M.add hh V2
        conv => whnf
        refine call_frame2 [some 0, some 1, some 2] rfl rfl rfl rfl (radd_l hs gs (by omega) (by omega) d.it d.gone) ?_
        rintro r own2 (⟨_, rfl, rfl⟩ | ⟨h2, _⟩)
        rotate_left
        · exact absurd hh h2
        obtain ⟨dw, x, dg⟩ := d
        cases dg with
        | true =>
          replace M2 : LM ((x, hgOf hs x) :: hs) (gs ++ [x.id]) cs2 l2 (i + 1) := M2
          refine ⟨_, _, rfl, rfl, ?_⟩
          conv => whnf
          refine call_pure (text_c cs l (by omega) (by omega)) rfl ?_
          rintro _ rfl
          conv => whnf
          rw [decide_eq_true (rfl : txS cs.flatten = txS cs.flatten)]
          conv => whnf
          refine call_frame2 [some 0, some 6, some 7] rfl rfl rfl rfl (is_c M2 (by omega) x.id) ?_
          rintro r own2 ⟨rfl, rfl⟩
          refine ⟨_, _, rfl, rfl, ?_⟩
          conv => whnf
          rw [e1]
          exact ⟨ds.length - (i + 1), _, by omega, norm_weak [0, 3, 4, 5, 6] [some 0, some 6, some 7, some 3] rfl rfl, i + 1, _, _, _, _, rfl, by omega, M2, rfl⟩
        | false =>
          replace M2 : LM ((x, hgOf hs x) :: hs) gs cs2 l2 (i + 1) := M2
          refine ⟨_, _, rfl, rfl, ?_⟩
          conv => whnf
          refine call_pure (text_c cs l (by omega) (by omega)) rfl ?_
          rintro _ rfl
          conv => whnf
          rw [decide_eq_true (rfl : txS cs.flatten = txS cs.flatten)]
          conv => whnf
          refine call_frame2 [some 0, some 6, some 2] rfl rfl rfl rfl (is_c M2 (by omega) x.id) ?_
          rintro r own2 ⟨rfl, rfl⟩
          refine ⟨_, _, rfl, rfl, ?_⟩
          conv => whnf
          rw [e1]
          exact ⟨ds.length - (i + 1), _, by omega, norm_weak [0, 3, 4, 5, 6] [some 0, some 6, some 2, some 3] rfl rfl, i + 1, _, _, _, _, rfl, by omega, M2, rfl⟩
      · conv => whnf
        refine call_frame2 [some 0, some 1, some 2] rfl rfl rfl rfl (radd_l hs gs (by omega) (by omega) d.it d.gone) ?_
        rintro r own2 (⟨h2, _⟩ | ⟨_, rfl, rfl⟩)
        · exact absurd h2 hno
        refine ⟨_, _, rfl, rfl, ?_⟩
        conv => whnf
        refine call_pure code_1 rfl ?_
        rintro _ rfl
        conv => whnf
        refine call_pure (text_c cs l (by omega) (by omega)) rfl ?_
        rintro _ rfl
        conv => whnf
        rw [decide_eq_true (rfl : txS cs.flatten = txS cs.flatten)]
        conv => whnf
        refine call_frame2 [some 0, some 1, some 2] rfl rfl rfl rfl (is_c M (by omega) d.it.id) ?_
        rintro r own2 ⟨rfl, rfl⟩
        refine ⟨_, _, rfl, rfl, ?_⟩
        conv => whnf
        rw [e1]
        exact ⟨ds.length - (i + 1), _, by omega, norm_weak [0, 3, 4, 5, 6] [some 0, some 1, some 2, some 3] rfl rfl, i + 1, hs, gs, cs, l, rfl, by omega, M.up (by omega), rfl⟩
  · conv => whnf
theorem mem_getDl {α : Type} {l : List α} {x d : α} (h : x ∈ l) : ∃ j, j < l.length ∧ l.getD j d = x := by
  obtain ⟨j, hj, rfl⟩ := List.getElem_of_mem h
  exact ⟨j, hj, by rw [List.getD_eq_getElem?_getD, List.getElem?_eq_getElem hj]; rfl⟩
theorem rd_idX {B d : Nat} {cs : List IC} (h : Rd tt B (d + 2) 38 cs) : ∃ a : I2, cs = idF a := by
  obtain ⟨x1, y1, ⟨v, w1, rfl⟩, ⟨x2, y2, ⟨w, w2, rfl⟩, rfl, rfl⟩, rfl⟩ := h
  exact ⟨(v, w), rfl⟩
theorem rd_itX {B d : Nat} {cs : List IC} (h : Rd tt B (d + 3) 40 cs) : ∃ x : It, cs = itF x := by
  obtain ⟨x1, y1, h1, ⟨x2, y2, h2, ⟨x3, y3, h3, ⟨x4, y4, ⟨c, wc, rfl⟩, rfl, rfl⟩, rfl⟩, rfl⟩, rfl⟩ := h
  obtain ⟨a, rfl⟩ := rd_idX h1
  obtain ⟨b, rfl⟩ := rd_idX h2
  obtain ⟨e, rfl⟩ := rd_idX h3
  exact ⟨⟨a, b, e, c⟩, rfl⟩
theorem rd_lddX {B d : Nat} {cs : List IC} (h : Rd tt B (d + 4) 55 cs) : ∃ x : Ld, i64L x.what ∧ cs = lddF x := by
  obtain ⟨x1, y1, ⟨v, w1, rfl⟩, ⟨x2, y2, he, ⟨x3, y3, ⟨b, rfl⟩, rfl, rfl⟩, rfl⟩, rfl⟩ := h
  obtain ⟨e, rfl⟩ := rd_itX he
  exact ⟨⟨v, e, b⟩, wf_i64 w1, rfl⟩
theorem rd_lddsX {B d : Nat} {a : AV} (h : RdA tt B (d + 5) 49 a) : ∃ l : List Ld, l.length ≤ B ∧ (∀ x, x ∈ l → i64L x.what) ∧ ∀ (L : Nat → Value) (hp : Hp) v, DenA L hp a v → DenA L hp (lddS l) v := by
  obtain ⟨c, ⟨n, f, hn, hf, e⟩, rfl⟩ := h
  cases e
  obtain ⟨l, hl, hf2, hR⟩ := list_of (enc := lddF) (R := fun x => i64L x.what) ldd0 (fun k hk => rd_lddX (hf k hk))
  refine ⟨l, by omega, fun s hs => ?_, fun L hp v hd => ?_⟩
  · obtain ⟨j, hj, rfl⟩ := mem_getDl (d := ldd0) hs
    exact hR j (by omega)
  subst hl
  exact den_sl_ext hd (fun k hk => (hf2 k hk).symm)
theorem listPlays_law : ∀ avs, RdArgs tt 1048576 30 [49] avs → CallV Try.prog 4 avs [] (fun r own' => own' = [] ∧ r = vcb true) := by
  rintro avs ⟨a0, r0, h0, rfl, rfl⟩
  obtain ⟨ds, hd, hok, hdd⟩ := rd_lddsX h0
  refine callV_args (argsLe_cons hdd (argsLe_refl _)) ?_
  exact lplays_c ds hd hok
end Go.Eng
/- The law ListPlaces. -/
set_option linter.unusedVariables false
set_option linter.unusedSimpArgs false
set_option maxRecDepth 100000
set_option maxHeartbeats 4000000
namespace Go.Eng
open Go Go.RowKit Go.Proofs
abbrev nmS (l : List Int) : AV := .c (.sl 1 l.length fun k => [vi (l.getD k 0)])
theorem okA_kn {hs : HS} {K : List It} {i : Nat} (hi : i < K.length) (e : itsH hs = K.take i) (hk : knP K) (hv : ∀ x, x ∈ K → vldR x.ch = true) : okA hs (K.getD i it0) := by
  obtain ⟨h1, h2, h3, h4⟩ := hk i hi
  rw [← e] at h2 h3 h4
  have key : ∀ a, (a.1 = 0 ∨ (fiE (itsH hs) a).isNone = false) → hasI hs a ∨ a.1 = 0 := fun a h => by
    by_cases g : hasI hs a
    · exact .inl g
    · rcases h with h | h
      · exact .inr h
      · rw [fiE_hasn g] at h; cases h
  refine ⟨fun g => ?_, h1, key _ h3, key _ h4, hv _ (getD_mem hi)⟩
  obtain ⟨k, e2, _⟩ := fiE_has g
  rw [e2] at h2
  cases h2
abbrev lplE (K : List It) (gone : List Int) (k n : Int) (i : Nat) : List (Nat × AV) := [(1, nmS gone), (2, vci .i64 k), (3, vci .i64 n), (9, vcb true), (10, itS K), (11, .c (.own 3 0)), (12, .c (.own 0 0)), (13, vci .i64 (i : Int))]
abbrev lplO (hs : HS) (gs : List I2) (cs : Ck) (l : List Nd) : List (Option Ob) := mOwn hs gs ++ [some (.cells 31 (liF cs l))]
def lplI (K : List It) (gone : List Int) (k n : Int) (m : Nat) (st : St) : Prop := ∃ (i : Nat) (hs : HS) (gs : List I2) (cs : Ck) (l : List Nd), m = K.length - i ∧ i ≤ K.length ∧ LM hs gs cs l i ∧ itsH hs = K.take i ∧
  st = ⟨167, 0, lplE K gone k n i, lplO hs gs cs l⟩
def lplJ (K : List It) (gone : List Int) (k n : Int) (i : Nat) (O : List (Option Ob)) (m : Nat) (st : St) : Prop := ∃ (j : Nat) (b : Bool), m = gone.length - j ∧ j ≤ gone.length ∧
  st = ⟨167, 0, lplE K gone k n i ++ [(14, vcb b), (15, vci .i64 (j : Int))], O⟩
theorem lplaces_c (L : List It) (gone : List Int) (k n : Int) (hL : L.length ≤ 1048576) (hg : gone.length ≤ 1048576) (hgi : ∀ x, x ∈ gone → i64L x) (hk : i64L k) (hn : i64L n) : CallV Try.prog 5 [itS L, nmS gone, vci .i64 k, vci .i64 n] [] (fun r own' => own' = [] ∧ r = vcb true) := by
  refine callV_pure Try.func5 rfl ttok ftok rfl rfl rfl (Nat.le_of_ble_eq_true rfl) ?_
  conv => whnf
  refine call_pure up_c rfl ?_
  rintro _ rfl
  conv => whnf
  refine onB_intro (fun h => ?_) (fun h => ?_)
  · conv => whnf
    all_goals first | rfl | exact ⟨rfl, rfl⟩
  have h : L.length ≤ 40 ∧ gone.length ≤ 40 := by
    simp only [pickB, isLit, Bool.or_eq_false_iff, decide_eq_false_iff_not] at h
    omega
  obtain ⟨hL2, hg2⟩ := h
  conv => whnf
  refine call_pure (known0_c L (by omega)) rfl ?_
  rintro _ ⟨K, hK, hP, hV, rfl⟩
  conv => whnf
  refine loopV_cut 0 (fun st => ∃ (hs : HS) (gs : List I2) (cs : Ck) (l : List Nd), LM hs gs cs l K.length ∧ st = ⟨167, 0, lplE K gone k n K.length, lplO hs gs cs l⟩) ?_ ?_
  · refine loopV ttok ftok (lplI K gone k n) ((nil_cellT 0 0 2 (chR []) rfl rfl).trans ((nil_cellT 0 3 10 (ndR []) rfl rfl).trans ((nil_cell 1 0 40 7 (itR []) rfl rfl).trans ((nil_cell 1 1 38 2 (idR []) rfl rfl).trans (norm_weak [1, 2, 3, 9, 10, 11, 12, 13] [some 1, some 2, some 3, some 0] rfl rfl))))) ⟨0, [], [], [], [], rfl, Nat.zero_le _, LM.zero, rfl, rfl⟩ ?_
    rintro m st ⟨i, hs, gs, cs, l, rfl, hi, M, hits, rfl⟩
    have e1 := e64 (k := i) (by omega)
    have V := M.V
    have hs1 := V.sum
    have hc1 := V.ck
    have hl1 := V.len
    have hg1 := M.glen
    conv => whnf
    refine onB_intro (fun h => ?_) (fun h => ?_)
    rotate_left
    · have h := of_decide_eq_false h
      obtain rfl : i = K.length := by omega
      conv => whnf
      exact ⟨rfl, _, norm_weak [1, 2, 3, 9, 10, 11, 12, 13] [some 0, some 1, some 2, some 3] rfl rfl, hs, gs, cs, l, M, rfl⟩
    have h := of_decide_eq_true h
    have hil : i < K.length := by omega
    have hok := okA_kn hil hits hP hV
    conv => whnf
    refine loopV_cut 2 (fun st => ∃ b : Bool, st = ⟨167, 0, lplE K gone k n i ++ [(14, vcb b)], lplO hs gs cs l⟩) ?_ ?_
    · refine loopV ttok ftok (lplJ K gone k n i (lplO hs gs cs l)) (norm_weak [1, 2, 3, 9, 10, 11, 12, 13, 14, 15] [some 0, some 1, some 2, some 3] rfl rfl) ⟨0, false, rfl, Nat.zero_le _, rfl⟩ ?_
      rintro m st ⟨j, b, rfl, hj, rfl⟩
      have e2 := e64 (k := j) (by omega)
      conv => whnf
      refine onB_intro (fun g => ?_) (fun g => ?_)
      rotate_left
      · conv => whnf
        exact ⟨rfl, _, norm_weak [1, 2, 3, 9, 10, 11, 12, 13, 14] [some 0, some 1, some 2, some 3] rfl rfl, b, rfl⟩
      have g := of_decide_eq_true g
      have hjl : j < gone.length := by omega
      have hgk := hgi _ (getD_mem (d := 0) hjl)
      cases b with
      | true =>
        conv => whnf
        rw [e2]
        exact ⟨gone.length - (j + 1), _, by omega, norm_weak [1, 2, 3, 9, 10, 11, 12, 13, 14, 15] [some 0, some 1, some 2, some 3] rfl rfl, j + 1, true, rfl, by omega, rfl⟩
      | false =>
        conv => whnf
        refine ⟨⟨by omega, by omega⟩, ?_⟩
        conv => whnf
        rw [ti_nat]
        refine call_pure (pick_c (gone.getD j 0) K.length hgk (by omega)) rfl ?_
        rintro _ rfl
        conv => whnf
        rw [e2]
        exact ⟨gone.length - (j + 1), _, by omega, norm_weak [1, 2, 3, 9, 10, 11, 12, 13, 14, 15] [some 0, some 1, some 2, some 3] rfl rfl, j + 1, _, rfl, by omega, rfl⟩
    · rintro st ⟨b, rfl⟩
      have hadd := ladd_c V (by omega) (K.getD i it0) b
      have hradd := radd_l hs gs (by omega) (by omega) (K.getD i it0) b
      conv => whnf
      refine drawV_cut (fun S => ∃ cs2 l2, LV ((K.getD i it0, hgOf hs (K.getD i it0)) :: hs) (updG (Gof gs) (K.getD i it0).id b) cs2 l2 (i + 1) ∧
        S = ⟨167, 0, lplE K gone k n i ++ [(14, vcb b), (16, .c (.own 4 0)), (17, .c (.v .nilIface))], lplO hs gs cs l ++ [some (.cells 31 (liF cs2 l2))]⟩) ?_ ?_
      · refine drawV_sched (.rd 0 (.rd 1 (.rd 2 (.rd 3 (.rd 4 (.rd 5 (.alt (.ef 6 (.rd 7 (.rd 8 (.rd 9 (.ef 10 (.ef 11 (.rd 12 (.nil)))))))) (.ef 10 (.ef 6 (.rd 7 (.rd 8 (.rd 9 (.ef 11 (.rd 12 (.nil))))))))))))))) [4] mixed (by kernel_rfl) ttok ftok ?_
        conv => whnf
        refine ⟨by omega, ?_⟩
        conv => whnf
        rw [ti_nat]
        refine ⟨?_, ?_⟩
        all_goals
          conv => whnf
          refine call_pure hadd rfl ?_
          rintro _ (⟨_, cs2, l2, V2, rfl⟩ | ⟨hno, _⟩)
          rotate_left
          · exact absurd hok hno
          conv => whnf
          exact ⟨_, norm_weak [1, 2, 3, 9, 10, 11, 12, 13, 14, 16, 17] [some 0, some 1, some 2, some 3, some 4] rfl rfl, cs2, l2, V2, rfl⟩
      · rintro S ⟨cs2, l2, V2, rfl⟩
        have M2 := M.add hok V2
        conv => whnf
        refine ⟨⟨by omega, by omega⟩, ?_⟩
        conv => whnf
        rw [ti_nat]
        have hits2 : itsH ((K.getD i it0, hgOf hs (K.getD i it0)) :: hs) = K.take (i + 1) := by
          rw [itsH_cons, hits, List.getD_eq_getElem?_getD, List.getElem?_eq_getElem hil]
          exact List.take_append_getElem hil
        refine call_frame2 [some 0, some 1, some 2] rfl rfl rfl rfl hradd ?_
        rintro r own2 (⟨_, rfl, rfl⟩ | ⟨h2, _⟩)
        rotate_left
        · exact absurd hok h2
        cases b with
        | true =>
          replace M2 : LM ((K.getD i it0, hgOf hs (K.getD i it0)) :: hs) (gs ++ [(K.getD i it0).id]) cs2 l2 (i + 1) := M2
          refine ⟨_, _, rfl, rfl, ?_⟩
          conv => whnf
          rw [e1]
          exact ⟨K.length - (i + 1), _, by omega, norm_weak [1, 2, 3, 9, 10, 11, 12, 13] [some 0, some 5, some 6, some 3] rfl rfl, i + 1, _, _, _, _, rfl, by omega, M2, hits2, rfl⟩
        | false =>
          replace M2 : LM ((K.getD i it0, hgOf hs (K.getD i it0)) :: hs) gs cs2 l2 (i + 1) := M2
          refine ⟨_, _, rfl, rfl, ?_⟩
          conv => whnf
          rw [e1]
          exact ⟨K.length - (i + 1), _, by omega, norm_weak [1, 2, 3, 9, 10, 11, 12, 13] [some 0, some 5, some 2, some 3] rfl rfl, i + 1, _, _, _, _, rfl, by omega, M2, hits2, rfl⟩
  · rintro st ⟨hs, gs, cs, l, M, rfl⟩
    have V := M.V
    have hs1 := V.sum
    have hc1 := V.ck
    have hl1 := V.len
    have hg1 := M.glen
    obtain ⟨o, hO, hf⟩ := V.ord
    have hlen : cs.flatten.length ≤ 100000 := by show sumL cs ≤ _; omega
    conv => whnf
    refine call_frame2 [some 0, some 1, some 2] rfl rfl rfl rfl (rentries_c V.L.ok M.bld gs (by omega) (by omega)) ?_
    rintro r own2 ⟨o2, hO2, rfl, rfl⟩
    obtain rfl := isOrd.uniq hO2 hO
    have hf2 : entL hs gs o2 = cs.flatten := hf.symm
    rw [hf2]
    refine ⟨.c (.row 4), [some (.cells 53 [.row 1, .row 2]), some (.row 40 7 (itsH hs).length (itR (itsH hs))), some (.row 38 2 gs.length (idR gs)), some (.cells 31 (liF cs l)), some (.row 93 4 cs.flatten.length (enR cs.flatten))], rfl, rfl, ?_⟩
    conv => whnf
    refine call_pure (between_c cs l (by omega) (by omega) k) rfl ?_
    rintro _ rfl
    have hB : (∃ a b : I2, btV cs.flatten k = .tup [idA a, idA b, .c (.v .nilIface)] ∧ rbV cs.flatten k = .tup [idA a, idA b, vcb true]) ∨ (btV cs.flatten k = .tup [idA (0, 0), idA (0, 0), erC 3] ∧ rbV cs.flatten k = .tup [idA (0, 0), idA (0, 0), vcb false]) := by
      unfold btV rbV
      by_cases hc : k < 0 ∨ (shn cs.flatten : Int) < k
      · rw [if_pos hc, if_pos hc]; exact .inr ⟨rfl, rfl⟩
      · rw [if_neg hc, if_neg hc]; exact .inl ⟨_, _, rfl, rfl⟩
    have hshn := shn_len cs.flatten
    have hbc := rbetween_c cs.flatten (by omega) k
    have hsc := lshown_c cs l (by omega) (by omega) k n
    have hic := rids_c cs.flatten (by omega) k n hn.2
    rcases hB with ⟨a, b, hb1, hb2⟩ | ⟨hb1, hb2⟩
    · rw [hb1]
      rw [hb2] at hbc
      conv => whnf
      refine ⟨fun _ _ => rfl, ?_⟩
      conv => whnf
      refine call_pure hbc rfl ?_
      rintro _ rfl
      conv => whnf
      refine call_pure hsc rfl ?_
      rintro _ rfl
      by_cases hp : noPart cs.flatten k n
      · rw [if_pos hp] at hic ⊢
        conv => whnf
        refine call_pure hic rfl ?_
        rintro _ rfl
        conv => whnf
        refine call_pure sameids0 rfl ?_
        rintro _ rfl
        conv => whnf
        rw [beq_self_eq_true a.1, beq_self_eq_true a.2]
        conv => whnf
        rw [beq_self_eq_true b.1, beq_self_eq_true b.2]
        conv => whnf
        refine call_pure code_3 rfl ?_
        rintro _ rfl
        conv => whnf
        all_goals first | rfl | exact ⟨rfl, rfl⟩
      · rw [if_neg hp] at hic ⊢
        conv => whnf
        refine call_pure hic rfl ?_
        rintro _ rfl
        conv => whnf
        refine call_pure (sameids_c _ (by rw [idsL_len]; unfold noPart at hp; omega)) rfl ?_
        rintro _ rfl
        conv => whnf
        rw [beq_self_eq_true a.1, beq_self_eq_true a.2]
        conv => whnf
        rw [beq_self_eq_true b.1, beq_self_eq_true b.2]
        conv => whnf
        all_goals first | rfl | exact ⟨rfl, rfl⟩
    · rw [hb1]
      rw [hb2] at hbc
      conv => whnf
      refine ⟨fun _ _ => rfl, ?_⟩
      conv => whnf
      refine call_pure hbc rfl ?_
      rintro _ rfl
      conv => whnf
      refine call_pure hsc rfl ?_
      rintro _ rfl
      by_cases hp : noPart cs.flatten k n
      · rw [if_pos hp] at hic ⊢
        conv => whnf
        refine call_pure hic rfl ?_
        rintro _ rfl
        conv => whnf
        refine call_pure sameids0 rfl ?_
        rintro _ rfl
        conv => whnf
        refine call_pure code_3 rfl ?_
        rintro _ rfl
        conv => whnf
        refine call_pure code_3 rfl ?_
        rintro _ rfl
        conv => whnf
        all_goals first | rfl | exact ⟨rfl, rfl⟩
      · rw [if_neg hp] at hic ⊢
        conv => whnf
        refine call_pure hic rfl ?_
        rintro _ rfl
        conv => whnf
        refine call_pure (sameids_c _ (by rw [idsL_len]; unfold noPart at hp; omega)) rfl ?_
        rintro _ rfl
        conv => whnf
        refine call_pure code_3 rfl ?_
        rintro _ rfl
        conv => whnf
        all_goals first | rfl | exact ⟨rfl, rfl⟩
theorem rd_itsX {B d : Nat} {a : AV} (h : RdA tt B (d + 4) 22 a) : ∃ l : List It, l.length ≤ B ∧ ∀ (L : Nat → Value) (hp : Hp) v, DenA L hp a v → DenA L hp (itS l) v := by
  obtain ⟨c, ⟨n, f, hn, hf, e⟩, rfl⟩ := h
  cases e
  obtain ⟨l, hl, hf2, hR⟩ := list_of (enc := itF) (R := fun _ => True) it0 (fun k hk => by obtain ⟨x, hx⟩ := rd_itX (hf k hk); exact ⟨x, trivial, hx⟩)
  refine ⟨l, by omega, fun L hp v hd => ?_⟩
  subst hl
  exact den_sl_ext hd (fun k hk => (hf2 k hk).symm)
theorem rd_nmsX {B d : Nat} {a : AV} (h : RdA tt B (d + 2) 23 a) : ∃ l : List Int, l.length ≤ B ∧ (∀ x, x ∈ l → i64L x) ∧ ∀ (L : Nat → Value) (hp : Hp) v, DenA L hp a v → DenA L hp (nmS l) v := by
  obtain ⟨c, ⟨n, f, hn, hf, e⟩, rfl⟩ := h
  cases e
  obtain ⟨l, hl, hf2, hR⟩ := list_of (enc := fun x : Int => [vi x]) (R := i64L) 0 (fun k hk => by obtain ⟨v, wv, hx⟩ := hf k hk; exact ⟨v, wf_i64 wv, hx⟩)
  refine ⟨l, by omega, fun s hs => ?_, fun L hp v hd => ?_⟩
  · obtain ⟨j, hj, rfl⟩ := mem_getDl (d := (0 : Int)) hs
    exact hR j (by omega)
  subst hl
  exact den_sl_ext hd (fun k hk => (hf2 k hk).symm)
theorem listPlaces_law : ∀ avs, RdArgs tt 1048576 30 [22, 23, 3, 3] avs → CallV Try.prog 5 avs [] (fun r own' => own' = [] ∧ r = vcb true) := by
  rintro avs ⟨a0, r0, h0, ⟨a1, r1, h1, ⟨a2, r2, h2, ⟨a3, r3, h3, rfl, rfl⟩, rfl⟩, rfl⟩, rfl⟩
  obtain ⟨L, hL, hdL⟩ := rd_itsX h0
  obtain ⟨g, hg, hgi, hdg⟩ := rd_nmsX h1
  obtain ⟨c2, ⟨k, wk, e2⟩, rfl⟩ := h2
  obtain ⟨c3, ⟨n, wn, e3⟩, rfl⟩ := h3
  cases e2
  cases e3
  refine callV_args (argsLe_cons hdL (argsLe_cons hdg (argsLe_refl _))) ?_
  exact lplaces_c L g k n hL hg hgi (wf_i64 wk) (wf_i64 wn)
end Go.Eng
/- A list's order, whatever came first: plain laws. -/
set_option linter.unusedVariables false
set_option linter.unusedSimpArgs false
namespace Go.Eng
open Go Go.RowKit Go.Proofs
/-- What an item names on its right is known. -/
def clH : HS → Prop
  | [] => True
  | (x, h) :: r => clH r ∧ (hasI r x.right ∨ x.right.1 = 0)
theorem hasI_sub {r hs : HS} (h : ∀ p, p ∈ r → p ∈ hs) {a : I2} (ha : hasI r a) : hasI hs a := by
  obtain ⟨p, hp, e⟩ := ha
  exact ⟨p, h p hp, e⟩
theorem pth_sub {r hs : HS} (hr : okH r) (ho : okH hs) (h : ∀ p, p ∈ r → p ∈ hs) : ∀ (n : Nat) (a : I2), (pth r a).length = n → hasI r a → pth hs a = pth r a := by
  intro n
  induction n with
  | zero => intro a hn ha; exact absurd (List.eq_nil_of_length_eq_zero hn) (pth_ne hr ha)
  | succ n ih =>
    intro a hn ha
    obtain ⟨⟨x, g⟩, hm, rfl⟩ := ha
    rw [pth_at hr hm] at hn ⊢
    rw [pth_at ho (h _ hm)]
    congr 1
    rcases on_ok hr hm with h1 | ⟨_, h1⟩
    · rw [h1, pth_no (fun e => okH_none ho e rfl), pth_no (fun e => okH_none hr e rfl)]
    · exact ih g.on (by simp at hn; exact hn) h1
theorem und_sub {r hs : HS} (hr : okH r) (ho : okH hs) (h : ∀ p, p ∈ r → p ∈ hs) (k : Hg) : ∀ (n : Nat) (a : I2), (pth r a).length = n → hasI r a → und hs a k = und r a k := by
  intro n
  induction n with
  | zero => intro a hn ha; exact absurd (List.eq_nil_of_length_eq_zero hn) (pth_ne hr ha)
  | succ n ih =>
    intro a hn ha
    obtain ⟨⟨x, g⟩, hm, rfl⟩ := ha
    rw [pth_at hr hm] at hn
    rw [und_at hr hm, und_at ho (h _ hm)]
    split
    · rfl
    · rcases on_ok hr hm with h1 | ⟨_, h1⟩
      · rw [h1, und_no (fun e => okH_none ho e rfl), und_no (fun e => okH_none hr e rfl)]
      · exact ih g.on (by simp at hn; exact hn) h1
theorem hgOf_sub {r hs : HS} (hr : okH r) (ho : okH hs) (h : ∀ p, p ∈ r → p ∈ hs) {x : It} (hx : hasI r x.right ∨ x.right.1 = 0) : hgOf hs x = hgOf r x := by
  rcases hx with hx | hx
  · have : belR hs x.right x.left = belR r x.right x.left := by
      unfold belR bel
      rw [und_sub hr ho h _ _ _ rfl hx, und_sub hr ho h _ _ _ rfl hx]
    unfold hgOf
    rw [this]
  · have : (x.right.1 != 0) = false := by rw [hx]; rfl
    unfold hgOf
    rw [this, Bool.false_and, Bool.false_and]
theorem atH : ∀ {hs : HS}, okH hs → bldH hs → clH hs → ∀ p, p ∈ hs → p.2 = hgOf hs p.1 ∧ (hasI hs p.1.right ∨ p.1.right.1 = 0) := by
  intro hs
  induction hs with
  | nil => intro _ _ _ p hp; cases hp
  | cons q r ih =>
    obtain ⟨y, g⟩ := q
    intro ho hb hc p hp
    have hsub : ∀ p, p ∈ r → p ∈ (y, g) :: r := fun p hp => List.mem_cons_of_mem _ hp
    rcases List.mem_cons.1 hp with e | hp
    · subst e
      exact ⟨by rw [hgOf_sub ho.1 ho hsub hc.2]; exact hb.2, hc.2.imp (hasI_sub hsub) id⟩
    · obtain ⟨h1, h2⟩ := ih ho.1 hb.1 hc.1 p hp
      exact ⟨by rw [hgOf_sub ho.1 ho hsub h2]; exact h1, h2.imp (hasI_sub hsub) id⟩
theorem sub_items {hs : HS} (ho : okH hs) (hb : bldH hs) (hc : clH hs) : ∀ {r : HS}, okH r → bldH r → clH r → (∀ p, p ∈ r → ∃ g, (p.1, g) ∈ hs) → ∀ p, p ∈ r → p ∈ hs := by
  intro r
  induction r with
  | nil => intro _ _ _ _ p hp; cases hp
  | cons q r ih =>
    obtain ⟨y, g⟩ := q
    intro hr hrb hrc hi p hp
    have ihr := ih hr.1 hrb.1 hrc.1 (fun p hp => hi p (List.mem_cons_of_mem _ hp))
    rcases List.mem_cons.1 hp with e | hp
    · subst e
      obtain ⟨g2, hg2⟩ := hi _ (List.mem_cons_self ..)
      have h1 := (atH ho hb hc _ hg2).1
      have h2 := hgOf_sub hr.1 ho ihr hrc.2
      have h3 : g = hgOf r y := hrb.2
      have h1' : g2 = hgOf hs y := h1
      have : g = g2 := by rw [h3, h1', h2]
      rw [this]
      exact hg2
    · exact ihr p hp
/-- **One order, whatever came first.** -/
theorem ents_same {h1 h2 : HS} (o1 : okH h1) (b1 : bldH h1) (c1 : clH h1) (o2 : okH h2) (b2 : bldH h2) (c2 : clH h2) (h12 : ∀ p, p ∈ h1 → ∃ g, (p.1, g) ∈ h2) (h21 : ∀ p, p ∈ h2 → ∃ g, (p.1, g) ∈ h1)
    {G1 G2 : I2 → Bool} (hG : ∀ a, hasI h1 a → G1 a = G2 a) {w1 w2 : List I2} (hw1 : isOrd h1 w1) (hw2 : isOrd h2 w2) : w1.map (enOf h1 G1) = w2.map (enOf h2 G2) := by
  have s12 := sub_items o2 b2 c2 o1 b1 c1 h12
  have s21 := sub_items o1 b1 c1 o2 b2 c2 h21
  have hp : w1.Perm w2 := (List.perm_ext_iff_of_nodup (hw1.nodup o1) (hw2.nodup o2)).2 (fun a => by rw [hw1.has, hw2.has]; exact ⟨hasI_sub s12, hasI_sub s21⟩)
  have hky : ∀ a, hasI h2 a → kyO h1 a = kyO h2 a := fun a ha => by unfold kyO; rw [pth_sub o2 o1 s21 _ _ rfl ha]
  have hs2 : w2.Pairwise (fun a b => klt (kyO h1 a) (kyO h1 b)) := hw2.srt.imp_of_mem (fun {a b} ha hb hab => by rw [hky a (hw2.has.1 ha), hky b (hw2.has.1 hb)]; exact hab)
  have e : w1 = w2 := pw_uniq (fun a b h1 h2 => klt_irr _ (klt_tr h1 h2)) hp hw1.srt hs2
  subst e
  refine List.map_congr_left (fun a ha => ?_)
  have hh := hw1.has.1 ha
  unfold enOf
  rw [hG a hh]
  obtain ⟨⟨x, g⟩, hm, rfl⟩ := hh
  rw [chOf_mem o1 hm, chOf_mem o2 (s12 _ hm)]
end Go.Eng
/- Items added as they can be: plain laws. -/
set_option linter.unusedVariables false
set_option linter.unusedSimpArgs false
namespace Go.Eng
open Go Go.RowKit Go.Proofs
theorem knP_uniq {K : List It} (hk : knP K) {i j : Nat} (hi : i < K.length) (hj : j < K.length) (e : (K.getD i it0).id = (K.getD j it0).id) : i = j := by
  have key : ∀ i j, i < j → j < K.length → (K.getD i it0).id = (K.getD j it0).id → False := fun i j hij hj e => by
    have h := (hk j hj).new
    have hne : fiE (K.take j) (K.getD j it0).id ≠ none := fun g => by
      unfold fiE at g
      rw [List.findIdx?_eq_none_iff] at g
      have hm : (K.getD i it0) ∈ K.take j := by
        rw [List.getD_eq_getElem?_getD, List.getElem?_eq_getElem (by omega)]
        exact List.mem_iff_getElem.2 ⟨i, by rw [List.length_take]; omega, by rw [List.getElem_take]; rfl⟩
      have := g _ hm
      rw [e] at this
      simp at this
    cases hf : fiE (K.take j) (K.getD j it0).id with
    | none => exact hne hf
    | some k => rw [hf] at h; cases h
  rcases Nat.lt_trichotomy i j with g | g | g
  · exact (key i j g hj e).elim
  · exact g
  · exact (key j i g hi e.symm).elim
theorem mem_its {hs : HS} {x : It} : x ∈ itsH hs ↔ ∃ h, (x, h) ∈ hs := by
  unfold itsH
  rw [List.mem_reverse, List.mem_map]
  constructor
  · rintro ⟨⟨y, h⟩, hm, rfl⟩; exact ⟨h, hm⟩
  · rintro ⟨h, hm⟩; exact ⟨_, hm, rfl⟩
theorem first_in (K : List It) (p : It → Prop) [DecidablePred p] : ∀ q, q ≤ K.length → (∀ j, j < q → ¬ p (K.getD j it0)) ∨ ∃ q0, q0 < q ∧ p (K.getD q0 it0) ∧ ∀ j, j < q0 → ¬ p (K.getD j it0)
  | 0, _ => .inl (fun j hj => by omega)
  | q + 1, h => by
    rcases first_in K p q (by omega) with g | ⟨q0, h1, h2, h3⟩
    · by_cases e : p (K.getD q it0)
      · exact .inr ⟨q, by omega, e, g⟩
      · refine .inl (fun j hj => ?_)
        rcases Nat.lt_succ_iff_lt_or_eq.1 hj with h4 | rfl
        · exact g j h4
        · exact e
    · exact .inr ⟨q0, by omega, h2, h3⟩
theorem knP_nodup {K : List It} (hk : knP K) : K.Nodup := by
  rw [List.Nodup, List.pairwise_iff_getElem]
  intro i j hi hj hij e
  have := knP_uniq hk hi hj (by
    rw [List.getD_eq_getElem?_getD, List.getD_eq_getElem?_getD, List.getElem?_eq_getElem hi, List.getElem?_eq_getElem hj]
    show K[i].id = K[j].id
    rw [e])
  omega
/-- Of items that have not come yet one can come. -/
theorem some_ok {K rest : List It} {hs : HS} (hk : knP K) (hv : ∀ x, x ∈ K → vldR x.ch = true) (hp : (itsH hs ++ rest).Perm K) (hr : 0 < rest.length) : ∃ t, t < rest.length ∧ okA hs (rest.getD t it0) := by
  classical
  have hnd : (itsH hs ++ rest).Nodup := hp.nodup_iff.2 (knP_nodup hk)
  obtain ⟨q, hq, hqr, hqm⟩ : ∃ q, q < K.length ∧ K.getD q it0 ∈ rest ∧ ∀ j, j < q → ¬ K.getD j it0 ∈ rest := by
    rcases first_in K (fun x => x ∈ rest) K.length (Nat.le_refl _) with g | g
    · exfalso
      have h0 : rest.getD 0 it0 ∈ K := hp.mem_iff.1 (List.mem_append_right _ (getD_mem hr))
      obtain ⟨j, hj, e⟩ := mem_getDl (d := it0) h0
      exact g j hj (by rw [e]; exact getD_mem hr)
    · exact g
  obtain ⟨t, ht, e⟩ := mem_getDl (d := it0) hqr
  refine ⟨t, ht, ?_⟩
  rw [e]
  obtain ⟨h1, h2, h3, h4⟩ := hk q hq
  have key : ∀ a, (a.1 = 0 ∨ (fiE (K.take q) a).isNone = false) → hasI hs a ∨ a.1 = 0 := fun a h => by
    rcases h with h | h
    · exact .inr h
    · cases hf : fiE (K.take q) a with
      | none => rw [hf] at h; cases h
      | some j =>
        obtain ⟨g1, g2⟩ := fiE_some hf
        have g3 : j < q := by rw [List.length_take] at g1; omega
        rw [getD_take _ _ _ _ g3] at g2
        have hm : K.getD j it0 ∈ itsH hs ++ rest := hp.mem_iff.2 (getD_mem (by omega))
        rcases List.mem_append.1 hm with h5 | h5
        · obtain ⟨g, hg⟩ := mem_its.1 h5
          exact .inl ⟨_, hg, g2⟩
        · exact absurd h5 (hqm j g3)
  refine ⟨fun ⟨⟨x, g⟩, hm, he⟩ => ?_, h1, key _ h3, key _ h4, hv _ (getD_mem hq)⟩
  have hx : x ∈ itsH hs := mem_its.2 ⟨g, hm⟩
  have hxK : x ∈ K := hp.mem_iff.1 (List.mem_append_left _ hx)
  obtain ⟨j, hj, ej⟩ := mem_getDl (d := it0) hxK
  have := knP_uniq hk hj hq (by rw [ej]; exact he)
  subst this
  rw [ej] at hqr
  exact (List.nodup_append.1 hnd).2.2 x hx x hqr rfl
/-- Each place is tried. -/
theorem try_all {n p : Nat} (hp : p < n) {t : Nat} (ht : t < n) : ∃ k, k < n ∧ (p + k) % n = t := by
  rcases Nat.lt_or_ge t p with g | g
  · refine ⟨t + n - p, by omega, ?_⟩
    rw [show p + (t + n - p) = t + n from by omega, Nat.add_mod_right, Nat.mod_eq_of_lt ht]
  · exact ⟨t - p, by omega, by rw [show p + (t - p) = t from by omega, Nat.mod_eq_of_lt ht]⟩
def outA (l : List It) (k : Nat) : List It := l.take k ++ l.drop (k + 1)
theorem outA_len {l : List It} {k : Nat} (hk : k < l.length) : (outA l k).length + 1 = l.length := by
  unfold outA
  rw [List.length_append, List.length_take, List.length_drop]; omega
theorem outA_perm {l : List It} {k : Nat} (hk : k < l.length) : l.Perm (l.getD k it0 :: outA l k) := by
  unfold outA
  have e : l = l.take k ++ l.getD k it0 :: l.drop (k + 1) := by
    rw [List.getD_eq_getElem?_getD, List.getElem?_eq_getElem hk]
    show l = l.take k ++ l[k] :: l.drop (k + 1)
    rw [List.getElem_cons_drop, List.take_append_drop]
  refine List.Perm.trans (l₂ := l.take k ++ l.getD k it0 :: l.drop (k + 1)) (by rw [← e]) List.perm_middle
/-- The second list, as it grows. -/
structure OI (K rest : List It) (ps : List I2) (hs : HS) (gs : List I2) (cs : Ck) (l : List Nd) (i : Nat) : Prop where
  M : LM hs gs cs l i
  cl : clH hs
  perm : (itsH hs ++ rest).Perm K
  gone : ∀ a, hasI hs a → Gof gs a = Gof ps a
  cnt : i + rest.length = K.length
theorem OI.put {K rest : List It} {ps : List I2} {hs : HS} {gs : List I2} {cs cs2 : Ck} {l l2 : List Nd} {i : Nat} (I : OI K rest ps hs gs cs l i) {a : Nat} (ha : a < rest.length) (hok : okA hs (rest.getD a it0))
    (V2 : LV ((rest.getD a it0, hgOf hs (rest.getD a it0)) :: hs) (updG (Gof gs) (rest.getD a it0).id (Gof ps (rest.getD a it0).id)) cs2 l2 (i + 1)) :
    ∃ gs2, OI K (outA rest a) ps ((rest.getD a it0, hgOf hs (rest.getD a it0)) :: hs) gs2 cs2 l2 (i + 1) := by
  have M2 := I.M.add hok V2
  refine ⟨_, M2, ⟨I.cl, hok.right⟩, ?_, fun b hb => ?_, by have := outA_len ha; have := I.cnt; omega⟩
  · rw [itsH_cons]
    have h1 := outA_perm ha
    have h2 : (itsH hs ++ [rest.getD a it0] ++ outA rest a).Perm (itsH hs ++ rest) := by
      rw [List.append_assoc]
      exact List.Perm.append_left _ h1.symm
    exact h2.trans I.perm
  · generalize rest.getD a it0 = x at *
    cases hd : Gof ps x.id with
    | true =>
      rw [if_pos rfl]
      by_cases e : b = x.id
      · rw [e, hd]; unfold Gof; rw [decide_eq_true (by simp)]
      · have hb2 : hasI hs b := by
          obtain ⟨p, hp, hpe⟩ := hb
          rcases List.mem_cons.1 hp with h | h
          · rw [h] at hpe; exact absurd hpe.symm e
          · exact ⟨p, h, hpe⟩
        rw [← I.gone b hb2]
        unfold Gof
        rw [Bool.eq_iff_iff, decide_eq_true_iff, decide_eq_true_iff, List.mem_append, List.mem_singleton]
        exact ⟨fun h => h.resolve_right e, .inl⟩
    | false =>
      rw [if_neg (by decide)]
      by_cases e : b = x.id
      · rw [e, hd]; unfold Gof; rw [decide_eq_false (fun h => hok.new (I.M.gone _ h))]
      · have hb2 : hasI hs b := by
          obtain ⟨p, hp, hpe⟩ := hb
          rcases List.mem_cons.1 hp with h | h
          · rw [h] at hpe; exact absurd hpe.symm e
          · exact ⟨p, h, hpe⟩
        exact I.gone b hb2
/-- All have come: the entries are the same. -/
theorem OI.done {K : List It} {ps : List I2} {h1 h2 : HS} {gs : List I2} {cs1 cs2 : Ck} {l1 l2 : List Nd} {i N : Nat} (hk : knP K) (M1 : LM h1 ps cs1 l1 N) (c1 : clH h1) (e1 : itsH h1 = K) (I : OI K [] ps h2 gs cs2 l2 i) : cs2.flatten = cs1.flatten := by
  obtain ⟨w1, hw1, f1⟩ := M1.V.ord
  obtain ⟨w2, hw2, f2⟩ := I.M.V.ord
  have hp : (itsH h2).Perm (itsH h1) := by have := I.perm; rw [List.append_nil] at this; rw [e1]; exact this
  rw [f1, f2]
  exact (ents_same M1.V.L.ok M1.bld c1 I.M.V.L.ok I.M.bld I.cl (fun p hp1 => mem_its.1 (hp.mem_iff.2 (mem_its.2 ⟨p.2, hp1⟩))) (fun p hp1 => mem_its.1 (hp.mem_iff.1 (mem_its.2 ⟨p.2, hp1⟩)))
    (fun a ha => (I.gone a (by
      obtain ⟨⟨x, g⟩, hm, e⟩ := ha
      obtain ⟨g2, hg2⟩ := mem_its.1 (hp.mem_iff.2 (mem_its.2 ⟨g, hm⟩))
      exact ⟨_, hg2, e⟩)).symm) hw1 hw2).symm
end Go.Eng
/- The law ListOrders. -/
set_option linter.unusedVariables false
set_option linter.unusedSimpArgs false
set_option maxRecDepth 100000
set_option maxHeartbeats 4000000
namespace Go.Eng
open Go Go.RowKit Go.Proofs
def psL (K : List It) (gone : List Int) : List I2 := gone.map (fun g => (K.getD (g % (K.length : Int)).toNat it0).id)
theorem psL_len (K : List It) (gone : List Int) : (psL K gone).length = gone.length := by unfold psL; rw [List.length_map]
theorem psL_at {K : List It} {gone : List Int} {j : Nat} (hj : j < gone.length) : (psL K gone).getD j (0, 0) = (K.getD (gone.getD j 0 % (K.length : Int)).toNat it0).id := by
  have e : gone.getD j 0 = gone[j] := by rw [List.getD_eq_getElem?_getD, List.getElem?_eq_getElem hj]; rfl
  unfold psL
  rw [e, List.getD_eq_getElem?_getD, List.getElem?_map, List.getElem?_eq_getElem hj]; rfl
theorem psL_snoc {K : List It} {gone : List Int} {j : Nat} (hj : j < gone.length) : (psL K gone).take (j + 1) = (psL K gone).take j ++ [(K.getD (gone.getD j 0 % (K.length : Int)).toNat it0).id] := by
  have hl : j < (psL K gone).length := by rw [psL_len]; exact hj
  rw [← psL_at hj, List.getD_eq_getElem?_getD, List.getElem?_eq_getElem hl]
  exact (List.take_append_getElem hl).symm
theorem gof_step {K : List It} {gone : List Int} {j u : Nat} {x : It} {b : Bool} (hjl : j < gone.length) (hb : b = Gof ((psL K gone).take j) x.id) (hue : gone.getD j 0 % (K.length : Int) = (u : Int)) :
    Gof ((psL K gone).take (j + 1)) x.id = (b || decide ((K.getD u it0).id = x.id)) := by
  have hq : (psL K gone).getD j (0, 0) = (K.getD u it0).id := by rw [psL_at hjl, hue, ti_nat]
  rw [Gof_snoc (by rw [psL_len]; exact hjl), hq, hb]
theorem gof_all {K : List It} {gone : List Int} {j : Nat} {x : It} {b : Bool} (hj : gone.length ≤ j) (hb : b = Gof ((psL K gone).take j) x.id) : b = Gof (psL K gone) x.id := by
  rw [List.take_of_length_le (by rw [psL_len]; exact hj)] at hb
  exact hb
theorem OI.putx {K rest : List It} {ps : List I2} {hs : HS} {gs : List I2} {cs cs2 : Ck} {l l2 : List Nd} {i : Nat} (I : OI K rest ps hs gs cs l i) {a : Nat} (ha : a < rest.length) {x : It} (hx : rest.getD a it0 = x) {b : Bool} (hb : Gof ps x.id = b) (hok : okA hs x)
    (V2 : LV ((x, hgOf hs x) :: hs) (updG (Gof gs) x.id b) cs2 l2 (i + 1)) : ∃ gs2, OI K (outA rest a) ps ((x, hgOf hs x) :: hs) gs2 cs2 l2 (i + 1) := by
  subst hx hb
  exact I.put ha hok V2
theorem mod_at {n : Nat} (hn : 0 < n) (x : Int) : ∃ p : Nat, p < n ∧ x % (n : Int) = (p : Int) := by
  have h0 := Int.emod_nonneg x (show (n : Int) ≠ 0 by omega)
  have h1 := Int.emod_lt_of_pos x (show 0 < (n : Int) by omega)
  exact ⟨(x % (n : Int)).toNat, by omega, by omega⟩
abbrev loE (K : List It) (picks gone : List Int) (t : List (Nat × AV)) : List (Nat × AV) := (1, nmS picks) :: (2, nmS gone) :: (7, vcb true) :: (8, itS K) :: (9, .c (.own 0 0)) :: t
def loA (K : List It) (picks gone : List Int) (m : Nat) (st : St) : Prop := ∃ (i : Nat) (hs : HS) (cs : Ck) (l : List Nd), m = K.length - i ∧ i ≤ K.length ∧ LM hs [] cs l i ∧ clH hs ∧ itsH hs = K.take i ∧
  st = ⟨196, 0, loE K picks gone [(10, vci .i64 (i : Int))], [some (.cells 31 (liF cs l))]⟩
def loB (K : List It) (picks gone : List Int) (hs : HS) (l : List Nd) (m : Nat) (st : St) : Prop := ∃ (j : Nat) (cs : Ck), m = gone.length - j ∧ j ≤ gone.length ∧ LM hs ((psL K gone).take j) cs l (K.length + j) ∧
  st = ⟨196, 0, loE K picks gone [(13, vci .i64 (j : Int))], [some (.cells 31 (liF cs l))]⟩
abbrev loZ (K rest : List It) (picks gone : List Int) (i : Nat) (t : List (Nat × AV)) : List (Nat × AV) := (1, nmS picks) :: (2, nmS gone) :: (7, vcb true) :: (8, itS K) :: (9, .c (.own 0 0)) :: (16, itS rest) :: (17, .c (.own 1 0)) :: (18, vci .i64 (i : Int)) :: t
abbrev loO (cs1 : Ck) (l1 : List Nd) (cs : Ck) (l : List Nd) : List (Option Ob) := [some (.cells 31 (liF cs1 l1)), some (.cells 31 (liF cs l))]
def loC (K : List It) (picks gone : List Int) (cs1 : Ck) (l1 : List Nd) (m : Nat) (st : St) : Prop := ∃ (i : Nat) (rest : List It) (hs : HS) (gs : List I2) (cs : Ck) (l : List Nd), m = rest.length ∧ OI K rest (psL K gone) hs gs cs l i ∧
  st = ⟨196, 0, loZ K rest picks gone i [], loO cs1 l1 cs l⟩
/-- The rounds over what is left. -/
def loD (K : List It) (picks gone : List Int) (cs1 : Ck) (l1 : List Nd) (i p : Nat) (rest : List It) (hs : HS) (cs : Ck) (l : List Nd) (m : Nat) (st : St) : Prop :=
  (∃ k : Nat, m = rest.length + 1 - k ∧ k ≤ rest.length ∧ (∀ q, q < k → ¬ okA hs (rest.getD ((p + q) % rest.length) it0)) ∧ st = ⟨196, 0, loZ K rest picks gone i [(19, vci .i64 (p : Int)), (20, vcb false), (21, vci .i64 (k : Int))], loO cs1 l1 cs l⟩) ∨
  (∃ (k : Nat) (rest2 : List It) (hs2 : HS) (gs2 : List I2) (cs2 : Ck) (l2 : List Nd), m = 0 ∧ k ≤ rest.length ∧ OI K rest2 (psL K gone) hs2 gs2 cs2 l2 (i + 1) ∧ st = ⟨196, 0, loZ K rest2 picks gone i [(19, vci .i64 (p : Int)), (20, vcb true), (21, vci .i64 (k : Int))], loO cs1 l1 cs2 l2⟩)
abbrev atX (p k n : Nat) : Int := (IntKind.i64.wrap ((p : Int) + (k : Int))).tmod (n : Int)
abbrev loF (K rest : List It) (picks gone : List Int) (i p k : Nat) (a : Int) (t : List (Nat × AV)) : List (Nat × AV) := (1, nmS picks) :: (2, nmS gone) :: (7, vcb true) :: (8, itS K) :: (9, .c (.own 0 0)) :: (16, itS rest) :: (17, .c (.own 1 0)) :: (18, vci .i64 (i : Int)) :: (19, vci .i64 (p : Int)) :: (20, vcb false) :: (21, vci .i64 (k : Int)) :: (22, vci .i64 a) :: (23, .c (.own 2 0)) :: t
def loG (K rest : List It) (picks gone : List Int) (i p k : Nat) (a : Int) (x : It) (O : List (Option Ob)) (m : Nat) (st : St) : Prop := ∃ (j : Nat) (b : Bool), m = gone.length - j ∧ j ≤ gone.length ∧ b = Gof ((psL K gone).take j) x.id ∧
  st = ⟨196, 0, loF K rest picks gone i p k a [(24, vcb b), (25, vci .i64 (j : Int))], O⟩
theorem lorders_c (L : List It) (picks gone : List Int) (hL : L.length ≤ 1048576) (hpk : picks.length ≤ 1048576) (hg : gone.length ≤ 1048576) (hpi : ∀ x, x ∈ picks → i64L x) (hgi : ∀ x, x ∈ gone → i64L x) : CallV Try.prog 3 [itS L, nmS picks, nmS gone] [] (fun r own' => own' = [] ∧ r = vcb true) := by
  refine callV_pure Try.func3 rfl ttok ftok rfl rfl rfl (Nat.le_of_ble_eq_true rfl) ?_
  conv => whnf
  refine call_pure up_c rfl ?_
  rintro _ rfl
  conv => whnf
  refine call_pure (known0_c L (by omega)) rfl ?_
  rintro _ ⟨K, hK, hP, hV, rfl⟩
  conv => whnf
  refine onB_intro (fun h => ?_) (fun h => ?_)
  · conv => whnf
    rw [show decide ((K.length : Int) ≥ 0) = true from decide_eq_true (by omega)]
    all_goals first | rfl | exact ⟨rfl, rfl⟩
  have h : K.length ≤ 30 ∧ gone.length ≤ 30 ∧ 0 < K.length := by
    simp only [pickB, isLit, Bool.or_eq_false_iff, decide_eq_false_iff_not, beq_eq_false_iff_ne] at h
    omega
  obtain ⟨hK2, hg2, hK0⟩ := h
  conv => whnf
  refine loopV_cut 0 (fun st => ∃ (hs : HS) (cs : Ck) (l : List Nd), LM hs [] cs l K.length ∧ clH hs ∧ itsH hs = K ∧ st = ⟨196, 0, loE K picks gone [], [some (.cells 31 (liF cs l))]⟩) ?_ ?_
  · refine loopV ttok ftok (loA K picks gone) ((nil_cellT 0 0 2 (chR []) rfl rfl).trans ((nil_cellT 0 3 10 (ndR []) rfl rfl).trans (norm_weak [1, 2, 7, 8, 9, 10] [some 0] rfl rfl))) ⟨0, [], [], [], rfl, Nat.zero_le _, LM.zero, trivial, rfl, rfl⟩ ?_
    rintro m st ⟨i, hs, cs, l, rfl, hi, M, hc, hits, rfl⟩
    have e1 := e64 (k := i) (by omega)
    have V := M.V
    have hs1 := V.sum
    have hc1 := V.ck
    have hl1 := V.len
    conv => whnf
    refine onB_intro (fun h => ?_) (fun h => ?_)
    rotate_left
    · have h := of_decide_eq_false h
      obtain rfl : i = K.length := by omega
      rw [List.take_length] at hits
      conv => whnf
      exact ⟨rfl, _, norm_weak [1, 2, 7, 8, 9] [some 0] rfl rfl, hs, cs, l, M, hc, hits, rfl⟩
    have h := of_decide_eq_true h
    have hil : i < K.length := by omega
    have hok := okA_kn hil hits hP hV
    have hadd := ladd_c V (by omega) (K.getD i it0) false
    have hits2 : itsH ((K.getD i it0, hgOf hs (K.getD i it0)) :: hs) = K.take (i + 1) := by
      rw [itsH_cons, hits, List.getD_eq_getElem?_getD, List.getElem?_eq_getElem hil]
      exact List.take_append_getElem hil
    conv => whnf
    refine drawV_cut (fun S => ∃ cs2 l2, LV ((K.getD i it0, hgOf hs (K.getD i it0)) :: hs) (updG (Gof []) (K.getD i it0).id false) cs2 l2 (i + 1) ∧
      S = ⟨196, 0, loE K picks gone [(10, vci .i64 (i : Int)), (11, .c (.own 1 0)), (12, .c (.v .nilIface))], [some (.cells 31 (liF cs l)), some (.cells 31 (liF cs2 l2))]⟩) ?_ ?_
    · refine drawV_sched (.rd 0 (.rd 1 (.rd 2 (.rd 3 (.rd 4 (.alt (.ef 5 (.rd 6 (.rd 7 (.rd 8 (.ef 9 (.ef 10 (.rd 11 (.nil)))))))) (.ef 9 (.ef 5 (.rd 6 (.rd 7 (.rd 8 (.ef 10 (.rd 11 (.nil)))))))))))))) [1] mixed (by kernel_rfl) ttok ftok ?_
      conv => whnf
      refine ⟨by omega, ?_⟩
      conv => whnf
      rw [ti_nat]
      refine ⟨?_, ?_⟩
      all_goals
        conv => whnf
        refine call_pure hadd rfl ?_
        rintro _ (⟨_, cs2, l2, V2, rfl⟩ | ⟨hno, _⟩)
        rotate_left
        · exact absurd hok hno
        conv => whnf
        exact ⟨_, norm_weak [1, 2, 7, 8, 9, 10, 11, 12] [some 0, some 1] rfl rfl, cs2, l2, V2, rfl⟩
    · rintro S ⟨cs2, l2, V2, rfl⟩
      have M2 : LM ((K.getD i it0, hgOf hs (K.getD i it0)) :: hs) [] cs2 l2 (i + 1) := M.add hok V2
      conv => whnf
      rw [e1]
      exact ⟨K.length - (i + 1), _, by omega, norm_weak [1, 2, 7, 8, 9, 10] [some 0] rfl rfl, i + 1, _, _, _, rfl, by omega, M2, ⟨hc, hok.right⟩, hits2, rfl⟩
  · rintro st ⟨hs, cs, l, M, hc, hits, rfl⟩
    have hpl := psL_len K gone
    conv => whnf
    refine loopV_cut 2 (fun st => ∃ (cs : Ck), LM hs (psL K gone) cs l (K.length + gone.length) ∧ st = ⟨196, 0, loE K picks gone [], [some (.cells 31 (liF cs l))]⟩) ?_ ?_
    · refine loopV ttok ftok (loB K picks gone hs l) (norm_weak [1, 2, 7, 8, 9, 13] [some 0] rfl rfl) ⟨0, cs, rfl, Nat.zero_le _, M, rfl⟩ ?_
      clear M
      rintro m st ⟨j, cs, rfl, hj, M, rfl⟩
      have e1 := e64 (k := j) (by omega)
      have V := M.V
      have hs1 := V.sum
      have hc1 := V.ck
      have hl1 := V.len
      conv => whnf
      refine onB_intro (fun h => ?_) (fun h => ?_)
      rotate_left
      · have h := of_decide_eq_false h
        obtain rfl : j = gone.length := by omega
        rw [List.take_of_length_le (by omega)] at M
        conv => whnf
        exact ⟨rfl, _, norm_weak [1, 2, 7, 8, 9] [some 0] rfl rfl, cs, M, rfl⟩
      have h := of_decide_eq_true h
      have hjl : j < gone.length := by omega
      have hgk := hgi _ (getD_mem (d := 0) hjl)
      have hsn := psL_snoc (K := K) hjl
      obtain ⟨p, hpn, hpe⟩ := mod_at hK0 (gone.getD j 0)
      rw [hpe, ti_nat] at hsn
      have hpc := pick_c (gone.getD j 0) K.length hgk (by omega)
      rw [hpe] at hpc
      have hin : hasI hs (K.getD p it0).id := by
        have : K.getD p it0 ∈ itsH hs := by rw [hits]; exact getD_mem hpn
        obtain ⟨g, hgm⟩ := mem_its.1 this
        exact ⟨_, hgm, rfl⟩
      have hdel : CallV _ _ _ _ _ := (ldel_c V (by omega) (K.getD p it0).id).mono (Q' := fun r own' => own' = [] ∧ ∃ cs2, LV hs (updG (Gof ((psL K gone).take j)) (K.getD p it0).id true) cs2 l (K.length + j) ∧ r = .tup [liA cs2 l, .c (.v .nilIface)]) (fun r own' ⟨h1, h2⟩ => ⟨h1, h2.elim (fun h => h.2) (fun h => absurd hin h.1)⟩)
      conv => whnf
      refine drawV_cut (fun S => ∃ cs2, LV hs (updG (Gof ((psL K gone).take j)) (K.getD p it0).id true) cs2 l (K.length + j) ∧
        S = ⟨196, 0, loE K picks gone [(13, vci .i64 (j : Int)), (14, .c (.own 1 0)), (15, .c (.v .nilIface))], [some (.cells 31 (liF cs l)), some (.cells 31 (liF cs2 l))]⟩) ?_ ?_
      · refine drawV_sched (.rd 0 (.rd 1 (.rd 2 (.rd 3 (.rd 4 (.rd 5 (.rd 6 (.rd 7 (.alt (.ef 8 (.rd 9 (.rd 10 (.rd 11 (.alt (.ef 12 (.rd 13 (.rd 14 (.rd 15 (.ef 16 (.ef 17 (.rd 18 (.nil)))))))) (.ef 16 (.ef 12 (.rd 13 (.rd 14 (.rd 15 (.ef 17 (.rd 18 (.nil))))))))))))) (.ef 16 (.ef 8 (.rd 9 (.rd 10 (.rd 11 (.ef 12 (.rd 13 (.rd 14 (.rd 15 (.ef 17 (.rd 18 (.nil))))))))))))))))))))) [1] mixed (by kernel_rfl) ttok ftok ?_
        conv => whnf
        refine ⟨by omega, ?_⟩
        conv => whnf
        rw [ti_nat]
        repeat' first
          | (refine call_pure hpc rfl ?_; rintro _ rfl; conv => whnf)
          | (refine call_pure hdel rfl ?_; rintro _ ⟨cs2, V2, rfl⟩; conv => whnf)
          | (refine ⟨⟨by omega, by omega⟩, ?_⟩; conv => whnf)
          | exact ⟨_, norm_weak [1, 2, 7, 8, 9, 13, 14, 15] [some 0, some 1] rfl rfl, _, by assumption, rfl⟩
          | (refine ⟨?_, ?_⟩ <;> (conv => whnf))
      · rintro S ⟨cs2, V2, rfl⟩
        have M2 := M.del hin V2
        rw [← hsn] at M2
        conv => whnf
        rw [e1]
        exact ⟨gone.length - (j + 1), _, by omega, norm_weak [1, 2, 7, 8, 9, 13] [some 0] rfl rfl, j + 1, cs2, rfl, by omega, M2, rfl⟩
    · clear M
      rintro st ⟨cs, M, rfl⟩
      have V := M.V
      have hs1 := V.sum
      have hc1 := V.ck
      have hl1 := V.len
      conv => whnf
      refine ⟨⟨by omega, by show (0 + K.length) * 28 ≤ _; omega⟩, ?_⟩
      conv => whnf
      refine ⟨K.length, itR K, by omega, fun k hk => by omega, fun k hk => by rw [Nat.zero_add], ?_⟩
      conv => whnf
      refine loopV_frz [2] ?_
      conv => whnf
      refine ⟨fun _ _ => rfl, ?_⟩
      refine loopV_cut 4 (fun st => ∃ (hs2 : HS) (gs2 : List I2) (cs2 : Ck) (l2 : List Nd) (i : Nat), OI K [] (psL K gone) hs2 gs2 cs2 l2 i ∧ st = ⟨196, 0, loE K picks gone [(17, .c (.own 1 0))], loO cs l cs2 l2⟩) ?_ ?_
      · refine loopV ttok ftok (loC K picks gone cs l) ((nil_cellT 3 0 2 (chR []) rfl rfl).trans ((nil_cellT 3 3 10 (ndR []) rfl rfl).trans (norm_weak [1, 2, 7, 8, 9, 16, 17, 18] [some 0, some 3] rfl rfl))) ⟨0, K, [], [], [], [], rfl, ⟨LM.zero, trivial, List.Perm.refl _, fun a ⟨q, hq, _⟩ => (by cases hq), by omega⟩, rfl⟩ ?_
        clear M
        rintro m st ⟨i, rest, hs2, gs2, cs2, l2, rfl, I, rfl⟩
        have e1 := e64 (k := i) (by have := I.cnt; omega)
        have hcn := I.cnt
        conv => whnf
        refine onB_intro (fun h => ?_) (fun h => ?_)
        rotate_left
        · have h := of_decide_eq_false h
          obtain rfl := List.eq_nil_of_length_eq_zero (show rest.length = 0 by omega)
          conv => whnf
          exact ⟨rfl, _, norm_weak [1, 2, 7, 8, 9, 17] [some 0, some 1] rfl rfl, hs2, gs2, cs2, l2, i, I, rfl⟩
        have h := of_decide_eq_true h
        have hr0 : 0 < rest.length := by omega
        conv => whnf
        refine onB_intro (fun h2 => ?_) (fun h2 => ?_)
        · have h2 := of_decide_eq_true h2
          have hil : i < picks.length := by omega
          have hpk2 := hpi _ (getD_mem (d := 0) hil)
          obtain ⟨p, hp, hpe⟩ := mod_at hr0 (picks.getD i 0)
          have hpc := pick_c (picks.getD i 0) rest.length hpk2 (by omega)
          rw [hpe] at hpc
          conv => whnf
          refine ⟨⟨by omega, by omega⟩, ?_⟩
          conv => whnf
          rw [ti_nat]
          refine call_pure hpc rfl ?_
          rintro _ rfl
          conv => whnf
          refine loopV_cut 6 (fun st => ∃ (rest2 : List It) (hs3 : HS) (gs3 : List I2) (cs3 : Ck) (l3 : List Nd), OI K rest2 (psL K gone) hs3 gs3 cs3 l3 (i + 1) ∧ rest2.length < rest.length ∧ st = ⟨196, 0, loZ K rest2 picks gone i [(20, vcb true)], loO cs l cs3 l3⟩) ?_ ?_
          · refine loopV ttok ftok (loD K picks gone cs l i p rest hs2 cs2 l2) (norm_weak [1, 2, 7, 8, 9, 16, 17, 18, 19, 20, 21] [some 0, some 1] rfl rfl) (.inl ⟨0, rfl, Nat.zero_le _, fun q hq => by omega, rfl⟩) ?_
            rintro m st (⟨k, rfl, hk, hno, rfl⟩ | ⟨k, rest2, hs3, gs3, cs3, l3, rfl, hk, I2, rfl⟩)
            rotate_left
            · have hc2 := I2.cnt
              conv => whnf
              refine onB_intro (fun g => ?_) (fun g => ?_)
              · simp [pickB, isLit] at g
              · conv => whnf
                exact ⟨rfl, _, norm_weak [1, 2, 7, 8, 9, 16, 17, 18, 20] [some 0, some 1] rfl rfl, rest2, hs3, gs3, cs3, l3, I2, by omega, rfl⟩
            · have e2 := e64 (k := k) (by omega)
              conv => whnf
              refine onB_intro (fun g => ?_) (fun g => ?_)
              rotate_left
              · exfalso
                have hkk : k = rest.length := by
                  simp [pickB, isLit] at g
                  omega
                obtain ⟨t, ht, hok⟩ := some_ok hP hV I.perm hr0
                obtain ⟨q, hq, e⟩ := try_all hp ht
                exact hno q (by omega) (by rw [e]; exact hok)
              have hkl : k < rest.length := by
                simp [pickB, isLit] at g
                omega
              obtain ⟨a, hal, hae, hrem⟩ : ∃ a : Nat, a < rest.length ∧ (p + k) % rest.length = a ∧ (IntKind.i64.wrap ((p : Int) + (k : Int))).tmod (rest.length : Int) = (a : Int) := by
                refine ⟨_, Nat.mod_lt (p + k) hr0, rfl, ?_⟩
                rw [show IntKind.i64.wrap ((p : Int) + (k : Int)) = ((p + k : Nat) : Int) from by rw [w_i64 (by omega) (by omega)]; omega]
                exact (Int.ofNat_tmod _ _).symm
              have hnew : ¬ okA hs2 (rest.getD a it0) → ∀ q, q < k + 1 → ¬ okA hs2 (rest.getD ((p + q) % rest.length) it0) := fun h q hq => by
                rcases Nat.lt_succ_iff_lt_or_eq.1 hq with h4 | rfl
                · exact hno q h4
                · rw [hae]; exact h
              clear hae
              conv => whnf
              refine ⟨by omega, ?_⟩
              refine Eq.mpr (congrArg _ (show (vci .i64 ((IntKind.i64.wrap ((p : Int) + (k : Int))).tmod (rest.length : Int)) : AV) = vci .i64 (a : Int) from by rw [hrem])) ?_
              clear hrem
              conv => whnf
              refine ⟨by omega, ?_⟩
              conv => whnf
              refine Exists.elim (⟨_, rfl⟩ : ∃ x, rest.getD a it0 = x) (fun x hx => ?_)
              rw [hx] at hnew
              refine loopV_cut 8 (fun st => st = ⟨196, 0, loF K rest picks gone i p k ((a : Nat) : Int) [(24, vcb (Gof (psL K gone) (rest.getD ((a : Nat) : Int).toNat it0).id))], [some (.cells 31 (liF cs l)), some (.cells 31 (liF cs2 l2)), some (.cells 40 (itF (rest.getD ((a : Nat) : Int).toNat it0)))]⟩) ?_ ?_
              · have h0 : Gof ((psL K gone).take 0) (rest.getD ((a : Nat) : Int).toNat it0).id = false := by unfold Gof; simp
                refine loopV (n := gone.length) (st1 := ⟨196, 0, loF K rest picks gone i p k ((a : Nat) : Int) [(24, vcb false), (25, vci .i64 ((0 : Nat) : Int))], [some (.cells 31 (liF cs l)), some (.cells 31 (liF cs2 l2)), some (.cells 40 (itF (rest.getD ((a : Nat) : Int).toNat it0)))]⟩) ttok ftok (loG K rest picks gone i p k ((a : Nat) : Int) (rest.getD ((a : Nat) : Int).toNat it0) [some (.cells 31 (liF cs l)), some (.cells 31 (liF cs2 l2)), some (.cells 40 (itF (rest.getD ((a : Nat) : Int).toNat it0)))]) (norm_weak [1, 2, 7, 8, 9, 16, 17, 18, 19, 20, 21, 22, 23, 24, 25] [some 0, some 1, some 2] rfl rfl) ⟨0, false, rfl, Nat.zero_le _, h0.symm, rfl⟩ ?_
                clear h0
                rintro m st ⟨j, b, rfl, hj, hb, rfl⟩
                have e3 := e64 (k := j) (by omega)
                conv => whnf
                refine onB_intro (fun g3 => ?_) (fun g3 => ?_)
                rotate_left
                · have g3 := of_decide_eq_false g3
                  have hb2 := gof_all (x := rest.getD ((a : Nat) : Int).toNat it0) (show gone.length ≤ j by omega) hb
                  conv => whnf
                  exact ⟨rfl, _, norm_weak [1, 2, 7, 8, 9, 16, 17, 18, 19, 20, 21, 22, 23, 24] [some 0, some 1, some 2] rfl rfl, by rw [← hb2]; exact rfl⟩
                have g3 := of_decide_eq_true g3
                have hjl : j < gone.length := by omega
                have hgk := hgi _ (getD_mem (d := 0) hjl)
                refine Exists.elim (mod_at hK0 (gone.getD j 0)) (fun u huu => ?_)
                have hun := huu.1
                have hue := huu.2
                have hsn := gof_step (x := rest.getD ((a : Nat) : Int).toNat it0) hjl hb hue
                clear hb
                have hpc2 := pick_c (gone.getD j 0) K.length hgk (by omega)
                rw [hue] at hpc2
                cases b with
                | true =>
                  rw [Bool.true_or] at hsn
                  conv => whnf
                  refine drawV_quiet mixed (by kernel_rfl) ttok ftok ?_
                  conv => whnf
                  exact ⟨gone.length - (j + 1), _, by omega, norm_weak [1, 2, 7, 8, 9, 16, 17, 18, 19, 20, 21, 22, 23, 24, 25] [some 0, some 1, some 2] rfl rfl, j + 1, true, rfl, by omega, hsn.symm, by rw [e3]; exact rfl⟩
                | false =>
                  rw [Bool.false_or] at hsn
                  conv => whnf
                  refine drawV_quiet mixed (by kernel_rfl) ttok ftok ?_
                  conv => whnf
                  refine ⟨by omega, ?_⟩
                  conv => whnf
                  refine callQ hpc2 rfl rfl ?_
                  conv => whnf
                  refine ⟨by omega, ?_⟩
                  conv => whnf
                  refine ⟨gone.length - (j + 1), _, by omega, norm_weak [1, 2, 7, 8, 9, 16, 17, 18, 19, 20, 21, 22, 23, 24, 25] [some 0, some 1, some 2] rfl rfl, j + 1, _, rfl, by omega, ?_, by rw [e3]; exact rfl⟩
                  rw [hsn, ti_nat, Bool.eq_iff_iff, decide_eq_true_iff, Bool.and_true, Bool.and_eq_true, beq_iff_eq, beq_iff_eq]
                  exact ⟨fun e => Prod.ext e.1 e.2, fun e => by rw [e]; exact ⟨rfl, rfl⟩⟩
              · intro st hst
                rw [ti_nat, hx] at hst
                have hadd := ladd_c I.M.V (by omega) x (Gof (psL K gone) x.id)
                refine Exists.elim (⟨_, rfl⟩ : ∃ b, Gof (psL K gone) x.id = b) (fun b hbg => ?_)
                rw [hbg] at hadd hst
                subst hst
                conv => whnf
                refine call_pure hadd rfl ?_
                rintro _ (⟨hok, cs3, l3, V3, rfl⟩ | ⟨hno3, rfl⟩)
                · refine Exists.elim (I.putx hal hx hbg hok V3) (fun gs3 I3 => ?_)
                  have hol := outA_len hal
                  conv => whnf
                  refine drawV_at ⟨196, 0, [(1, nmS picks), (2, nmS gone), (7, vcb true), (8, itS K), (9, .c (.own 0 0)), (16, .c (.row 2)), (17, .c (.own 1 0)), (18, vci .i64 (i : Int)), (19, vci .i64 (p : Int)), (20, vcb true), (21, vci .i64 (k : Int))], [some (.cells 31 (liF cs l)), some (.cells 31 (liF cs3 l3)), some (.row 40 7 (outA rest a).length (itR (outA rest a)))]⟩ ?_ ?_
                  · clear I3 V3 hadd hnew hno I
                    refine drawV_sched (.rd 1 (.rd 2 (.rd 3 (.rd 5 (.rd 6 (.rd 7 (.rd 8 (.ef 0 (.ef 4 (.ef 9 (.rd 10 (.nil)))))))))))) [4, 5, 6] mixed (by kernel_rfl) ttok ftok ?_
                    conv => whnf
                    have htl : (rest.take a).length = a := by rw [List.length_take]; omega
                    have hdr : (rest.drop (a + 1)).length = rest.length - (a + 1) := List.length_drop
                    have hw : IntKind.i64.wrap ((a : Int) + 1) = ((a + 1 : Nat) : Int) := by rw [w_i64 (by omega) (by omega)]; omega
                    refine ⟨⟨by omega, by omega, by omega, by omega⟩, ?_⟩
                    refine ⟨(rest.take a).length, itR (rest.take a), by rw [htl, ti_nat]; rfl, fun q hq => ?_, ?_⟩
                    · show itF _ = itF (rest.getD (Int.toNat 0 + q) it0)
                      rw [getD_take _ _ _ _ (by omega), show Int.toNat 0 + q = q from Nat.zero_add q]
                    conv => whnf
                    refine ⟨⟨by rw [hw]; omega, by rw [hw]; omega, by omega, by omega⟩, ?_⟩
                    refine ⟨(rest.drop (a + 1)).length, itR (rest.drop (a + 1)), by rw [hw, ti_nat, ti_nat]; omega, fun q hq => ?_, ?_⟩
                    · show itF _ = itF (rest.getD ((IntKind.i64.wrap ((a : Int) + 1)).toNat + q) it0)
                      rw [getD_drop, hw, ti_nat]
                    conv => whnf
                    refine ⟨⟨by omega, by show (0 + (rest.take a).length) * 28 ≤ _; omega⟩, ?_⟩
                    conv => whnf
                    refine ⟨(rest.take a).length, itR (rest.take a), by omega, fun k hk => by omega, fun k hk => by rw [Nat.zero_add], ?_⟩
                    conv => whnf
                    refine ⟨⟨by omega, by show ((rest.take a).length + (rest.drop (a + 1)).length) * 28 ≤ _; omega⟩, ?_⟩
                    conv => whnf
                    refine app_list (enc := itF) (d := it0) (l := rest.take a) (b := rest.drop (a + 1)) (fun k hk => rfl) (fun k hk => rfl) ?_
                    conv => whnf
                    exact norm_weak [1, 2, 7, 8, 9, 16, 17, 18, 19, 20, 21] [some 0, some 1, some 6] rfl rfl
                  · conv => whnf
                    refine frz_end [2] ?_
                    conv => whnf
                    refine ⟨fun _ _ => rfl, ?_⟩
                    rw [e2]
                    exact ⟨0, _, by omega, norm_weak [1, 2, 7, 8, 9, 16, 17, 18, 19, 20, 21] [some 0, some 1] rfl rfl, .inr ⟨k + 1, outA rest a, _, gs3, cs3, l3, rfl, by omega, I3, rfl⟩⟩
                · conv => whnf
                  rw [e2]
                  exact ⟨rest.length + 1 - (k + 1), _, by omega, norm_weak [1, 2, 7, 8, 9, 16, 17, 18, 19, 20, 21] [some 0, some 1] rfl rfl, .inl ⟨k + 1, rfl, by omega, hnew hno3, rfl⟩⟩
          · rintro st ⟨rest2, hs3, gs3, cs3, l3, I2, hlt, rfl⟩
            conv => whnf
            rw [e1]
            exact ⟨rest2.length, _, hlt, norm_weak [1, 2, 7, 8, 9, 16, 17, 18] [some 0, some 1] rfl rfl, i + 1, rest2, hs3, gs3, cs3, l3, rfl, I2, rfl⟩
        · have hp : (0 : Nat) < rest.length := hr0
          conv => whnf
          refine loopV_cut 6 (fun st => ∃ (rest2 : List It) (hs3 : HS) (gs3 : List I2) (cs3 : Ck) (l3 : List Nd), OI K rest2 (psL K gone) hs3 gs3 cs3 l3 (i + 1) ∧ rest2.length < rest.length ∧ st = ⟨196, 0, loZ K rest2 picks gone i [(20, vcb true)], loO cs l cs3 l3⟩) ?_ ?_
          · refine loopV ttok ftok (loD K picks gone cs l i (0 : Nat) rest hs2 cs2 l2) (norm_weak [1, 2, 7, 8, 9, 16, 17, 18, 19, 20, 21] [some 0, some 1] rfl rfl) (.inl ⟨0, rfl, Nat.zero_le _, fun q hq => by omega, rfl⟩) ?_
            rintro m st (⟨k, rfl, hk, hno, rfl⟩ | ⟨k, rest2, hs3, gs3, cs3, l3, rfl, hk, I2, rfl⟩)
            rotate_left
            · have hc2 := I2.cnt
              conv => whnf
              refine onB_intro (fun g => ?_) (fun g => ?_)
              · simp [pickB, isLit] at g
              · conv => whnf
                exact ⟨rfl, _, norm_weak [1, 2, 7, 8, 9, 16, 17, 18, 20] [some 0, some 1] rfl rfl, rest2, hs3, gs3, cs3, l3, I2, by omega, rfl⟩
            · have e2 := e64 (k := k) (by omega)
              conv => whnf
              refine onB_intro (fun g => ?_) (fun g => ?_)
              rotate_left
              · exfalso
                have hkk : k = rest.length := by
                  simp [pickB, isLit] at g
                  omega
                obtain ⟨t, ht, hok⟩ := some_ok hP hV I.perm hr0
                obtain ⟨q, hq, e⟩ := try_all hp ht
                exact hno q (by omega) (by rw [e]; exact hok)
              have hkl : k < rest.length := by
                simp [pickB, isLit] at g
                omega
              obtain ⟨a, hal, hae, hrem⟩ : ∃ a : Nat, a < rest.length ∧ ((0 : Nat) + k) % rest.length = a ∧ (IntKind.i64.wrap (((0 : Nat) : Int) + (k : Int))).tmod (rest.length : Int) = (a : Int) := by
                refine ⟨_, Nat.mod_lt ((0 : Nat) + k) hr0, rfl, ?_⟩
                rw [show IntKind.i64.wrap (((0 : Nat) : Int) + (k : Int)) = (((0 : Nat) + k : Nat) : Int) from by rw [w_i64 (by omega) (by omega)]; omega]
                exact (Int.ofNat_tmod _ _).symm
              have hnew : ¬ okA hs2 (rest.getD a it0) → ∀ q, q < k + 1 → ¬ okA hs2 (rest.getD (((0 : Nat) + q) % rest.length) it0) := fun h q hq => by
                rcases Nat.lt_succ_iff_lt_or_eq.1 hq with h4 | rfl
                · exact hno q h4
                · rw [hae]; exact h
              clear hae
              conv => whnf
              refine ⟨by omega, ?_⟩
              refine Eq.mpr (congrArg _ (show (vci .i64 ((IntKind.i64.wrap (((0 : Nat) : Int) + (k : Int))).tmod (rest.length : Int)) : AV) = vci .i64 (a : Int) from by rw [hrem])) ?_
              clear hrem
              conv => whnf
              refine ⟨by omega, ?_⟩
              conv => whnf
              refine Exists.elim (⟨_, rfl⟩ : ∃ x, rest.getD a it0 = x) (fun x hx => ?_)
              rw [hx] at hnew
              refine loopV_cut 8 (fun st => st = ⟨196, 0, loF K rest picks gone i (0 : Nat) k ((a : Nat) : Int) [(24, vcb (Gof (psL K gone) (rest.getD ((a : Nat) : Int).toNat it0).id))], [some (.cells 31 (liF cs l)), some (.cells 31 (liF cs2 l2)), some (.cells 40 (itF (rest.getD ((a : Nat) : Int).toNat it0)))]⟩) ?_ ?_
              · have h0 : Gof ((psL K gone).take 0) (rest.getD ((a : Nat) : Int).toNat it0).id = false := by unfold Gof; simp
                refine loopV (n := gone.length) (st1 := ⟨196, 0, loF K rest picks gone i (0 : Nat) k ((a : Nat) : Int) [(24, vcb false), (25, vci .i64 ((0 : Nat) : Int))], [some (.cells 31 (liF cs l)), some (.cells 31 (liF cs2 l2)), some (.cells 40 (itF (rest.getD ((a : Nat) : Int).toNat it0)))]⟩) ttok ftok (loG K rest picks gone i (0 : Nat) k ((a : Nat) : Int) (rest.getD ((a : Nat) : Int).toNat it0) [some (.cells 31 (liF cs l)), some (.cells 31 (liF cs2 l2)), some (.cells 40 (itF (rest.getD ((a : Nat) : Int).toNat it0)))]) (norm_weak [1, 2, 7, 8, 9, 16, 17, 18, 19, 20, 21, 22, 23, 24, 25] [some 0, some 1, some 2] rfl rfl) ⟨0, false, rfl, Nat.zero_le _, h0.symm, rfl⟩ ?_
                clear h0
                rintro m st ⟨j, b, rfl, hj, hb, rfl⟩
                have e3 := e64 (k := j) (by omega)
                conv => whnf
                refine onB_intro (fun g3 => ?_) (fun g3 => ?_)
                rotate_left
                · have g3 := of_decide_eq_false g3
                  have hb2 := gof_all (x := rest.getD ((a : Nat) : Int).toNat it0) (show gone.length ≤ j by omega) hb
                  conv => whnf
                  exact ⟨rfl, _, norm_weak [1, 2, 7, 8, 9, 16, 17, 18, 19, 20, 21, 22, 23, 24] [some 0, some 1, some 2] rfl rfl, by rw [← hb2]; exact rfl⟩
                have g3 := of_decide_eq_true g3
                have hjl : j < gone.length := by omega
                have hgk := hgi _ (getD_mem (d := 0) hjl)
                refine Exists.elim (mod_at hK0 (gone.getD j 0)) (fun u huu => ?_)
                have hun := huu.1
                have hue := huu.2
                have hsn := gof_step (x := rest.getD ((a : Nat) : Int).toNat it0) hjl hb hue
                clear hb
                have hpc2 := pick_c (gone.getD j 0) K.length hgk (by omega)
                rw [hue] at hpc2
                cases b with
                | true =>
                  rw [Bool.true_or] at hsn
                  conv => whnf
                  refine drawV_quiet mixed (by kernel_rfl) ttok ftok ?_
                  conv => whnf
                  exact ⟨gone.length - (j + 1), _, by omega, norm_weak [1, 2, 7, 8, 9, 16, 17, 18, 19, 20, 21, 22, 23, 24, 25] [some 0, some 1, some 2] rfl rfl, j + 1, true, rfl, by omega, hsn.symm, by rw [e3]; exact rfl⟩
                | false =>
                  rw [Bool.false_or] at hsn
                  conv => whnf
                  refine drawV_quiet mixed (by kernel_rfl) ttok ftok ?_
                  conv => whnf
                  refine ⟨by omega, ?_⟩
                  conv => whnf
                  refine callQ hpc2 rfl rfl ?_
                  conv => whnf
                  refine ⟨by omega, ?_⟩
                  conv => whnf
                  refine ⟨gone.length - (j + 1), _, by omega, norm_weak [1, 2, 7, 8, 9, 16, 17, 18, 19, 20, 21, 22, 23, 24, 25] [some 0, some 1, some 2] rfl rfl, j + 1, _, rfl, by omega, ?_, by rw [e3]; exact rfl⟩
                  rw [hsn, ti_nat, Bool.eq_iff_iff, decide_eq_true_iff, Bool.and_true, Bool.and_eq_true, beq_iff_eq, beq_iff_eq]
                  exact ⟨fun e => Prod.ext e.1 e.2, fun e => by rw [e]; exact ⟨rfl, rfl⟩⟩
              · intro st hst
                rw [ti_nat, hx] at hst
                have hadd := ladd_c I.M.V (by omega) x (Gof (psL K gone) x.id)
                refine Exists.elim (⟨_, rfl⟩ : ∃ b, Gof (psL K gone) x.id = b) (fun b hbg => ?_)
                rw [hbg] at hadd hst
                subst hst
                conv => whnf
                refine call_pure hadd rfl ?_
                rintro _ (⟨hok, cs3, l3, V3, rfl⟩ | ⟨hno3, rfl⟩)
                · refine Exists.elim (I.putx hal hx hbg hok V3) (fun gs3 I3 => ?_)
                  have hol := outA_len hal
                  conv => whnf
                  refine drawV_at ⟨196, 0, [(1, nmS picks), (2, nmS gone), (7, vcb true), (8, itS K), (9, .c (.own 0 0)), (16, .c (.row 2)), (17, .c (.own 1 0)), (18, vci .i64 (i : Int)), (19, vci .i64 ((0 : Nat) : Int)), (20, vcb true), (21, vci .i64 (k : Int))], [some (.cells 31 (liF cs l)), some (.cells 31 (liF cs3 l3)), some (.row 40 7 (outA rest a).length (itR (outA rest a)))]⟩ ?_ ?_
                  · clear I3 V3 hadd hnew hno I
                    refine drawV_sched (.rd 1 (.rd 2 (.rd 3 (.rd 5 (.rd 6 (.rd 7 (.rd 8 (.ef 0 (.ef 4 (.ef 9 (.rd 10 (.nil)))))))))))) [4, 5, 6] mixed (by kernel_rfl) ttok ftok ?_
                    conv => whnf
                    have htl : (rest.take a).length = a := by rw [List.length_take]; omega
                    have hdr : (rest.drop (a + 1)).length = rest.length - (a + 1) := List.length_drop
                    have hw : IntKind.i64.wrap ((a : Int) + 1) = ((a + 1 : Nat) : Int) := by rw [w_i64 (by omega) (by omega)]; omega
                    refine ⟨⟨by omega, by omega, by omega, by omega⟩, ?_⟩
                    refine ⟨(rest.take a).length, itR (rest.take a), by rw [htl, ti_nat]; rfl, fun q hq => ?_, ?_⟩
                    · show itF _ = itF (rest.getD (Int.toNat 0 + q) it0)
                      rw [getD_take _ _ _ _ (by omega), show Int.toNat 0 + q = q from Nat.zero_add q]
                    conv => whnf
                    refine ⟨⟨by rw [hw]; omega, by rw [hw]; omega, by omega, by omega⟩, ?_⟩
                    refine ⟨(rest.drop (a + 1)).length, itR (rest.drop (a + 1)), by rw [hw, ti_nat, ti_nat]; omega, fun q hq => ?_, ?_⟩
                    · show itF _ = itF (rest.getD ((IntKind.i64.wrap ((a : Int) + 1)).toNat + q) it0)
                      rw [getD_drop, hw, ti_nat]
                    conv => whnf
                    refine ⟨⟨by omega, by show (0 + (rest.take a).length) * 28 ≤ _; omega⟩, ?_⟩
                    conv => whnf
                    refine ⟨(rest.take a).length, itR (rest.take a), by omega, fun k hk => by omega, fun k hk => by rw [Nat.zero_add], ?_⟩
                    conv => whnf
                    refine ⟨⟨by omega, by show ((rest.take a).length + (rest.drop (a + 1)).length) * 28 ≤ _; omega⟩, ?_⟩
                    conv => whnf
                    refine app_list (enc := itF) (d := it0) (l := rest.take a) (b := rest.drop (a + 1)) (fun k hk => rfl) (fun k hk => rfl) ?_
                    conv => whnf
                    exact norm_weak [1, 2, 7, 8, 9, 16, 17, 18, 19, 20, 21] [some 0, some 1, some 6] rfl rfl
                  · conv => whnf
                    refine frz_end [2] ?_
                    conv => whnf
                    refine ⟨fun _ _ => rfl, ?_⟩
                    rw [e2]
                    exact ⟨0, _, by omega, norm_weak [1, 2, 7, 8, 9, 16, 17, 18, 19, 20, 21] [some 0, some 1] rfl rfl, .inr ⟨k + 1, outA rest a, _, gs3, cs3, l3, rfl, by omega, I3, rfl⟩⟩
                · conv => whnf
                  rw [e2]
                  exact ⟨rest.length + 1 - (k + 1), _, by omega, norm_weak [1, 2, 7, 8, 9, 16, 17, 18, 19, 20, 21] [some 0, some 1] rfl rfl, .inl ⟨k + 1, rfl, by omega, hnew hno3, rfl⟩⟩
          · rintro st ⟨rest2, hs3, gs3, cs3, l3, I2, hlt, rfl⟩
            conv => whnf
            rw [e1]
            exact ⟨rest2.length, _, hlt, norm_weak [1, 2, 7, 8, 9, 16, 17, 18] [some 0, some 1] rfl rfl, i + 1, rest2, hs3, gs3, cs3, l3, rfl, I2, rfl⟩
      · rintro st ⟨hs2, gs2, cs2, l2, i, I, rfl⟩
        have hfe := OI.done hP M hc hits I
        have hs4 := I.M.V.sum
        have hc4 := I.M.V.ck
        have hl4 := I.M.V.len
        have hcn := I.cnt
        rw [List.length_nil] at hcn
        have hz := all_c cs2 (by omega) (by omega)
        have htz := text_c cs2 l2 (by omega) (by omega)
        rw [hfe] at hz htz
        have hlen : cs.flatten.length ≤ 100000 := by show sumL cs ≤ _; omega
        conv => whnf
        refine drawV_sched (.rd 0 (.rd 3 (.ef 1 (.ef 2 (.ef 4 (.ef 5 (.ef 6 (.rd 7 (.nil))))))))) [] mixed (by kernel_rfl) ttok ftok ?_
        conv => whnf
        refine call_pure (lindex_c cs l) rfl ?_
        rintro _ rfl
        conv => whnf
        refine call_pure (all_c cs (by omega) (by omega)) rfl ?_
        rintro _ rfl
        conv => whnf
        refine call_pure (lindex_c cs2 l2) rfl ?_
        rintro _ rfl
        conv => whnf
        refine call_pure hz rfl ?_
        rintro _ rfl
        conv => whnf
        refine call_pure (same_c cs.flatten (by omega)) rfl ?_
        rintro _ rfl
        conv => whnf
        refine drawV_sched (.rd 0 (.rd 1 (.rd 2 (.rd 3 (.rd 4 (.rd 5 (.rd 7 (.ef 6 (.ef 8 (.rd 9 (.rd 10 (.rd 11 (.nil))))))))))))) [] mixed (by kernel_rfl) ttok ftok ?_
        conv => whnf
        refine call_pure (text_c cs l (by omega) (by omega)) rfl ?_
        rintro _ rfl
        conv => whnf
        refine call_pure htz rfl ?_
        rintro _ rfl
        conv => whnf
        rw [decide_eq_true (rfl : txS cs.flatten = txS cs.flatten)]
        all_goals first | rfl | exact ⟨rfl, rfl⟩
theorem listOrders_law : ∀ avs, RdArgs tt 1048576 30 [22, 23, 23] avs → CallV Try.prog 3 avs [] (fun r own' => own' = [] ∧ r = vcb true) := by
  rintro avs ⟨a0, r0, h0, ⟨a1, r1, h1, ⟨a2, r2, h2, rfl, rfl⟩, rfl⟩, rfl⟩
  obtain ⟨L, hL, hdL⟩ := rd_itsX h0
  obtain ⟨g, hg, hgi, hdg⟩ := rd_nmsX h1
  obtain ⟨g2, hg2, hgi2, hdg2⟩ := rd_nmsX h2
  refine callV_args (argsLe_cons hdL (argsLe_cons hdg (argsLe_cons hdg2 (argsLe_refl _)))) ?_
  exact lorders_c L g g2 hL hg hg2 hgi hgi2
end Go.Eng
