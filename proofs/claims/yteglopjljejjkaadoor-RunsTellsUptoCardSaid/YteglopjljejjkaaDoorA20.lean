/- Own rows as arrays with parts, and back; slices.overlaps. -/
import Derived.Test.YteglopjljejjkaaDoorA19
import Derived.Lib.Overlaps
set_option linter.unusedVariables false
set_option linter.unusedSimpArgs false
namespace Go.Eng
open Go Go.RowKit
def sNil (i : Nat) : IC → IC
  | .row j => match Nat.beq j i with | true => .v (.slice none 0 0) | false => .row j
  | c => c
def sView (i l sz n c : Nat) : IC → IC
  | .row j => match Nat.beq j i with | true => .view l sz 0 n c | false => .row j
  | x => x
section
variable {P : Program} {T : TT} {mine may : Nat → Prop} {L : Nat → Value} {F : Nat → Nat → Prop} {h : Hp} {st : St} {a : Act} {w w0 : World} {own : List (Option Ob)}
/-- A result row under a new place: a part from 0 on of an own array. -/
theorem view_row (t i : Nat) {st : St} {e : TypeId} {sz k m n c cap N : Nat} {f : Nat → List IC} (hl : st.env.lookup t = some (.c (.view i sz k m c))) (hi : st.own[i]? = some (some (.arr e sz cap N f))) (hk : k = 0) (hm : n = m) (hN : n ≤ N) (hc : c = cap) :
    Weak st ⟨st.n, st.k, (t, .c (.row st.own.length)) :: st.env, st.own.set i none ++ [some (.row e sz n f)]⟩ := by
  subst hc hk hm
  refine ⟨fun {P} _ may w0 h0 a w hs => ?_⟩
  obtain ⟨⟨L, F, h, hm, ha, hsub, hnew⟩, hk⟩ := hs
  have hn := hm.hn
  obtain ⟨b, cur, e1, e2, e3, e4, e5, e6, e7⟩ := hm.obs i _ hi
  have hv : Den L h (.view i sz 0 n c) (a.tmps.getD t undef) := ha.env t _ hl
  generalize hz : a.tmps.getD t undef = z at hv
  cases hv with
  | view _ _ _ _ _ a0 b0 h1 h2 h3 h4 h5 =>
  rw [e1] at h2
  cases h2
  have hb0 := h3 (.inr rfl)
  rw [Nat.zero_mul, addr_plain] at hb0
  subst hb0
  have hlen : (st.own.set i none).length = st.own.length := List.length_set ..
  have hL : ∀ j, j < h.n → upd L (st.own.set i none).length (.slice (some ⟨b, 0, none⟩) n c) j = L j := fun j hj => upd_lt (by omega)
  have hsz : n * sz ≤ cur.size := by rw [e6]; exact Nat.mul_le_mul_right _ h4
  have hm' := mem_push (v := .slice (some ⟨b, 0, none⟩) n c) (G := F i) (ob := .row e sz n f) (mem_drop hm i)
    ⟨cur.toList.take (n * sz), ⟨by rw [List.length_take, Array.length_toList]; omega, .inr ⟨b, c, cur, rfl, Nat.zero_le _, e3, h4, e5, e6, rfl⟩⟩, (fun k hk => by cases hk; exact e2), ⟨fun q hq => e7.len q (by omega), fun q hq j cc hcc => by
      obtain ⟨u, g1, g2⟩ := e7.den q (by omega) j cc hcc
      have hj : j < sz := by have := (List.getElem?_eq_some_iff.1 hcc).1; rw [e7.len q (by omega)] at this; exact this
      refine ⟨u, ?_, g2.mono (sub_more h 1) hL⟩
      have : (q + 1) * sz ≤ n * sz := Nat.mul_le_mul_right _ hq
      rw [Nat.succ_mul] at this
      rw [List.getElem?_take, if_pos (by omega)]
      exact g1⟩⟩ (fun k hk => hm.foot i _ k hi hk) (fun k hk => by
      rintro ⟨j, oj, hj, hF⟩
      obtain ⟨q1, q2⟩ := set_none_get hj
      exact q2 (hm.dis j i oj _ k q1 hi hF hk))
  have ha' : Agree (upd L (st.own.set i none).length (.slice (some ⟨b, 0, none⟩) n c)) (h.more 1) st a := agree_more ha hL (sub_more h 1) rfl rfl
  refine ⟨⟨_, _, _, hm', ⟨ha'.size, fun t' av ht => ?_, ha'.defers⟩, hsub.step hL (sub_more h 1), hnew⟩, hk⟩
  have ht : ((t, AV.c (.row st.own.length)) :: st.env).lookup t' = some av := ht
  rw [List.lookup_cons] at ht
  by_cases et : t' = t
  · subst et
    simp at ht
    subst ht
    show Den _ _ _ _
    rw [hz]
    exact .row _ _ n c (by simp [Hp.more, hn]) (by rw [hlen]; exact upd_eq)
  · have e' : (t' == t) = false := by simpa using et
    rw [e'] at ht
    exact ha'.env t' av ht
/-- A row under a new place. -/
theorem row_move (t i : Nat) {st : St} {e : TypeId} {sz n : Nat} {f : Nat → List IC} (hl : st.env.lookup t = some (.c (.row i))) (hi : st.own[i]? = some (some (.row e sz n f))) :
    Weak st ⟨st.n, st.k, (t, .c (.row st.own.length)) :: st.env, st.own.set i none ++ [some (.row e sz n f)]⟩ := by
  refine ⟨fun {P} _ may w0 h0 a w hs => ?_⟩
  obtain ⟨⟨L, F, h, hm, ha, hsub, hnew⟩, hk⟩ := hs
  have hn := hm.hn
  have hob := hm.obs i _ hi
  have hv : Den L h (.row i) (a.tmps.getD t undef) := ha.env t _ hl
  generalize hz : a.tmps.getD t undef = z at hv
  cases hv with
  | row _ A n' c h1 h2 =>
  have hlen : (st.own.set i none).length = st.own.length := List.length_set ..
  have hL : ∀ j, j < h.n → upd L (st.own.set i none).length (.slice A n' c) j = L j := fun j hj => upd_lt (by omega)
  have hm' := mem_push (v := .slice A n' c) (G := F i) (ob := .row e sz n f) (mem_drop hm i) (by rw [h2] at hob; exact obOk_move hob (fun _ _ => rfl) hL (sub_more h 1)) (fun k hk => hm.foot i _ k hi hk) (fun k hk => by
      rintro ⟨j, oj, hj, hF⟩
      obtain ⟨q1, q2⟩ := set_none_get hj
      exact q2 (hm.dis j i oj _ k q1 hi hF hk))
  have ha' : Agree (upd L (st.own.set i none).length (.slice A n' c)) (h.more 1) st a := agree_more ha hL (sub_more h 1) rfl rfl
  refine ⟨⟨_, _, _, hm', ⟨ha'.size, fun t' av ht => ?_, ha'.defers⟩, hsub.step hL (sub_more h 1), hnew⟩, hk⟩
  have ht : ((t, AV.c (.row st.own.length)) :: st.env).lookup t' = some av := ht
  rw [List.lookup_cons] at ht
  by_cases et : t' = t
  · subst et
    simp at ht
    subst ht
    show Den _ _ _ _
    rw [hz]
    exact .row _ _ _ c (by simp [Hp.more, hn]) (by rw [hlen]; exact upd_eq)
  · have e' : (t' == t) = false := by simpa using et
    rw [e'] at ht
    exact ha'.env t' av ht
theorem sNil_ok {i : Nat} (hi : L i = .slice none 0 0) : SubstOk L L h h (sNil i) := by
  refine ⟨fun c v hd => ?_⟩
  unfold sNil
  split
  · rename_i j
    split
    · rename_i e
      have e := Nat.eq_of_beq_eq_true e
      subst e
      cases hd with
      | row _ A n c h1 h2 => rw [hi] at h2; cases h2; exact .v _ rfl
    · exact hd
  · exact hd
theorem sView_ok {L' : Nat → Value} {h' : Hp} {i l sz n c b : Nat} (hi : L i = .slice (some ⟨b, 0, none⟩) n c) (hs : Sub h h') (hL : ∀ j, j < h.n → L' j = L j) (hl : L' l = .pointer (some ⟨b, 0, none⟩)) (hln : l < h'.n) (hnc : n ≤ c) (hc : c ≤ maxLen) : SubstOk L L' h h' (sView i l sz n c) := by
  refine ⟨fun x v hd => ?_⟩
  unfold sView
  split
  · rename_i j
    split
    · rename_i e
      have e := Nat.eq_of_beq_eq_true e
      subst e
      cases hd with
      | row _ A n' c' h1 h2 =>
        rw [hi] at h2
        cases h2
        exact .view _ _ _ _ _ ⟨b, 0, none⟩ ⟨b, 0, none⟩ hln hl (fun _ => by rw [addr_plain]; simp) hnc (by unfold maxLen at hc; omega)
    · exact hd.mono hs hL
  · exact hd.mono hs hL
/-- **An own row that is handed in, taken for an array of some capacity** (or for nil). -/
theorem callV_view [HasGl P] (i : Nat) {g : FuncId} {own : List (Option Ob)} {args : List AV} {K : AV → List (Option Ob) → Prop} {e : TypeId} {sz n : Nat} {f : Nat → List IC} (hi : own[i]? = some (some (.row e sz n f)))
    (h1 : n = 0 → CallV P g (args.map (sbA (up (sNil i)))) (own.set i none) K)
    (h2 : ∀ c, n ≤ c → c ≤ 9223372036854775807 → CallV P g (args.map (sbA (up (sView i own.length sz n c)))) (own.set i none ++ [some (.arr e sz c n f)]) K) : CallV P g args own K := by
  refine ⟨fun mine L F h w vs hgl hm hden => ?_⟩
  have hn := hm.hn
  have hil : i < own.length := (List.getElem?_eq_some_iff.1 hi).1
  obtain ⟨xs, ⟨hxl, hr⟩, hG, hR⟩ := hm.obs i _ hi
  have hmapd : ∀ {L' : Nat → Value} {h' : Hp} {s : IC → IC}, SubstOk L L' h h' s → DenAs L' h' (args.map (sbA (up s))) vs := fun hs => by
    refine ⟨by rw [List.length_map]; exact hden.len, fun j a v hj hv => ?_⟩
    rw [List.getElem?_map] at hj
    cases hx : args[j]? with
    | none => rw [hx] at hj; cases hj
    | some a0 => rw [hx] at hj; cases hj; exact hs.up.denA (hden.den j a0 v hx hv)
  rcases hr with ⟨e1, e2⟩ | ⟨gb, cap, cur, e1, e2, e3, e4, e5, e6, e7⟩
  · have hfoot : ∀ b, footOf F (own.set i none) b → footOf F own b := by
      rintro b ⟨k, ob, hk, hb⟩
      exact ⟨k, ob, (set_none_get hk).1, hb⟩
    have hmine : ∀ b, mineOf (footOf F (own.set i none)) w b → mineOf (footOf F own) w b := fun b hb => hb.imp (hfoot b) id
    refine ((h1 e2).out mine L F h w vs hgl (mem_drop hm i) (hmapd (sNil_ok e1))).mono ?_
    rintro e' w' ⟨r, v, L', F', h', own', k1, k2, k3, k4, k5, k6, k7, k8⟩
    exact ⟨r, v, L', F', h', own', k1, k2, k3, k4.mine_mono (fun b ⟨k, ob, hk, hb⟩ => hmine b (k4.foot k ob b hk hb).2.2), ⟨k5.os, k5.tape, k5.output, k5.size, fun k hk hno => k5.block k hk (fun hb => hno (hfoot k hb))⟩, k6, (fun k hk => (k7 k hk).imp id (hmine k)), k8⟩
  · have hlen : (own.set i none).length = own.length := List.length_set ..
    have hL : ∀ j, j < h.n → upd L (own.set i none).length (.pointer (some ⟨gb, 0, none⟩)) j = L j := fun j hj => upd_lt (by omega)
    have hFg : F i gb := hG gb (by rw [e1]; rfl)
    have hm' := mem_push (v := .pointer (some ⟨gb, 0, none⟩)) (G := F i) (ob := .arr e sz cap n f) (mem_drop hm i)
      ⟨gb, cur, rfl, hFg, e3, e4, e5, e6, ⟨hR.len, fun q hq j cc hcc => by
        obtain ⟨u, g1, g2⟩ := hR.den q hq j cc hcc
        refine ⟨u, ?_, g2.mono (sub_more h 1) hL⟩
        rw [← e7, List.getElem?_take] at g1
        split at g1
        · exact g1
        · cases g1⟩⟩ (fun k hk => hm.foot i _ k hi hk) (fun k hk => by
        rintro ⟨j, oj, hj, hF⟩
        obtain ⟨q1, q2⟩ := set_none_get hj
        exact q2 (hm.dis j i oj _ k q1 hi hF hk))
    rw [hlen] at hm' hL
    have hfoot : ∀ b, footOf (upd F own.length (F i)) (own.set i none ++ [some (.arr e sz cap n f)]) b → footOf F own b := by
      rintro b ⟨k, ob, hk, hb⟩
      by_cases ek : k = own.length
      · subst ek; rw [upd_eq] at hb; exact ⟨i, _, hi, hb⟩
      · have hk2 : k < own.length := by
          have := (List.getElem?_eq_some_iff.1 hk).1
          simp at this; omega
        rw [upd_lt hk2] at hb
        rw [List.getElem?_append_left (by simpa using hk2)] at hk
        exact ⟨k, ob, (set_none_get hk).1, hb⟩
    have hmine : ∀ b, mineOf (footOf (upd F own.length (F i)) (own.set i none ++ [some (.arr e sz cap n f)])) w b → mineOf (footOf F own) w b := fun b hb => hb.imp (hfoot b) id
    have hS : Sub h (h.more 1) := sub_more h 1
    have hsub := hmapd (sView_ok (sz := sz) (l := own.length) e1 hS hL upd_eq (by simp [Hp.more, hn]) e4 e5)
    refine ((h2 cap e4 (by unfold maxLen at e5; omega)).out mine _ _ (h.more 1) w vs hgl hm' hsub).mono ?_
    rintro e' w' ⟨r, v, L', F', h', own', k1, k2, k3, k4, k5, k6, k7, k8⟩
    exact ⟨r, v, L', F', h', own', k1, k2, fun x hx => (k3 x (Nat.lt_of_lt_of_le hx hS.n)).trans (hL x hx), k4.mine_mono (fun b ⟨k, ob, hk, hb⟩ => hmine b (k4.foot k ob b hk hb).2.2), ⟨k5.os, k5.tape, k5.output, k5.size, fun k hk hno => k5.block k hk (fun hb => hno (hfoot k hb))⟩, hS.trans k6, (fun k hk => (k7 k hk).imp id (hmine k)), k8⟩
/-- As 'call_frame', the result and the own objects behind it written out. -/
theorem call_frame2 [HasGl P] {own : List (Option Ob)} {f : FuncId} {args args' : List AV} {own0 : List (Option Ob)} {Q : AV → List (Option Ob) → Prop} {K : AV → List (Option Ob) → Prop} (ob : List (Option Nat)) (hd : nodupB ob = true) (hob : inB own.length ob = true)
    (h0 : ob.map (pickOwn own (up (renT ob))) = own0) (ha : args.map (sbA (up (renT ob))) = args')
    (hc : CallV P f args' own0 Q) (hK : ∀ r own2, Q r own2 → ∃ r' own3, sbA (up (backT ob own.length)) r = r' ∧ frameOwn ob own own2 = own3 ∧ K r' own3) : CallV P f args own K := by
  refine call_frame ob hd hob h0 ha hc (fun r own2 hq => ?_)
  obtain ⟨r', own3, rfl, rfl, h⟩ := hK r own2 hq
  exact h
def envPick (st : St) : List Nat → Option (List (Nat × AV))
  | [] => some []
  | t :: r => match st.env.lookup t, envPick st r with
    | some a, some l => some ((t, a) :: l)
    | _, _ => none
theorem envPick_ok {st : St} {a : Act} (ha : Agree L h st a) : ∀ {slots : List Nat} {e : List (Nat × AV)}, envPick st slots = some e → ∀ t av, e.lookup t = some av → DenA L h av (a.tmps.getD t undef)
  | [], e, hn, t, av, hl => by cases hn; cases hl
  | x :: r, e, hn, t, av, hl => by
    unfold envPick at hn
    split at hn
    · rename_i a0 l h1 h2
      cases hn
      rw [List.lookup_cons] at hl
      by_cases et : t = x
      · subst et
        simp at hl
        subst hl
        exact ha.env t _ h1
      · have e' : (t == x) = false := by simpa using et
        rw [e'] at hl
        exact envPick_ok ha h2 t av hl
    · cases hn
/-- Only these slots; the own objects, whatever they are, as they are. -/
theorem env_weak (slots : List Nat) {st : St} {e : List (Nat × AV)} (hn : envPick st slots = some e) : Weak st ⟨st.n, st.k, e, st.own⟩ := by
  refine ⟨fun {P} _ may w0 h0 a w hs => ?_⟩
  obtain ⟨⟨L, F, h, hm, ha, hsub, hnew⟩, hk⟩ := hs
  exact ⟨⟨L, F, h, hm, ⟨ha.size, fun t av ht => envPick_ok ha hn t av ht, ha.defers⟩, hsub, hnew⟩, hk⟩
/-- A function that is handed own objects, whatever they are; what there is of them at its end is handed back. -/
theorem callV_same [HasGl P] {FF : FL} {own : List (Option Ob)} {f : FuncId} {fn : Func} {c : Code} (hf : P.funcs[f]? = some fn) (hb : fn.body = some c) (hT : TTok P T) (hF : FTok P FF) {args : List AV} {n : Nat} (hnn : fn.ntmps = n) {rs : List ResultVar} (hrs : fn.results.toList = rs) {env : List (Nat × AV)} (henv : env0 args = env) (hn : args.length ≤ n) {Q : AV → List (Option Ob) → Prop}
    (hv : vc P T FF c (fun e st' => match e with | .exit _ => False | _ => ∃ st1, Weak st' st1 ∧ resL T st1 rs (fun l => Q (retV l) st1.own)) ⟨n, own.length, env, own⟩) : CallV P f args own Q := by
  subst hnn hrs henv
  refine ⟨fun mine L F h w vs hgl hm hden => ?_⟩
  have hm0 : Mem (mineOf (footOf F own) w) L F h own w := hm.mine_mono (fun b hb => .inl hb)
  have hs : Sat (footOf F own) w (⟨h, L, hgl⟩ : Base P) ⟨fn.ntmps, own.length, env0 args, own⟩ { tmps := vs.toArray ++ Array.replicate (fn.ntmps - vs.toArray.size) undef, defers := [] } w :=
    ⟨⟨L, F, h, hm0, agree0 hn hden own.length own, ⟨Sub.refl h, fun _ _ => rfl, hm.hn.symm⟩, fun k hk => .inl hk⟩, Keep.refl _ w⟩
  refine calls_of_wp hf hb (Code.wp_mono (fun e a' w' hh => ?_) (vc_ok hT hF c _ _ _ _ hv hs))
  obtain ⟨e', st0, rfl, hs1, he⟩ := hh
  have hr : ∃ st1, Weak st0 st1 ∧ resL T st1 fn.results.toList (fun l => Q (retV l) st1.own) := by
    cases e' with
    | normal => exact he
    | exit i => exact he.elim
    | ret => exact he
  obtain ⟨st1, hw, hr⟩ := hr
  obtain ⟨⟨L', F', h', hm', ha', hsub, hnew'⟩, hk⟩ := hw.out _ _ _ _ _ hs1
  obtain ⟨r, v, hQ, hd, hrun⟩ := results_ok (Q := fun r => Q r st1.own) hT hm' ha' hr
  have fin : a'.defers = [] ∧ ∃ v, (results fn a'.tmps).run P w' = .ok v w' ∧ ∃ (r : AV) (u : Value) (L' : Nat → Value) (F' : Nat → Nat → Prop) (h' : Hp) (own' : List (Option Ob)), Ending.returned v = .returned u ∧ DenA L' h' r u ∧ (∀ i, i < h.n → L' i = L i) ∧ Mem (mineOf (footOf F own) w) L' F' h' own' w' ∧
      Keep (footOf F own) w w' ∧ Sub h h' ∧ (∀ k, h'.m k ≠ none → h.m k ≠ none ∨ mineOf (footOf F own) w k) ∧ Q r own' :=
    ⟨ha'.defers, _, hrun, _, v, _, _, _, _, rfl, hd, hsub.at_, hm', hk, hsub.sub, hnew', hQ⟩
  cases e' with
  | normal => exact fin
  | exit i => exact he.elim
  | ret => exact fin
/-! ### slices.overlaps -/
/-- A slice's block: told apart. -/
structure Side (w : World) (F : Nat → Prop) (sz : Nat) (v : Value) (n : Nat) : Prop where
  ex : ∃ A c, v = .slice A n c ∧ (0 < n → 0 < sz → ∃ ad t k, A = some ad ∧ F ad.block ∧ w.shape? ad.block = some (t, k) ∧ k ≠ 0)
/-- .. plain memory, not a string's bytes. -/
def Plain (w : World) (v : Value) (n : Nat) : Prop := ∀ ad m c, v = .slice (some ad) m c → 0 < n → ∀ o, w.frozen? ⟨ad.block, o, none⟩ = false ∧ ad.spot = none
theorem shape_of {b : Nat} {cur : Array Value} {t : TypeId} {z : Nat × Nat} (hb : w.heap[b]? = some (.cells cur t z)) : w.shape? b = some (t, cur.size) := by simp [World.shape?, hb]
theorem side_row (hm : Mem mine L F h own w) {j : Nat} {e : TypeId} {sz n : Nat} {f : Nat → List IC} (hj : own[j]? = some (some (.row e sz n f))) {v : Value} (hd : Den L h (.row j) v) : Side w (F j) sz v n ∧ Plain w v n := by
  cases hd with
  | row _ A n' c h1 h2 =>
  obtain ⟨xs, ⟨hxl, hr⟩, hG, hR⟩ := hm.obs j _ hj
  rw [h2] at hr hG
  rcases hr with ⟨e1, e2⟩ | ⟨gb, cap, cur, e1, e2, e3, e4, e5, e6, e7⟩
  · cases e1
    exact ⟨⟨none, 0, by rw [e2], fun hp => by omega⟩, fun ad m c e hp => by cases e⟩
  · cases e1
    refine ⟨⟨_, _, rfl, fun h0 hs => ⟨⟨gb, 0, none⟩, e, cur.size, rfl, hG gb rfl, shape_of e3, ?_⟩⟩, fun ad m c e hp o => ?_⟩
    · rw [e6]; exact Nat.mul_ne_zero (by omega) (by omega)
    · cases e
      exact ⟨by simp [World.frozen?, e3], rfl⟩
theorem side_view (hm : Mem mine L F h own w) {i : Nat} {e : TypeId} {sz cap N k n c : Nat} {f : Nat → List IC} (hi : own[i]? = some (some (.arr e sz cap N f))) (hcap : k + n ≤ cap) {v : Value} (hd : Den L h (.view i sz k n c) v) : Side w (F i) sz v n ∧ Plain w v n := by
  cases hd with
  | view _ _ _ _ _ a0 b0 h1 h2 h3 h4 h5 =>
  obtain ⟨b, cur, e1, e2, e3, e4, e5, e6, e7⟩ := hm.obs i _ hi
  rw [e1] at h2
  cases h2
  refine ⟨⟨_, _, rfl, fun h0 hs => ⟨b0, e, cur.size, rfl, ?_, ?_, ?_⟩⟩, fun ad m c e hp o => ?_⟩
  · rw [h3 (.inl (by omega)), addr_plain]; exact e2
  · rw [h3 (.inl (by omega)), addr_plain]; exact shape_of e3
  · rw [e6]; exact Nat.mul_ne_zero (by omega) (by omega)
  · cases e
    rw [h3 (.inl (by omega)), addr_plain]
    exact ⟨by simp [World.frozen?, e3], rfl⟩
theorem side_sl (hm : Mem mine L F h own w) {sz n : Nat} {f : Nat → List IC} {v : Value} (hd : Den L h (.sl sz n f) v) : Side w (fun b => h.m b ≠ none) sz v n := by
  cases hd with
  | sl _ _ _ A c ad g hc hmx hA hg hl hclo hr =>
  refine ⟨_, _, rfl, fun h0 hs => ?_⟩
  have hh := hg 0 h0 0 hs
  rw [Nat.zero_mul, Nat.zero_add] at hh
  unfold hcell at hh
  have hbk : (ad.add 0).block = ad.block := by cases ad; unfold Addr.add; split <;> rfl
  rw [hbk] at hh
  split at hh
  · rename_i cur t z hb
    have hb2 := hm.hsub _ _ hb
    refine ⟨ad, t, cur.size, hA h0, by rw [hb]; simp, shape_of hb2, fun e0 => ?_⟩
    split at hh
    · cases hh
    · have := Array.size_eq_zero_iff.1 e0
      subst this
      simp at hh
  · cases hh
theorem overlaps_run {t r e : TypeId} {ti : TI} (hT : TF P e ti) (ht : P.underlying t = some (.slice e)) {va vb : Value} {na nb : Nat} {Fa Fb : Nat → Prop} (ha : Side w Fa ti.size va na) (hb : Side w Fb ti.size vb nb) (hp : Plain w va na) (hd : ∀ b, Fa b → Fb b → False) (h0 : 0 < na) (h1 : 0 < nb) (h2 : 0 < ti.size) :
    (Extern.SlicesOverlaps.overlaps #[t, t] #[r] #[va, vb]).run P w = .ok (.bool false) w := by
  obtain ⟨A, ca, rfl, g1⟩ := ha.ex
  obtain ⟨B, cb, rfl, g2⟩ := hb.ex
  obtain ⟨a, ta, ka, e1, f1, s1, z1⟩ := g1 h0 h2
  obtain ⟨b, tb, kb, e2, f2, s2, z2⟩ := g2 h1 h2
  subst e1 e2
  have hpa := hp a na ca rfl h0
  have hane : a.block ≠ b.block := fun e => hd _ f1 (by rw [e]; exact f2)
  have hfa : w.frozen? a = false := by
    have h8 := (hpa a.off).1
    have h9 := (hpa 0).2
    have : a = ⟨a.block, a.off, none⟩ := by cases a; simp at h9; subst h9; rfl
    rw [this]; exact h8
  exact Go.Lib.run_overlaps_apart w t r e ht ti.size hT.size a b na ca nb cb hane ta tb ka kb s1 s2 z2 hfa (hpa ka).1
/-- slices.overlaps at two slices that lie apart. -/
theorem ext_overlaps [HasGl P] {g : FuncId} {fn : Func} {t r e : TypeId} {ti : TI} (hf : P.funcs[g]? = some fn) (hname : (fn.name == "runtime.NumGoroutine") = false) (hb : fn.body.isNone = true) (hn : Extern.findNext fn = none) (he : Extern.find fn = some (Extern.SlicesOverlaps.overlaps #[t, t] #[r]))
    (hT : TF P e ti) (ht : P.underlying t = some (.slice e)) {own : List (Option Ob)} {x y : IC}
    (hxy : ∀ (mine : Nat → Prop) (L : Nat → Value) (F : Nat → Nat → Prop) (h : Hp) (w : World), Mem mine L F h own w → ∀ va vb, Den L h x va → Den L h y vb → ∃ na nb Fa Fb, Side w Fa ti.size va na ∧ Plain w va na ∧ Side w Fb ti.size vb nb ∧ (∀ b, Fa b → Fb b → False) ∧ 0 < na ∧ 0 < nb ∧ 0 < ti.size)
    {K : AV → List (Option Ob) → Prop} (hK : K (.c (.v (.bool false))) own) : ExtV P g [.c x, .c y] own K := by
  refine ⟨fun mine L F h w vs hgl hm hden => ?_⟩
  obtain ⟨va, vb, rfl⟩ : ∃ va vb, vs = [va, vb] := by
    have hl := hden.len
    match vs, hl with
    | [a, b], _ => exact ⟨a, b, rfl⟩
  have d1 : Den L h x va := hden.den 0 _ _ rfl rfl
  have d2 : Den L h y vb := hden.den 1 _ _ rfl rfl
  obtain ⟨na, nb, Fa, Fb, q1, q2, q3, q4, q5, q6, q7⟩ := hxy mine L F h w hm va vb d1 d2
  refine ⟨.bool false, w, ?_, .c (.v (.bool false)), L, F, h, own, Den.v _ rfl, fun _ _ => rfl, hm.mine_mono (fun b hb => .inl hb), Keep.refl _ _, Sub.refl h, fun k hk => .inl hk, hK⟩
  rw [run_callFunc_extern hf hname hb hn he]
  have := overlaps_run (r := r) hT ht q1 q3 q2 q4 q5 q6 q7
  rw [show ([va, vb] : List Value).toArray = #[va, vb] from rfl, this]
  rfl
theorem apart_row_view {j i : Nat} (hji : j ≠ i) {e e' : TypeId} {sz n k m c cap N : Nat} {f f' : Nat → List IC} {own : List (Option Ob)} (hj : own[j]? = some (some (.row e sz n f))) (hi : own[i]? = some (some (.arr e' sz cap N f'))) (hcap : k + m ≤ cap) (hn0 : 0 < n) (hm0 : 0 < m) (hs0 : 0 < sz) :
    ∀ (mine : Nat → Prop) (L : Nat → Value) (F : Nat → Nat → Prop) (h : Hp) (w : World), Mem mine L F h own w → ∀ va vb, Den L h (.row j) va → Den L h (.view i sz k m c) vb → ∃ na nb Fa Fb, Side w Fa sz va na ∧ Plain w va na ∧ Side w Fb sz vb nb ∧ (∀ b, Fa b → Fb b → False) ∧ 0 < na ∧ 0 < nb ∧ 0 < sz := by
  intro mine L F h w hm va vb d1 d2
  have s1 := side_row hm hj d1
  have s2 := side_view hm hi hcap d2
  exact ⟨n, m, F j, F i, s1.1, s1.2, s2.1, fun b h1 h2 => hji (hm.dis j i _ _ b hj hi h1 h2), hn0, hm0, hs0⟩
theorem apart_view_sl {i : Nat} {e' : TypeId} {sz n k m c cap N : Nat} {f f' : Nat → List IC} {own : List (Option Ob)} (hi : own[i]? = some (some (.arr e' sz cap N f'))) (hcap : k + m ≤ cap) (hn0 : 0 < n) (hm0 : 0 < m) (hs0 : 0 < sz) :
    ∀ (mine : Nat → Prop) (L : Nat → Value) (F : Nat → Nat → Prop) (h : Hp) (w : World), Mem mine L F h own w → ∀ va vb, Den L h (.view i sz k m c) va → Den L h (.sl sz n f) vb → ∃ na nb Fa Fb, Side w Fa sz va na ∧ Plain w va na ∧ Side w Fb sz vb nb ∧ (∀ b, Fa b → Fb b → False) ∧ 0 < na ∧ 0 < nb ∧ 0 < sz := by
  intro mine L F h w hm va vb d1 d2
  have s1 := side_view hm hi hcap d1
  have s2 := side_sl hm d2
  exact ⟨m, n, F i, _, s1.1, s1.2, s2, fun b h1 h2 => h2 (hm.foot i _ b hi h1).2.1, hm0, hn0, hs0⟩
end
end Go.Eng
