/- A part of the proof: what the functions of the program come to, told by a small reckoner of states. -/
import Derived.Test.YteglopjljejjkaaDoorA14
import Derived.Orders
set_option linter.unusedVariables false
set_option linter.unusedSimpArgs false
namespace Go.Eng
open Go Go.RowKit

/-! ### A region that draws its order: operations that only read, calls that hand back plain values -/
def scalC : IC → Bool
  | .v x => x.oneCell'
  | _ => false
def scal1 : AV → Bool
  | .c x => scalC x
  | .agg xs => xs.all scalC
  | .tup _ => false
  | .top => false
def scalA : AV → Bool
  | .tup as => as.all scal1
  | a => scal1 a
def detV : AV → Option Value
  | .tup as => (as.mapM avVal).map fun vs => .tuple vs.toArray
  | a => avVal a
structure CallQ (P : Program) [HasGl P] (f : FuncId) (args : List AV) (K : AV → Prop) : Prop where
  out : ∃ r u, CallV P f args [] (fun r' own' => own' = [] ∧ r' = r) ∧ detV r = some u ∧ scalA r = true ∧ K r
theorem callQ {P : Program} [HasGl P] {f : FuncId} {args : List AV} {K : AV → Prop} {r : AV} {u : Value} (hc : CallV P f args [] (fun r' own' => own' = [] ∧ r' = r)) (hd : detV r = some u) (hs : scalA r = true) (hk : K r) : CallQ P f args K := ⟨⟨r, u, hc, hd, hs, hk⟩⟩
def qstepP (P : Program) [HasGl P] (T : TT) (F : FL) (o : Oper) (st : St) (K : St → Prop) : Prop :=
  match o.op with
  | .call { callee := .value x, args, argTypes := _ } => match argsOf st args.toList, fnOf (ev st x) with
    | some avs, some (f, caps) => ifD ((match F.lookup f with | some (some _) => true | _ => false) = true) (ifD ((avs ++ caps).all cloA = true) (CallQ P f (avs ++ caps) (fun r => putK st o.dst r K)))
    | _, _ => False
  | _ => aopP T st o.op (fun av => putK st o.dst av K)
def qopsP (P : Program) [HasGl P] (T : TT) (F : FL) (ops : Array Oper) (l : List Oper) : St → (St → Prop) → Prop :=
  List.rec (motive := fun _ => St → (St → Prop) → Prop) (fun st K => K st)
    (fun o _ ih st K => guardP ops o st (qstepP P T F o st (fun st' => ih st' K)) (skipK st o.dst (fun st' => ih st' K))) l
section
variable {P : Program} {T : TT} {FF : FL} {mine may : Nat → Prop} {L : Nat → Value} {F : Nat → Nat → Prop} {h : Hp} {st : St} {a : Act} {w w0 : World}
theorem mapM_cons_some {α β : Type} {f : α → Option β} {x : α} {xs : List α} {us : List β} (e : (x :: xs).mapM f = some us) : ∃ u r, us = u :: r ∧ f x = some u ∧ xs.mapM f = some r := by
  rw [List.mapM_cons] at e
  cases h1 : f x with
  | none => rw [h1] at e; cases e
  | some u =>
    rw [h1] at e
    cases h2 : xs.mapM f with
    | none => rw [h2] at e; cases e
    | some r => rw [h2] at e; cases e; exact ⟨u, r, rfl, rfl, rfl⟩
theorem scalL_den : ∀ {xs : List IC} {us : List Value}, xs.mapM cellV = some us → xs.all scalC = true → DenL L h xs us
  | [], us, e, _ => by simp at e; subst e; exact DenL.nil
  | x :: xs, us, e, hs => by
    obtain ⟨u, r, rfl, h1, h2⟩ := mapM_cons_some e
    rw [List.all_cons, Bool.and_eq_true] at hs
    cases x <;> first | cases h1 | skip
    exact DenL.cons (.v _ hs.1) (scalL_den h2 hs.2)
theorem scal1_den {r : AV} {u : Value} (hs : scal1 r = true) (hd : avVal r = some u) : Den1 L h r u := by
  cases r with
  | c x => cases x <;> first | cases hs | skip
           cases hd
           exact Den.v _ hs
  | agg xs =>
    simp only [avVal] at hd
    cases hx : xs.mapM cellV with
    | none => rw [hx] at hd; cases hd
    | some us => rw [hx] at hd; cases hd; exact ⟨us, rfl, scalL_den hx hs⟩
  | tup as => cases hs
  | top => cases hs
theorem scalT_den : ∀ {as : List AV} {us : List Value}, as.mapM avVal = some us → as.all scal1 = true → as.length = us.length ∧ ∀ (j : Nat) a u, as[j]? = some a → us[j]? = some u → Den1 L h a u
  | [], us, e, _ => by simp at e; subst e; exact ⟨rfl, fun j a u ha => by simp at ha⟩
  | x :: xs, us, e, hs => by
    obtain ⟨u, r, rfl, h1, h2⟩ := mapM_cons_some e
    rw [List.all_cons, Bool.and_eq_true] at hs
    obtain ⟨k1, k2⟩ := scalT_den h2 hs.2
    refine ⟨by simp [k1], fun j a v ha hv => ?_⟩
    cases j with
    | zero => simp at ha hv; subst ha hv; exact scal1_den hs.1 h1
    | succ j => simp at ha hv; exact k2 j a v ha hv
theorem det_den {r : AV} {u : Value} (hs : scalA r = true) (hd : detV r = some u) : DenA L h r u := by
  cases r with
  | c x => exact scal1_den (r := .c x) hs hd
  | agg xs => exact scal1_den (r := .agg xs) hs hd
  | tup as =>
    simp only [detV] at hd
    cases hx : as.mapM avVal with
    | none => rw [hx] at hd; cases hd
    | some us =>
      rw [hx] at hd
      cases hd
      obtain ⟨k1, k2⟩ := scalT_den hx hs
      exact ⟨us, rfl, k1, k2⟩
  | top => cases hs
theorem detT : ∀ {as : List AV} {us vs : List Value}, as.mapM avVal = some us → as.length = vs.length → (∀ (j : Nat) a u, as[j]? = some a → vs[j]? = some u → Den1 L h a u) → vs = us
  | [], us, vs, e, hl, _ => by simp at e; subst e; exact List.eq_nil_of_length_eq_zero (by simpa using hl.symm)
  | x :: xs, us, [], e, hl, _ => by simp at hl
  | x :: xs, us, v :: vs, e, hl, hd => by
    obtain ⟨u, r, rfl, h1, h2⟩ := mapM_cons_some e
    have e1 := avVal_den h1 (den_flat (hd 0 x v rfl rfl))
    have e2 := detT h2 (vs := vs) (by simpa using hl) (fun j a u ha hu => hd (j + 1) a u (by simpa using ha) (by simpa using hu))
    rw [e1, e2]
theorem det_val {r : AV} {u v : Value} (hd : detV r = some u) (hr : DenA L h r v) : v = u := by
  cases r with
  | c x => exact avVal_den (a := .c x) hd hr
  | agg xs => exact avVal_den (a := .agg xs) hd hr
  | tup as =>
    simp only [detV] at hd
    cases hx : as.mapM avVal with
    | none => rw [hx] at hd; cases hd
    | some us =>
      rw [hx] at hd
      cases hd
      obtain ⟨vs, rfl, hl, hd⟩ := hr
      rw [detT hx hl hd]
  | top => cases hd
theorem put_agree (ha : Agree L h st a) {dst : Option Nat} {av : AV} {v : Value} (hok : DenA L h av v) {K : St → Prop} (hp : putK st dst av K) : ∃ st', Agree L h st' (a.put dst v) ∧ (st'.own = st.own ∧ st'.k = st.k) ∧ K st' := by
  cases dst with
  | none => exact ⟨st, ha, ⟨rfl, rfl⟩, hp⟩
  | some d => exact ⟨st.put (some d) av, agree_put ha (putK_some hp).1 hok, ⟨rfl, rfl⟩, (putK_some hp).2⟩
theorem wpQuiet_mono {ops : Array Oper} {C : World → Prop} {Q Q' : Act → Prop} (hq : ∀ a, Q a → Q' a) : ∀ (l : List Oper) (a : Act), wpQuiet P ops C Q l a → wpQuiet P ops C Q' l a
  | [], a, hw => hq a hw
  | o :: r, a, hw => by
    unfold wpQuiet at *
    split
    · rename_i e
      rw [if_pos e] at hw
      exact Oper.quiet_mono (fun a ha => wpQuiet_mono hq r a ha) hw
    · rename_i e
      rw [if_neg e] at hw
      exact wpQuiet_mono hq r _ hw
theorem quiet_ops [HasGl P] (hgl : HasGl.ok P h.m) (hT : TTok P T) (hF : FTok P FF) {kk : Nat} {own : List (Option Ob)} (hm : Mem mine L F h own w) {ops : Array Oper} {K : St → Prop} : ∀ (l : List Oper) (st : St) (a : Act), (st.own = own ∧ st.k = kk) → qopsP P T FF ops l st K → Agree L h st a →
    wpQuiet P ops (fun w' => Below w.heap.size w w') (fun a' => ∃ st', Agree L h st' a' ∧ (st'.own = own ∧ st'.k = kk) ∧ K st') l a
  | [], st, a, ho, hp, ha => wpQuiet_nil ⟨st, ha, ho, hp⟩
  | o :: r, st, a, ho, hp, ha => by
    refine wpQuiet_step (fun Kc hKc => ?_)
    have go : ∀ st' a', (st'.own = own ∧ st'.k = kk) → qopsP P T FF ops r st' K → Agree L h st' a' → Kc a' := fun st' a' h1 h2 h3 => hKc a' (quiet_ops hgl hT hF hm r st' a' h1 h2 h3)
    rcases guard_wanted ha hp with ⟨hw, hp⟩ | ⟨hw, hp⟩
    · rw [if_pos hw]
      obtain ⟨dst, op, ty, pos, after, guard⟩ := o
      unfold qstepP at hp
      simp only at hp
      split at hp
      · rename_i x args ts _
        split at hp
        · rename_i avs f caps hx hfn
          obtain ⟨hf, hp⟩ := ifD_and hp
          obtain ⟨hcl, hp⟩ := ifD_and hp
          obtain ⟨rv, u, hc, hdet, hs, hk⟩ := hp.out
          have h1 := argsOf_ok ha hx
          obtain ⟨cv, g1, g2⟩ := fnOf_ok (L := L) ha hfn
          have h12 := h1.append g2
          obtain ⟨st', k1, k2, k3⟩ := put_agree ha (det_den (L := L) (h := h) hs hdet) hk
          refine ⟨u, fun w' hw' => ?_, go st' _ ⟨k2.1.trans ho.1, k2.2.trans ho.2⟩ k3 k1⟩
          have hargs : args.map a.eval ++ cv.toArray = (args.toList.map a.eval ++ cv).toArray := by
            apply Array.ext'
            simp
          have hrun : (execOp a.eval { dst := dst, op := .call { callee := .value x, args := args, argTypes := ts }, type := ty, pos := pos, after := after, guard := guard }).run P w' = .ok (.enter f (args.toList.map a.eval ++ cv).toArray) w' := by
            obtain ⟨fz, hfz⟩ : ∃ fz, FF.lookup f = some (some fz) := by
              split at hf
              · rename_i fz e; exact ⟨fz, e⟩
              · cases hf
            have he := hF f fz hfz (args.toList.map a.eval ++ cv).toArray w'
            rw [← hargs] at he ⊢
            unfold execOp
            simp [resolve, g1, Deferred.ofValue, invoke]
            simpa using he
          unfold Oper.quietAt
          rw [hrun]
          refine ⟨rfl, ?_⟩
          have hm' := mem_same hm (same_below hm hw') hw'.size
          have hcall := hc.out mine L F ⟨h.m, 0⟩ w' _ hgl ⟨rfl, hm'.hsub, fun i ob hi => by simp at hi, fun i ob b hi => by simp at hi, fun i j oi oj b hi => by simp at hi⟩ (denAs_clo h12 0 hcl)
          refine hcall.mono ?_
          rintro e w'' ⟨r', v', L', F', h', own', e1, e2, e3, e4, e5, e6, e7, rfl, rfl⟩
          have := det_val hdet e2
          refine ⟨by rw [e1, this], hw'.trans ⟨e5.os, e5.tape, e5.output, e5.size, fun k hk2 => e5.block k (Nat.lt_of_lt_of_le hk2 hw'.size) not_foot_nil⟩⟩
        · exact hp.elim
      · rw [← ho.1] at hm
        obtain ⟨av, v, h1, h2, h3⟩ := aop_ok hT hm ha (o := ⟨dst, op, ty, pos, after, guard⟩) hp
        obtain ⟨st', k1, k2, k3⟩ := put_agree ha h2 h1
        refine ⟨v, fun w' hw' => ?_, go st' _ ⟨k2.1.trans ho.1, k2.2.trans ho.2⟩ k3 k1⟩
        unfold Oper.quietAt
        rw [h3 w' (same_below hm hw')]
        exact ⟨rfl, rfl⟩
    · rw [if_neg (by rw [hw]; simp)]
      obtain ⟨st', k1, k2, k3⟩ := put_agree (av := .tup []) ha tup_nil hp
      exact go st' _ ⟨k2.1.trans ho.1, k2.2.trans ho.2⟩ k3 k1
theorem quiet_G (hT : TTok P T) {kk : Nat} {own : List (Option Ob)} (hm : Mem mine L F h own w) {ops : Array Oper} {K : St → Prop} : ∀ (l : List Oper) (st : St) (gds : GD) (a : Act), (st.own = own ∧ st.k = kk) → opsG T ops l st gds K → Agree L h st a → GOk L h gds a →
    wpQuiet P ops (fun w' => Below w.heap.size w w') (fun a' => ∃ st', Agree L h st' a' ∧ (st'.own = own ∧ st'.k = kk) ∧ K st') l a
  | [], st, gds, a, ho, hp, ha, hg => wpQuiet_nil ⟨st, ha, ho, hp⟩
  | o :: r, st, gds, a, ho, hp, ha, hg => by
    refine wpQuiet_step (fun Kc hKc => ?_)
    rw [← ho.1] at hm
    obtain ⟨v, st', gds', hrun, h1, h2, h3, h4⟩ := opsG_step (P := P) hT hm ha hg hp
    have go : Kc (a.put o.dst v) := hKc _ (quiet_G hT (ho.1 ▸ hm) r st' gds' _ ⟨h3.1.trans ho.1, h3.2.trans ho.2⟩ h4 h1 h2)
    rcases hrun with ⟨hw, hrun⟩ | ⟨hw, rfl⟩
    · rw [if_pos hw]
      refine ⟨v, fun w' hw' => ?_, go⟩
      unfold Oper.quietAt
      rw [hrun w' (same_below hm hw')]
      exact ⟨rfl, rfl⟩
    · rw [if_neg (by rw [hw]; simp)]
      exact go
/-- **A region that draws its order and only reads**, its '&&' and '||' not parted. -/
theorem drawV_join [HasGl P] {id : Nat} {ops : Array Oper} {K : St → Prop} (hmx : P.follows .mixedOrders = true) (hB : Region.lexB .any ops = true) (hT : TTok P T) (hp : opsG T ops ops.toList st [] K) : DrawV P id ops K st := by
  refine ⟨fun may w0 h0 a w hs => ?_⟩
  obtain ⟨⟨L, F, h, hm, ha, hsub, hnew⟩, hk⟩ := hs
  refine wp_region_quiet (C := fun w' => Below w.heap.size w w') hmx hB ⟨rfl, rfl, rfl, Nat.le_refl _, fun _ _ => rfl⟩ ?_
  refine wpQuiet_mono (fun a' hq w' hw' => ?_) _ _ (quiet_G hT hm ops.toList st [] a ⟨rfl, rfl⟩ hp ha gok_nil)
  obtain ⟨st', k1, k2, k3⟩ := hq
  refine ⟨rfl, st', ⟨⟨L, F, h, ?_, k1, by rw [k2.2]; exact hsub, hnew⟩, keep_below hk hw'⟩, k3⟩
  rw [k2.1]
  exact mem_same hm (same_below hm hw') hw'.size
/-- Lay own objects still ahead of a region that draws. -/
theorem drawV_frz [HasGl P] (l : List Nat) {id : Nat} {ops : Array Oper} {K : St → Prop} (hp : frzL l st fun st => DrawV P id ops K st) : DrawV P id ops K st := by
  refine ⟨fun may w0 h0 a w hs => ?_⟩
  obtain ⟨st', h1, h2⟩ := frzL_sat l st hp hs
  exact h2.out may w0 h0 a w h1
/-- **A region that draws its order and only reads**: by its text's order. -/
theorem drawV_quiet [HasGl P] {id : Nat} {ops : Array Oper} {K : St → Prop} (hmx : P.follows .mixedOrders = true) (hB : Region.lexB .any ops = true) (hT : TTok P T) (hF : FTok P FF) (hp : qopsP P T FF ops ops.toList st K) : DrawV P id ops K st := by
  refine ⟨fun may w0 h0 a w hs => ?_⟩
  obtain ⟨⟨L, F, h, hm, ha, hsub, hnew⟩, hk⟩ := hs
  refine wp_region_quiet (C := fun w' => Below w.heap.size w w') hmx hB ⟨rfl, rfl, rfl, Nat.le_refl _, fun _ _ => rfl⟩ ?_
  refine wpQuiet_mono (fun a' hq w' hw' => ?_) _ _ (quiet_ops (HasGl.mono h0.gl hsub.sub.m) hT hF hm ops.toList st a ⟨rfl, rfl⟩ hp ha)
  obtain ⟨st', k1, k2, k3⟩ := hq
  refine ⟨rfl, st', ⟨⟨L, F, h, ?_, k1, by rw [k2.2]; exact hsub, hnew⟩, keep_below hk hw'⟩, k3⟩
  rw [k2.1]
  exact mem_same hm (same_below hm hw') hw'.size
end
/-! ### A region that draws its order: first operations that only read, in any order; then the others, whose order is forced -/
def depsOf (md : Region.Mode) (ops : Array Oper) (i : Nat) : List Nat := match ops[i]? with
  | some o => (o.after.toList.filter (fun e => Region.binds md e)).map (fun e => e.on)
  | none => []
def clos (md : Region.Mode) (ops : Array Oper) : Nat → List Nat → List Nat
  | 0, S => S
  | f + 1, S => clos md ops f ((S ++ S.flatMap (depsOf md ops)).eraseDups)
def tailB (md : Region.Mode) (ops : Array Oper) (k : Nat) : Bool :=
  (List.range ops.size).all fun i => (depsOf md ops i).all (fun j => decide (j < i)) && (decide (i < k) || (List.range i).all (fun j => (clos md ops i (depsOf md ops i)).contains j))
def lexPre (md : Region.Mode) (ops : Array Oper) : Nat → Nat → Array Bool → Bool
  | 0, p, listed => (List.range p).all (fun j => listed.getD j false)
  | fuel + 1, p, listed => (Region.ready md ops listed).contains p && Region.free md ops listed p && lexPre md ops fuel (p + 1) (listed.setIfInBounds p true)
def mixB (ops : Array Oper) (k : Nat) : Bool := Region.noSelect ops && decide (k ≤ ops.size) && tailB .any ops k && lexPre .any ops k 0 (Array.replicate ops.size false)
def Lclosed (md : Region.Mode) (ops : Array Oper) (listed : Array Bool) : Prop := ∀ i, i < ops.size → listed.getD i false = true → ∀ j, j ∈ depsOf md ops i → listed.getD j false = true
section
variable {P : Program} {ops : Array Oper} {md : Region.Mode} {C : World → Prop} {k : Nat}
theorem mem_deps {i j : Nat} {o : Oper} (ho : ops[i]? = some o) : j ∈ depsOf md ops i ↔ ∃ e, e ∈ o.after ∧ Region.binds md e = true ∧ e.on = j := by
  unfold depsOf
  rw [ho]
  simp only [List.mem_map, List.mem_filter, Array.mem_toList_iff]
  exact ⟨fun ⟨e, ⟨h1, h2⟩, h3⟩ => ⟨e, h1, h2, h3⟩, fun ⟨e, h1, h2, h3⟩ => ⟨e, ⟨h1, h2⟩, h3⟩⟩
theorem ready_deps {i : Nat} {listed : Array Bool} (hr : i ∈ Region.ready md ops listed) : i < ops.size ∧ listed.getD i true = false ∧ ∀ j, j ∈ depsOf md ops i → listed.getD j false = true := by
  obtain ⟨h1, o, ho, h2⟩ := mem_ready.1 hr
  refine ⟨(Array.getElem?_eq_some_iff.1 ho).1, h1, fun j hj => ?_⟩
  obtain ⟨e, he, hb, rfl⟩ := (mem_deps ho).1 hj
  exact h2 e he hb
theorem ready_of {i : Nat} {listed : Array Bool} (hi : i < ops.size) (h1 : listed.getD i true = false) (h2 : ∀ j, j ∈ depsOf md ops i → listed.getD j false = true) : i ∈ Region.ready md ops listed := by
  have ho : ops[i]? = some ops[i] := Array.getElem?_eq_getElem hi
  exact mem_ready.2 ⟨h1, _, ho, fun e he hb => h2 _ ((mem_deps ho).2 ⟨e, he, hb, rfl⟩)⟩
theorem clos_listed {listed : Array Bool} (hc : Lclosed md ops listed) : ∀ (f : Nat) (S : List Nat), (∀ j, j ∈ S → listed.getD j false = true) → ∀ j, j ∈ clos md ops f S → listed.getD j false = true
  | 0, S, hS, j, hj => hS j hj
  | f + 1, S, hS, j, hj => by
    refine clos_listed hc f _ (fun i hi => ?_) j hj
    rw [List.mem_eraseDups, List.mem_append, List.mem_flatMap] at hi
    rcases hi with hi | ⟨x, hx, hi⟩
    · exact hS i hi
    · by_cases hlt : x < ops.size
      · exact hc x hlt (hS x hx) i hi
      · unfold depsOf at hi
        rw [Array.getElem?_eq_none (by omega)] at hi
        cases hi
theorem tailB_spec (h : tailB md ops k = true) (i : Nat) (hi : i < ops.size) : (∀ j, j ∈ depsOf md ops i → j < i) ∧ (k ≤ i → ∀ j, j < i → j ∈ clos md ops i (depsOf md ops i)) := by
  have := List.all_eq_true.1 h i (List.mem_range.2 hi)
  rw [Bool.and_eq_true, Bool.or_eq_true] at this
  refine ⟨fun j hj => by simpa using List.all_eq_true.1 this.1 j hj, fun hk j hj => ?_⟩
  rcases this.2 with h2 | h2
  · simp at h2; omega
  · simpa using List.all_eq_true.1 h2 j (List.mem_range.2 hj)
theorem ready_tail (h : tailB md ops k = true) {listed : Array Bool} (hc : Lclosed md ops listed) {i : Nat} (hr : i ∈ Region.ready md ops listed) (hk : k ≤ i) : ∀ j, j < i → listed.getD j false = true := by
  obtain ⟨h1, h2, h3⟩ := ready_deps hr
  exact fun j hj => clos_listed hc i _ h3 j ((tailB_spec h i h1).2 hk j hj)
theorem getD_flip {listed : Array Bool} {j : Nat} (h1 : listed.getD j true = false) (h2 : listed.getD j false = true) : False := by
  rcases Nat.lt_or_ge j listed.size with h | h
  · simp [h] at h1 h2; rw [h1] at h2; cases h2
  · simp [Array.getElem?_eq_none h] at h2
theorem closed_set {listed : Array Bool} (hc : Lclosed md ops listed) {i : Nat} (hr : i ∈ Region.ready md ops listed) : Lclosed md ops (listed.setIfInBounds i true) := by
  intro x hx hl j hj
  obtain ⟨h1, h2, h3⟩ := ready_deps hr
  by_cases e : i = x
  · subst e
    exact getD_set_true (h3 j hj)
  · rw [getD_set_ne false e] at hl
    exact getD_set_true (hc x hx hl j hj)
/-- Whatever order the first k come up in. -/
def wpAnyT (P : Program) (md : Region.Mode) (ops : Array Oper) (C : World → Prop) (k : Nat) (R : Act → Prop) : Nat → Array Bool → Act → Prop
  | 0, listed, a => (∀ j, j < k → listed.getD j false = true) ∧ R a
  | fuel + 1, listed, a => (∃ j, j < k ∧ listed.getD j true = false) ∧ ∀ i, i ∈ Region.ready md ops listed → i < k → qOp P ops C i (wpAnyT P md ops C k R fuel (listed.setIfInBounds i true)) a
theorem wpAnyT_first {R : Act → Prop} {i : Nat} {oi : Oper} {v : Value} (hik : i < k) (hi : ops[i]? = some oi) (hsel : ∀ (j : Nat) (o : Oper) cs b, ops[j]? = some o → o.op ≠ .select cs b) :
    ∀ (fuel : Nat) (listed : Array Bool) (a : Act),
      (∀ j oj, ops[j]? = some oj → j ≠ i → listed.getD j true = false → (∀ e ∈ oj.after, Region.binds md e = true → e.on ≠ i) → oi.apart ops oj = true) →
      i ∈ Region.ready md ops listed → YieldsIn P ops C oi v a →
      wpAnyT P md ops C k R fuel (listed.setIfInBounds i true) (a.put oi.dst v) → wpAnyT P md ops C k R (fuel + 1) listed a := by
  intro fuel
  induction fuel with
  | zero =>
    intro listed a _ hr hy H
    refine ⟨⟨i, hik, (mem_ready.1 hr).1⟩, fun j hj hjk => ?_⟩
    by_cases hji : j = i
    · subst hji; exact hy.qOp hi H
    · have h1 := (mem_ready.1 (ready_mono hj hji)).1
      exact (getD_flip h1 (H.1 j hjk)).elim
  | succ fuel ih =>
    intro listed a hfree hr hy H
    refine ⟨⟨i, hik, (mem_ready.1 hr).1⟩, fun j hj hjk => ?_⟩
    by_cases hji : j = i
    · subst hji; exact hy.qOp hi H
    · have h1 := H.2 j (ready_mono hj hji) hjk
      obtain ⟨hjun, oj, hoj, hall⟩ := mem_ready.1 hj
      have hnot : ∀ e ∈ oj.after, Region.binds md e = true → e.on ≠ i := fun e he hb heq => by
        have h1 := hall e he hb
        have h0 := (mem_ready.1 hr).1
        rw [heq] at h1
        exact getD_flip h0 h1
      have h2 := qOp_put hoj (hfree j oj hoj hji hjun hnot) (fun cs b => hsel i oi cs b hi) (fun cs b => hsel j oj cs b hoj) hy h1
      have hfree' : ∀ m om, ops[m]? = some om → m ≠ i → (listed.setIfInBounds j true).getD m true = false →
          (∀ e ∈ om.after, Region.binds md e = true → e.on ≠ i) → oi.apart ops om = true := fun m om hm hmi hun hno => by
        refine hfree m om hm hmi ?_ hno
        by_cases hjm : j = m
        · subst hjm; exact hjun
        · rw [getD_set_ne true hjm] at hun; exact hun
      refine qOp_mono (fun a' h3 => ih (listed.setIfInBounds j true) a' hfree' (ready_mono hr (Ne.symm hji)) h3.1 ?_) h2
      rw [Array.setIfInBounds_comm _ _ hji]
      exact h3.2
theorem wpAnyT_lex {R : Act → Prop} (hs : Region.noSelect ops = true) : ∀ (l : List Oper) (p : Nat) (listed : Array Bool) (a : Act), (∀ j, j < l.length → l[j]? = ops[p + j]?) → p + l.length = k →
    lexPre md ops l.length p listed = true → wpQuiet P ops C R l a → wpAnyT P md ops C k R l.length listed a
  | [], p, listed, a, _, hk, hB, h => by
    refine ⟨fun j hj => ?_, h⟩
    simp at hk
    exact List.all_eq_true.1 hB j (List.mem_range.2 (by omega))
  | o :: l, p, listed, a, hl, hk, hB, h => by
    have h0 : ops[p]? = some o := by simpa using (hl 0 (by simp)).symm
    simp only [List.length_cons] at hk
    simp only [List.length_cons, lexPre, Bool.and_eq_true] at hB
    obtain ⟨⟨hr, hf⟩, hB'⟩ := hB
    have hst : qOp P ops C p (wpQuiet P ops C R l) a := by unfold qOp; simp only [h0]; exact h
    obtain ⟨v, hy, hK⟩ := yieldsIn_of_qOp h0 hst
    exact wpAnyT_first (by omega) h0 (Region.noSelect_spec hs) l.length listed a (Region.free_spec h0 hf) (by simpa using hr) hy
      (wpAnyT_lex hs l (p + 1) _ _ (fun j hj => by have := hl (j + 1) (by simp; omega); simpa [Nat.add_assoc, Nat.add_comm 1 j] using this) (by omega) hB' hK)
theorem least_ready (h : tailB md ops k = true) (hk : k ≤ ops.size) {listed : Array Bool} (hex : ∃ j, j < k ∧ listed.getD j true = false) : Region.ready md ops listed ≠ [] := by
  have key : ∀ n, ∀ j, j < n → j < k → listed.getD j true = false → ∃ i, i ∈ Region.ready md ops listed := by
    intro n
    induction n with
    | zero => intro j hj; omega
    | succ n ih =>
      intro j hj hjk hun
      by_cases hall : ∀ x, x < j → listed.getD x false = true
      · exact ⟨j, ready_of (by omega) hun (fun x hx => hall x ((tailB_spec h j (by omega)).1 x hx))⟩
      · obtain ⟨x, hx⟩ := Classical.not_forall.1 hall
        obtain ⟨hxj, hxu⟩ := Classical.not_imp.1 hx
        rcases Nat.lt_or_ge x listed.size with hs | hs
        · refine ih x (by omega) (by omega) ?_
          simp [hs] at hxu ⊢
          exact hxu
        · have hj2 : listed.getD j true = true := by simp [Array.getElem?_eq_none (show listed.size ≤ j by omega)]
          rw [hj2] at hun; cases hun
  obtain ⟨j, hjk, hun⟩ := hex
  obtain ⟨i, hi⟩ := key (j + 1) j (by omega) hjk hun
  intro e
  rw [e] at hi
  cases hi
theorem wpAny_of_T {R : Act → Prop} {Q : Exit → Act → World → Prop} (ht : tailB md ops k = true) (hk : k ≤ ops.size) (m : Nat)
    (hR : ∀ (listed : Array Bool) (a : Act) (w : World), C w → R a → listed.size = ops.size → (∀ j, j < k → listed.getD j false = true) → (∀ j, k ≤ j → j < ops.size → listed.getD j true = false) → Lclosed md ops listed → wpAny P md ops Q m listed a w) :
    ∀ (fuel : Nat) (listed : Array Bool) (a : Act) (w : World), C w → listed.size = ops.size → (∀ j, k ≤ j → j < ops.size → listed.getD j true = false) → Lclosed md ops listed → wpAnyT P md ops C k R fuel listed a → wpAny P md ops Q (fuel + m) listed a w
  | 0, listed, a, w, hw, hsz, hun, hc, H => by rw [Nat.zero_add]; exact hR listed a w hw H.2 hsz H.1 hun hc
  | fuel + 1, listed, a, w, hw, hsz, hun, hc, H => by
    rw [show fuel + 1 + m = (fuel + m) + 1 by omega]
    refine ⟨fun e => absurd e (least_ready ht hk H.1), fun i hi => ?_⟩
    have hik : i < k := by
      rcases Nat.lt_or_ge i k with h | h
      · exact h
      · obtain ⟨j, hjk, hju⟩ := H.1
        exact (getD_flip hju (ready_tail ht hc hi h j (by omega))).elim
    refine wpOp_of_qOp hw (fun a' w' hw' h => wpAny_of_T ht hk m hR fuel _ a' w' hw' (by simp [hsz]) (fun j h1 h2 => ?_) (closed_set hc hi) h) (H.2 i hi hik)
    rw [getD_set_ne true (by omega)]
    exact hun j h1 h2
theorem wpAny_tail {Q : Exit → Act → World → Prop} (ht : tailB md ops k = true) : ∀ (l : List Oper) (m : Nat) (listed : Array Bool) (a : Act) (w : World), (∀ j, l[j]? = ops[m + j]?) → m + l.length = ops.size → k ≤ m → listed.size = ops.size → (∀ j, j < m → listed.getD j false = true) →
    (∀ j, m ≤ j → j < ops.size → listed.getD j true = false) → Lclosed md ops listed → wpList P ops Q l a w → wpAny P md ops Q l.length listed a w
  | [], m, listed, a, w, hl, hm, hk, hsz, h1, h2, hc, hw => by
    refine ⟨?_, hw⟩
    refine List.eq_nil_iff_forall_not_mem.2 (fun i hi => ?_)
    obtain ⟨hi1, hi2, _⟩ := ready_deps hi
    simp at hm
    exact getD_flip hi2 (h1 i (by omega))
  | o :: l, m, listed, a, w, hl, hm, hk, hsz, h1, h2, hc, hw => by
    have h0 : ops[m]? = some o := by simpa using (hl 0).symm
    simp only [List.length_cons] at hm
    have hml : m < ops.size := by omega
    have hmr : m ∈ Region.ready md ops listed := ready_of hml (h2 m (Nat.le_refl _) hml) (fun j hj => h1 j ((tailB_spec ht m hml).1 j hj))
    refine ⟨(fun e => by rw [e] at hmr; cases hmr), fun i hi => ?_⟩
    have him : i = m := by
      obtain ⟨hi1, hi2, _⟩ := ready_deps hi
      rcases Nat.lt_trichotomy i m with h | h | h
      · exact (getD_flip hi2 (h1 i h)).elim
      · exact h
      · exact (getD_flip (h2 m (Nat.le_refl _) hml) (ready_tail ht hc hi (by omega) m h)).elim
    subst him
    have hop : wpOp P ops Q i (wpList P ops Q l) a w := by
      unfold wpOp
      simp only [h0]
      exact hw
    refine wpOp_mono (fun a' w' h => wpAny_tail ht l (i + 1) _ a' w' (fun j => by have := hl (j + 1); simpa [Nat.add_assoc, Nat.add_comm 1 j] using this) (by omega) (by omega) (by simp [hsz]) (fun j hj => ?_) (fun j hj1 hj2 => ?_) (closed_set hc hi) h) hop
    · by_cases e : i = j
      · subst e
        simp [hsz, hml]
      · rw [getD_set_ne false e]; exact h1 j (by omega)
    · rw [getD_set_ne true (by omega)]; exact h2 j (by omega) hj2
/-- The first k in any order, then the others. -/
theorem wp_region_mix {id : Nat} {Q : Exit → Act → World → Prop} {a : Act} {w : World} (hmx : P.follows .mixedOrders = true) (hB : mixB ops k = true) (hC : C { w with drawn := w.drawn + 1 })
    (h : wpQuiet P ops C (fun a' => ∀ w', C w' → wpList P ops Q (ops.toList.drop k) a' w') (ops.toList.take k) a) : (Code.region id ops true).wp P Q a w := by
  unfold mixB at hB
  simp only [Bool.and_eq_true, decide_eq_true_eq] at hB
  obtain ⟨⟨⟨hs, hk⟩, ht⟩, hl⟩ := hB
  refine wp_region_any hmx ?_
  have hlen : (ops.toList.take k).length = k := by simp; omega
  have hT := wpAnyT_lex (P := P) (md := .any) (C := C) (k := k) hs (ops.toList.take k) 0 (Array.replicate ops.size false) a (fun j hj => by
    rw [hlen] at hj
    rw [List.getElem?_take, if_pos hj, Nat.zero_add, Array.getElem?_toList]) (by omega) (by rw [hlen]; exact hl) h
  rw [hlen] at hT
  have hsz : ops.size = k + (ops.toList.drop k).length := by simp; omega
  have hcl : Lclosed .any ops (Array.replicate ops.size false) := fun i hi hx => by simp [hi] at hx
  have key := wpAny_of_T (Q := Q) ht hk (ops.toList.drop k).length (fun listed a' w' hw' hR hz h1 h2 hc =>
    wpAny_tail ht (ops.toList.drop k) k listed a' w' (fun j => by rw [List.getElem?_drop, Array.getElem?_toList]) (by simp; omega) (Nat.le_refl _) hz h1 h2 hc (hR w' hw')) k _ a _ hC (by simp) (fun j _ hj => by simp [hj]) hcl hT
  rw [← hsz] at key
  exact key
end
section
variable {P : Program} {T : TT} {FF : FL} {st : St}
/-- **A region that draws its order**: k operations that only read, then the others in the text's order. -/
theorem drawV_mix [HasGl P] (k : Nat) {id : Nat} {ops : Array Oper} {K : St → Prop} (hmx : P.follows .mixedOrders = true) (hB : mixB ops k = true) (hT : TTok P T) (hF : FTok P FF)
    (hp : qopsP P T FF ops (ops.toList.take k) st (fun st' => opsP P T FF ops (ops.toList.drop k) st' K)) : DrawV P id ops K st := by
  refine ⟨fun may w0 h0 a w hs => ?_⟩
  obtain ⟨⟨L, F, h, hm, ha, hsub, hnew⟩, hk⟩ := hs
  refine wp_region_mix (k := k) (C := fun w' => Below w.heap.size w w') hmx hB ⟨rfl, rfl, rfl, Nat.le_refl _, fun _ _ => rfl⟩ ?_
  refine wpQuiet_mono (fun a' hq w' hw' => ?_) _ _ (quiet_ops (HasGl.mono h0.gl hsub.sub.m) hT hF hm (ops.toList.take k) st a ⟨rfl, rfl⟩ hp ha)
  obtain ⟨st', k1, k2, k3⟩ := hq
  refine ops_ok (may := may) (w0 := w0) (h0 := h0) (K := K) hT hF (fun st'' a'' w'' h1 h2 => ⟨rfl, st'', h1, h2⟩) _ st' a' w' k3 ⟨⟨L, F, h, ?_, k1, by rw [k2.2]; exact hsub, hnew⟩, keep_below hk hw'⟩
  rw [k2.1]
  exact mem_same hm (same_below hm hw') hw'.size
end
section
variable {P : Program} {T : TT} {FF : FL} {may : Nat → Prop} {st : St} {a : Act} {w w0 : World}
theorem exists_least {R : Nat → Prop} (h : ∃ n, R n) : ∃ n, R n ∧ ∀ m, R m → n ≤ m := by
  obtain ⟨n, hn⟩ := h
  induction n using Nat.strongRecOn with
  | ind n ih =>
    by_cases hl : ∃ m, m < n ∧ R m
    · obtain ⟨m, h1, h2⟩ := hl
      exact ih m h1 h2
    · exact ⟨n, hn, fun m hm => Nat.le_of_not_lt (fun h => hl ⟨m, h, hm⟩)⟩
theorem least_ex (R : Nat → Prop) : ∃ n, (∃ m, R m) → R n ∧ ∀ m, R m → n ≤ m := by
  by_cases h : ∃ m, R m
  · obtain ⟨n, hn⟩ := exists_least h
    exact ⟨n, fun _ => hn⟩
  · exact ⟨0, fun k => absurd k h⟩
/-- **A loop**, by what holds at the head of each round (n goes down). -/
theorem loopV [HasGl P] (hT : TTok P T) (hF : FTok P FF) {c : Code} {Q : Ex → St → Prop} (I : Nat → St → Prop) {n : Nat} {st st1 : St} (hw : Weak st st1) (hI : I n st1)
    (hs : ∀ n st, I n st → vc P T FF c (fun e st' => match e with | .normal => ∃ m st'', m < n ∧ Weak st' st'' ∧ I m st'' | .exit i => Q (.exit i) st' | .ret => Q .ret st') st) : LoopV P c Q st := by
  refine ⟨fun may w0 h0 a w hsat => ?_⟩
  let R : Nat → Act → World → Prop := fun n a w => ∃ st, I n st ∧ Sat may w0 h0 st a w
  have hR : ∃ n, R n a w := ⟨n, st1, hI, hw.out _ _ _ _ _ hsat⟩
  refine wp_loop (fun a w => ∃ n, R n a w) (fun a w => Classical.choose (least_ex fun n => R n a w)) hR (fun a w hex => ?_)
  obtain ⟨st2, h1, h2⟩ := (Classical.choose_spec (least_ex fun n => R n a w) hex).1
  refine Code.wp_mono (fun e a' w' hh => ?_) (vc_ok hT hF c _ st2 a w (hs _ st2 h1) h2)
  obtain ⟨e', st', rfl, k1, k2⟩ := hh
  cases e' with
  | normal =>
    obtain ⟨m, st'', hlt, hwk, hI2⟩ := k2
    have hm : R m a' w' := ⟨st'', hI2, hwk.out _ _ _ _ _ k1⟩
    exact ⟨⟨m, hm⟩, Nat.lt_of_le_of_lt ((Classical.choose_spec (least_ex fun n => R n a' w') ⟨m, hm⟩).2 m hm) hlt⟩
  | exit i => exact ⟨.exit i, st', rfl, k1, k2⟩
  | ret => exact ⟨.ret, st', rfl, k1, k2⟩

/-- A loop that goes round fewer than n times. -/
def vcR (P : Program) [HasGl P] (T : TT) (FF : FL) (c : Code) (Q : Ex → St → Prop) (n : Nat) : St → Prop :=
  Nat.rec (motive := fun _ => St → Prop) (fun _ => False)
    (fun _ ih st => vc P T FF c (fun e st' => match e with | .normal => ih st' | .exit i => Q (.exit i) st' | .ret => Q .ret st') st) n
theorem loop_rounds [HasGl P] (n : Nat) (hT : TTok P T) (hF : FTok P FF) {c : Code} {Q : Ex → St → Prop} {st : St} (hp : vcR P T FF c Q n st) : LoopV P c Q st := by
  refine ⟨fun may w0 h0 a w hsat => wp_loop_rounds n ?_⟩
  induction n generalizing st a w with
  | zero => exact hp.elim
  | succ n ih =>
    refine Code.wp_mono (fun e a' w' hh => ?_) (vc_ok hT hF c _ st a w hp hsat)
    obtain ⟨e', st', rfl, k1, k2⟩ := hh
    cases e' with
    | normal => exact ih k2 a' w' k1
    | exit i => exact ⟨.exit i, st', rfl, k1, k2⟩
    | ret => exact ⟨.ret, st', rfl, k1, k2⟩
/-- Lay own objects still ahead of a loop. -/
theorem loopV_frz [HasGl P] (l : List Nat) {c : Code} {Q : Ex → St → Prop} {st : St} (hp : frzL l st fun st => LoopV P c Q st) : LoopV P c Q st := by
  refine ⟨fun may w0 h0 a w hs => ?_⟩
  obtain ⟨st', h1, h2⟩ := frzL_sat l st hp hs
  exact h2.out may w0 h0 a w h1
/-- A loop whose ways out meet: J holds behind it. -/
theorem loopV_cut [HasGl P] (id : Nat) (J : St → Prop) {c : Code} {Q : Ex → St → Prop} {st : St} (h1 : LoopV P c (fun e st' => match e with | .exit i => i = id ∧ ∃ st1, Weak st' st1 ∧ J st1 | .normal => False | .ret => Q .ret st') st) (h2 : ∀ st1, J st1 → Q (.exit id) st1) : LoopV P c Q st := by
  refine ⟨fun may w0 h0 a w hs => ?_⟩
  refine Code.wp_mono (fun e a' w' hh => ?_) (h1.out may w0 h0 a w hs)
  obtain ⟨e', st', rfl, k1, k2⟩ := hh
  cases e' with
  | normal => exact k2.elim
  | exit i =>
    obtain ⟨rfl, st1, q1, q2⟩ := k2
    exact ⟨.exit i, st1, rfl, q1.out _ _ _ _ _ k1, h2 st1 q2⟩
  | ret => exact ⟨.ret, st', rfl, k1, k2⟩
end
end Go.Eng
