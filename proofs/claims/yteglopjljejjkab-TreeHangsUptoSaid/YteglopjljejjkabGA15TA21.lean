/- A part of the proof: what the functions of the program come to, told by a small reckoner of states. -/
import Derived.Test.YteglopjljejjkabGA11vTA14
import Derived.Orders
import Derived.Lib.Overlaps
import Derived.ChangeArms
import Derived.Deep.Slices
import Derived.WideShapes
set_option linter.unusedVariables false
set_option linter.unusedSimpArgs false
namespace Go.Eng
open Go Go.RowKit

/-! ### A region that draws its order: operations that only read, calls that hand back plain values -/
def scalC : IC → Bool
  | .v x => x.oneCell'
  | _ => false
def scal1 : AV → Bool
  | .c x => scalC x
  | .agg xs => xs.all scalC
  | .tup _ => false
  | .top => false
def scalA : AV → Bool
  | .tup as => as.all scal1
  | a => scal1 a
def detV : AV → Option Value
  | .tup as => (as.mapM avVal).map fun vs => .tuple vs.toArray
  | a => avVal a
structure CallQ (P : Program) [HasGl P] (f : FuncId) (args : List AV) (K : AV → Prop) : Prop where
  out : ∃ r u, CallV P f args [] (fun r' own' => own' = [] ∧ r' = r) ∧ detV r = some u ∧ scalA r = true ∧ K r
theorem callQ {P : Program} [HasGl P] {f : FuncId} {args : List AV} {K : AV → Prop} {r : AV} {u : Value} (hc : CallV P f args [] (fun r' own' => own' = [] ∧ r' = r)) (hd : detV r = some u) (hs : scalA r = true) (hk : K r) : CallQ P f args K := ⟨⟨r, u, hc, hd, hs, hk⟩⟩
def qstepP (P : Program) [HasGl P] (T : TT) (F : FL) (o : Oper) (st : St) (K : St → Prop) : Prop :=
  match o.op with
  | .call { callee := .value x, args, argTypes := _ } => match argsOf st args.toList, fnOf (ev st x) with
    | some avs, some (f, caps) => ifD ((match F.lookup f with | some (some _) => true | _ => false) = true) (ifD ((avs ++ caps).all cloA = true) (CallQ P f (avs ++ caps) (fun r => putK st o.dst r K)))
    | _, _ => False
  | _ => aopP T st o.op (fun av => putK st o.dst av K)
def qopsP (P : Program) [HasGl P] (T : TT) (F : FL) (ops : Array Oper) (l : List Oper) : St → (St → Prop) → Prop :=
  List.rec (motive := fun _ => St → (St → Prop) → Prop) (fun st K => K st)
    (fun o _ ih st K => guardP ops o st (qstepP P T F o st (fun st' => ih st' K)) (skipK st o.dst (fun st' => ih st' K))) l
section
variable {P : Program} {T : TT} {FF : FL} {mine may : Nat → Prop} {L : Nat → Value} {F : Nat → Nat → Prop} {h : Hp} {st : St} {a : Act} {w w0 : World}
theorem mapM_cons_some {α β : Type} {f : α → Option β} {x : α} {xs : List α} {us : List β} (e : (x :: xs).mapM f = some us) : ∃ u r, us = u :: r ∧ f x = some u ∧ xs.mapM f = some r := by
  rw [List.mapM_cons] at e
  cases h1 : f x with
  | none => rw [h1] at e; cases e
  | some u =>
    rw [h1] at e
    cases h2 : xs.mapM f with
    | none => rw [h2] at e; cases e
    | some r => rw [h2] at e; cases e; exact ⟨u, r, rfl, rfl, rfl⟩
theorem scalL_den : ∀ {xs : List IC} {us : List Value}, xs.mapM cellV = some us → xs.all scalC = true → DenL L h xs us
  | [], us, e, _ => by simp at e; subst e; exact DenL.nil
  | x :: xs, us, e, hs => by
    obtain ⟨u, r, rfl, h1, h2⟩ := mapM_cons_some e
    rw [List.all_cons, Bool.and_eq_true] at hs
    cases x <;> first | cases h1 | skip
    exact DenL.cons (.v _ hs.1) (scalL_den h2 hs.2)
theorem scal1_den {r : AV} {u : Value} (hs : scal1 r = true) (hd : avVal r = some u) : Den1 L h r u := by
  cases r with
  | c x => cases x <;> first | cases hs | skip
           cases hd
           exact Den.v _ hs
  | agg xs =>
    simp only [avVal] at hd
    cases hx : xs.mapM cellV with
    | none => rw [hx] at hd; cases hd
    | some us => rw [hx] at hd; cases hd; exact ⟨us, rfl, scalL_den hx hs⟩
  | tup as => cases hs
  | top => cases hs
theorem scalT_den : ∀ {as : List AV} {us : List Value}, as.mapM avVal = some us → as.all scal1 = true → as.length = us.length ∧ ∀ (j : Nat) a u, as[j]? = some a → us[j]? = some u → Den1 L h a u
  | [], us, e, _ => by simp at e; subst e; exact ⟨rfl, fun j a u ha => by simp at ha⟩
  | x :: xs, us, e, hs => by
    obtain ⟨u, r, rfl, h1, h2⟩ := mapM_cons_some e
    rw [List.all_cons, Bool.and_eq_true] at hs
    obtain ⟨k1, k2⟩ := scalT_den h2 hs.2
    refine ⟨by simp [k1], fun j a v ha hv => ?_⟩
    cases j with
    | zero => simp at ha hv; subst ha hv; exact scal1_den hs.1 h1
    | succ j => simp at ha hv; exact k2 j a v ha hv
theorem det_den {r : AV} {u : Value} (hs : scalA r = true) (hd : detV r = some u) : DenA L h r u := by
  cases r with
  | c x => exact scal1_den (r := .c x) hs hd
  | agg xs => exact scal1_den (r := .agg xs) hs hd
  | tup as =>
    simp only [detV] at hd
    cases hx : as.mapM avVal with
    | none => rw [hx] at hd; cases hd
    | some us =>
      rw [hx] at hd
      cases hd
      obtain ⟨k1, k2⟩ := scalT_den hx hs
      exact ⟨us, rfl, k1, k2⟩
  | top => cases hs
theorem detT : ∀ {as : List AV} {us vs : List Value}, as.mapM avVal = some us → as.length = vs.length → (∀ (j : Nat) a u, as[j]? = some a → vs[j]? = some u → Den1 L h a u) → vs = us
  | [], us, vs, e, hl, _ => by simp at e; subst e; exact List.eq_nil_of_length_eq_zero (by simpa using hl.symm)
  | x :: xs, us, [], e, hl, _ => by simp at hl
  | x :: xs, us, v :: vs, e, hl, hd => by
    obtain ⟨u, r, rfl, h1, h2⟩ := mapM_cons_some e
    have e1 := avVal_den h1 (den_flat (hd 0 x v rfl rfl))
    have e2 := detT h2 (vs := vs) (by simpa using hl) (fun j a u ha hu => hd (j + 1) a u (by simpa using ha) (by simpa using hu))
    rw [e1, e2]
theorem det_val {r : AV} {u v : Value} (hd : detV r = some u) (hr : DenA L h r v) : v = u := by
  cases r with
  | c x => exact avVal_den (a := .c x) hd hr
  | agg xs => exact avVal_den (a := .agg xs) hd hr
  | tup as =>
    simp only [detV] at hd
    cases hx : as.mapM avVal with
    | none => rw [hx] at hd; cases hd
    | some us =>
      rw [hx] at hd
      cases hd
      obtain ⟨vs, rfl, hl, hd⟩ := hr
      rw [detT hx hl hd]
  | top => cases hd
theorem put_agree (ha : Agree L h st a) {dst : Option Nat} {av : AV} {v : Value} (hok : DenA L h av v) {K : St → Prop} (hp : putK st dst av K) : ∃ st', Agree L h st' (a.put dst v) ∧ (st'.own = st.own ∧ st'.k = st.k) ∧ K st' := by
  cases dst with
  | none => exact ⟨st, ha, ⟨rfl, rfl⟩, hp⟩
  | some d => exact ⟨st.put (some d) av, agree_put ha (putK_some hp).1 hok, ⟨rfl, rfl⟩, (putK_some hp).2⟩
theorem wpQuiet_mono {ops : Array Oper} {C : World → Prop} {Q Q' : Act → Prop} (hq : ∀ a, Q a → Q' a) : ∀ (l : List Oper) (a : Act), wpQuiet P ops C Q l a → wpQuiet P ops C Q' l a
  | [], a, hw => hq a hw
  | o :: r, a, hw => by
    unfold wpQuiet at *
    split
    · rename_i e
      rw [if_pos e] at hw
      exact Oper.quiet_mono (fun a ha => wpQuiet_mono hq r a ha) hw
    · rename_i e
      rw [if_neg e] at hw
      exact wpQuiet_mono hq r _ hw
theorem quiet_ops [HasGl P] (hgl : HasGl.ok P h.m) (hT : TTok P T) (hF : FTok P FF) {kk : Nat} {own : List (Option Ob)} (hm : Mem mine L F h own w) {ops : Array Oper} {K : St → Prop} : ∀ (l : List Oper) (st : St) (a : Act), (st.own = own ∧ st.k = kk) → qopsP P T FF ops l st K → Agree L h st a →
    wpQuiet P ops (fun w' => Below w.heap.size w w') (fun a' => ∃ st', Agree L h st' a' ∧ (st'.own = own ∧ st'.k = kk) ∧ K st') l a
  | [], st, a, ho, hp, ha => wpQuiet_nil ⟨st, ha, ho, hp⟩
  | o :: r, st, a, ho, hp, ha => by
    refine wpQuiet_step (fun Kc hKc => ?_)
    have go : ∀ st' a', (st'.own = own ∧ st'.k = kk) → qopsP P T FF ops r st' K → Agree L h st' a' → Kc a' := fun st' a' h1 h2 h3 => hKc a' (quiet_ops hgl hT hF hm r st' a' h1 h2 h3)
    rcases guard_wanted ha hp with ⟨hw, hp⟩ | ⟨hw, hp⟩
    · rw [if_pos hw]
      obtain ⟨dst, op, ty, pos, after, guard⟩ := o
      unfold qstepP at hp
      simp only at hp
      split at hp
      · rename_i x args ts _
        split at hp
        · rename_i avs f caps hx hfn
          obtain ⟨hf, hp⟩ := ifD_and hp
          obtain ⟨hcl, hp⟩ := ifD_and hp
          obtain ⟨rv, u, hc, hdet, hs, hk⟩ := hp.out
          have h1 := argsOf_ok ha hx
          obtain ⟨cv, g1, g2⟩ := fnOf_ok (L := L) ha hfn
          have h12 := h1.append g2
          obtain ⟨st', k1, k2, k3⟩ := put_agree ha (det_den (L := L) (h := h) hs hdet) hk
          refine ⟨u, fun w' hw' => ?_, go st' _ ⟨k2.1.trans ho.1, k2.2.trans ho.2⟩ k3 k1⟩
          have hargs : args.map a.eval ++ cv.toArray = (args.toList.map a.eval ++ cv).toArray := by
            apply Array.ext'
            simp
          have hrun : (execOp a.eval { dst := dst, op := .call { callee := .value x, args := args, argTypes := ts }, type := ty, pos := pos, after := after, guard := guard }).run P w' = .ok (.enter f (args.toList.map a.eval ++ cv).toArray) w' := by
            obtain ⟨fz, hfz⟩ : ∃ fz, FF.lookup f = some (some fz) := by
              split at hf
              · rename_i fz e; exact ⟨fz, e⟩
              · cases hf
            have he := hF f fz hfz (args.toList.map a.eval ++ cv).toArray w'
            rw [← hargs] at he ⊢
            unfold execOp
            simp [resolve, g1, Deferred.ofValue, invoke]
            simpa using he
          unfold Oper.quietAt
          rw [hrun]
          refine ⟨rfl, ?_⟩
          have hm' := mem_same hm (same_below hm hw') hw'.size
          have hcall := hc.out mine L F ⟨h.m, 0⟩ w' _ hgl ⟨rfl, hm'.hsub, fun i ob hi => by simp at hi, fun i ob b hi => by simp at hi, fun i j oi oj b hi => by simp at hi⟩ (denAs_clo h12 0 hcl)
          refine hcall.mono ?_
          rintro e w'' ⟨r', v', L', F', h', own', e1, e2, e3, e4, e5, e6, e7, rfl, rfl⟩
          have := det_val hdet e2
          refine ⟨by rw [e1, this], hw'.trans ⟨e5.os, e5.tape, e5.output, e5.size, fun k hk2 => e5.block k (Nat.lt_of_lt_of_le hk2 hw'.size) not_foot_nil⟩⟩
        · exact hp.elim
      · rw [← ho.1] at hm
        obtain ⟨av, v, h1, h2, h3⟩ := aop_ok hT hm ha (o := ⟨dst, op, ty, pos, after, guard⟩) hp
        obtain ⟨st', k1, k2, k3⟩ := put_agree ha h2 h1
        refine ⟨v, fun w' hw' => ?_, go st' _ ⟨k2.1.trans ho.1, k2.2.trans ho.2⟩ k3 k1⟩
        unfold Oper.quietAt
        rw [h3 w' (same_below hm hw')]
        exact ⟨rfl, rfl⟩
    · rw [if_neg (by rw [hw]; simp)]
      obtain ⟨st', k1, k2, k3⟩ := put_agree (av := .tup []) ha tup_nil hp
      exact go st' _ ⟨k2.1.trans ho.1, k2.2.trans ho.2⟩ k3 k1
theorem quiet_G (hT : TTok P T) {kk : Nat} {own : List (Option Ob)} (hm : Mem mine L F h own w) {ops : Array Oper} {K : St → Prop} : ∀ (l : List Oper) (st : St) (gds : GD) (a : Act), (st.own = own ∧ st.k = kk) → opsG T ops l st gds K → Agree L h st a → GOk L h gds a →
    wpQuiet P ops (fun w' => Below w.heap.size w w') (fun a' => ∃ st', Agree L h st' a' ∧ (st'.own = own ∧ st'.k = kk) ∧ K st') l a
  | [], st, gds, a, ho, hp, ha, hg => wpQuiet_nil ⟨st, ha, ho, hp⟩
  | o :: r, st, gds, a, ho, hp, ha, hg => by
    refine wpQuiet_step (fun Kc hKc => ?_)
    rw [← ho.1] at hm
    obtain ⟨v, st', gds', hrun, h1, h2, h3, h4⟩ := opsG_step (P := P) hT hm ha hg hp
    have go : Kc (a.put o.dst v) := hKc _ (quiet_G hT (ho.1 ▸ hm) r st' gds' _ ⟨h3.1.trans ho.1, h3.2.trans ho.2⟩ h4 h1 h2)
    rcases hrun with ⟨hw, hrun⟩ | ⟨hw, rfl⟩
    · rw [if_pos hw]
      refine ⟨v, fun w' hw' => ?_, go⟩
      unfold Oper.quietAt
      rw [hrun w' (same_below hm hw')]
      exact ⟨rfl, rfl⟩
    · rw [if_neg (by rw [hw]; simp)]
      exact go
/-- **A region that draws its order and only reads**, its '&&' and '||' not parted. -/
theorem drawV_join [HasGl P] {id : Nat} {ops : Array Oper} {K : St → Prop} (hmx : P.follows .mixedOrders = true) (hB : Region.lexB .any ops = true) (hT : TTok P T) (hp : opsG T ops ops.toList st [] K) : DrawV P id ops K st := by
  refine ⟨fun may w0 h0 a w hs => ?_⟩
  obtain ⟨⟨L, F, h, hm, ha, hsub, hnew⟩, hk⟩ := hs
  refine wp_region_quiet (C := fun w' => Below w.heap.size w w') hmx hB ⟨rfl, rfl, rfl, Nat.le_refl _, fun _ _ => rfl⟩ ?_
  refine wpQuiet_mono (fun a' hq w' hw' => ?_) _ _ (quiet_G hT hm ops.toList st [] a ⟨rfl, rfl⟩ hp ha gok_nil)
  obtain ⟨st', k1, k2, k3⟩ := hq
  refine ⟨rfl, st', ⟨⟨L, F, h, ?_, k1, by rw [k2.2]; exact hsub, hnew⟩, keep_below hk hw'⟩, k3⟩
  rw [k2.1]
  exact mem_same hm (same_below hm hw') hw'.size
/-- Lay own objects still ahead of a region that draws. -/
theorem drawV_frz [HasGl P] (l : List Nat) {id : Nat} {ops : Array Oper} {K : St → Prop} (hp : frzL l st fun st => DrawV P id ops K st) : DrawV P id ops K st := by
  refine ⟨fun may w0 h0 a w hs => ?_⟩
  obtain ⟨st', h1, h2⟩ := frzL_sat l st hp hs
  exact h2.out may w0 h0 a w h1
/-- **A region that draws its order and only reads**: by its text's order. -/
theorem drawV_quiet [HasGl P] {id : Nat} {ops : Array Oper} {K : St → Prop} (hmx : P.follows .mixedOrders = true) (hB : Region.lexB .any ops = true) (hT : TTok P T) (hF : FTok P FF) (hp : qopsP P T FF ops ops.toList st K) : DrawV P id ops K st := by
  refine ⟨fun may w0 h0 a w hs => ?_⟩
  obtain ⟨⟨L, F, h, hm, ha, hsub, hnew⟩, hk⟩ := hs
  refine wp_region_quiet (C := fun w' => Below w.heap.size w w') hmx hB ⟨rfl, rfl, rfl, Nat.le_refl _, fun _ _ => rfl⟩ ?_
  refine wpQuiet_mono (fun a' hq w' hw' => ?_) _ _ (quiet_ops (HasGl.mono h0.gl hsub.sub.m) hT hF hm ops.toList st a ⟨rfl, rfl⟩ hp ha)
  obtain ⟨st', k1, k2, k3⟩ := hq
  refine ⟨rfl, st', ⟨⟨L, F, h, ?_, k1, by rw [k2.2]; exact hsub, hnew⟩, keep_below hk hw'⟩, k3⟩
  rw [k2.1]
  exact mem_same hm (same_below hm hw') hw'.size
end
/-! ### A region that draws its order: first operations that only read, in any order; then the others, whose order is forced -/
def depsOf (md : Region.Mode) (ops : Array Oper) (i : Nat) : List Nat := match ops[i]? with
  | some o => (o.after.toList.filter (fun e => Region.binds md e)).map (fun e => e.on)
  | none => []
def clos (md : Region.Mode) (ops : Array Oper) : Nat → List Nat → List Nat
  | 0, S => S
  | f + 1, S => clos md ops f ((S ++ S.flatMap (depsOf md ops)).eraseDups)
def tailB (md : Region.Mode) (ops : Array Oper) (k : Nat) : Bool :=
  (List.range ops.size).all fun i => (depsOf md ops i).all (fun j => decide (j < i)) && (decide (i < k) || (List.range i).all (fun j => (clos md ops i (depsOf md ops i)).contains j))
def lexPre (md : Region.Mode) (ops : Array Oper) : Nat → Nat → Array Bool → Bool
  | 0, p, listed => (List.range p).all (fun j => listed.getD j false)
  | fuel + 1, p, listed => (Region.ready md ops listed).contains p && Region.free md ops listed p && lexPre md ops fuel (p + 1) (listed.setIfInBounds p true)
def mixB (ops : Array Oper) (k : Nat) : Bool := Region.noSelect ops && decide (k ≤ ops.size) && tailB .any ops k && lexPre .any ops k 0 (Array.replicate ops.size false)
def Lclosed (md : Region.Mode) (ops : Array Oper) (listed : Array Bool) : Prop := ∀ i, i < ops.size → listed.getD i false = true → ∀ j, j ∈ depsOf md ops i → listed.getD j false = true
section
variable {P : Program} {ops : Array Oper} {md : Region.Mode} {C : World → Prop} {k : Nat}
theorem mem_deps {i j : Nat} {o : Oper} (ho : ops[i]? = some o) : j ∈ depsOf md ops i ↔ ∃ e, e ∈ o.after ∧ Region.binds md e = true ∧ e.on = j := by
  unfold depsOf
  rw [ho]
  simp only [List.mem_map, List.mem_filter, Array.mem_toList_iff]
  exact ⟨fun ⟨e, ⟨h1, h2⟩, h3⟩ => ⟨e, h1, h2, h3⟩, fun ⟨e, h1, h2, h3⟩ => ⟨e, ⟨h1, h2⟩, h3⟩⟩
theorem ready_deps {i : Nat} {listed : Array Bool} (hr : i ∈ Region.ready md ops listed) : i < ops.size ∧ listed.getD i true = false ∧ ∀ j, j ∈ depsOf md ops i → listed.getD j false = true := by
  obtain ⟨h1, o, ho, h2⟩ := mem_ready.1 hr
  refine ⟨(Array.getElem?_eq_some_iff.1 ho).1, h1, fun j hj => ?_⟩
  obtain ⟨e, he, hb, rfl⟩ := (mem_deps ho).1 hj
  exact h2 e he hb
theorem ready_of {i : Nat} {listed : Array Bool} (hi : i < ops.size) (h1 : listed.getD i true = false) (h2 : ∀ j, j ∈ depsOf md ops i → listed.getD j false = true) : i ∈ Region.ready md ops listed := by
  have ho : ops[i]? = some ops[i] := Array.getElem?_eq_getElem hi
  exact mem_ready.2 ⟨h1, _, ho, fun e he hb => h2 _ ((mem_deps ho).2 ⟨e, he, hb, rfl⟩)⟩
theorem clos_listed {listed : Array Bool} (hc : Lclosed md ops listed) : ∀ (f : Nat) (S : List Nat), (∀ j, j ∈ S → listed.getD j false = true) → ∀ j, j ∈ clos md ops f S → listed.getD j false = true
  | 0, S, hS, j, hj => hS j hj
  | f + 1, S, hS, j, hj => by
    refine clos_listed hc f _ (fun i hi => ?_) j hj
    rw [List.mem_eraseDups, List.mem_append, List.mem_flatMap] at hi
    rcases hi with hi | ⟨x, hx, hi⟩
    · exact hS i hi
    · by_cases hlt : x < ops.size
      · exact hc x hlt (hS x hx) i hi
      · unfold depsOf at hi
        rw [Array.getElem?_eq_none (by omega)] at hi
        cases hi
theorem tailB_spec (h : tailB md ops k = true) (i : Nat) (hi : i < ops.size) : (∀ j, j ∈ depsOf md ops i → j < i) ∧ (k ≤ i → ∀ j, j < i → j ∈ clos md ops i (depsOf md ops i)) := by
  have := List.all_eq_true.1 h i (List.mem_range.2 hi)
  rw [Bool.and_eq_true, Bool.or_eq_true] at this
  refine ⟨fun j hj => by simpa using List.all_eq_true.1 this.1 j hj, fun hk j hj => ?_⟩
  rcases this.2 with h2 | h2
  · simp at h2; omega
  · simpa using List.all_eq_true.1 h2 j (List.mem_range.2 hj)
theorem ready_tail (h : tailB md ops k = true) {listed : Array Bool} (hc : Lclosed md ops listed) {i : Nat} (hr : i ∈ Region.ready md ops listed) (hk : k ≤ i) : ∀ j, j < i → listed.getD j false = true := by
  obtain ⟨h1, h2, h3⟩ := ready_deps hr
  exact fun j hj => clos_listed hc i _ h3 j ((tailB_spec h i h1).2 hk j hj)
theorem getD_flip {listed : Array Bool} {j : Nat} (h1 : listed.getD j true = false) (h2 : listed.getD j false = true) : False := by
  rcases Nat.lt_or_ge j listed.size with h | h
  · simp [h] at h1 h2; rw [h1] at h2; cases h2
  · simp [Array.getElem?_eq_none h] at h2
theorem closed_set {listed : Array Bool} (hc : Lclosed md ops listed) {i : Nat} (hr : i ∈ Region.ready md ops listed) : Lclosed md ops (listed.setIfInBounds i true) := by
  intro x hx hl j hj
  obtain ⟨h1, h2, h3⟩ := ready_deps hr
  by_cases e : i = x
  · subst e
    exact getD_set_true (h3 j hj)
  · rw [getD_set_ne false e] at hl
    exact getD_set_true (hc x hx hl j hj)
/-- Whatever order the first k come up in. -/
def wpAnyT (P : Program) (md : Region.Mode) (ops : Array Oper) (C : World → Prop) (k : Nat) (R : Act → Prop) : Nat → Array Bool → Act → Prop
  | 0, listed, a => (∀ j, j < k → listed.getD j false = true) ∧ R a
  | fuel + 1, listed, a => (∃ j, j < k ∧ listed.getD j true = false) ∧ ∀ i, i ∈ Region.ready md ops listed → i < k → qOp P ops C i (wpAnyT P md ops C k R fuel (listed.setIfInBounds i true)) a
theorem wpAnyT_first {R : Act → Prop} {i : Nat} {oi : Oper} {v : Value} (hik : i < k) (hi : ops[i]? = some oi) (hsel : ∀ (j : Nat) (o : Oper) cs b, ops[j]? = some o → o.op ≠ .select cs b) :
    ∀ (fuel : Nat) (listed : Array Bool) (a : Act),
      (∀ j oj, ops[j]? = some oj → j ≠ i → listed.getD j true = false → (∀ e ∈ oj.after, Region.binds md e = true → e.on ≠ i) → oi.apart ops oj = true) →
      i ∈ Region.ready md ops listed → YieldsIn P ops C oi v a →
      wpAnyT P md ops C k R fuel (listed.setIfInBounds i true) (a.put oi.dst v) → wpAnyT P md ops C k R (fuel + 1) listed a := by
  intro fuel
  induction fuel with
  | zero =>
    intro listed a _ hr hy H
    refine ⟨⟨i, hik, (mem_ready.1 hr).1⟩, fun j hj hjk => ?_⟩
    by_cases hji : j = i
    · subst hji; exact hy.qOp hi H
    · have h1 := (mem_ready.1 (ready_mono hj hji)).1
      exact (getD_flip h1 (H.1 j hjk)).elim
  | succ fuel ih =>
    intro listed a hfree hr hy H
    refine ⟨⟨i, hik, (mem_ready.1 hr).1⟩, fun j hj hjk => ?_⟩
    by_cases hji : j = i
    · subst hji; exact hy.qOp hi H
    · have h1 := H.2 j (ready_mono hj hji) hjk
      obtain ⟨hjun, oj, hoj, hall⟩ := mem_ready.1 hj
      have hnot : ∀ e ∈ oj.after, Region.binds md e = true → e.on ≠ i := fun e he hb heq => by
        have h1 := hall e he hb
        have h0 := (mem_ready.1 hr).1
        rw [heq] at h1
        exact getD_flip h0 h1
      have h2 := qOp_put hoj (hfree j oj hoj hji hjun hnot) (fun cs b => hsel i oi cs b hi) (fun cs b => hsel j oj cs b hoj) hy h1
      have hfree' : ∀ m om, ops[m]? = some om → m ≠ i → (listed.setIfInBounds j true).getD m true = false →
          (∀ e ∈ om.after, Region.binds md e = true → e.on ≠ i) → oi.apart ops om = true := fun m om hm hmi hun hno => by
        refine hfree m om hm hmi ?_ hno
        by_cases hjm : j = m
        · subst hjm; exact hjun
        · rw [getD_set_ne true hjm] at hun; exact hun
      refine qOp_mono (fun a' h3 => ih (listed.setIfInBounds j true) a' hfree' (ready_mono hr (Ne.symm hji)) h3.1 ?_) h2
      rw [Array.setIfInBounds_comm _ _ hji]
      exact h3.2
theorem wpAnyT_lex {R : Act → Prop} (hs : Region.noSelect ops = true) : ∀ (l : List Oper) (p : Nat) (listed : Array Bool) (a : Act), (∀ j, j < l.length → l[j]? = ops[p + j]?) → p + l.length = k →
    lexPre md ops l.length p listed = true → wpQuiet P ops C R l a → wpAnyT P md ops C k R l.length listed a
  | [], p, listed, a, _, hk, hB, h => by
    refine ⟨fun j hj => ?_, h⟩
    simp at hk
    exact List.all_eq_true.1 hB j (List.mem_range.2 (by omega))
  | o :: l, p, listed, a, hl, hk, hB, h => by
    have h0 : ops[p]? = some o := by simpa using (hl 0 (by simp)).symm
    simp only [List.length_cons] at hk
    simp only [List.length_cons, lexPre, Bool.and_eq_true] at hB
    obtain ⟨⟨hr, hf⟩, hB'⟩ := hB
    have hst : qOp P ops C p (wpQuiet P ops C R l) a := by unfold qOp; simp only [h0]; exact h
    obtain ⟨v, hy, hK⟩ := yieldsIn_of_qOp h0 hst
    exact wpAnyT_first (by omega) h0 (Region.noSelect_spec hs) l.length listed a (Region.free_spec h0 hf) (by simpa using hr) hy
      (wpAnyT_lex hs l (p + 1) _ _ (fun j hj => by have := hl (j + 1) (by simp; omega); simpa [Nat.add_assoc, Nat.add_comm 1 j] using this) (by omega) hB' hK)
theorem least_ready (h : tailB md ops k = true) (hk : k ≤ ops.size) {listed : Array Bool} (hex : ∃ j, j < k ∧ listed.getD j true = false) : Region.ready md ops listed ≠ [] := by
  have key : ∀ n, ∀ j, j < n → j < k → listed.getD j true = false → ∃ i, i ∈ Region.ready md ops listed := by
    intro n
    induction n with
    | zero => intro j hj; omega
    | succ n ih =>
      intro j hj hjk hun
      by_cases hall : ∀ x, x < j → listed.getD x false = true
      · exact ⟨j, ready_of (by omega) hun (fun x hx => hall x ((tailB_spec h j (by omega)).1 x hx))⟩
      · obtain ⟨x, hx⟩ := Classical.not_forall.1 hall
        obtain ⟨hxj, hxu⟩ := Classical.not_imp.1 hx
        rcases Nat.lt_or_ge x listed.size with hs | hs
        · refine ih x (by omega) (by omega) ?_
          simp [hs] at hxu ⊢
          exact hxu
        · have hj2 : listed.getD j true = true := by simp [Array.getElem?_eq_none (show listed.size ≤ j by omega)]
          rw [hj2] at hun; cases hun
  obtain ⟨j, hjk, hun⟩ := hex
  obtain ⟨i, hi⟩ := key (j + 1) j (by omega) hjk hun
  intro e
  rw [e] at hi
  cases hi
theorem wpAny_of_T {R : Act → Prop} {Q : Exit → Act → World → Prop} (ht : tailB md ops k = true) (hk : k ≤ ops.size) (m : Nat)
    (hR : ∀ (listed : Array Bool) (a : Act) (w : World), C w → R a → listed.size = ops.size → (∀ j, j < k → listed.getD j false = true) → (∀ j, k ≤ j → j < ops.size → listed.getD j true = false) → Lclosed md ops listed → wpAny P md ops Q m listed a w) :
    ∀ (fuel : Nat) (listed : Array Bool) (a : Act) (w : World), C w → listed.size = ops.size → (∀ j, k ≤ j → j < ops.size → listed.getD j true = false) → Lclosed md ops listed → wpAnyT P md ops C k R fuel listed a → wpAny P md ops Q (fuel + m) listed a w
  | 0, listed, a, w, hw, hsz, hun, hc, H => by rw [Nat.zero_add]; exact hR listed a w hw H.2 hsz H.1 hun hc
  | fuel + 1, listed, a, w, hw, hsz, hun, hc, H => by
    rw [show fuel + 1 + m = (fuel + m) + 1 by omega]
    refine ⟨fun e => absurd e (least_ready ht hk H.1), fun i hi => ?_⟩
    have hik : i < k := by
      rcases Nat.lt_or_ge i k with h | h
      · exact h
      · obtain ⟨j, hjk, hju⟩ := H.1
        exact (getD_flip hju (ready_tail ht hc hi h j (by omega))).elim
    refine wpOp_of_qOp hw (fun a' w' hw' h => wpAny_of_T ht hk m hR fuel _ a' w' hw' (by simp [hsz]) (fun j h1 h2 => ?_) (closed_set hc hi) h) (H.2 i hi hik)
    rw [getD_set_ne true (by omega)]
    exact hun j h1 h2
theorem wpAny_tail {Q : Exit → Act → World → Prop} (ht : tailB md ops k = true) : ∀ (l : List Oper) (m : Nat) (listed : Array Bool) (a : Act) (w : World), (∀ j, l[j]? = ops[m + j]?) → m + l.length = ops.size → k ≤ m → listed.size = ops.size → (∀ j, j < m → listed.getD j false = true) →
    (∀ j, m ≤ j → j < ops.size → listed.getD j true = false) → Lclosed md ops listed → wpList P ops Q l a w → wpAny P md ops Q l.length listed a w
  | [], m, listed, a, w, hl, hm, hk, hsz, h1, h2, hc, hw => by
    refine ⟨?_, hw⟩
    refine List.eq_nil_iff_forall_not_mem.2 (fun i hi => ?_)
    obtain ⟨hi1, hi2, _⟩ := ready_deps hi
    simp at hm
    exact getD_flip hi2 (h1 i (by omega))
  | o :: l, m, listed, a, w, hl, hm, hk, hsz, h1, h2, hc, hw => by
    have h0 : ops[m]? = some o := by simpa using (hl 0).symm
    simp only [List.length_cons] at hm
    have hml : m < ops.size := by omega
    have hmr : m ∈ Region.ready md ops listed := ready_of hml (h2 m (Nat.le_refl _) hml) (fun j hj => h1 j ((tailB_spec ht m hml).1 j hj))
    refine ⟨(fun e => by rw [e] at hmr; cases hmr), fun i hi => ?_⟩
    have him : i = m := by
      obtain ⟨hi1, hi2, _⟩ := ready_deps hi
      rcases Nat.lt_trichotomy i m with h | h | h
      · exact (getD_flip hi2 (h1 i h)).elim
      · exact h
      · exact (getD_flip (h2 m (Nat.le_refl _) hml) (ready_tail ht hc hi (by omega) m h)).elim
    subst him
    have hop : wpOp P ops Q i (wpList P ops Q l) a w := by
      unfold wpOp
      simp only [h0]
      exact hw
    refine wpOp_mono (fun a' w' h => wpAny_tail ht l (i + 1) _ a' w' (fun j => by have := hl (j + 1); simpa [Nat.add_assoc, Nat.add_comm 1 j] using this) (by omega) (by omega) (by simp [hsz]) (fun j hj => ?_) (fun j hj1 hj2 => ?_) (closed_set hc hi) h) hop
    · by_cases e : i = j
      · subst e
        simp [hsz, hml]
      · rw [getD_set_ne false e]; exact h1 j (by omega)
    · rw [getD_set_ne true (by omega)]; exact h2 j (by omega) hj2
/-- The first k in any order, then the others. -/
theorem wp_region_mix {id : Nat} {Q : Exit → Act → World → Prop} {a : Act} {w : World} (hmx : P.follows .mixedOrders = true) (hB : mixB ops k = true) (hC : C { w with drawn := w.drawn + 1 })
    (h : wpQuiet P ops C (fun a' => ∀ w', C w' → wpList P ops Q (ops.toList.drop k) a' w') (ops.toList.take k) a) : (Code.region id ops true).wp P Q a w := by
  unfold mixB at hB
  simp only [Bool.and_eq_true, decide_eq_true_eq] at hB
  obtain ⟨⟨⟨hs, hk⟩, ht⟩, hl⟩ := hB
  refine wp_region_any hmx ?_
  have hlen : (ops.toList.take k).length = k := by simp; omega
  have hT := wpAnyT_lex (P := P) (md := .any) (C := C) (k := k) hs (ops.toList.take k) 0 (Array.replicate ops.size false) a (fun j hj => by
    rw [hlen] at hj
    rw [List.getElem?_take, if_pos hj, Nat.zero_add, Array.getElem?_toList]) (by omega) (by rw [hlen]; exact hl) h
  rw [hlen] at hT
  have hsz : ops.size = k + (ops.toList.drop k).length := by simp; omega
  have hcl : Lclosed .any ops (Array.replicate ops.size false) := fun i hi hx => by simp [hi] at hx
  have key := wpAny_of_T (Q := Q) ht hk (ops.toList.drop k).length (fun listed a' w' hw' hR hz h1 h2 hc =>
    wpAny_tail ht (ops.toList.drop k) k listed a' w' (fun j => by rw [List.getElem?_drop, Array.getElem?_toList]) (by simp; omega) (Nat.le_refl _) hz h1 h2 hc (hR w' hw')) k _ a _ hC (by simp) (fun j _ hj => by simp [hj]) hcl hT
  rw [← hsz] at key
  exact key
end
section
variable {P : Program} {T : TT} {FF : FL} {st : St}
/-- **A region that draws its order**: k operations that only read, then the others in the text's order. -/
theorem drawV_mix [HasGl P] (k : Nat) {id : Nat} {ops : Array Oper} {K : St → Prop} (hmx : P.follows .mixedOrders = true) (hB : mixB ops k = true) (hT : TTok P T) (hF : FTok P FF)
    (hp : qopsP P T FF ops (ops.toList.take k) st (fun st' => opsP P T FF ops (ops.toList.drop k) st' K)) : DrawV P id ops K st := by
  refine ⟨fun may w0 h0 a w hs => ?_⟩
  obtain ⟨⟨L, F, h, hm, ha, hsub, hnew⟩, hk⟩ := hs
  refine wp_region_mix (k := k) (C := fun w' => Below w.heap.size w w') hmx hB ⟨rfl, rfl, rfl, Nat.le_refl _, fun _ _ => rfl⟩ ?_
  refine wpQuiet_mono (fun a' hq w' hw' => ?_) _ _ (quiet_ops (HasGl.mono h0.gl hsub.sub.m) hT hF hm (ops.toList.take k) st a ⟨rfl, rfl⟩ hp ha)
  obtain ⟨st', k1, k2, k3⟩ := hq
  refine ops_ok (may := may) (w0 := w0) (h0 := h0) (K := K) hT hF (fun st'' a'' w'' h1 h2 => ⟨rfl, st'', h1, h2⟩) _ st' a' w' k3 ⟨⟨L, F, h, ?_, k1, by rw [k2.2]; exact hsub, hnew⟩, keep_below hk hw'⟩
  rw [k2.1]
  exact mem_same hm (same_below hm hw') hw'.size
end
section
variable {P : Program} {T : TT} {FF : FL} {may : Nat → Prop} {st : St} {a : Act} {w w0 : World}
theorem exists_least {R : Nat → Prop} (h : ∃ n, R n) : ∃ n, R n ∧ ∀ m, R m → n ≤ m := by
  obtain ⟨n, hn⟩ := h
  induction n using Nat.strongRecOn with
  | ind n ih =>
    by_cases hl : ∃ m, m < n ∧ R m
    · obtain ⟨m, h1, h2⟩ := hl
      exact ih m h1 h2
    · exact ⟨n, hn, fun m hm => Nat.le_of_not_lt (fun h => hl ⟨m, h, hm⟩)⟩
theorem least_ex (R : Nat → Prop) : ∃ n, (∃ m, R m) → R n ∧ ∀ m, R m → n ≤ m := by
  by_cases h : ∃ m, R m
  · obtain ⟨n, hn⟩ := exists_least h
    exact ⟨n, fun _ => hn⟩
  · exact ⟨0, fun k => absurd k h⟩
/-- **A loop**, by what holds at the head of each round (n goes down). -/
theorem loopV [HasGl P] (hT : TTok P T) (hF : FTok P FF) {c : Code} {Q : Ex → St → Prop} (I : Nat → St → Prop) {n : Nat} {st st1 : St} (hw : Weak st st1) (hI : I n st1)
    (hs : ∀ n st, I n st → vc P T FF c (fun e st' => match e with | .normal => ∃ m st'', m < n ∧ Weak st' st'' ∧ I m st'' | .exit i => Q (.exit i) st' | .ret => Q .ret st') st) : LoopV P c Q st := by
  refine ⟨fun may w0 h0 a w hsat => ?_⟩
  let R : Nat → Act → World → Prop := fun n a w => ∃ st, I n st ∧ Sat may w0 h0 st a w
  have hR : ∃ n, R n a w := ⟨n, st1, hI, hw.out _ _ _ _ _ hsat⟩
  refine wp_loop (fun a w => ∃ n, R n a w) (fun a w => Classical.choose (least_ex fun n => R n a w)) hR (fun a w hex => ?_)
  obtain ⟨st2, h1, h2⟩ := (Classical.choose_spec (least_ex fun n => R n a w) hex).1
  refine Code.wp_mono (fun e a' w' hh => ?_) (vc_ok hT hF c _ st2 a w (hs _ st2 h1) h2)
  obtain ⟨e', st', rfl, k1, k2⟩ := hh
  cases e' with
  | normal =>
    obtain ⟨m, st'', hlt, hwk, hI2⟩ := k2
    have hm : R m a' w' := ⟨st'', hI2, hwk.out _ _ _ _ _ k1⟩
    exact ⟨⟨m, hm⟩, Nat.lt_of_le_of_lt ((Classical.choose_spec (least_ex fun n => R n a' w') ⟨m, hm⟩).2 m hm) hlt⟩
  | exit i => exact ⟨.exit i, st', rfl, k1, k2⟩
  | ret => exact ⟨.ret, st', rfl, k1, k2⟩

/-- A loop that goes round fewer than n times. -/
def vcR (P : Program) [HasGl P] (T : TT) (FF : FL) (c : Code) (Q : Ex → St → Prop) (n : Nat) : St → Prop :=
  Nat.rec (motive := fun _ => St → Prop) (fun _ => False)
    (fun _ ih st => vc P T FF c (fun e st' => match e with | .normal => ih st' | .exit i => Q (.exit i) st' | .ret => Q .ret st') st) n
theorem loop_rounds [HasGl P] (n : Nat) (hT : TTok P T) (hF : FTok P FF) {c : Code} {Q : Ex → St → Prop} {st : St} (hp : vcR P T FF c Q n st) : LoopV P c Q st := by
  refine ⟨fun may w0 h0 a w hsat => wp_loop_rounds n ?_⟩
  induction n generalizing st a w with
  | zero => exact hp.elim
  | succ n ih =>
    refine Code.wp_mono (fun e a' w' hh => ?_) (vc_ok hT hF c _ st a w hp hsat)
    obtain ⟨e', st', rfl, k1, k2⟩ := hh
    cases e' with
    | normal => exact ih k2 a' w' k1
    | exit i => exact ⟨.exit i, st', rfl, k1, k2⟩
    | ret => exact ⟨.ret, st', rfl, k1, k2⟩
/-- Lay own objects still ahead of a loop. -/
theorem loopV_frz [HasGl P] (l : List Nat) {c : Code} {Q : Ex → St → Prop} {st : St} (hp : frzL l st fun st => LoopV P c Q st) : LoopV P c Q st := by
  refine ⟨fun may w0 h0 a w hs => ?_⟩
  obtain ⟨st', h1, h2⟩ := frzL_sat l st hp hs
  exact h2.out may w0 h0 a w h1
/-- A loop whose ways out meet: J holds behind it. -/
theorem loopV_cut [HasGl P] (id : Nat) (J : St → Prop) {c : Code} {Q : Ex → St → Prop} {st : St} (h1 : LoopV P c (fun e st' => match e with | .exit i => i = id ∧ ∃ st1, Weak st' st1 ∧ J st1 | .normal => False | .ret => Q .ret st') st) (h2 : ∀ st1, J st1 → Q (.exit id) st1) : LoopV P c Q st := by
  refine ⟨fun may w0 h0 a w hs => ?_⟩
  refine Code.wp_mono (fun e a' w' hh => ?_) (h1.out may w0 h0 a w hs)
  obtain ⟨e', st', rfl, k1, k2⟩ := hh
  cases e' with
  | normal => exact k2.elim
  | exit i =>
    obtain ⟨rfl, st1, q1, q2⟩ := k2
    exact ⟨.exit i, st1, rfl, q1.out _ _ _ _ _ k1, h2 st1 q2⟩
  | ret => exact ⟨.ret, st', rfl, k1, k2⟩
end
end Go.Eng
set_option linter.unusedVariables false
set_option linter.unusedSimpArgs false
namespace Go.Eng
open Go Go.RowKit

/-! ### Calls beside other own objects -/
def backI (ob : List (Option Nat)) (m j : Nat) : Nat := match ob[j]? with | some (some i) => i | _ => m + (j - ob.length)
def backT (ob : List (Option Nat)) (m : Nat) : IC → IC
  | .own j off => .own (backI ob m j) off
  | .row j => .row (backI ob m j)
  | .rel j sz k off => .rel (backI ob m j) sz k off
  | .view j sz k n c => .view (backI ob m j) sz k n c
  | .mp j => .mp (backI ob m j)
  | .ifc t c => match clo0 c with | true => .ifc t c | false => .any
  | .fn f cs => match cs.all (fun x => x.2.all clo0) with | true => .fn f cs | false => .any
  | c => c
def backO (ob : List (Option Nat)) (m : Nat) : Option Ob → Option Ob
  | some o => some (sbObj (up (backT ob m)) o)
  | none => none
def mergeOwn (ob : List (Option Nat)) (m : Nat) (own2 : List (Option Ob)) : Nat → List (Option Ob) → List (Option Ob)
  | _, [] => []
  | i, o :: r => (match idx? ob i with | some j => backO ob m (own2.getD j none) | none => o) :: mergeOwn ob m own2 (i + 1) r
def frameOwn (ob : List (Option Nat)) (own own2 : List (Option Ob)) : List (Option Ob) := mergeOwn ob own.length own2 0 own ++ (own2.drop ob.length).map (backO ob own.length)
def allSome (ob : List (Option Nat)) : Bool := ob.all fun x => x.isSome
/-- Each place is one of the caller's objects. -/
def inB (m : Nat) : List (Option Nat) → Bool
  | [] => true
  | some i :: r => Nat.blt i m && inB m r
  | none :: r => false
section
variable {P : Program} {mine : Nat → Prop} {L L2 : Nat → Value} {F F2 : Nat → Nat → Prop} {h h2 : Hp} {own own2 : List (Option Ob)} {w w' : World} {ob : List (Option Nat)} {m : Nat}
theorem inB_lt : ∀ {ob : List (Option Nat)}, inB m ob = true → ∀ j : Nat, j < ob.length → ∃ i, ob[j]? = some (some i) ∧ i < m
  | [], _, j, hj => by simp at hj
  | some i :: r, hb, j, hj => by
    unfold inB at hb
    rw [Bool.and_eq_true] at hb
    cases j with
    | zero => exact ⟨i, rfl, by have := hb.1; unfold Nat.blt at this; exact Nat.le_of_ble_eq_true this⟩
    | succ j =>
      obtain ⟨i', h1, h2⟩ := inB_lt hb.2 j (by simpa using hj)
      exact ⟨i', by simpa using h1, h2⟩
  | none :: r, hb, j, hj => by cases hb
theorem mergeOwn_get : ∀ (own : List (Option Ob)) (i k : Nat), (mergeOwn ob m own2 i own)[k]? = own[k]?.map fun o => match idx? ob (i + k) with | some j => backO ob m (own2.getD j none) | none => o
  | [], i, k => by simp [mergeOwn]
  | o :: r, i, 0 => by simp [mergeOwn]
  | o :: r, i, k + 1 => by
    simp only [mergeOwn, List.getElem?_cons_succ]
    rw [mergeOwn_get r (i + 1) k]
    have e : i + 1 + k = i + (k + 1) := by omega
    rw [e]
theorem mergeOwn_len : ∀ (own : List (Option Ob)) (i : Nat), (mergeOwn ob m own2 i own).length = own.length
  | [], i => rfl
  | o :: r, i => by simp [mergeOwn, mergeOwn_len r (i + 1)]
/-- The place of each object, with the caller. -/
def frameL (L L2 : Nat → Value) (ob : List (Option Nat)) (m : Nat) (i : Nat) : Value := if i < m then L i else L2 (i - m + ob.length)
def frameF (F F2 : Nat → Nat → Prop) (ob : List (Option Nat)) (m : Nat) (i : Nat) : Nat → Prop := match idx? ob i with | some j => F2 j | none => if i < m then F i else F2 (i - m + ob.length)
theorem frame_back (hob : inB m ob = true) (hL : ∀ j, j < ob.length → L2 j = sel L ob j) {j : Nat} : frameL L L2 ob m (backI ob m j) = L2 j := by
  rcases Nat.lt_or_ge j ob.length with hj | hj
  · obtain ⟨i, h1, h2⟩ := inB_lt hob j hj
    have e : backI ob m j = i := by unfold backI; rw [h1]
    rw [e]
    unfold frameL
    rw [if_pos h2, hL j hj]
    unfold sel
    rw [h1]
  · have e : backI ob m j = m + (j - ob.length) := by unfold backI; rw [List.getElem?_eq_none hj]
    rw [e]
    unfold frameL
    rw [if_neg (by omega)]
    congr 1
    omega
theorem backI_lt (hob : inB m ob = true) {j n : Nat} (hj : j < n) (hn : ob.length ≤ n) : backI ob m j < m + (n - ob.length) := by
  rcases Nat.lt_or_ge j ob.length with hlt | hge
  · obtain ⟨i, h1, h2⟩ := inB_lt hob j hlt
    have e : backI ob m j = i := by unfold backI; rw [h1]
    omega
  · have e : backI ob m j = m + (j - ob.length) := by unfold backI; rw [List.getElem?_eq_none hge]
    omega
theorem back_ok (hob : inB m ob = true) (hL : ∀ j, j < ob.length → L2 j = sel L ob j) (hn : ob.length ≤ h2.n) : SubstOk L2 (frameL L L2 ob m) h2 ⟨h2.m, m + (h2.n - ob.length)⟩ (backT ob m) := by
  refine ⟨fun c v hd => ?_⟩
  have h1 := hd.one
  cases hd with
  | own i off a k1 k2 => exact .own _ _ a (backI_lt hob k1 hn) ((frame_back hob hL).trans k2)
  | row i A n c k1 k2 => exact .row _ A n c (backI_lt hob k1 hn) ((frame_back hob hL).trans k2)
  | rel i sz k off a k1 k2 k3 => exact .rel _ _ _ _ a (backI_lt hob k1 hn) (by rw [frame_back hob hL]; exact k2) (by rw [frame_back hob hL]; exact k3)
  | view i sz k n c a b k1 k2 k3 k4 k5 => exact .view _ _ _ _ _ a b (backI_lt hob k1 hn) ((frame_back hob hL).trans k2) k3 k4 k5
  | mp i r k1 k2 => exact .mp _ r (backI_lt hob k1 hn) ((frame_back hob hL).trans k2)
  | ifc t c v hr =>
    simp only [backT]
    split
    · rename_i e; exact (Den.ifc t c v hr).clo _ e
    · exact .any _ h1
  | fn f cs vs g hl hv h3 hr =>
    simp only [backT]
    split
    · rename_i e; exact (Den.fn f cs vs g hl hv h3 hr).clo _ e
    · exact .any _ h1
  | v _ h2 => exact .v _ h2
  | sl sz n f A c ad g hc hm hA hg hl hclo hr => exact (Den.sl sz n f A c ad g hc hm hA hg hl hclo hr).clo _ rfl
  | fp cs ad g hclo hg hr => exact (Den.fp cs ad g hclo hg hr).clo _ rfl
  | any _ h2 => exact .any _ h2
theorem backO_some {o : Option Ob} {o2 : Ob} (h : backO ob m o = some o2) : ∃ o', o = some o' ∧ o2 = sbObj (up (backT ob m)) o' := by
  cases o with
  | none => cases h
  | some o' => cases h; exact ⟨o', rfl, rfl⟩
theorem idx_lt {i j : Nat} (h : idx? ob i = some j) : j < ob.length := (List.getElem?_eq_some_iff.1 (idx_some h)).1
theorem idx_back (hd : nodupB ob = true) {i j : Nat} (h : ob[j]? = some (some i)) : idx? ob i = some j := by
  obtain ⟨k, hk⟩ := idx_of h
  rw [hk, nodup_inj hd (idx_some hk) h]
/-- **A call of a function that is handed some of the own objects**, those at the places ob. -/
theorem call_frame [HasGl P] {f : FuncId} {args args' : List AV} {own0 : List (Option Ob)} {Q : AV → List (Option Ob) → Prop} {K : AV → List (Option Ob) → Prop} (ob : List (Option Nat)) (hd : nodupB ob = true) (hob : inB own.length ob = true)
    (h0 : ob.map (pickOwn own (up (renT ob))) = own0) (ha : args.map (sbA (up (renT ob))) = args')
    (hc : CallV P f args' own0 Q) (hK : ∀ r own2, Q r own2 → K (sbA (up (backT ob own.length)) r) (frameOwn ob own own2)) : CallV P f args own K := by
  subst h0 ha
  refine ⟨fun mine L F h w vs hgl hm hden => ?_⟩
  have hren := renU_ok L h ob
  have hm0 := mem_norm hd hm
  have hargs : DenAs (sel L ob) ⟨h.m, ob.length⟩ (args.map (sbA (up (renT ob)))) vs := by
    refine ⟨by rw [List.length_map]; exact hden.len, fun j a v hj hv => ?_⟩
    rw [List.getElem?_map] at hj
    cases hx : args[j]? with
    | none => rw [hx] at hj; cases hj
    | some a0 => rw [hx] at hj; cases hj; exact hren.denA (hden.den j a0 v hx hv)
  refine (hc.out mine (sel L ob) (sel F ob) ⟨h.m, ob.length⟩ w vs hgl hm0 hargs).mono ?_
  rintro e w' ⟨r, v, L2, F2, h2, own2, rfl, e2, e3, e4, e5, e6, e7, e8⟩
  have hlen : ob.length ≤ h2.n := e6.n
  have hn2 : h2.n = own2.length := e4.hn
  have hback := (back_ok (L := L) hob e3 hlen).up
  -- the blocks of what is handed in
  have hfoot0 : ∀ b, footOf (sel F ob) (ob.map (pickOwn own (up (renT ob)))) b → ∃ (i j : Nat) (o : Ob), ob[j]? = some (some i) ∧ own[i]? = some (some o) ∧ F i b := fun b ⟨j, o', hj, hb⟩ => by
    obtain ⟨i, o, k1, k2, rfl⟩ := pick_some hj
    have : sel F ob j = F i := by unfold sel; rw [k1]
    rw [this] at hb
    exact ⟨i, j, o, k1, k2, hb⟩
  have key : ∀ (i : Nat) (o : Ob), (frameOwn ob own own2)[i]? = some (some o) → (∃ j o2, own2[j]? = some (some o2) ∧ o = sbObj (up (backT ob own.length)) o2 ∧ frameL L L2 ob own.length i = L2 j ∧ frameF F F2 ob own.length i = F2 j ∧ backI ob own.length j = i) ∨
      (i < own.length ∧ own[i]? = some (some o) ∧ (∀ j : Nat, ob[j]? ≠ some (some i)) ∧ frameL L L2 ob own.length i = L i ∧ frameF F F2 ob own.length i = F i) := by
    intro i o hi
    unfold frameOwn at hi
    rcases Nat.lt_or_ge i own.length with hlt | hge
    · rw [List.getElem?_append_left (by rw [mergeOwn_len]; exact hlt), mergeOwn_get, Nat.zero_add] at hi
      rw [List.getElem?_eq_getElem hlt] at hi
      simp only [Option.map_some, Option.some.injEq] at hi
      split at hi
      · rename_i j hj
        have hij := idx_some hj
        obtain ⟨o2, ho2, rfl⟩ := backO_some hi
        refine .inl ⟨j, o2, ?_, rfl, ?_, ?_, ?_⟩
        · rw [List.getD_eq_getElem?_getD] at ho2
          cases hx : own2[j]? with
          | none => rw [hx] at ho2; cases ho2
          | some y => rw [hx] at ho2; simp only [Option.getD_some] at ho2; rw [ho2]
        · unfold frameL
          rw [if_pos hlt, e3 j (idx_lt hj)]
          unfold sel; rw [hij]
        · unfold frameF; rw [hj]
        · unfold backI; rw [hij]
      · rename_i hj
        refine .inr ⟨hlt, by rw [List.getElem?_eq_getElem hlt, hi], fun j hx => ?_, by unfold frameL; rw [if_pos hlt], by unfold frameF; rw [hj]; simp [hlt]⟩
        rw [idx_back hd hx] at hj; cases hj
    · rw [List.getElem?_append_right (by rw [mergeOwn_len]; exact hge), mergeOwn_len, List.getElem?_map, List.getElem?_drop] at hi
      cases hx : own2[ob.length + (i - own.length)]? with
      | none => rw [hx] at hi; cases hi
      | some y =>
        rw [hx] at hi
        simp only [Option.map_some, Option.some.injEq] at hi
        obtain ⟨o2, rfl, rfl⟩ := backO_some hi
        have hno : idx? ob i = none := by
          cases hh : idx? ob i with
          | none => rfl
          | some j =>
            obtain ⟨i', k1, k2⟩ := inB_lt hob j (idx_lt hh)
            rw [idx_some hh] at k1
            cases k1
            omega
        refine .inl ⟨_, o2, hx, rfl, ?_, ?_, ?_⟩
        · unfold frameL
          rw [if_neg (by omega)]
          congr 1
          omega
        · unfold frameF
          rw [hno]
          simp only
          rw [if_neg (by omega)]
          congr 1
          omega
        · unfold backI
          rw [List.getElem?_eq_none (by omega)]
          simp only
          omega
  have hout : ∀ (i : Nat) (o : Ob) (b : Nat), own[i]? = some (some o) → (∀ j : Nat, ob[j]? ≠ some (some i)) → F i b → ¬ footOf (sel F ob) (ob.map (pickOwn own (up (renT ob)))) b := fun i o b hi hno hb hf => by
    obtain ⟨i', j, o', k1, k2, k3⟩ := hfoot0 b hf
    have := hm.dis i i' o o' b hi k2 hb k3
    subst this
    exact hno j k1
  have hmine : ∀ b, mineOf (footOf (sel F ob) (ob.map (pickOwn own (up (renT ob))))) w b → mineOf (footOf F own) w b := fun b hb => by
    rcases hb with hb | hb
    · obtain ⟨i, j, o, k1, k2, k3⟩ := hfoot0 b hb
      exact .inl ⟨i, o, k2, k3⟩
    · exact .inr hb
  refine ⟨sbA (up (backT ob own.length)) r, v, frameL L L2 ob own.length, frameF F F2 ob own.length, ⟨h2.m, own.length + (h2.n - ob.length)⟩, frameOwn ob own own2, rfl, hback.denA e2, fun i hi => ?_, ⟨?_, e4.hsub, fun i o hi => ?_, fun i o b hi hb => ?_, fun i j oi oj b hi hj hbi hbj => ?_⟩, ⟨e5.os, e5.tape, e5.output, e5.size, fun k hk hno => ?_⟩, ⟨e6.m, ?_⟩, fun k hk => ?_, hK r own2 e8⟩
  · have : i < own.length := by have := hm.hn; omega
    unfold frameL
    rw [if_pos this]
  · show own.length + (h2.n - ob.length) = (frameOwn ob own own2).length
    unfold frameOwn
    rw [List.length_append, mergeOwn_len, List.length_map, List.length_drop, hn2]
  · rcases key i o hi with ⟨j, o2, k1, rfl, k3, k4, k5⟩ | ⟨k1, k2, k3, k4, k5⟩
    · rw [k3, k4]
      exact hback.obOk (fun _ _ e => e) (e4.obs j o2 k1)
    · rw [k4, k5]
      have ho := hm.obs i o k2
      refine obOk_move ho (fun b hb => e5.block b (hm.foot i o b k2 hb).1 (hout i o b k2 k3 hb)) (fun i' hi' => ?_) ⟨e6.m, ?_⟩
      · have : i' < own.length := by have := hm.hn; omega
        unfold frameL
        rw [if_pos this]
      · have := hm.hn
        show h.n ≤ own.length + (h2.n - ob.length)
        omega
  · rcases key i o hi with ⟨j, o2, k1, rfl, k3, k4, k5⟩ | ⟨k1, k2, k3, k4, k5⟩
    · rw [k4] at hb
      obtain ⟨q1, q2, q3⟩ := e4.foot j o2 b k1 hb
      exact ⟨q1, q2, hmine b q3⟩
    · rw [k5] at hb
      obtain ⟨q1, q2, q3⟩ := hm.foot i o b k2 hb
      refine ⟨Nat.lt_of_lt_of_le q1 e5.size, ?_, .inl ⟨i, o, k2, hb⟩⟩
      show h2.m b = none
      cases hx : h2.m b with
      | none => rfl
      | some x =>
        rcases e7 b (by rw [hx]; simp) with h9 | h9 | h9
        · exact absurd q2 h9
        · exact absurd h9 (hout i o b k2 k3 hb)
        · omega
  · rcases key i oi hi with ⟨j1, o1, k1, rfl, k3, k4, k5⟩ | ⟨k1, k2, k3, k4, k5⟩ <;> rcases key j oj hj with ⟨j2, o2, q1, rfl, q3, q4, q5⟩ | ⟨q1, q2, q3, q4, q5⟩
    · rw [k4] at hbi; rw [q4] at hbj
      have := e4.dis j1 j2 o1 o2 b k1 q1 hbi hbj
      rw [← k5, ← q5, this]
    · rw [k4] at hbi; rw [q5] at hbj
      have hlt := (hm.foot j oj b q2 hbj).1
      rcases (e4.foot j1 o1 b k1 hbi).2.2 with h9 | h9
      · exact absurd h9 (hout j oj b q2 q3 hbj)
      · omega
    · rw [k5] at hbi; rw [q4] at hbj
      have hlt := (hm.foot i oi b k2 hbi).1
      rcases (e4.foot j2 o2 b q1 hbj).2.2 with h9 | h9
      · exact absurd h9 (hout i oi b k2 k3 hbi)
      · omega
    · rw [k5] at hbi; rw [q5] at hbj
      exact hm.dis i j oi oj b k2 q2 hbi hbj
  · refine e5.block k hk (fun hx => hno ?_)
    obtain ⟨i, j, o, g1, g2, g3⟩ := hfoot0 k hx
    exact ⟨i, o, g2, g3⟩
  · have := hm.hn
    show h.n ≤ own.length + (h2.n - ob.length)
    omega
  · rcases e7 k hk with h9 | h9
    · exact .inl h9
    · exact .inr (hmine k h9)
end
end Go.Eng
/- What is handed in, read as the reckoner's values. -/
set_option linter.unusedVariables false
namespace Go.Eng
open Go
section
variable {L : Nat → Value} {h : Hp}
theorem denAs_nil : DenAs L h [] [] := ⟨rfl, fun j a v h1 _ => by simp at h1⟩
theorem denAs_cons {a : AV} {v : Value} {as : List AV} {vs : List Value} (h1 : DenA L h a v) (h2 : DenAs L h as vs) : DenAs L h (a :: as) (v :: vs) := by
  refine ⟨by simp [h2.len], fun j b u e1 e2 => ?_⟩
  cases j with
  | zero => simp at e1 e2; subst e1 e2; exact h1
  | succ j => exact h2.den j b u (by simpa using e1) (by simpa using e2)
theorem denA_v {x : Value} (h1 : x.oneCell' = true) : DenA L h (.c (.v x)) x := Den.v x h1
end
theorem ba_len (s : ByteArray) : s.data.toList.length = s.size := by rw [Array.length_toList]; rfl
end Go.Eng
/- A region that draws its order: reads in any order among calls and appends whose order is forced; then the others. -/
set_option linter.unusedVariables false
set_option linter.unusedSimpArgs false
namespace Go.Eng
open Go
section
variable {P : Program} {ops : Array Oper} {Q : Exit → Act → World → Prop} {md : Region.Mode} {C : World → Prop}
/-- In state 'a', in every world of the class, operation 'o' leaves 'v' in its temporary, and the world as it was. -/
def YieldsW (P : Program) (ops : Array Oper) (C : World → Prop) (o : Oper) (v : Value) (a : Act) : Prop :=
  (Region.wanted o (yielded ops a.tmps) = true ∧ ∀ w, C w → (execOp a.eval o).run P w = .ok (.value v) w) ∨
  (Region.wanted o (yielded ops a.tmps) = false ∧ v = undef)
theorem YieldsW.of_same {o : Oper} {v : Value} {a a' : Act} (hy : YieldsW P ops C o v a) (he : execOp a'.eval o = execOp a.eval o)
    (hw : Region.wanted o (yielded ops a'.tmps) = Region.wanted o (yielded ops a.tmps)) : YieldsW P ops C o v a' := by
  unfold YieldsW at *
  rw [he, hw]
  exact hy
theorem YieldsW.wpOp {i : Nat} {o : Oper} {v : Value} {a : Act} (hi : ops[i]? = some o) (hy : YieldsW P ops C o v a) {K : Act → World → Prop} {w : World} (hw : C w) (h : K (a.put o.dst v) w) : wpOp P ops Q i K a w := by
  unfold Go.wpOp
  simp only [hi]
  rcases hy with ⟨h1, h2⟩ | ⟨h1, rfl⟩
  · simp only [h1, if_true, Oper.wp, h2 w hw, Oper.upon]; exact .inl h
  · simp only [h1, Bool.false_eq_true, if_false]; exact h
/-- As the kit's 'wpOp_put', for a value that is the same in every world of a class. -/
theorem wpOp_putC {j : Nat} {oi oj : Oper} {v : Value} (hj : ops[j]? = some oj) (hap : oi.apart ops oj = true)
    (hsi : ∀ cs b, oi.op ≠ .select cs b) (hsj : ∀ cs b, oj.op ≠ .select cs b)
    (hQ : ∀ c a w, Q (.panic c) (a.put oi.dst v) w → Q (.panic c) a w) {K : Act → World → Prop} {a : Act} {w : World}
    (hy : YieldsW P ops C oi v a) (h : wpOp P ops Q j K (a.put oi.dst v) w) :
    wpOp P ops Q j (fun a' w' => YieldsW P ops C oi v a' ∧ K (a'.put oi.dst v) w') a w := by
  obtain ⟨h1, h2, h3⟩ := Oper.apart_spec hap
  have keep : ∀ (a : Act), YieldsW P ops C oi v a → ∀ u, YieldsW P ops C oi v (a.put oj.dst u) := fun a hy u =>
    hy.of_same (execOp_put oi hsi a oj.dst u h3) (wanted_put oi a oj.dst u h3)
  have keepD : ∀ d, YieldsW P ops C oi v { a with defers := d :: a.defers } := fun d => hy.of_same rfl rfl
  unfold wpOp at *
  simp only [hj] at *
  rw [wanted_put oj a oi.dst v h1] at h
  split
  · rename_i hw
    simp only [hw, if_true] at h
    rcases h with h | ⟨hasks, hlets⟩
    case inr => exact .inr ⟨by unfold Oper.asks at *; rw [execOp_put oj hsj a oi.dst v h1] at hasks; exact hasks, hlets⟩
    refine .inl ?_
    unfold Oper.wp at *
    rw [execOp_put oj hsj a oi.dst v h1] at h
    generalize (execOp a.eval oj).run P w = r at *
    cases r with
    | ok n w' =>
      cases n <;> simp only [Oper.upon] at h ⊢
      case value u => exact ⟨keep a hy u, by rw [← Act.put_comm a v u h2]; exact h⟩
      case skip => exact ⟨keep a hy _, by rw [← Act.put_comm a v undef h2]; exact h⟩
      case defer d =>
        refine ⟨keep _ (keepD d) _, ?_⟩
        rw [← Act.put_comm _ v undef h2, ← Act.put_defers]
        exact h
      case enter f args =>
        refine Calls.mono h fun e w'' he => ?_
        cases e with
        | returned u => exact ⟨keep a hy u, by rw [← Act.put_comm a v u h2]; exact he⟩
        | panicked c => exact hQ _ _ _ he
        | outgrown => exact he
      case row row args => exact Rows.mono h fun u w'' he => ⟨keep a hy u, by rw [← Act.put_comm a v u h2]; exact he⟩
    | halt x w' =>
      cases x <;> simp only [Oper.upon] at h ⊢
      case panic u => exact hQ _ _ _ h
  · rename_i hw
    simp only [hw] at h
    exact ⟨keep a hy _, by rw [← Act.put_comm a v undef h2]; exact h⟩
/-- Whatever order those of S come up in: each leaves a world of the class. -/
def wpAnyX (P : Program) (md : Region.Mode) (ops : Array Oper) (Q : Exit → Act → World → Prop) (C : World → Prop) (S : Nat → Bool) (R : Act → World → Prop) : Nat → Array Bool → Act → World → Prop
  | 0, listed, a, w => (∀ j, j < ops.size → S j = true → listed.getD j false = true) ∧ R a w
  | fuel + 1, listed, a, w => (∃ j, j < ops.size ∧ S j = true ∧ listed.getD j true = false) ∧ ∀ i, i ∈ Region.ready md ops listed → S i = true → wpOp P ops Q i (fun a' w' => C w' ∧ wpAnyX P md ops Q C S R fuel (listed.setIfInBounds i true) a' w') a w
theorem wpAnyX_first {S : Nat → Bool} {R : Act → World → Prop} {i : Nat} {oi : Oper} {v : Value} (hik : S i = true) (hi : ops[i]? = some oi) (hsel : ∀ (j : Nat) (o : Oper) cs b, ops[j]? = some o → o.op ≠ .select cs b)
    (hQ : ∀ c a w, Q (.panic c) (a.put oi.dst v) w → Q (.panic c) a w) :
    ∀ (fuel : Nat) (listed : Array Bool) (a : Act) (w : World), C w →
      (∀ j oj, ops[j]? = some oj → j ≠ i → listed.getD j true = false → (∀ e ∈ oj.after, Region.binds md e = true → e.on ≠ i) → oi.apart ops oj = true) →
      i ∈ Region.ready md ops listed → YieldsW P ops C oi v a →
      wpAnyX P md ops Q C S R fuel (listed.setIfInBounds i true) (a.put oi.dst v) w → wpAnyX P md ops Q C S R (fuel + 1) listed a w := by
  intro fuel
  induction fuel with
  | zero =>
    intro listed a w hw _ hr hy H
    have hilt : i < ops.size := (Array.getElem?_eq_some_iff.1 hi).1
    refine ⟨⟨i, hilt, hik, (mem_ready.1 hr).1⟩, fun j hj hjk => ?_⟩
    by_cases hji : j = i
    · subst hji; exact hy.wpOp hi hw ⟨hw, H⟩
    · have h1 := (mem_ready.1 (ready_mono hj hji)).1
      obtain ⟨hjun, oj, hoj, hall⟩ := mem_ready.1 hj
      exact (getD_flip h1 (H.1 j (Array.getElem?_eq_some_iff.1 hoj).1 hjk)).elim
  | succ fuel ih =>
    intro listed a w hw hfree hr hy H
    have hilt : i < ops.size := (Array.getElem?_eq_some_iff.1 hi).1
    refine ⟨⟨i, hilt, hik, (mem_ready.1 hr).1⟩, fun j hj hjk => ?_⟩
    by_cases hji : j = i
    · subst hji; exact hy.wpOp hi hw ⟨hw, H⟩
    · obtain ⟨hjun, oj, hoj, hall⟩ := mem_ready.1 hj
      have hnot : ∀ e ∈ oj.after, Region.binds md e = true → e.on ≠ i := fun e he hb heq => by
        have h1 := hall e he hb
        have h0 := (mem_ready.1 hr).1
        rw [heq] at h1
        exact getD_flip h0 h1
      have hfree' : ∀ m om, ops[m]? = some om → m ≠ i → (listed.setIfInBounds j true).getD m true = false →
          (∀ e ∈ om.after, Region.binds md e = true → e.on ≠ i) → oi.apart ops om = true := fun m om hm hmi hun hno => by
        refine hfree m om hm hmi ?_ hno
        by_cases hjm : j = m
        · subst hjm; exact hjun
        · rw [getD_set_ne true hjm] at hun; exact hun
      have h1 := H.2 j (ready_mono hj hji) hjk
      have h2 := wpOp_putC hoj (hfree j oj hoj hji hjun hnot) (fun cs b => hsel i oi cs b hi) (fun cs b => hsel j oj cs b hoj) hQ hy h1
      refine wpOp_mono (fun a' w' h3 => ⟨h3.2.1, ih (listed.setIfInBounds j true) a' w' h3.2.1 hfree' (ready_mono hr (Ne.symm hji)) h3.1 ?_⟩) h2
      rw [Array.setIfInBounds_comm _ _ hji]
      exact h3.2.2
/-- The reads in a given order, then what follows. -/
def wpHoist (P : Program) (ops : Array Oper) (C : World → Prop) (Q : Act → Prop) : List Nat → Act → Prop
  | [], a => Q a
  | i :: r, a => ∃ o v, ops[i]? = some o ∧ YieldsW P ops C o v a ∧ wpHoist P ops C Q r (a.put o.dst v)
/-- Each of a list may come up when it is its turn, and is free to. -/
def preB (md : Region.Mode) (ops : Array Oper) : List Nat → Array Bool → Bool
  | [], _ => true
  | p :: r, listed => (Region.ready md ops listed).contains p && Region.free md ops listed p && preB md ops r (listed.setIfInBounds p true)
def setAll (l : List Nat) (listed : Array Bool) : Array Bool := l.foldl (fun x i => x.setIfInBounds i true) listed
theorem wpAnyX_hoist {S : Nat → Bool} {R : Act → World → Prop} (hs : Region.noSelect ops = true) (hQ : ∀ d v c a w, Q (.panic c) (a.put d v) w → Q (.panic c) a w) {K : Act → Prop} (n : Nat) : ∀ (l : List Nat) (listed : Array Bool) (a : Act) (w : World), C w → (∀ i, i ∈ l → S i = true) →
    preB md ops l listed = true → wpHoist P ops C K l a → (∀ a', K a' → wpAnyX P md ops Q C S R n (setAll l listed) a' w) → wpAnyX P md ops Q C S R (n + l.length) listed a w
  | [], listed, a, w, hw, hS, hB, h, hK => hK a h
  | i :: r, listed, a, w, hw, hS, hB, h, hK => by
    obtain ⟨o, v, h0, hy, h⟩ := h
    simp only [preB, Bool.and_eq_true] at hB
    obtain ⟨⟨hr, hf⟩, hB'⟩ := hB
    have := wpAnyX_hoist hs hQ n r (listed.setIfInBounds i true) (a.put o.dst v) w hw (fun j hj => hS j (List.mem_cons_of_mem _ hj)) hB' h hK
    exact wpAnyX_first (hS i (List.mem_cons_self ..)) h0 (Region.noSelect_spec hs) (hQ o.dst v) (n + r.length) listed a w hw (Region.free_spec h0 hf) (by simpa using hr) hy this
/-- Those whose order is forced. -/
def wpListI (P : Program) (ops : Array Oper) (Q : Exit → Act → World → Prop) (C : World → Prop) (R : Act → World → Prop) : List Nat → Act → World → Prop
  | [], a, w => R a w
  | i :: r, a, w => wpOp P ops Q i (fun a' w' => C w' ∧ wpListI P ops Q C R r a' w') a w
/-- Each waits for those ahead of it. -/
def chainB (md : Region.Mode) (ops : Array Oper) : List Nat → Bool
  | [] => true
  | i :: r => decide (i < ops.size) && r.all (fun j => (clos md ops j (depsOf md ops j)).contains i) && chainB md ops r
theorem wpAnyX_chain {S : Nat → Bool} {R : Act → World → Prop} : ∀ (l : List Nat) (listed : Array Bool) (a : Act) (w : World), listed.size = ops.size → Lclosed md ops listed → chainB md ops l = true →
    (∀ i, i ∈ l → S i = true ∧ listed.getD i true = false) → (∀ j, j < ops.size → S j = true → j ∉ l → listed.getD j false = true) → l.Nodup → wpListI P ops Q C R l a w → wpAnyX P md ops Q C S R l.length listed a w
  | [], listed, a, w, hz, hc, hB, h1, h2, hn, h => ⟨fun j hj hS => h2 j hj hS (by simp), h⟩
  | i :: r, listed, a, w, hz, hc, hB, h1, h2, hn, h => by
    simp only [chainB, Bool.and_eq_true, decide_eq_true_eq] at hB
    obtain ⟨⟨hi, hall⟩, hB'⟩ := hB
    have hnd := List.nodup_cons.1 hn
    refine ⟨⟨i, hi, (h1 i (List.mem_cons_self ..)).1, (h1 i (List.mem_cons_self ..)).2⟩, fun j hj hS => ?_⟩
    obtain ⟨g1, g2, g3⟩ := ready_deps hj
    have hji : j = i := by
      by_cases hm : j ∈ i :: r
      · rcases List.mem_cons.1 hm with e | hm
        · exact e
        · have hcl : i ∈ clos md ops j (depsOf md ops j) := by simpa using List.all_eq_true.1 hall j hm
          exact (getD_flip (h1 i (List.mem_cons_self ..)).2 (clos_listed hc j _ g3 i hcl)).elim
      · exact (getD_flip g2 (h2 j g1 hS hm)).elim
    subst hji
    refine wpOp_mono (fun a' w' h3 => ⟨h3.1, wpAnyX_chain r _ a' w' (by simp [hz]) (closed_set hc hj) hB' (fun x hx => ?_) (fun x hx hS hm => ?_) hnd.2 h3.2⟩) h
    · have hne : j ≠ x := fun e => hnd.1 (e ▸ hx)
      rw [getD_set_ne true hne]
      exact h1 x (List.mem_cons_of_mem _ hx)
    · by_cases e : j = x
      · subst e; simp [hz, hi]
      · rw [getD_set_ne false e]
        exact h2 x hx hS (fun hm' => (List.mem_cons.1 hm').elim (fun e' => e e'.symm) hm)
theorem wpAny_of_X {k : Nat} {R : Act → World → Prop} (ht : tailB md ops k = true) (hk : k ≤ ops.size) (m : Nat)
    (hR : ∀ (listed : Array Bool) (a : Act) (w : World), R a w → listed.size = ops.size → (∀ j, j < k → listed.getD j false = true) → (∀ j, k ≤ j → j < ops.size → listed.getD j true = false) → Lclosed md ops listed → wpAny P md ops Q m listed a w) :
    ∀ (fuel : Nat) (listed : Array Bool) (a : Act) (w : World), listed.size = ops.size → (∀ j, k ≤ j → j < ops.size → listed.getD j true = false) → Lclosed md ops listed → wpAnyX P md ops Q C (fun i => decide (i < k)) R fuel listed a w → wpAny P md ops Q (fuel + m) listed a w
  | 0, listed, a, w, hsz, hun, hc, H => by
    rw [Nat.zero_add]
    exact hR listed a w H.2 hsz (fun j hj => H.1 j (by omega) (decide_eq_true hj)) hun hc
  | fuel + 1, listed, a, w, hsz, hun, hc, H => by
    rw [show fuel + 1 + m = (fuel + m) + 1 by omega]
    obtain ⟨j0, hj0, hjS, hju⟩ := H.1
    have hj0k : j0 < k := of_decide_eq_true hjS
    refine ⟨fun e => absurd e (least_ready ht hk ⟨j0, hj0k, hju⟩), fun i hi => ?_⟩
    have hik : i < k := by
      rcases Nat.lt_or_ge i k with h | h
      · exact h
      · exact (getD_flip hju (ready_tail ht hc hi h j0 (by omega))).elim
    refine wpOp_mono (fun a' w' h => wpAny_of_X ht hk m hR fuel _ a' w' (by simp [hsz]) (fun j h1 h2 => ?_) (closed_set hc hi) h.2) (H.2 i hi (decide_eq_true hik))
    rw [getD_set_ne true (by omega)]
    exact hun j h1 h2
/-- What a region must be: reads h, then e in a forced order, both below k; behind them the rest, forced as well. -/
def loudB (ops : Array Oper) (k : Nat) (h e : List Nat) : Bool :=
  Region.noSelect ops && decide (k ≤ ops.size) && tailB .any ops k && preB .any ops h (Array.replicate ops.size false) && chainB .any ops e && h.all (fun i => decide (i < k)) && e.all (fun i => decide (i < k) && !h.contains i) && decide e.Nodup && (List.range k).all (fun i => h.contains i || e.contains i) && decide (e.length + h.length = k)
theorem setAll_size : ∀ (l : List Nat) (x : Array Bool), (setAll l x).size = x.size
  | [], x => rfl
  | i :: r, x => by show (setAll r (x.setIfInBounds i true)).size = _; rw [setAll_size r]; simp
theorem setAll_get : ∀ (l : List Nat) (x : Array Bool) (j : Nat) (d : Bool), j < x.size → (setAll l x).getD j d = (l.contains j || x.getD j d)
  | [], x, j, d, h => by simp [setAll]
  | i :: r, x, j, d, h => by
    show (setAll r (x.setIfInBounds i true)).getD j d = _
    rw [setAll_get r _ j d (by simpa using h)]
    by_cases e : i = j
    · subst e; simp [h]
    · rw [getD_set_ne d e]
      simp [List.contains_cons, Ne.symm e]
theorem preB_closed : ∀ (l : List Nat) (x : Array Bool), Lclosed md ops x → preB md ops l x = true → Lclosed md ops (setAll l x)
  | [], x, hc, _ => hc
  | i :: r, x, hc, hB => by
    simp only [preB, Bool.and_eq_true] at hB
    exact preB_closed r _ (closed_set hc (by simpa using hB.1.1)) hB.2
/-- **Reads in any order among others whose order is forced, then the rest.** -/
theorem wp_region_loud {id k : Nat} {hl el : List Nat} {a : Act} {w : World} (hmx : P.follows .mixedOrders = true) (hB : loudB ops k hl el = true) (hQ : ∀ d v c a w, Q (.panic c) (a.put d v) w → Q (.panic c) a w) (hC : C { w with drawn := w.drawn + 1 })
    (h : wpHoist P ops C (fun a' => wpListI P ops Q C (fun a'' w' => wpList P ops Q (ops.toList.drop k) a'' w') el a' { w with drawn := w.drawn + 1 }) hl a) : (Code.region id ops true).wp P Q a w := by
  unfold loudB at hB
  simp only [Bool.and_eq_true, decide_eq_true_eq] at hB
  obtain ⟨⟨⟨⟨⟨⟨⟨⟨⟨hs, hk⟩, ht⟩, hp⟩, hch⟩, hhk⟩, hek⟩, hnd⟩, hcov⟩, hlen⟩ := hB
  refine wp_region_any hmx ?_
  have hsz0 : (Array.replicate ops.size false).size = ops.size := by simp
  have hcl : Lclosed .any ops (Array.replicate ops.size false) := fun i hi hx => by simp [hi] at hx
  have hX : wpAnyX P .any ops Q C (fun i => decide (i < k)) (fun a'' w' => wpList P ops Q (ops.toList.drop k) a'' w') (el.length + hl.length) (Array.replicate ops.size false) a { w with drawn := w.drawn + 1 } := by
    refine wpAnyX_hoist hs hQ el.length hl _ a _ hC (fun i hi => List.all_eq_true.1 hhk i hi) hp h (fun a' hK => ?_)
    refine wpAnyX_chain el _ a' _ (by rw [setAll_size, hsz0]) (preB_closed hl _ hcl hp) hch (fun i hi => ?_) (fun j hj hS hm => ?_) hnd hK
    · have h1 := List.all_eq_true.1 hek i hi
      simp only [Bool.and_eq_true, Bool.not_eq_true'] at h1
      have hik : i < k := of_decide_eq_true h1.1
      refine ⟨h1.1, ?_⟩
      rw [setAll_get _ _ _ _ (by rw [hsz0]; omega), h1.2]
      simp [show i < ops.size by omega]
    · have h1 := List.all_eq_true.1 hcov j (List.mem_range.2 (of_decide_eq_true hS))
      rw [Bool.or_eq_true] at h1
      rw [setAll_get _ _ _ _ (by rw [hsz0]; exact hj)]
      rcases h1 with h1 | h1
      · rw [h1]; rfl
      · exact absurd (by simpa using h1) hm
  have hlenk : el.length + hl.length + (ops.toList.drop k).length = ops.size := by
    rw [hlen, List.length_drop, Array.length_toList]; omega
  have key := wpAny_of_X (Q := Q) ht hk (ops.toList.drop k).length (fun listed a' w' hR hz h1 h2 hc =>
    wpAny_tail ht (ops.toList.drop k) k listed a' w' (fun j => by rw [List.getElem?_drop, Array.getElem?_toList]) (by simp; omega) (Nat.le_refl _) hz h1 h2 hc hR) (el.length + hl.length) _ a _ hsz0 (fun j _ hj => by simp [hj]) hcl hX
  rw [hlenk] at key
  exact key
end

/-! ### The reckoner's form -/
def hideL (ch : List Nat) : Nat → List (Option Ob) → List (Option Ob)
  | _, [] => []
  | i, o :: r => (match ch.contains i with | true => none | false => o) :: hideL ch (i + 1) r
def onlyL (ch : List Nat) : Nat → List (Option Ob) → List (Option Ob)
  | _, [] => []
  | i, o :: r => (match ch.contains i with | true => o | false => none) :: onlyL ch (i + 1) r
def mergeL (ch : List Nat) : Nat → List (Option Ob) → List (Option Ob) → List (Option Ob)
  | i, o :: r, o2 :: r2 => (match ch.contains i, o with | false, some x => some x | _, _ => o2) :: mergeL ch (i + 1) r r2
  | _, [], r2 => r2
  | _, _ :: _, [] => []
def emptyL (ch : List Nat) : Nat → List (Option Ob) → List (Option Ob) → Bool
  | i, o :: r, o2 :: r2 => (match ch.contains i, o, o2 with | false, some _, some _ => false | _, _, _ => true) && emptyL ch (i + 1) r r2
  | _, _, _ => true
def getO (ops : Array Oper) : List Nat → List Oper
  | [] => []
  | i :: r => match ops[i]? with | some o => o :: getO ops r | none => getO ops r
def hopsP (T : TT) (l : List Oper) : St → (St → Prop) → Prop :=
  List.rec (motive := fun _ => St → (St → Prop) → Prop) (fun st K => K st)
    (fun o _ ih st K => match o.guard with | none => aopP T st o.op (fun av => putK st o.dst av (fun st' => ih st' K)) | some _ => False) l
def loudP (P : Program) [HasGl P] (T : TT) (F : FL) (ops : Array Oper) (k : Nat) (hl el ch : List Nat) (st : St) (K : St → Prop) : Prop :=
  match st with
  | ⟨n, kk, env, own⟩ => forceL (hideL ch 0 own) fun ownH => hopsP T (getO ops hl) ⟨n, kk, env, ownH⟩ (fun st1 => match st1 with
    | ⟨n1, _, env1, _⟩ => forceL (onlyL ch 0 own) fun ownE => opsP P T F ops (getO ops el) ⟨n1, own.length, env1, ownE⟩ (fun st2 => match st2 with
      | ⟨n2, _, env2, own2⟩ => emptyL ch 0 own own2 = true ∧ forceL (mergeL ch 0 own own2) fun own3 => opsP P T F ops (ops.toList.drop k) ⟨n2, kk, env2, own3⟩ K))
theorem hideL_get (ch : List Nat) : ∀ (own : List (Option Ob)) (i k : Nat) (ob : Ob), (hideL ch i own)[k]? = some (some ob) ↔ own[k]? = some (some ob) ∧ ch.contains (i + k) = false
  | [], i, k, ob => by simp [hideL]
  | o :: r, i, 0, ob => by
    unfold hideL
    cases hc : ch.contains i <;> simp [hc]
  | o :: r, i, k + 1, ob => by
    unfold hideL
    rw [List.getElem?_cons_succ, List.getElem?_cons_succ, hideL_get ch r (i + 1) k ob, show i + 1 + k = i + (k + 1) from by omega]
theorem onlyL_get (ch : List Nat) : ∀ (own : List (Option Ob)) (i k : Nat) (ob : Ob), (onlyL ch i own)[k]? = some (some ob) ↔ own[k]? = some (some ob) ∧ ch.contains (i + k) = true
  | [], i, k, ob => by simp [onlyL]
  | o :: r, i, 0, ob => by
    unfold onlyL
    cases hc : ch.contains i <;> simp [hc]
  | o :: r, i, k + 1, ob => by
    unfold onlyL
    rw [List.getElem?_cons_succ, List.getElem?_cons_succ, onlyL_get ch r (i + 1) k ob, show i + 1 + k = i + (k + 1) from by omega]
theorem hideL_len (ch : List Nat) : ∀ (own : List (Option Ob)) (i : Nat), (hideL ch i own).length = own.length
  | [], i => rfl
  | o :: r, i => by unfold hideL; rw [List.length_cons, List.length_cons, hideL_len ch r]
theorem onlyL_len (ch : List Nat) : ∀ (own : List (Option Ob)) (i : Nat), (onlyL ch i own).length = own.length
  | [], i => rfl
  | o :: r, i => by unfold onlyL; rw [List.length_cons, List.length_cons, onlyL_len ch r]
theorem mergeL_len (ch : List Nat) : ∀ (own own2 : List (Option Ob)) (i : Nat), (mergeL ch i own own2).length = own2.length
  | [], own2, i => by unfold mergeL; rfl
  | o :: r, [], i => rfl
  | o :: r, o2 :: r2, i => by unfold mergeL; rw [List.length_cons, List.length_cons, mergeL_len ch r r2]
/-- Where each comes from. -/
theorem mergeL_get (ch : List Nat) : ∀ (own own2 : List (Option Ob)) (i k : Nat) (ob : Ob), (mergeL ch i own own2)[k]? = some (some ob) → (own[k]? = some (some ob) ∧ ch.contains (i + k) = false) ∨ (own2[k]? = some (some ob) ∧ ∀ x, own[k]? = some (some x) → ch.contains (i + k) = true)
  | [], own2, i, k, ob, h => by unfold mergeL at h; exact .inr ⟨h, fun x hx => by simp at hx⟩
  | o :: r, [], i, k, ob, h => by unfold mergeL at h; simp at h
  | o :: r, o2 :: r2, i, 0, ob, h => by
    unfold mergeL at h
    simp only [List.getElem?_cons_zero, Option.some.injEq] at h
    split at h
    · rename_i x hc
      cases h
      exact .inl ⟨rfl, hc⟩
    · rename_i hno
      subst h
      refine .inr ⟨rfl, fun x hx => ?_⟩
      simp only [List.getElem?_cons_zero, Option.some.injEq] at hx
      cases hc : ch.contains (i + 0) with
      | true => rfl
      | false => exact absurd hx (fun e => hno x hc e)
  | o :: r, o2 :: r2, i, k + 1, ob, h => by
    unfold mergeL at h
    rw [List.getElem?_cons_succ] at h
    have := mergeL_get ch r r2 (i + 1) k ob h
    rw [show i + 1 + k = i + (k + 1) from by omega] at this
    rw [List.getElem?_cons_succ, List.getElem?_cons_succ]
    exact this
section
variable {P : Program} {T : TT} {FF : FL} {mine may : Nat → Prop} {L : Nat → Value} {F : Nat → Nat → Prop} {h : Hp} {w w0 : World} {ops : Array Oper}
theorem hoist_ok (hT : TTok P T) {own : List (Option Ob)} {kk : Nat} (hm : Mem mine L F h own w) {C : World → Prop} (hC : ∀ w', C w' → Same F own h w w') {K : St → Prop} : ∀ (l : List Nat) (st : St) (a : Act), (∀ i, i ∈ l → i < ops.size) → (st.own = own ∧ st.k = kk) → hopsP T (getO ops l) st K → Agree L h st a →
    wpHoist P ops C (fun a' => ∃ st', Agree L h st' a' ∧ (st'.own = own ∧ st'.k = kk) ∧ K st') l a
  | [], st, a, hl, ho, hp, ha => ⟨st, ha, ho, hp⟩
  | i :: r, st, a, hl, ho, hp, ha => by
    have hi : i < ops.size := hl i (List.mem_cons_self ..)
    have hoi : ops[i]? = some ops[i] := Array.getElem?_eq_getElem hi
    unfold getO at hp
    rw [hoi] at hp
    generalize ops[i] = o at hoi hp
    change (match o.guard with | none => aopP T st o.op (fun av => putK st o.dst av (fun st' => hopsP T (getO ops r) st' K)) | some _ => False) at hp
    split at hp
    · rename_i hg
      have hm1 := hm
      rw [← ho.1] at hm1
      obtain ⟨av, v, h1, h2, h3⟩ := aop_ok hT hm1 ha (o := o) hp
      obtain ⟨st', k1, k2, k3⟩ := put_agree ha h2 h1
      refine ⟨o, v, hoi, .inl ⟨?_, fun w' hw' => h3 w' (ho.1 ▸ hC w' hw')⟩, hoist_ok hT hm hC r st' _ (fun j hj => hl j (List.mem_cons_of_mem _ hj)) ⟨k2.1.trans ho.1, k2.2.trans ho.2⟩ k3 k1⟩
      unfold Region.wanted
      rw [hg]
    · exact hp.elim
theorem listI_ok [HasGl P] {h0 : Base P} (hT : TTok P T) (hF : FTok P FF) {C : World → Prop} {Q : Exit → Act → World → Prop} {K : St → Prop} (hC : ∀ w', Keep may w0 w' → C w') : ∀ (l : List Nat) (st : St) (a : Act) (w : World), (∀ i, i ∈ l → i < ops.size) → opsP P T FF ops (getO ops l) st K → Sat may w0 h0 st a w →
    wpListI P ops Q C (fun a' w' => ∃ st', Sat may w0 h0 st' a' w' ∧ K st') l a w
  | [], st, a, w, hl, hp, hs => ⟨st, hs, hp⟩
  | i :: r, st, a, w, hl, hp, hs => by
    have hi : i < ops.size := hl i (List.mem_cons_self ..)
    have hoi : ops[i]? = some ops[i] := Array.getElem?_eq_getElem hi
    unfold getO at hp
    rw [hoi] at hp
    generalize ops[i] = o at hoi hp
    obtain ⟨⟨L, F, h, hm, ha, hsub, hnew⟩, hk⟩ := hs
    unfold wpListI wpOp
    simp only [hoi]
    have next : ∀ a' w' st', Sat may w0 h0 st' a' w' → opsP P T FF ops (getO ops r) st' K → C w' ∧ wpListI P ops Q C (fun a' w' => ∃ st', Sat may w0 h0 st' a' w' ∧ K st') r a' w' := fun a' w' st' h1 h2 => ⟨hC w' h1.keep, listI_ok hT hF hC r st' a' w' (fun j hj => hl j (List.mem_cons_of_mem _ hj)) h2 h1⟩
    rcases guard_wanted ha hp with ⟨hw, hp⟩ | ⟨hw, hp⟩
    · rw [if_pos hw]
      refine .inl (Oper.wp_mono (fun a' w' ⟨st', h1, h2⟩ => next a' w' st' h1 h2) (step_ok (Q := Q) hT hF hp ⟨⟨L, F, h, hm, ha, hsub, hnew⟩, hk⟩))
    · rw [if_neg (by rw [hw]; simp)]
      obtain ⟨st', h1, h2⟩ := put_sat hm ha hsub hnew hk (av := .tup []) tup_nil hp
      exact next _ _ st' h1 h2
theorem emptyL_spec (ch : List Nat) : ∀ (own own2 : List (Option Ob)) (i k : Nat) (x y : Ob), emptyL ch i own own2 = true → own[k]? = some (some x) → ch.contains (i + k) = false → own2[k]? ≠ some (some y)
  | [], own2, i, k, x, y, _, h, _ => by simp at h
  | o :: r, [], i, k, x, y, _, _, _ => by simp
  | o :: r, o2 :: r2, i, 0, x, y, he, hx, hc => by
    intro hy
    simp only [List.getElem?_cons_zero, Option.some.injEq] at hx hy
    subst hx hy
    unfold emptyL at he
    rw [Nat.add_zero] at hc
    rw [hc] at he
    cases he
  | o :: r, o2 :: r2, i, k + 1, x, y, he, hx, hc => by
    unfold emptyL at he
    rw [Bool.and_eq_true] at he
    rw [List.getElem?_cons_succ] at hx ⊢
    exact emptyL_spec ch r r2 (i + 1) k x y he.2 hx (by rw [show i + 1 + k = i + (k + 1) from by omega]; exact hc)
theorem wpListI_mono {Q : Exit → Act → World → Prop} {C : World → Prop} {R R' : Act → World → Prop} (hq : ∀ a w, R a w → R' a w) : ∀ (l : List Nat) (a : Act) (w : World), wpListI P ops Q C R l a w → wpListI P ops Q C R' l a w
  | [], a, w, h => hq a w h
  | i :: r, a, w, h => wpOp_mono (fun a' w' h => ⟨h.1, wpListI_mono hq r a' w' h.2⟩) h
theorem wpHoist_mono {C : World → Prop} {Q Q' : Act → Prop} (hq : ∀ a, Q a → Q' a) : ∀ (l : List Nat) (a : Act), wpHoist P ops C Q l a → wpHoist P ops C Q' l a
  | [], a, h => hq a h
  | i :: r, a, ⟨o, v, h1, h2, h3⟩ => ⟨o, v, h1, h2, wpHoist_mono hq r _ h3⟩
/-- **A region that draws its order, with calls and appends among reads**: the reads hl in any order, then el in a forced order, which may change the own objects ch alone; then the rest. -/
theorem drawV_loud [HasGl P] (k : Nat) (hl el ch : List Nat) {id : Nat} {K : St → Prop} {st : St} (hmx : P.follows .mixedOrders = true) (hB : loudB ops k hl el = true) (hT : TTok P T) (hF : FTok P FF)
    (hp : loudP P T FF ops k hl el ch st K) : DrawV P id ops K st := by
  refine ⟨fun may w0 h0 a w hs => ?_⟩
  obtain ⟨n, kk, env, own⟩ := st
  obtain ⟨⟨L, F, h, hm, ha, hsub, hnew⟩, hk⟩ := hs
  have hk0 : Keep may w0 { w with drawn := w.drawn + 1 } := ⟨hk.os, hk.tape, hk.output, hk.size, hk.block⟩
  have hm0 : Mem (mineOf may w0) L F h own { w with drawn := w.drawn + 1 } := mem_same hm (fun b _ => rfl) (Nat.le_refl _)
  have hBk := hB
  unfold loudB at hBk
  simp only [Bool.and_eq_true, decide_eq_true_eq] at hBk
  obtain ⟨⟨⟨⟨⟨⟨⟨⟨⟨_, hkk⟩, _⟩, _⟩, _⟩, hhk⟩, hek⟩, _⟩, _⟩, _⟩ := hBk
  generalize hwd : ({ w with drawn := w.drawn + 1 } : World) = wd at hk0 hm0
  let may' : Nat → Prop := footOf F (onlyL ch 0 own)
  have hmayF : ∀ b, may' b → ∃ i ob, own[i]? = some (some ob) ∧ ch.contains i = true ∧ F i b := fun b ⟨i, ob, hi, hb⟩ => by
    have := (onlyL_get ch own 0 i ob).1 hi
    rw [Nat.zero_add] at this
    exact ⟨i, ob, this.1, this.2, hb⟩
  have hmay : ∀ b, may' b → mineOf may w0 b := fun b hb => by
    obtain ⟨i, ob, h1, _, h3⟩ := hmayF b hb
    exact (hm0.foot i ob b h1 h3).2.2
  have hmine' : ∀ b, mineOf may' wd b → mineOf may w0 b := fun b hb => by
    rcases hb with hb | hb
    · exact hmay b hb
    · exact .inr (Nat.le_trans hk0.size hb)
  -- the objects that are read, and those that may change
  have hmH : Mem (mineOf may w0) L F h (hideL ch 0 own) wd :=
    ⟨by rw [hideL_len]; exact hm0.hn, hm0.hsub, fun i ob hi => hm0.obs i ob ((hideL_get ch own 0 i ob).1 hi).1, fun i ob b hi => hm0.foot i ob b ((hideL_get ch own 0 i ob).1 hi).1,
      fun i j oi oj b hi hj => hm0.dis i j oi oj b ((hideL_get ch own 0 i oi).1 hi).1 ((hideL_get ch own 0 j oj).1 hj).1⟩
  have hmE : Mem (mineOf may' wd) L F h (onlyL ch 0 own) wd :=
    ⟨by rw [onlyL_len]; exact hm0.hn, hm0.hsub, fun i ob hi => hm0.obs i ob ((onlyL_get ch own 0 i ob).1 hi).1, fun i ob b hi hb => ⟨(hm0.foot i ob b ((onlyL_get ch own 0 i ob).1 hi).1 hb).1, (hm0.foot i ob b ((onlyL_get ch own 0 i ob).1 hi).1 hb).2.1, .inl ⟨i, ob, hi, hb⟩⟩,
      fun i j oi oj b hi hj => hm0.dis i j oi oj b ((onlyL_get ch own 0 i oi).1 hi).1 ((onlyL_get ch own 0 j oj).1 hj).1⟩
  have hout : ∀ (i : Nat) (ob : Ob) (b : Nat), own[i]? = some (some ob) → ch.contains i = false → F i b → ¬ may' b := fun i ob b hi hc hb hmb => by
    obtain ⟨j, oj, h1, h2, h3⟩ := hmayF b hmb
    have := hm0.dis i j ob oj b hi h1 hb h3
    subst this
    rw [hc] at h2; cases h2
  have hC : ∀ w', Keep may' wd w' → Same F (hideL ch 0 own) h wd w' := fun w' hw' b hb => by
    rcases hb with hb | ⟨i, ob, hi, hb⟩
    · cases ho : h.m b with
      | none => exact absurd ho hb
      | some o =>
        refine hw'.block b (Array.getElem?_eq_some_iff.1 (hm0.hsub b o ho)).1 (fun hmb => ?_)
        obtain ⟨j, oj, h1, _, h3⟩ := hmayF b hmb
        exact hb (hm0.foot j oj b h1 h3).2.1
    · have h1 := (hideL_get ch own 0 i ob).1 hi
      rw [Nat.zero_add] at h1
      exact hw'.block b (hm0.foot i ob b h1.1 hb).1 (hout i ob b h1.1 h1.2 hb)
  have hlsz : ∀ i, i ∈ hl → i < ops.size := fun i hi => by
    have : i < k := of_decide_eq_true (List.all_eq_true.1 hhk i hi)
    omega
  have elsz : ∀ i, i ∈ el → i < ops.size := fun i hi => by
    have := List.all_eq_true.1 hek i hi
    rw [Bool.and_eq_true] at this
    have : i < k := of_decide_eq_true this.1
    omega
  refine wp_region_loud (k := k) (hl := hl) (el := el) (C := Keep may' wd) hmx hB (fun d v c a w h => by cases h.1) (by rw [hwd]; exact Keep.refl _ _) ?_
  rw [hwd]
  unfold loudP at hp
  simp only [forceL_eq] at hp
  have hH := hoist_ok (mine := mineOf may w0) (C := Keep may' wd) hT hmH hC hl ⟨n, kk, env, hideL ch 0 own⟩ a hlsz ⟨rfl, rfl⟩ hp ⟨ha.size, ha.env, ha.defers⟩
  refine wpHoist_mono (fun a1 h1 => ?_) hl a hH
  obtain ⟨⟨n1, kk1, env1, own1⟩, ha1, ⟨rfl, rfl⟩, hp1⟩ := h1
  simp only at hp1
  have hsatE : Sat may' wd (⟨h, L, HasGl.mono h0.gl hsub.sub.m⟩ : Base P) ⟨n1, own.length, env1, onlyL ch 0 own⟩ a1 wd :=
    ⟨⟨L, F, h, hmE, ⟨ha1.size, ha1.env, ha1.defers⟩, ⟨Sub.refl h, fun i hi => rfl, hm0.hn.symm⟩, fun k hk => .inl hk⟩, Keep.refl _ _⟩
  have hE := listI_ok (Q := fun e a' w' => e = .normal ∧ ∃ st', Sat may w0 h0 st' a' w' ∧ K st') (C := Keep may' wd) hT hF (fun w' hw' => hw') el _ a1 wd elsz hp1 hsatE
  refine wpListI_mono (fun a2 w2 h2 => ?_) el a1 wd hE
  obtain ⟨⟨n2, kk2, env2, own2⟩, ⟨⟨L2, F2, h2, hm2, ha2, hsub2, hnew2⟩, hk2⟩, hem, hp2⟩ := h2
  have hLL : ∀ i, i < h.n → L2 i = L i := fun i hi => hsub2.at_ i hi
  have hS2 : Sub h h2 := hsub2.sub
  let F3 : Nat → Nat → Prop := fun i b => (∃ x, own[i]? = some (some x) ∧ ch.contains i = false ∧ F i b) ∨ ((∀ x, own[i]? = some (some x) → ch.contains i = true) ∧ F2 i b)
  have hnot : ∀ (i j : Nat) (ob o2 : Ob) (b : Nat), own[i]? = some (some ob) → ch.contains i = false → F i b → own2[j]? = some (some o2) → F2 j b → False := fun i j ob o2 b hi hc hb hj hb2 => by
    obtain ⟨q1, q2, q3⟩ := hm2.foot j o2 b hj hb2
    rcases q3 with q3 | q3
    · exact hout i ob b hi hc hb q3
    · have := (hm0.foot i ob b hi hb).1
      omega
  have hF3a : ∀ (i : Nat) (ob : Ob), own[i]? = some (some ob) → ch.contains i = false → F3 i = F i := fun i ob hi hc => by
    funext b
    refine propext ⟨fun hb => ?_, fun hb => .inl ⟨ob, hi, hc, hb⟩⟩
    rcases hb with ⟨_, _, _, hb⟩ | ⟨hx, _⟩
    · exact hb
    · rw [hx ob hi] at hc; cases hc
  have hF3b : ∀ (i : Nat), (∀ x, own[i]? = some (some x) → ch.contains i = true) → F3 i = F2 i := fun i hx => by
    funext b
    refine propext ⟨fun hb => ?_, fun hb => .inr ⟨hx, hb⟩⟩
    rcases hb with ⟨x, h1, h2, _⟩ | ⟨_, hb⟩
    · rw [hx x h1] at h2; cases h2
    · exact hb
  have hmg : ∀ (i : Nat) (ob : Ob), (mergeL ch 0 own own2)[i]? = some (some ob) → (own[i]? = some (some ob) ∧ ch.contains i = false ∧ F3 i = F i) ∨ (own2[i]? = some (some ob) ∧ F3 i = F2 i) := fun i ob hi => by
    have := mergeL_get ch own own2 0 i ob hi
    rw [Nat.zero_add] at this
    rcases this with ⟨h1, h2⟩ | ⟨h1, h2⟩
    · exact .inl ⟨h1, h2, hF3a i ob h1 h2⟩
    · exact .inr ⟨h1, hF3b i h2⟩
  have hm3 : Mem (mineOf may w0) L2 F3 h2 (mergeL ch 0 own own2) w2 := by
    refine ⟨by rw [mergeL_len]; exact hm2.hn, hm2.hsub, fun i ob hi => ?_, fun i ob b hi hb => ?_, fun i j oi oj b hi hj hbi hbj => ?_⟩
    · rcases hmg i ob hi with ⟨q1, q2, q3⟩ | ⟨q1, q3⟩
      · have hlt : i < h.n := by rw [hm0.hn]; exact (List.getElem?_eq_some_iff.1 q1).1
        rw [q3, hLL i hlt]
        exact obOk_move (hm0.obs i ob q1) (fun b hb => hk2.block b (hm0.foot i ob b q1 hb).1 (hout i ob b q1 q2 hb)) hLL hS2
      · rw [q3]; exact hm2.obs i ob q1
    · rcases hmg i ob hi with ⟨q1, q2, q3⟩ | ⟨q1, q3⟩
      · rw [q3] at hb
        obtain ⟨f1, f2, f3⟩ := hm0.foot i ob b q1 hb
        refine ⟨Nat.lt_of_lt_of_le f1 hk2.size, ?_, f3⟩
        cases ho : h2.m b with
        | none => rfl
        | some o =>
          rcases hnew2 b (by rw [ho]; simp) with h9 | h9 | h9
          · exact absurd f2 h9
          · exact absurd h9 (hout i ob b q1 q2 hb)
          · omega
      · rw [q3] at hb
        obtain ⟨f1, f2, f3⟩ := hm2.foot i ob b q1 hb
        exact ⟨f1, f2, hmine' b f3⟩
    · rcases hmg i oi hi with ⟨q1, q2, q3⟩ | ⟨q1, q3⟩ <;> rcases hmg j oj hj with ⟨r1, r2, r3⟩ | ⟨r1, r3⟩ <;> rw [q3] at hbi <;> rw [r3] at hbj
      · exact hm0.dis i j oi oj b q1 r1 hbi hbj
      · exact (hnot i j oi oj b q1 q2 hbi r1 hbj).elim
      · exact (hnot j i oj oi b r1 r2 hbj q1 hbi).elim
      · exact hm2.dis i j oi oj b q1 r1 hbi hbj
  refine ops_ok (may := may) (w0 := w0) (h0 := h0) (K := K) hT hF (fun st'' a'' w'' h1 h2 => ⟨rfl, st'', h1, h2⟩) _ _ a2 w2 hp2 ⟨⟨L2, F3, h2, hm3, ⟨ha2.size, ha2.env, ha2.defers⟩, hsub.step hLL hS2, fun x hx => ?_⟩, hk0.trans hk2 hmay⟩
  rcases hnew2 x hx with h9 | h9
  · exact hnew x h9
  · exact .inr (hmine' x h9)
end
end Go.Eng
/- A call beside a nil slice in an own object's cell: taken for an own row without elements. -/
set_option linter.unusedVariables false
set_option linter.unusedSimpArgs false
namespace Go.Eng
open Go
section
variable {P : Program}
theorem callV_nil [HasGl P] (i j : Nat) (e : TypeId) (sz : Nat) (f : Nat → List IC) {g : FuncId} {own : List (Option Ob)} {args : List AV} {K : AV → List (Option Ob) → Prop} {t : TypeId} {cs : List IC} (hi : own[i]? = some (some (.cells t cs))) (hj : cs[j]? = some (.v (.slice none 0 0)))
    (hc : CallV P g args (own.set i (some (.cells t (cs.set j (.row own.length)))) ++ [some (.row e sz 0 f)]) K) : CallV P g args own K := by
  refine ⟨fun mine L F h w vs hgl hm hden => ?_⟩
  have hn := hm.hn
  have hil : i < own.length := (List.getElem?_eq_some_iff.1 hi).1
  have hL : ∀ i, i < h.n → upd L own.length (.slice none 0 0) i = L i := fun i hi => upd_lt (by omega)
  have hm' := mem_push (v := .slice none 0 0) (G := fun _ => False) (ob := .row e sz 0 f) hm ⟨[], World.ownsRow_nil w 0 e sz, (fun b hb => by cases hb), ⟨fun k hk => by omega, fun k hk => by omega⟩⟩ (fun b hb => hb.elim) (fun b hb => hb.elim)
  have hi' : (own ++ [some (.row e sz 0 f)])[i]? = some (some (.cells t cs)) := by rw [List.getElem?_append_left hil]; exact hi
  have hm2 := mem_set (w' := w) (ob := .cells t (cs.set j (.row own.length))) hm' hi' rfl (fun _ _ => rfl) (by
    obtain ⟨b, vs, e1, e2, e3, e4⟩ := hm'.obs i _ hi'
    refine ⟨b, vs, e1, e2, e3, by rw [List.length_set]; exact e4.1, fun j' c u hc hu => ?_⟩
    rw [List.getElem?_set] at hc
    split at hc
    · rename_i ej
      subst ej
      split at hc
      · cases hc
        have := den_one (e4.2 j _ u hj hu)
        rw [this]
        exact .row _ none 0 0 (by simp [Hp.more, hn]) upd_eq
      · cases hc
    · exact e4.2 j' c u hc hu)
  rw [List.set_append, if_pos hil] at hm2
  have hS : Sub h (h.more 1) := sub_more h 1
  have hfoot : ∀ b, footOf (upd F own.length fun _ => False) (own.set i (some (.cells t (cs.set j (.row own.length)))) ++ [some (.row e sz 0 f)]) b → footOf F own b := by
    rintro b ⟨k, ob, hk, hb⟩
    by_cases e1 : k = own.length
    · subst e1; rw [upd_eq] at hb; exact hb.elim
    · have hk2 : k < own.length := by
        have := (List.getElem?_eq_some_iff.1 hk).1
        simp at this; omega
      rw [upd_lt hk2] at hb
      rw [List.getElem?_append_left (by simpa using hk2), List.getElem?_set] at hk
      split at hk
      · rename_i e2; subst e2; exact ⟨i, _, hi, hb⟩
      · exact ⟨k, ob, hk, hb⟩
  have hmine : ∀ b, mineOf (footOf (upd F own.length fun _ => False) (own.set i (some (.cells t (cs.set j (.row own.length)))) ++ [some (.row e sz 0 f)])) w b → mineOf (footOf F own) w b := fun b hb => hb.imp (hfoot b) id
  refine (hc.out mine _ _ (h.more 1) w vs hgl hm2 ⟨hden.len, fun k a v ha hv => (hden.den k a v ha hv).mono hS hL⟩).mono ?_
  rintro e' w' ⟨r, v, L', F', h', own', e1, e2, e3, e4, e5, e6, e7, e8⟩
  refine ⟨r, v, L', F', h', own', e1, e2, fun x hx => (e3 x (Nat.lt_of_lt_of_le hx hS.n)).trans (hL x hx), e4.mine_mono (fun b ⟨k, ob, hk, hb⟩ => hmine b (e4.foot k ob b hk hb).2.2), ⟨e5.os, e5.tape, e5.output, e5.size, fun k hk hno => e5.block k hk (fun hb => hno (hfoot k hb))⟩, hS.trans e6, fun k hk => (e7 k hk).imp id (hmine k), e8⟩
end
end Go.Eng
/- Own rows as arrays with parts, and back; slices.overlaps. -/
set_option linter.unusedVariables false
set_option linter.unusedSimpArgs false
namespace Go.Eng
open Go Go.RowKit
def sNil (i : Nat) : IC → IC
  | .row j => match Nat.beq j i with | true => .v (.slice none 0 0) | false => .row j
  | c => c
def sView (i l sz n c : Nat) : IC → IC
  | .row j => match Nat.beq j i with | true => .view l sz 0 n c | false => .row j
  | x => x
section
variable {P : Program} {T : TT} {mine may : Nat → Prop} {L : Nat → Value} {F : Nat → Nat → Prop} {h : Hp} {st : St} {a : Act} {w w0 : World} {own : List (Option Ob)}
/-- A result row under a new place: a part from 0 on of an own array. -/
theorem view_row (t i : Nat) {st : St} {e : TypeId} {sz k m n c cap N : Nat} {f : Nat → List IC} (hl : st.env.lookup t = some (.c (.view i sz k m c))) (hi : st.own[i]? = some (some (.arr e sz cap N f))) (hk : k = 0) (hm : n = m) (hN : n ≤ N) (hc : c = cap) :
    Weak st ⟨st.n, st.k, (t, .c (.row st.own.length)) :: st.env, st.own.set i none ++ [some (.row e sz n f)]⟩ := by
  subst hc hk hm
  refine ⟨fun {P} _ may w0 h0 a w hs => ?_⟩
  obtain ⟨⟨L, F, h, hm, ha, hsub, hnew⟩, hk⟩ := hs
  have hn := hm.hn
  obtain ⟨b, cur, e1, e2, e3, e4, e5, e6, e7⟩ := hm.obs i _ hi
  have hv : Den L h (.view i sz 0 n c) (a.tmps.getD t undef) := ha.env t _ hl
  generalize hz : a.tmps.getD t undef = z at hv
  cases hv with
  | view _ _ _ _ _ a0 b0 h1 h2 h3 h4 h5 =>
  rw [e1] at h2
  cases h2
  have hb0 := h3 (.inr rfl)
  rw [Nat.zero_mul, addr_plain] at hb0
  subst hb0
  have hlen : (st.own.set i none).length = st.own.length := List.length_set ..
  have hL : ∀ j, j < h.n → upd L (st.own.set i none).length (.slice (some ⟨b, 0, none⟩) n c) j = L j := fun j hj => upd_lt (by omega)
  have hsz : n * sz ≤ cur.size := by rw [e6]; exact Nat.mul_le_mul_right _ h4
  have hm' := mem_push (v := .slice (some ⟨b, 0, none⟩) n c) (G := F i) (ob := .row e sz n f) (mem_drop hm i)
    ⟨cur.toList.take (n * sz), ⟨by rw [List.length_take, Array.length_toList]; omega, .inr ⟨b, c, cur, rfl, Nat.zero_le _, e3, h4, e5, e6, rfl⟩⟩, (fun k hk => by cases hk; exact e2), ⟨fun q hq => e7.len q (by omega), fun q hq j cc hcc => by
      obtain ⟨u, g1, g2⟩ := e7.den q (by omega) j cc hcc
      have hj : j < sz := by have := (List.getElem?_eq_some_iff.1 hcc).1; rw [e7.len q (by omega)] at this; exact this
      refine ⟨u, ?_, g2.mono (sub_more h 1) hL⟩
      have : (q + 1) * sz ≤ n * sz := Nat.mul_le_mul_right _ hq
      rw [Nat.succ_mul] at this
      rw [List.getElem?_take, if_pos (by omega)]
      exact g1⟩⟩ (fun k hk => hm.foot i _ k hi hk) (fun k hk => by
      rintro ⟨j, oj, hj, hF⟩
      obtain ⟨q1, q2⟩ := set_none_get hj
      exact q2 (hm.dis j i oj _ k q1 hi hF hk))
  have ha' : Agree (upd L (st.own.set i none).length (.slice (some ⟨b, 0, none⟩) n c)) (h.more 1) st a := agree_more ha hL (sub_more h 1) rfl rfl
  refine ⟨⟨_, _, _, hm', ⟨ha'.size, fun t' av ht => ?_, ha'.defers⟩, hsub.step hL (sub_more h 1), hnew⟩, hk⟩
  have ht : ((t, AV.c (.row st.own.length)) :: st.env).lookup t' = some av := ht
  rw [List.lookup_cons] at ht
  by_cases et : t' = t
  · subst et
    simp at ht
    subst ht
    show Den _ _ _ _
    rw [hz]
    exact .row _ _ n c (by simp [Hp.more, hn]) (by rw [hlen]; exact upd_eq)
  · have e' : (t' == t) = false := by simpa using et
    rw [e'] at ht
    exact ha'.env t' av ht
/-- A row under a new place. -/
theorem row_move (t i : Nat) {st : St} {e : TypeId} {sz n : Nat} {f : Nat → List IC} (hl : st.env.lookup t = some (.c (.row i))) (hi : st.own[i]? = some (some (.row e sz n f))) :
    Weak st ⟨st.n, st.k, (t, .c (.row st.own.length)) :: st.env, st.own.set i none ++ [some (.row e sz n f)]⟩ := by
  refine ⟨fun {P} _ may w0 h0 a w hs => ?_⟩
  obtain ⟨⟨L, F, h, hm, ha, hsub, hnew⟩, hk⟩ := hs
  have hn := hm.hn
  have hob := hm.obs i _ hi
  have hv : Den L h (.row i) (a.tmps.getD t undef) := ha.env t _ hl
  generalize hz : a.tmps.getD t undef = z at hv
  cases hv with
  | row _ A n' c h1 h2 =>
  have hlen : (st.own.set i none).length = st.own.length := List.length_set ..
  have hL : ∀ j, j < h.n → upd L (st.own.set i none).length (.slice A n' c) j = L j := fun j hj => upd_lt (by omega)
  have hm' := mem_push (v := .slice A n' c) (G := F i) (ob := .row e sz n f) (mem_drop hm i) (by rw [h2] at hob; exact obOk_move hob (fun _ _ => rfl) hL (sub_more h 1)) (fun k hk => hm.foot i _ k hi hk) (fun k hk => by
      rintro ⟨j, oj, hj, hF⟩
      obtain ⟨q1, q2⟩ := set_none_get hj
      exact q2 (hm.dis j i oj _ k q1 hi hF hk))
  have ha' : Agree (upd L (st.own.set i none).length (.slice A n' c)) (h.more 1) st a := agree_more ha hL (sub_more h 1) rfl rfl
  refine ⟨⟨_, _, _, hm', ⟨ha'.size, fun t' av ht => ?_, ha'.defers⟩, hsub.step hL (sub_more h 1), hnew⟩, hk⟩
  have ht : ((t, AV.c (.row st.own.length)) :: st.env).lookup t' = some av := ht
  rw [List.lookup_cons] at ht
  by_cases et : t' = t
  · subst et
    simp at ht
    subst ht
    show Den _ _ _ _
    rw [hz]
    exact .row _ _ _ c (by simp [Hp.more, hn]) (by rw [hlen]; exact upd_eq)
  · have e' : (t' == t) = false := by simpa using et
    rw [e'] at ht
    exact ha'.env t' av ht
theorem sNil_ok {i : Nat} (hi : L i = .slice none 0 0) : SubstOk L L h h (sNil i) := by
  refine ⟨fun c v hd => ?_⟩
  unfold sNil
  split
  · rename_i j
    split
    · rename_i e
      have e := Nat.eq_of_beq_eq_true e
      subst e
      cases hd with
      | row _ A n c h1 h2 => rw [hi] at h2; cases h2; exact .v _ rfl
    · exact hd
  · exact hd
theorem sView_ok {L' : Nat → Value} {h' : Hp} {i l sz n c b : Nat} (hi : L i = .slice (some ⟨b, 0, none⟩) n c) (hs : Sub h h') (hL : ∀ j, j < h.n → L' j = L j) (hl : L' l = .pointer (some ⟨b, 0, none⟩)) (hln : l < h'.n) (hnc : n ≤ c) (hc : c ≤ maxLen) : SubstOk L L' h h' (sView i l sz n c) := by
  refine ⟨fun x v hd => ?_⟩
  unfold sView
  split
  · rename_i j
    split
    · rename_i e
      have e := Nat.eq_of_beq_eq_true e
      subst e
      cases hd with
      | row _ A n' c' h1 h2 =>
        rw [hi] at h2
        cases h2
        exact .view _ _ _ _ _ ⟨b, 0, none⟩ ⟨b, 0, none⟩ hln hl (fun _ => by rw [addr_plain]; simp) hnc (by unfold maxLen at hc; omega)
    · exact hd.mono hs hL
  · exact hd.mono hs hL
/-- **An own row that is handed in, taken for an array of some capacity** (or for nil). -/
theorem callV_view [HasGl P] (i : Nat) {g : FuncId} {own : List (Option Ob)} {args : List AV} {K : AV → List (Option Ob) → Prop} {e : TypeId} {sz n : Nat} {f : Nat → List IC} (hi : own[i]? = some (some (.row e sz n f)))
    (h1 : n = 0 → CallV P g (args.map (sbA (up (sNil i)))) (own.set i none) K)
    (h2 : ∀ c, n ≤ c → c ≤ 9223372036854775807 → CallV P g (args.map (sbA (up (sView i own.length sz n c)))) (own.set i none ++ [some (.arr e sz c n f)]) K) : CallV P g args own K := by
  refine ⟨fun mine L F h w vs hgl hm hden => ?_⟩
  have hn := hm.hn
  have hil : i < own.length := (List.getElem?_eq_some_iff.1 hi).1
  obtain ⟨xs, ⟨hxl, hr⟩, hG, hR⟩ := hm.obs i _ hi
  have hmapd : ∀ {L' : Nat → Value} {h' : Hp} {s : IC → IC}, SubstOk L L' h h' s → DenAs L' h' (args.map (sbA (up s))) vs := fun hs => by
    refine ⟨by rw [List.length_map]; exact hden.len, fun j a v hj hv => ?_⟩
    rw [List.getElem?_map] at hj
    cases hx : args[j]? with
    | none => rw [hx] at hj; cases hj
    | some a0 => rw [hx] at hj; cases hj; exact hs.up.denA (hden.den j a0 v hx hv)
  rcases hr with ⟨e1, e2⟩ | ⟨gb, cap, cur, e1, e2, e3, e4, e5, e6, e7⟩
  · have hfoot : ∀ b, footOf F (own.set i none) b → footOf F own b := by
      rintro b ⟨k, ob, hk, hb⟩
      exact ⟨k, ob, (set_none_get hk).1, hb⟩
    have hmine : ∀ b, mineOf (footOf F (own.set i none)) w b → mineOf (footOf F own) w b := fun b hb => hb.imp (hfoot b) id
    refine ((h1 e2).out mine L F h w vs hgl (mem_drop hm i) (hmapd (sNil_ok e1))).mono ?_
    rintro e' w' ⟨r, v, L', F', h', own', k1, k2, k3, k4, k5, k6, k7, k8⟩
    exact ⟨r, v, L', F', h', own', k1, k2, k3, k4.mine_mono (fun b ⟨k, ob, hk, hb⟩ => hmine b (k4.foot k ob b hk hb).2.2), ⟨k5.os, k5.tape, k5.output, k5.size, fun k hk hno => k5.block k hk (fun hb => hno (hfoot k hb))⟩, k6, (fun k hk => (k7 k hk).imp id (hmine k)), k8⟩
  · have hlen : (own.set i none).length = own.length := List.length_set ..
    have hL : ∀ j, j < h.n → upd L (own.set i none).length (.pointer (some ⟨gb, 0, none⟩)) j = L j := fun j hj => upd_lt (by omega)
    have hFg : F i gb := hG gb (by rw [e1]; rfl)
    have hm' := mem_push (v := .pointer (some ⟨gb, 0, none⟩)) (G := F i) (ob := .arr e sz cap n f) (mem_drop hm i)
      ⟨gb, cur, rfl, hFg, e3, e4, e5, e6, ⟨hR.len, fun q hq j cc hcc => by
        obtain ⟨u, g1, g2⟩ := hR.den q hq j cc hcc
        refine ⟨u, ?_, g2.mono (sub_more h 1) hL⟩
        rw [← e7, List.getElem?_take] at g1
        split at g1
        · exact g1
        · cases g1⟩⟩ (fun k hk => hm.foot i _ k hi hk) (fun k hk => by
        rintro ⟨j, oj, hj, hF⟩
        obtain ⟨q1, q2⟩ := set_none_get hj
        exact q2 (hm.dis j i oj _ k q1 hi hF hk))
    rw [hlen] at hm' hL
    have hfoot : ∀ b, footOf (upd F own.length (F i)) (own.set i none ++ [some (.arr e sz cap n f)]) b → footOf F own b := by
      rintro b ⟨k, ob, hk, hb⟩
      by_cases ek : k = own.length
      · subst ek; rw [upd_eq] at hb; exact ⟨i, _, hi, hb⟩
      · have hk2 : k < own.length := by
          have := (List.getElem?_eq_some_iff.1 hk).1
          simp at this; omega
        rw [upd_lt hk2] at hb
        rw [List.getElem?_append_left (by simpa using hk2)] at hk
        exact ⟨k, ob, (set_none_get hk).1, hb⟩
    have hmine : ∀ b, mineOf (footOf (upd F own.length (F i)) (own.set i none ++ [some (.arr e sz cap n f)])) w b → mineOf (footOf F own) w b := fun b hb => hb.imp (hfoot b) id
    have hS : Sub h (h.more 1) := sub_more h 1
    have hsub := hmapd (sView_ok (sz := sz) (l := own.length) e1 hS hL upd_eq (by simp [Hp.more, hn]) e4 e5)
    refine ((h2 cap e4 (by unfold maxLen at e5; omega)).out mine _ _ (h.more 1) w vs hgl hm' hsub).mono ?_
    rintro e' w' ⟨r, v, L', F', h', own', k1, k2, k3, k4, k5, k6, k7, k8⟩
    exact ⟨r, v, L', F', h', own', k1, k2, fun x hx => (k3 x (Nat.lt_of_lt_of_le hx hS.n)).trans (hL x hx), k4.mine_mono (fun b ⟨k, ob, hk, hb⟩ => hmine b (k4.foot k ob b hk hb).2.2), ⟨k5.os, k5.tape, k5.output, k5.size, fun k hk hno => k5.block k hk (fun hb => hno (hfoot k hb))⟩, hS.trans k6, (fun k hk => (k7 k hk).imp id (hmine k)), k8⟩
/-- As 'call_frame', the result and the own objects behind it written out. -/
theorem call_frame2 [HasGl P] {own : List (Option Ob)} {f : FuncId} {args args' : List AV} {own0 : List (Option Ob)} {Q : AV → List (Option Ob) → Prop} {K : AV → List (Option Ob) → Prop} (ob : List (Option Nat)) (hd : nodupB ob = true) (hob : inB own.length ob = true)
    (h0 : ob.map (pickOwn own (up (renT ob))) = own0) (ha : args.map (sbA (up (renT ob))) = args')
    (hc : CallV P f args' own0 Q) (hK : ∀ r own2, Q r own2 → ∃ r' own3, sbA (up (backT ob own.length)) r = r' ∧ frameOwn ob own own2 = own3 ∧ K r' own3) : CallV P f args own K := by
  refine call_frame ob hd hob h0 ha hc (fun r own2 hq => ?_)
  obtain ⟨r', own3, rfl, rfl, h⟩ := hK r own2 hq
  exact h
def envPick (st : St) : List Nat → Option (List (Nat × AV))
  | [] => some []
  | t :: r => match st.env.lookup t, envPick st r with
    | some a, some l => some ((t, a) :: l)
    | _, _ => none
theorem envPick_ok {st : St} {a : Act} (ha : Agree L h st a) : ∀ {slots : List Nat} {e : List (Nat × AV)}, envPick st slots = some e → ∀ t av, e.lookup t = some av → DenA L h av (a.tmps.getD t undef)
  | [], e, hn, t, av, hl => by cases hn; cases hl
  | x :: r, e, hn, t, av, hl => by
    unfold envPick at hn
    split at hn
    · rename_i a0 l h1 h2
      cases hn
      rw [List.lookup_cons] at hl
      by_cases et : t = x
      · subst et
        simp at hl
        subst hl
        exact ha.env t _ h1
      · have e' : (t == x) = false := by simpa using et
        rw [e'] at hl
        exact envPick_ok ha h2 t av hl
    · cases hn
/-- Only these slots; the own objects, whatever they are, as they are. -/
theorem env_weak (slots : List Nat) {st : St} {e : List (Nat × AV)} (hn : envPick st slots = some e) : Weak st ⟨st.n, st.k, e, st.own⟩ := by
  refine ⟨fun {P} _ may w0 h0 a w hs => ?_⟩
  obtain ⟨⟨L, F, h, hm, ha, hsub, hnew⟩, hk⟩ := hs
  exact ⟨⟨L, F, h, hm, ⟨ha.size, fun t av ht => envPick_ok ha hn t av ht, ha.defers⟩, hsub, hnew⟩, hk⟩
/-- A function that is handed own objects, whatever they are; what there is of them at its end is handed back. -/
theorem callV_same [HasGl P] {FF : FL} {own : List (Option Ob)} {f : FuncId} {fn : Func} {c : Code} (hf : P.funcs[f]? = some fn) (hb : fn.body = some c) (hT : TTok P T) (hF : FTok P FF) {args : List AV} {n : Nat} (hnn : fn.ntmps = n) {rs : List ResultVar} (hrs : fn.results.toList = rs) {env : List (Nat × AV)} (henv : env0 args = env) (hn : args.length ≤ n) {Q : AV → List (Option Ob) → Prop}
    (hv : vc P T FF c (fun e st' => match e with | .exit _ => False | _ => ∃ st1, Weak st' st1 ∧ resL T st1 rs (fun l => Q (retV l) st1.own)) ⟨n, own.length, env, own⟩) : CallV P f args own Q := by
  subst hnn hrs henv
  refine ⟨fun mine L F h w vs hgl hm hden => ?_⟩
  have hm0 : Mem (mineOf (footOf F own) w) L F h own w := hm.mine_mono (fun b hb => .inl hb)
  have hs : Sat (footOf F own) w (⟨h, L, hgl⟩ : Base P) ⟨fn.ntmps, own.length, env0 args, own⟩ { tmps := vs.toArray ++ Array.replicate (fn.ntmps - vs.toArray.size) undef, defers := [] } w :=
    ⟨⟨L, F, h, hm0, agree0 hn hden own.length own, ⟨Sub.refl h, fun _ _ => rfl, hm.hn.symm⟩, fun k hk => .inl hk⟩, Keep.refl _ w⟩
  refine calls_of_wp hf hb (Code.wp_mono (fun e a' w' hh => ?_) (vc_ok hT hF c _ _ _ _ hv hs))
  obtain ⟨e', st0, rfl, hs1, he⟩ := hh
  have hr : ∃ st1, Weak st0 st1 ∧ resL T st1 fn.results.toList (fun l => Q (retV l) st1.own) := by
    cases e' with
    | normal => exact he
    | exit i => exact he.elim
    | ret => exact he
  obtain ⟨st1, hw, hr⟩ := hr
  obtain ⟨⟨L', F', h', hm', ha', hsub, hnew'⟩, hk⟩ := hw.out _ _ _ _ _ hs1
  obtain ⟨r, v, hQ, hd, hrun⟩ := results_ok (Q := fun r => Q r st1.own) hT hm' ha' hr
  have fin : a'.defers = [] ∧ ∃ v, (results fn a'.tmps).run P w' = .ok v w' ∧ ∃ (r : AV) (u : Value) (L' : Nat → Value) (F' : Nat → Nat → Prop) (h' : Hp) (own' : List (Option Ob)), Ending.returned v = .returned u ∧ DenA L' h' r u ∧ (∀ i, i < h.n → L' i = L i) ∧ Mem (mineOf (footOf F own) w) L' F' h' own' w' ∧
      Keep (footOf F own) w w' ∧ Sub h h' ∧ (∀ k, h'.m k ≠ none → h.m k ≠ none ∨ mineOf (footOf F own) w k) ∧ Q r own' :=
    ⟨ha'.defers, _, hrun, _, v, _, _, _, _, rfl, hd, hsub.at_, hm', hk, hsub.sub, hnew', hQ⟩
  cases e' with
  | normal => exact fin
  | exit i => exact he.elim
  | ret => exact fin
/-! ### slices.overlaps -/
/-- A slice's block: told apart. -/
structure Side (w : World) (F : Nat → Prop) (sz : Nat) (v : Value) (n : Nat) : Prop where
  ex : ∃ A c, v = .slice A n c ∧ (0 < n → 0 < sz → ∃ ad t k, A = some ad ∧ F ad.block ∧ w.shape? ad.block = some (t, k) ∧ k ≠ 0)
/-- .. plain memory, not a string's bytes. -/
def Plain (w : World) (v : Value) (n : Nat) : Prop := ∀ ad m c, v = .slice (some ad) m c → 0 < n → ∀ o, w.frozen? ⟨ad.block, o, none⟩ = false ∧ ad.spot = none
theorem shape_of {b : Nat} {cur : Array Value} {t : TypeId} {z : Nat × Nat} (hb : w.heap[b]? = some (.cells cur t z)) : w.shape? b = some (t, cur.size) := by simp [World.shape?, hb]
theorem side_row (hm : Mem mine L F h own w) {j : Nat} {e : TypeId} {sz n : Nat} {f : Nat → List IC} (hj : own[j]? = some (some (.row e sz n f))) {v : Value} (hd : Den L h (.row j) v) : Side w (F j) sz v n ∧ Plain w v n := by
  cases hd with
  | row _ A n' c h1 h2 =>
  obtain ⟨xs, ⟨hxl, hr⟩, hG, hR⟩ := hm.obs j _ hj
  rw [h2] at hr hG
  rcases hr with ⟨e1, e2⟩ | ⟨gb, cap, cur, e1, e2, e3, e4, e5, e6, e7⟩
  · cases e1
    exact ⟨⟨none, 0, by rw [e2], fun hp => by omega⟩, fun ad m c e hp => by cases e⟩
  · cases e1
    refine ⟨⟨_, _, rfl, fun h0 hs => ⟨⟨gb, 0, none⟩, e, cur.size, rfl, hG gb rfl, shape_of e3, ?_⟩⟩, fun ad m c e hp o => ?_⟩
    · rw [e6]; exact Nat.mul_ne_zero (by omega) (by omega)
    · cases e
      exact ⟨by simp [World.frozen?, e3], rfl⟩
theorem side_view (hm : Mem mine L F h own w) {i : Nat} {e : TypeId} {sz cap N k n c : Nat} {f : Nat → List IC} (hi : own[i]? = some (some (.arr e sz cap N f))) (hcap : k + n ≤ cap) {v : Value} (hd : Den L h (.view i sz k n c) v) : Side w (F i) sz v n ∧ Plain w v n := by
  cases hd with
  | view _ _ _ _ _ a0 b0 h1 h2 h3 h4 h5 =>
  obtain ⟨b, cur, e1, e2, e3, e4, e5, e6, e7⟩ := hm.obs i _ hi
  rw [e1] at h2
  cases h2
  refine ⟨⟨_, _, rfl, fun h0 hs => ⟨b0, e, cur.size, rfl, ?_, ?_, ?_⟩⟩, fun ad m c e hp o => ?_⟩
  · rw [h3 (.inl (by omega)), addr_plain]; exact e2
  · rw [h3 (.inl (by omega)), addr_plain]; exact shape_of e3
  · rw [e6]; exact Nat.mul_ne_zero (by omega) (by omega)
  · cases e
    rw [h3 (.inl (by omega)), addr_plain]
    exact ⟨by simp [World.frozen?, e3], rfl⟩
theorem side_sl (hm : Mem mine L F h own w) {sz n : Nat} {f : Nat → List IC} {v : Value} (hd : Den L h (.sl sz n f) v) : Side w (fun b => h.m b ≠ none) sz v n := by
  cases hd with
  | sl _ _ _ A c ad g hc hmx hA hg hl hclo hr =>
  refine ⟨_, _, rfl, fun h0 hs => ?_⟩
  have hh := hg 0 h0 0 hs
  rw [Nat.zero_mul, Nat.zero_add] at hh
  unfold hcell at hh
  have hbk : (ad.add 0).block = ad.block := by cases ad; unfold Addr.add; split <;> rfl
  rw [hbk] at hh
  split at hh
  · rename_i cur t z hb
    have hb2 := hm.hsub _ _ hb
    refine ⟨ad, t, cur.size, hA h0, by rw [hb]; simp, shape_of hb2, fun e0 => ?_⟩
    split at hh
    · cases hh
    · have := Array.size_eq_zero_iff.1 e0
      subst this
      simp at hh
  · cases hh
theorem overlaps_run {t r e : TypeId} {ti : TI} (hT : TF P e ti) (ht : P.underlying t = some (.slice e)) {va vb : Value} {na nb : Nat} {Fa Fb : Nat → Prop} (ha : Side w Fa ti.size va na) (hb : Side w Fb ti.size vb nb) (hp : Plain w va na) (hd : ∀ b, Fa b → Fb b → False) (h0 : 0 < na) (h1 : 0 < nb) (h2 : 0 < ti.size) :
    (Extern.SlicesOverlaps.overlaps #[t, t] #[r] #[va, vb]).run P w = .ok (.bool false) w := by
  obtain ⟨A, ca, rfl, g1⟩ := ha.ex
  obtain ⟨B, cb, rfl, g2⟩ := hb.ex
  obtain ⟨a, ta, ka, e1, f1, s1, z1⟩ := g1 h0 h2
  obtain ⟨b, tb, kb, e2, f2, s2, z2⟩ := g2 h1 h2
  subst e1 e2
  have hpa := hp a na ca rfl h0
  have hane : a.block ≠ b.block := fun e => hd _ f1 (by rw [e]; exact f2)
  have hfa : w.frozen? a = false := by
    have h8 := (hpa a.off).1
    have h9 := (hpa 0).2
    have : a = ⟨a.block, a.off, none⟩ := by cases a; simp at h9; subst h9; rfl
    rw [this]; exact h8
  exact Go.Lib.run_overlaps_apart w t r e ht ti.size hT.size a b na ca nb cb hane ta tb ka kb s1 s2 z2 hfa (hpa ka).1
/-- slices.overlaps at two slices that lie apart. -/
theorem ext_overlaps [HasGl P] {g : FuncId} {fn : Func} {t r e : TypeId} {ti : TI} (hf : P.funcs[g]? = some fn) (hname : (fn.name == "runtime.NumGoroutine") = false) (hb : fn.body.isNone = true) (hn : Extern.findNext fn = none) (he : Extern.find fn = some (Extern.SlicesOverlaps.overlaps #[t, t] #[r]))
    (hT : TF P e ti) (ht : P.underlying t = some (.slice e)) {own : List (Option Ob)} {x y : IC}
    (hxy : ∀ (mine : Nat → Prop) (L : Nat → Value) (F : Nat → Nat → Prop) (h : Hp) (w : World), Mem mine L F h own w → ∀ va vb, Den L h x va → Den L h y vb → ∃ na nb Fa Fb, Side w Fa ti.size va na ∧ Plain w va na ∧ Side w Fb ti.size vb nb ∧ (∀ b, Fa b → Fb b → False) ∧ 0 < na ∧ 0 < nb ∧ 0 < ti.size)
    {K : AV → List (Option Ob) → Prop} (hK : K (.c (.v (.bool false))) own) : ExtV P g [.c x, .c y] own K := by
  refine ⟨fun mine L F h w vs hgl hm hden => ?_⟩
  obtain ⟨va, vb, rfl⟩ : ∃ va vb, vs = [va, vb] := by
    have hl := hden.len
    match vs, hl with
    | [a, b], _ => exact ⟨a, b, rfl⟩
  have d1 : Den L h x va := hden.den 0 _ _ rfl rfl
  have d2 : Den L h y vb := hden.den 1 _ _ rfl rfl
  obtain ⟨na, nb, Fa, Fb, q1, q2, q3, q4, q5, q6, q7⟩ := hxy mine L F h w hm va vb d1 d2
  refine ⟨.bool false, w, ?_, .c (.v (.bool false)), L, F, h, own, Den.v _ rfl, fun _ _ => rfl, hm.mine_mono (fun b hb => .inl hb), Keep.refl _ _, Sub.refl h, fun k hk => .inl hk, hK⟩
  rw [run_callFunc_extern hf hname hb hn he]
  have := overlaps_run (r := r) hT ht q1 q3 q2 q4 q5 q6 q7
  rw [show ([va, vb] : List Value).toArray = #[va, vb] from rfl, this]
  rfl
theorem apart_row_view {j i : Nat} (hji : j ≠ i) {e e' : TypeId} {sz n k m c cap N : Nat} {f f' : Nat → List IC} {own : List (Option Ob)} (hj : own[j]? = some (some (.row e sz n f))) (hi : own[i]? = some (some (.arr e' sz cap N f'))) (hcap : k + m ≤ cap) (hn0 : 0 < n) (hm0 : 0 < m) (hs0 : 0 < sz) :
    ∀ (mine : Nat → Prop) (L : Nat → Value) (F : Nat → Nat → Prop) (h : Hp) (w : World), Mem mine L F h own w → ∀ va vb, Den L h (.row j) va → Den L h (.view i sz k m c) vb → ∃ na nb Fa Fb, Side w Fa sz va na ∧ Plain w va na ∧ Side w Fb sz vb nb ∧ (∀ b, Fa b → Fb b → False) ∧ 0 < na ∧ 0 < nb ∧ 0 < sz := by
  intro mine L F h w hm va vb d1 d2
  have s1 := side_row hm hj d1
  have s2 := side_view hm hi hcap d2
  exact ⟨n, m, F j, F i, s1.1, s1.2, s2.1, fun b h1 h2 => hji (hm.dis j i _ _ b hj hi h1 h2), hn0, hm0, hs0⟩
theorem apart_view_sl {i : Nat} {e' : TypeId} {sz n k m c cap N : Nat} {f f' : Nat → List IC} {own : List (Option Ob)} (hi : own[i]? = some (some (.arr e' sz cap N f'))) (hcap : k + m ≤ cap) (hn0 : 0 < n) (hm0 : 0 < m) (hs0 : 0 < sz) :
    ∀ (mine : Nat → Prop) (L : Nat → Value) (F : Nat → Nat → Prop) (h : Hp) (w : World), Mem mine L F h own w → ∀ va vb, Den L h (.view i sz k m c) va → Den L h (.sl sz n f) vb → ∃ na nb Fa Fb, Side w Fa sz va na ∧ Plain w va na ∧ Side w Fb sz vb nb ∧ (∀ b, Fa b → Fb b → False) ∧ 0 < na ∧ 0 < nb ∧ 0 < sz := by
  intro mine L F h w hm va vb d1 d2
  have s1 := side_view hm hi hcap d1
  have s2 := side_sl hm d2
  exact ⟨m, n, F i, _, s1.1, s1.2, s2, fun b h1 h2 => h2 (hm.foot i _ b hi h1).2.1, hm0, hn0, hs0⟩
end
end Go.Eng
/- What is handed in (numbers, texts, structs, slices of these), read as the reckoner's values. -/
set_option linter.unusedVariables false
set_option linter.unusedSimpArgs false
namespace Go.Eng
open Go Go.RowKit Go.WideShapes
def RdF (R : TypeId → List IC → Prop) : List Field → List IC → Prop
  | [], cs => cs = []
  | f :: r, cs => ∃ xs ys, R f.type xs ∧ RdF R r ys ∧ cs = xs ++ ys
/-- What cells at a type may be. -/
def Rd (T : TT) (B : Nat) : Nat → TypeId → List IC → Prop
  | 0, _, _ => False
  | d + 1, t, cs => match T.lookup t with
    | none => False
    | some ti => match ti.desc with
      | .bool => ∃ b, cs = [.v (.bool b)]
      | .int k => ∃ n, (Lit.int k n).wf = true ∧ cs = [.v (.int k n)]
      | .string => ∃ s, s.size ≤ B ∧ cs = [.v (.string s)]
      | .slice e => (match T.lookup e with
        | some te => ∃ (n : Nat) (f : Nat → List IC), n ≤ B ∧ (∀ k, k < n → Rd T B d e (f k)) ∧ cs = [.sl te.size n f]
        | none => False)
      | .struct fs => RdF (Rd T B d) fs.toList cs
      | _ => False
def tiles (T : TT) : List Field → Nat → Nat → Bool
  | [], off, tot => off == tot
  | f :: r, off, tot => f.offset == off && match T.lookup f.type with | some tf => tiles T r (off + tf.size) tot | none => false
def okS (T : TT) : Nat → TypeId → Bool
  | 0, _ => false
  | d + 1, t => match T.lookup t with
    | none => false
    | some ti => match ti.desc with
      | .bool => true
      | .int _ => true
      | .string => true
      | .slice e => (T.lookup e).isSome && okS T d e
      | .struct fs => tiles T fs.toList 0 ti.size && fs.toList.all (fun f => okS T d f.type)
      | _ => false
structure BulkOk (H : Type) (bulk : DataW H → Nat) : Prop where
  str : ∀ l : List UInt8, l.length ≤ bulk (.lit (.string l))
  len : ∀ es sp : List (DataW H), es.length ≤ bulk (.slice es sp)
  el : ∀ (es sp : List (DataW H)) e, e ∈ es → bulk e ≤ bulk (.slice es sp)
  agg : ∀ (es : List (DataW H)) e, e ∈ es → bulk e ≤ bulk (.agg es)
theorem cellsOf_size {P : Program} {t : TypeId} {i : TI} (h : TF P t i) : P.cellsOf t = i.size := by
  have := h.info
  cases hq : P.info? t with
  | none => rw [hq] at this; cases this
  | some q => rw [hq] at this; simp at this; simp [Program.cellsOf, hq, this.2.1]
theorem hcell_full {w : World} {n : Nat} {a : Addr} {v : Value} (h : w.cell? a = some v) : hcell ⟨fun k => w.heap[k]?, n⟩ a = some v := by
  unfold World.cell? at h
  unfold hcell
  exact h
section
variable {H : Type} {enc : TypeId × Value → H} {P : Program} {T : TT} {w : World} {B : Nat} {bulk : DataW H → Nat} {L : Nat → Value}
theorem rd_clo : ∀ (d : Nat) (t : TypeId) (cs : List IC), Rd T B d t cs → cs.all clo = true
  | 0, _, _, h => h.elim
  | d + 1, t, cs, h => by
    unfold Rd at h
    split at h
    · exact h.elim
    · split at h
      · obtain ⟨b, rfl⟩ := h; rfl
      · obtain ⟨b, _, rfl⟩ := h; rfl
      · obtain ⟨b, _, rfl⟩ := h; rfl
      · split at h
        · obtain ⟨n, f, _, _, rfl⟩ := h; rfl
        · exact h.elim
      · rename_i fs _
        generalize fs.toList = l at h
        induction l generalizing cs with
        | nil => unfold RdF at h; subst h; rfl
        | cons f r ih =>
          unfold RdF at h
          obtain ⟨xs, ys, h1, h2, rfl⟩ := h
          rw [List.all_append, rd_clo d _ _ h1, ih ys h2]
          rfl
      · exact h.elim
theorem choose_f {α : Type} [Inhabited α] {n : Nat} {p : Nat → α → Prop} (h : ∀ i, i < n → ∃ x, p i x) : ∃ f : Nat → α, ∀ i, i < n → p i (f i) := by
  classical
  refine ⟨fun i => if hi : i < n then Classical.choose (h i hi) else default, fun i hi => ?_⟩
  simp only [dif_pos hi]
  exact Classical.choose_spec (h i hi)
theorem rd_ok (hT : TTok P T) (hb : BulkOk H bulk) : ∀ (d : Nat) (t : TypeId) (fuel : Nat) (cs : List Value) (x : DataW H × List MemPlace), okS T d t = true → DataW.trod enc P w 0 (fun _ => true) true fuel t cs = some x → bulk x.1 ≤ B →
    ∃ ics, DenL L ⟨fun k => w.heap[k]?, 0⟩ ics cs ∧ Rd T B d t ics
  | 0, _, _, _, _, hs, _, _ => by cases hs
  | d + 1, t, fuel, cs, x, hs, h, hB => by
    unfold okS at hs
    cases hl : T.lookup t with
    | none => rw [hl] at hs; cases hs
    | some ti =>
      rw [hl] at hs
      have htf := hT _ _ hl
      have hu := htf.und
      cases hd : ti.desc with
      | bool =>
        rw [hd] at hu
        obtain ⟨b, rfl, rfl⟩ := DataW.trod_bool hu h
        exact ⟨[.v (.bool b)], DenL.cons (.v _ rfl) DenL.nil, by unfold Rd; simp only [hl, hd]; exact ⟨b, rfl⟩⟩
      | int k =>
        rw [hd] at hu
        obtain ⟨n, rfl, rfl, hw⟩ := DataW.trod_int hu h
        exact ⟨[.v (.int k n)], DenL.cons (.v _ rfl) DenL.nil, by unfold Rd; simp only [hl, hd]; exact ⟨n, hw, rfl⟩⟩
      | string =>
        rw [hd] at hu
        obtain ⟨s, rfl, rfl, hw⟩ := DataW.trod_string hu h
        have h1 := hb.str s.data.toList
        have h2 : s.data.toList.length = s.size := ba_len s
        exact ⟨[.v (.string s)], DenL.cons (.v _ rfl) DenL.nil, by unfold Rd; simp only [hl, hd]; exact ⟨s, by simp only at hB; omega, rfl⟩⟩
      | slice e =>
        simp only [hd] at hs
        rw [Bool.and_eq_true] at hs
        obtain ⟨te, hle⟩ := Option.isSome_iff_exists.1 hs.1
        have hte := hT _ _ hle
        have hsz := cellsOf_size hte
        rw [hd] at hu
        rcases DataW.trod_slice hu h with ⟨rfl, rfl⟩ | ⟨a, len, cap, elems, rest, n, rfl, rfl, rfl, hba, hlc, hcm, hlen, hel, _⟩
        · exact ⟨[.sl te.size 0 fun _ => []], DenL.cons (.sl _ 0 _ none 0 ⟨0, 0, none⟩ (fun _ _ => undef) (Nat.le_refl _) (by omega) (fun h => by omega) (fun k hk => by omega) (fun k hk => by omega) (fun k hk => by omega) (fun k hk => by omega)) DenL.nil,
            by unfold Rd; simp only [hl, hd, hle]; exact ⟨0, fun _ => [], Nat.zero_le _, (fun k hk => by omega), rfl⟩⟩
        · have hbl := hb.len (elems.map (·.1)) (rest.map (·.1))
          rw [List.length_map, hlen] at hbl
          have key : ∀ i, i < len → ∃ p : List IC × List Value, w.cells? 0 (a.add (i * P.cellsOf e)) (P.cellsOf e) = some p.2 ∧ DenL L ⟨fun k => w.heap[k]?, 0⟩ p.1 p.2 ∧ Rd T B d e p.1 := fun i hi => by
            have h1 := hel i hi
            rw [List.getElem?_eq_getElem (by omega)] at h1
            obtain ⟨cs', h2, h3⟩ := Option.bind_eq_some_iff.1 h1
            have hbe : bulk (elems[i]'(by omega)).1 ≤ B := Nat.le_trans (hb.el _ (rest.map (·.1)) _ (List.mem_map_of_mem (List.getElem_mem (by omega)))) hB
            obtain ⟨ics, k1, k2⟩ := rd_ok hT hb d e n cs' _ hs.2 h3 hbe
            exact ⟨(ics, cs'), h2, k1, k2⟩
          obtain ⟨F, hF⟩ := choose_f key
          refine ⟨[.sl te.size len fun k => (F k).1], DenL.cons (.sl _ len _ (some a) cap a (fun k j => (F k).2.getD j undef) hlc (by unfold maxLen at hcm; omega) (fun _ => rfl) (fun k hk j hj => ?_) (fun k hk => ?_) (fun k hk => rd_clo d e _ (hF k hk).2.2) (fun k hk j c hc => ?_)) DenL.nil, by unfold Rd; simp only [hl, hd, hle]; exact ⟨len, _, by simp only at hB; omega, (fun k hk => (hF k hk).2.2), rfl⟩⟩
          · obtain ⟨_, q1, q2⟩ := World.cells?_some (hF k hk).1
            rw [hsz] at q1 q2
            have q3 := q2 j hj
            rw [addr_add_add] at q3
            rw [List.getElem?_eq_getElem (by omega)] at q3
            rw [hcell_full q3]
            simp [List.getD_eq_getElem?_getD, List.getElem?_eq_getElem (show j < (F k).2.length by omega)]
          · obtain ⟨_, q1, q2⟩ := World.cells?_some (hF k hk).1
            rw [(hF k hk).2.1.1, q1, hsz]
          · have h1 := (hF k hk).2.1
            have hj : j < (F k).2.length := by rw [← h1.1]; exact (List.getElem?_eq_some_iff.1 hc).1
            have := h1.2 j c _ hc (List.getElem?_eq_getElem hj)
            simpa [List.getD_eq_getElem?_getD, List.getElem?_eq_getElem hj] using this
      | struct fs =>
        simp only [hd] at hs
        rw [Bool.and_eq_true] at hs
        obtain ⟨hti, hall⟩ := hs
        rw [hd] at hu
        obtain ⟨xs, n, rfl, rfl, hcl, hxl, hx⟩ := DataW.trod_struct hu h
        rw [cellsOf_size htf] at hcl
        have main : ∀ (l : List Field) (i off : Nat), (∀ j, l[j]? = fs[i + j]?) → tiles T l off ti.size = true → l.all (fun f => okS T d f.type) = true → off ≤ cs.length →
            ∃ ics, DenL L ⟨fun k => w.heap[k]?, 0⟩ ics (cs.drop off) ∧ RdF (Rd T B d) l ics := by
          intro l
          induction l with
          | nil =>
            intro i off _ ht _ _
            unfold tiles at ht
            have e : off = ti.size := by simpa using ht
            refine ⟨[], ?_, rfl⟩
            rw [e, ← hcl, List.drop_length]
            exact DenL.nil
          | cons f r ih =>
            intro i off hi ht ha hoff
            unfold tiles at ht
            rw [Bool.and_eq_true] at ht
            obtain ⟨h1, h2⟩ := ht
            have e : f.offset = off := by simpa using h1
            cases hlf : T.lookup f.type with
            | none => rw [hlf] at h2; cases h2
            | some tf =>
              rw [hlf] at h2
              simp only at h2
              rw [List.all_cons, Bool.and_eq_true] at ha
              have hfi : fs[i]? = some f := by have := hi 0; simpa using this.symm
              have hxi := hx i f hfi
              have hlt : i < xs.length := by rw [hxl]; exact (Array.getElem?_eq_some_iff.1 hfi).1
              rw [List.getElem?_eq_getElem hlt] at hxi
              have hbe : bulk (xs[i]).1 ≤ B := Nat.le_trans (hb.agg _ _ (List.mem_map_of_mem (List.getElem_mem hlt))) hB
              obtain ⟨ics, k1, k2⟩ := rd_ok hT hb d f.type n _ _ ha.1 hxi hbe
              rw [cellsOf_size (hT _ _ hlf), e] at k1
              have hle : ∀ (l : List Field) (o : Nat), tiles T l o ti.size = true → o ≤ ti.size := by
                intro l
                induction l with
                | nil => intro o h; unfold tiles at h; have : o = ti.size := by simpa using h
                         omega
                | cons f r ih =>
                  intro o h
                  unfold tiles at h
                  rw [Bool.and_eq_true] at h
                  obtain ⟨_, h⟩ := h
                  cases hq : T.lookup f.type with
                  | none => rw [hq] at h; cases h
                  | some tq => rw [hq] at h; have := ih _ h; omega
              have hnext := hle r _ h2
              obtain ⟨ics2, k3, k4⟩ := ih (i + 1) (off + tf.size) (fun j => by have := hi (j + 1); rw [List.getElem?_cons_succ] at this; rw [this, Nat.add_assoc, Nat.add_comm 1]) h2 ha.2 (by omega)
              refine ⟨ics ++ ics2, ?_, ?_⟩
              · have := k1.append k3
                rwa [← List.drop_drop, List.take_append_drop] at this
              · unfold RdF; exact ⟨ics, ics2, k2, k4, rfl⟩
        obtain ⟨ics, k1, k2⟩ := main fs.toList 0 0 (fun j => by simp) hti hall (Nat.zero_le _)
        rw [List.drop_zero] at k1
        exact ⟨ics, k1, by unfold Rd; simp only [hl, hd]; exact k2⟩
      | _ => simp only [hd] at hs; cases hs
/-- An argument at a type. -/
def RdA (T : TT) (B d : Nat) (t : TypeId) (a : AV) : Prop :=
  match T.lookup t with
  | none => False
  | some ti => match ti.desc with
    | .struct _ => ∃ cs, Rd T B d t cs ∧ a = .agg cs
    | _ => ∃ c, Rd T B d t [c] ∧ a = .c c
def RdArgs (T : TT) (B d : Nat) : List TypeId → List AV → Prop
  | [], as => as = []
  | t :: ts, as => ∃ a r, RdA T B d t a ∧ RdArgs T B d ts r ∧ as = a :: r
theorem arg_ok (hT : TTok P T) (hb : BulkOk H bulk) {d : Nat} {t : TypeId} {v : Value} {x : DataW H} {p : List MemPlace} {base : Nat} (hval : Value.okWide P w .any base t v) (h : DataW.Trod enc P w 0 (fun _ => true) true t v x p) (hs : okS T d t = true) (hB : bulk x ≤ B) :
    ∃ a, DenA L ⟨fun k => w.heap[k]?, 0⟩ a v ∧ RdA T B d t a := by
  obtain ⟨fuel, h⟩ := h
  obtain ⟨ics, h1, h2⟩ := rd_ok (L := L) hT hb d t fuel _ _ hs h hB
  cases d with
  | zero => cases hs
  | succ d =>
  unfold okS at hs
  cases hl : T.lookup t with
  | none => rw [hl] at hs; cases hs
  | some ti =>
    have hu := (hT _ _ hl).und
    have one : (∃ u, v = u ∧ v.cells.toList = [u]) → (∀ fs, ti.desc ≠ .struct fs) → ∃ a, DenA L ⟨fun k => w.heap[k]?, 0⟩ a v ∧ RdA T B (d + 1) t a := fun ⟨u, e1, e2⟩ hne => by
      subst e1
      rw [e2] at h1
      match ics, h1.1 with
      | [c], _ =>
        refine ⟨.c c, h1.2 0 c _ rfl rfl, ?_⟩
        unfold RdA
        simp only [hl]
        cases hq : ti.desc with
        | struct fs => exact absurd hq (hne fs)
        | _ => exact ⟨c, h2, rfl⟩
    cases hd : ti.desc with
    | bool => rw [hd] at hu; obtain ⟨b, rfl⟩ := okWide_bool hu hval; exact one ⟨_, rfl, rfl⟩ (by rw [hd]; intro fs e; cases e)
    | int k => rw [hd] at hu; obtain ⟨b, rfl⟩ := okWide_int hu hval; exact one ⟨_, rfl, rfl⟩ (by rw [hd]; intro fs e; cases e)
    | string => rw [hd] at hu; obtain ⟨b, rfl⟩ := okWide_string hu hval; exact one ⟨_, rfl, rfl⟩ (by rw [hd]; intro fs e; cases e)
    | slice e => rw [hd] at hu; obtain ⟨a, n, c, rfl⟩ := okWide_slice hu hval; exact one ⟨_, rfl, rfl⟩ (by rw [hd]; intro fs e; cases e)
    | struct fs =>
      rw [hd] at hu
      obtain ⟨cs, rfl, _⟩ := okWide_struct hu hval
      refine ⟨.agg ics, ⟨cs.toList, by simp, by simpa [Value.cells] using h1⟩, ?_⟩
      unfold RdA
      rw [hl]
      simp only [hd]
      exact ⟨ics, h2, rfl⟩
    | _ => simp only [hl, hd] at hs; cases hs
/-! ### Arguments told otherwise -/
def ArgsLe (as bs : List AV) : Prop := ∀ (L : Nat → Value) (h : Hp) (vs : List Value), DenAs L h as vs → DenAs L h bs vs
theorem argsLe_refl (as : List AV) : ArgsLe as as := fun _ _ _ h => h
theorem argsLe_cons {a b : AV} {as bs : List AV} (h1 : ∀ (L : Nat → Value) (h : Hp) v, DenA L h a v → DenA L h b v) (h2 : ArgsLe as bs) : ArgsLe (a :: as) (b :: bs) := fun L h vs hd => by
  match vs, hd with
  | v :: r, hd =>
    have := h2 L h r ⟨by have := hd.len; simpa using this, fun j x u hj hu => hd.den (j + 1) x u (by simpa using hj) (by simpa using hu)⟩
    exact denAs_cons (h1 L h v (hd.den 0 _ _ rfl rfl)) this
  | [], hd => have := hd.len; simp at this
theorem argsLe_same {a : AV} {as bs : List AV} (h2 : ArgsLe as bs) : ArgsLe (a :: as) (a :: bs) := argsLe_cons (fun _ _ _ h => h) h2
theorem callV_args [HasGl P] {f : FuncId} {args args' : List AV} {own : List (Option Ob)} {Q : AV → List (Option Ob) → Prop} (h : ArgsLe args args') (hc : CallV P f args' own Q) : CallV P f args own Q :=
  ⟨fun mine L F hh w vs hgl hm hd => hc.out mine L F hh w vs hgl hm (h L hh vs hd)⟩
/-- Elements of one form: a list of them. -/
theorem list_of {α : Type} {n : Nat} {f : Nat → List IC} {enc : α → List IC} {R : α → Prop} (d : α) (h : ∀ k, k < n → ∃ a, R a ∧ f k = enc a) : ∃ l : List α, l.length = n ∧ (∀ k, k < n → f k = enc (l.getD k d)) ∧ ∀ k, k < n → R (l.getD k d) := by
  have : Inhabited α := ⟨d⟩
  obtain ⟨g, hg⟩ := choose_f h
  refine ⟨(List.range n).map g, by simp, fun k hk => ?_, fun k hk => ?_⟩
  · rw [(hg k hk).2]; simp [List.getD_eq_getElem?_getD, hk]
  · have := (hg k hk).1; simpa [List.getD_eq_getElem?_getD, hk] using this
/-- A slice that stays, its elements told otherwise. -/
theorem den_sl_ext {h : Hp} {sz n : Nat} {f f' : Nat → List IC} {v : Value} (hd : Den L h (.sl sz n f) v) (hf : ∀ k, k < n → f' k = f k) : Den L h (.sl sz n f') v := by
  cases hd with
  | sl _ _ _ A c ad g hc hm hA hg hl hclo hr => exact .sl sz n f' A c ad g hc hm hA hg (fun k hk => by rw [hf k hk]; exact hl k hk) (fun k hk => by rw [hf k hk]; exact hclo k hk) (fun k hk j c' hc' => by rw [hf k hk] at hc'; exact hr k hk j c' hc')
theorem argsLe_nil (sz : Nat) (f : Nat → List IC) {as bs : List AV} (h2 : ArgsLe as bs) : ArgsLe (.c (.v (.slice none 0 0)) :: as) (.c (.sl sz 0 f) :: bs) := by
  refine argsLe_cons (fun L h v hd => ?_) h2
  have hd : Den L h (.v (.slice none 0 0)) v := hd
  cases hd with
  | v _ h1 => exact Den.sl sz 0 f none 0 ⟨0, 0, none⟩ (fun _ _ => undef) (Nat.le_refl _) (by omega) (fun h => by omega) (fun k hk => by omega) (fun k hk => by omega) (fun k hk => by omega) (fun k hk => by omega)
theorem argsLe_sl {sz n n' : Nat} {f f' : Nat → List IC} {as bs : List AV} (hn : n' = n) (hf : ∀ k, k < n → f k = f' k) (h2 : ArgsLe as bs) : ArgsLe (.c (.sl sz n f) :: as) (.c (.sl sz n' f') :: bs) := by
  subst hn
  exact argsLe_cons (fun L h v hd => den_sl_ext hd (fun k hk => (hf k hk).symm)) h2
end
end Go.Eng
