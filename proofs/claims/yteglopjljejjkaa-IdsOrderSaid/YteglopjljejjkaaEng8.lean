/- A part of the proof: what the functions of the program come to, told by a small reckoner of states. -/
import Derived.Test.YteglopjljejjkaaEng7
set_option linter.unusedVariables false
set_option linter.unusedSimpArgs false
namespace Go.Eng
open Go Go.RowKit

/-! ### A region that draws its order: operations that only read, calls that hand back plain values -/
def scalC : Cell → Bool
  | .v x => x.oneCell'
  | _ => false
def scalA : AV → Bool
  | .c x => scalC x
  | .agg xs => xs.all scalC
  | .tup as => as.all fun a => match a with | .c x => scalC x | .agg xs => xs.all scalC | .tup _ => true
structure CallQ (P : Program) (f : FuncId) (args : List AV) (K : AV → Prop) : Prop where
  out : ∃ r, CallV P f args [] (fun r' own' => own' = [] ∧ r' = r) ∧ scalA r = true ∧ K r
theorem callQ {P : Program} {f : FuncId} {args : List AV} {K : AV → Prop} {r : AV} (hc : CallV P f args [] (fun r' own' => own' = [] ∧ r' = r)) (hs : scalA r = true) (hk : K r) : CallQ P f args K := ⟨⟨r, hc, hs, hk⟩⟩
def qstepP (P : Program) (T : TT) (F : FL) (o : Oper) (st : St) (K : St → Prop) : Prop :=
  match o.op with
  | .call { callee := .value (.func f), args, argTypes := _ } => match argsOf st args.toList with
    | some avs => ifD ((F.lookup f).isSome = true) (ifD (avs.all closedA = true) (CallQ P f avs (fun r => putK st o.dst r K)))
    | none => False
  | _ => aopP T st o.op (fun av => putK st o.dst av K)
def qopsP (P : Program) (T : TT) (F : FL) (ops : Array Oper) (l : List Oper) : St → (St → Prop) → Prop :=
  List.rec (motive := fun _ => St → (St → Prop) → Prop) (fun st K => K st)
    (fun o _ ih st K => guardP ops o st (qstepP P T F o st (fun st' => ih st' K)) (skipK st o.dst (fun st' => ih st' K))) l
section
variable {P : Program} {T : TT} {F : FL} {mine may : Nat → Prop} {L : Nat → Value} {h : Hp} {h0 : Base} {st : St} {a : Act} {w w0 : World}
theorem scal_ok {r : AV} (hs : scalA r = true) (h : Hp) : OkA h r := by
  have key : ∀ c, scalC c = true → OkC h c := fun c hc => by
    cases c <;> simp [scalC] at hc
    exact OkC.v _ hc
  cases r with
  | c x => exact key x hs
  | agg xs => exact fun x hx => key x (List.all_eq_true.1 hs x hx)
  | tup as =>
    intro a ha
    have := List.all_eq_true.1 hs a ha
    cases a with
    | c x => exact key x this
    | agg xs => exact fun x hx => key x (List.all_eq_true.1 this x hx)
    | tup _ => trivial
theorem mem_below {own : List (Option Ob)} {w' : World} (hm : Mem mine L h own w) (hb : Below w.heap.size w w') : Mem mine L h own w' := by
  refine ⟨hm.hn, fun k o hk => ?_, fun i ob hi => ?_, hm.dis⟩
  · have := hm.hsub k o hk
    rw [hb.block k (Array.getElem?_eq_some_iff.1 this).1]
    exact this
  · have ho := hm.obs i ob hi
    exact obOk_move ho (fun b hbk h1 h2 => ⟨hb.block b (obOk_lt ho hbk).1, h2, h1⟩) (fun _ _ => rfl) (Sub.refl h)
theorem put_agree (ha : Agree L h st a) {dst : Option Nat} {av : AV} (hok : OkA h av) {K : St → Prop} (hp : putK st dst av K) : ∃ st', Agree L h st' (a.put dst (den L av)) ∧ (st'.own = st.own ∧ st'.k = st.k) ∧ K st' := by
  cases dst with
  | none => exact ⟨st, ha, ⟨rfl, rfl⟩, hp⟩
  | some d => exact ⟨st.put (some d) av, agree_put ha (putK_some hp).1 hok, ⟨rfl, rfl⟩, (putK_some hp).2⟩
theorem wpQuiet_mono {ops : Array Oper} {C : World → Prop} {Q Q' : Act → Prop} (hq : ∀ a, Q a → Q' a) : ∀ (l : List Oper) (a : Act), wpQuiet P ops C Q l a → wpQuiet P ops C Q' l a
  | [], a, hw => hq a hw
  | o :: r, a, hw => by
    unfold wpQuiet at *
    split
    · rename_i e
      rw [if_pos e] at hw
      exact Oper.quiet_mono (fun a ha => wpQuiet_mono hq r a ha) hw
    · rename_i e
      rw [if_neg e] at hw
      exact wpQuiet_mono hq r _ hw
theorem quiet_ops (hT : TTok P T) (hF : FTok P F) {kk : Nat} {own : List (Option Ob)} (hm : Mem mine L h own w) (hnew : ∀ b, w.heap.size ≤ b → mine b) {ops : Array Oper} {K : St → Prop} : ∀ (l : List Oper) (st : St) (a : Act), (st.own = own ∧ st.k = kk) → qopsP P T F ops l st K → Agree L h st a →
    wpQuiet P ops (fun w' => Below w.heap.size w w') (fun a' => ∃ st', Agree L h st' a' ∧ (st'.own = own ∧ st'.k = kk) ∧ K st') l a
  | [], st, a, ho, hp, ha => wpQuiet_nil ⟨st, ha, ho, hp⟩
  | o :: r, st, a, ho, hp, ha => by
    refine wpQuiet_step (fun Kc hKc => ?_)
    have go : ∀ st' a', (st'.own = own ∧ st'.k = kk) → qopsP P T F ops r st' K → Agree L h st' a' → Kc a' := fun st' a' h1 h2 h3 => hKc a' (quiet_ops hT hF hm hnew r st' a' h1 h2 h3)
    rcases guard_wanted ha hp with ⟨hw, hp⟩ | ⟨hw, hp⟩
    · rw [if_pos hw]
      obtain ⟨dst, op, ty, pos, after, guard⟩ := o
      unfold qstepP at hp
      simp only at hp
      split at hp
      · rename_i f args ts _
        split at hp
        · rename_i avs hx
          obtain ⟨hf, hp⟩ := ifD_and hp
          obtain ⟨hcl, hp⟩ := ifD_and hp
          obtain ⟨rv, hc, hs, hk⟩ := hp.out
          obtain ⟨h1, h2⟩ := argsOf_ok ha hx
          have hargs : args.map a.eval = (avs.map (den L)).toArray := by
            apply Array.ext'
            rw [Array.toList_map, h1]
          obtain ⟨st', k1, k2, k3⟩ := put_agree ha (scal_ok hs h) hk
          refine ⟨den L rv, fun w' hw' => ?_, go st' _ ⟨k2.1.trans ho.1, k2.2.trans ho.2⟩ k3 k1⟩
          have hrun : (execOp a.eval { dst := dst, op := .call { callee := .value (.func f), args := args, argTypes := ts }, type := ty, pos := pos, after := after, guard := guard }).run P w' = .ok (.enter f (avs.map (den L)).toArray) w' := by
            obtain ⟨fz, hfz⟩ := Option.isSome_iff_exists.1 hf
            have he := hF f fz hfz (avs.map (den L)).toArray w'
            unfold execOp
            simp [resolve, Deferred.ofValue, invoke, Act.eval, hargs, he]
          unfold Oper.quietAt
          rw [hrun]
          refine ⟨rfl, ?_⟩
          have hcall := hc.out mine L ⟨h.m, 0⟩ w' ⟨rfl, (mem_below hm hw').hsub, fun i ob hi => by simp at hi, fun i j oi oj b hi => by simp at hi⟩ (fun b hb => hnew b (Nat.le_trans hw'.size hb)) (fun a ha2 => okA_zero (h2 a ha2) (List.all_eq_true.1 hcl a ha2))
          refine hcall.mono ?_
          rintro e w'' ⟨r', L', h', own', e1, e2, e3, e4, e5, e6, e7, e8, rfl, rfl⟩
          refine ⟨by rw [e1, den_upd (L := L) (L' := L') e8 (fun i hi => by have := e3.hn; simp at this; omega)], hw'.trans ⟨e4.os, e4.tape, e4.output, e4.size, fun k hk2 => e4.block k (Nat.lt_of_lt_of_le hk2 hw'.size) (fun ⟨i, ob, hi, _⟩ => by simp at hi)⟩⟩
        · exact hp.elim
      · rw [← ho.1] at hm
        obtain ⟨av, h1, h2, h3⟩ := aop_ok hT ha w hm (o := ⟨dst, op, ty, pos, after, guard⟩) hp
        obtain ⟨st', k1, k2, k3⟩ := put_agree ha h2 h1
        refine ⟨den L av, fun w' hw' => ?_, go st' _ ⟨k2.1.trans ho.1, k2.2.trans ho.2⟩ k3 k1⟩
        unfold Oper.quietAt
        rw [h3 w' (mem_below hm hw')]
        exact ⟨rfl, rfl⟩
    · rw [if_neg (by rw [hw]; simp)]
      obtain ⟨st', k1, k2, k3⟩ := put_agree (av := .tup []) ha (fun a h => by cases h) hp
      exact go st' _ ⟨k2.1.trans ho.1, k2.2.trans ho.2⟩ k3 k1
theorem keep_below {w' : World} (hk : Keep may w0 w) (hb : Below w.heap.size w w') : Keep may w0 w' :=
  ⟨hb.os.trans hk.os, hb.tape.trans hk.tape, hb.output.trans hk.output, Nat.le_trans hk.size hb.size, fun k hlt hn => by
    rw [hb.block k (Nat.lt_of_lt_of_le hlt hk.size)]
    exact hk.block k hlt hn⟩
/-- **A region that draws its order and only reads**: by its text's order. -/
theorem drawV_quiet {id : Nat} {ops : Array Oper} {K : St → Prop} (hmx : P.follows .mixedOrders = true) (hB : Region.lexB .any ops = true) (hT : TTok P T) (hF : FTok P F) (hp : qopsP P T F ops ops.toList st K) : DrawV P id ops K st := by
  refine ⟨fun may w0 h0 a w hs => ?_⟩
  obtain ⟨⟨L, h, hm, ha, hsub, hnew⟩, hk⟩ := hs
  refine wp_region_quiet (C := fun w' => Below w.heap.size w w') hmx hB ⟨rfl, rfl, rfl, Nat.le_refl _, fun _ _ => rfl⟩ ?_
  refine wpQuiet_mono (fun a' hq w' hw' => ?_) _ _ (quiet_ops hT hF hm (fun b hb => .inr (Nat.le_trans hk.size hb)) ops.toList st a ⟨rfl, rfl⟩ hp ha)
  obtain ⟨st', k1, k2, k3⟩ := hq
  refine ⟨rfl, st', ⟨⟨L, h, ?_, k1, by rw [k2.2]; exact hsub, hnew⟩, keep_below hk hw'⟩, k3⟩
  rw [k2.1]
  exact mem_below hm hw'
end
end Go.Eng
