/- A part of the proof: what the functions of the program come to, told by a small reckoner of states. -/
import Derived.Test.YteglopjljejjkaaEngR
set_option linter.unusedVariables false
set_option linter.unusedSimpArgs false
namespace Go.Eng
open Go Go.RowKit

def ownBlk (L : Nat → Value) (own : List (Option Ob)) (b : Nat) : Prop := ∃ (i : Nat) (ob : Ob), own[i]? = some (some ob) ∧ blk (L i) = some b
/-- What a call comes to: of what is handed in and of the own objects; the others are left alone. -/
structure CallV (P : Program) (f : FuncId) (args : List AV) (own : List (Option Ob)) (Q : AV → List (Option Ob) → Prop) : Prop where
  out : ∀ (mine : Nat → Prop) (L : Nat → Value) (h : Hp) (w : World), Mem mine L h own w → (∀ b, w.heap.size ≤ b → mine b) → (∀ a, a ∈ args → OkA h a) →
    Calls P f (args.map (den L)).toArray w (fun e w' => ∃ (r : AV) (L' : Nat → Value) (h' : Hp) (own' : List (Option Ob)), e = .returned (den L' r) ∧ (∀ i, i < h.n → L' i = L i) ∧ Mem mine L' h' own' w' ∧
      Keep (ownBlk L own) w w' ∧ Sub h h' ∧ (∀ k, h'.m k ≠ none → h.m k ≠ none ∨ w.heap.size ≤ k ∨ ownBlk L own k) ∧ (∀ i ob b, h.n ≤ i → own'[i]? = some (some ob) → blk (L' i) = some b → w.heap.size ≤ b) ∧ OkA h' r ∧ Q r own')
theorem CallV.mono {P : Program} {f : FuncId} {args : List AV} {own : List (Option Ob)} {Q Q' : AV → List (Option Ob) → Prop} (hc : CallV P f args own Q) (hq : ∀ r o, Q r o → Q' r o) : CallV P f args own Q' := by
  refine ⟨fun mine L h w hm hn ha => ?_⟩
  refine (hc.out mine L h w hm hn ha).mono ?_
  rintro e w' ⟨r, L', h', own', h1, h2, h3, h4, h5, h6, h7, h8, h9⟩
  exact ⟨r, L', h', own', h1, h2, h3, h4, h5, h6, h7, h8, hq _ _ h9⟩

/-- The functions that may be called: is a row that is handed in laid still? -/
abbrev FL := List (Nat × Bool)
def FTok (P : Program) (F : FL) : Prop := ∀ f b, F.lookup f = some b → ∀ args w, (callFunc f args).run P w = .ok (.enter f args) w
theorem FTok.nil {P : Program} : FTok P [] := fun f b h => by cases h
theorem FTok.cons {P : Program} {F : FL} {f : FuncId} {b : Bool} {fn : Func} (hf : P.funcs[f]? = some fn) (hname : (fn.name == "runtime.NumGoroutine") = false) (hb : fn.body.isSome = true) (k : FTok P F) : FTok P ((f, b) :: F) := by
  intro g b' hg args w
  rw [List.lookup_cons] at hg
  by_cases e : g = f
  · subst e
    have h1 : fn.name ≠ "runtime.NumGoroutine" := by simpa using hname
    obtain ⟨c, hc⟩ := Option.isSome_iff_exists.1 hb
    simp [callFunc, hf, h1, hc]
  · have e' : (g == f) = false := by simpa using e
    rw [e'] at hg
    exact k g b' hg args w

def putK (st : St) (dst : Option Nat) (av : AV) (K : St → Prop) : Prop :=
  match dst with
  | some d => match st with
    | ⟨n, k, env, own⟩ => ifD (d < n) (forceA av fun av => K ⟨n, k, (d, av) :: env, own⟩)
  | none => K st
theorem putK_some {st : St} {d : Nat} {av : AV} {K : St → Prop} (h : putK st (some d) av K) : d < st.n ∧ K (st.put (some d) av) := by
  obtain ⟨n, k, env, own⟩ := st
  simp only [putK, forceA_eq] at h
  exact ifD_and h
def St.push (st : St) (ob : Ob) : St := { st with own := st.own ++ [some ob] }
def pushK (st : St) (ob : Ob) (dst : Option Nat) (K : St → Prop) : Prop :=
  match st with
  | ⟨n, k, env, own⟩ => forceN own.length fun l => forceL (own ++ [some ob]) fun own' => putK ⟨n, k, env, own'⟩ dst (.c (.own l 0)) K
theorem pushK_eq {st : St} {ob : Ob} {dst : Option Nat} {K : St → Prop} : pushK st ob dst K = putK (st.push ob) dst (.c (.own st.own.length 0)) K := by
  obtain ⟨n, k, env, own⟩ := st
  simp only [pushK, forceN_eq, forceL_eq]
  rfl
def St.set (st : St) (i : Nat) (ob : Option Ob) : St := { st with own := st.own.set i ob }
def argsOf (st : St) : List Operand → Option (List AV)
  | [] => some []
  | x :: r => match ev st x, argsOf st r with
    | some a, some l => some (a :: l)
    | _, _ => none

/-- One operation, in the text's order. -/
def stepP (P : Program) (T : TT) (F : FL) (o : Oper) (st : St) (K : St → Prop) : Prop :=
  match o.op with
  | .alloc t => match T.lookup t with
    | some ti => ifD (ti.zero.cells.toList.all (·.oneCell') = true) (forceL (ti.zero.cells.toList.map Cell.v) fun cs => pushK st (.cells t cs) o.dst K)
    | none => False
  | .box t x => match ev st x with
    | some av => (match cellsOf av with
      | some cs => ifD (cs.all (storable st) = true) (forceL cs fun cs => pushK st (.cells t cs) o.dst K)
      | none => False)
    | none => False
  | .store t p x => match ev st p, ev st x, T.lookup t with
    | some (.c (.own i off)), some av, some ti => (match st.own[i]?, cellsOf av with
      | some (some (.cells u cs)), some vs => ifD (vs.all (storable st) = true) (ifD (vs.length = ti.size) (ifD (off + vs.length ≤ cs.length) (ifD (o.dst = none) (forceL (cs.take off ++ vs ++ cs.drop (off + vs.length)) fun cs' => match st with | ⟨n, k, env, own⟩ => forceL (own.set i (some (.cells u cs'))) fun own' => K ⟨n, k, env, own'⟩))))
      | _, _ => False)
    | _, _, _ => False
  | .call { callee := .value (.func f), args, argTypes := _ } => match argsOf st args.toList, F.lookup f with
    | some avs, some fz => frzL (match fz with | true => rowsA avs | false => []) st fun st => match argsOf st args.toList with
      | some avs => (match st with | ⟨n, k, env, own⟩ => CallV P f avs own (fun r own' => putK ⟨n, k, env, own'⟩ o.dst r K))
      | none => False
    | _, _ => False
  | .buildSlice t len parts => match T.lookup t, partsOf st parts.toList with
    | some ti, some l => (match ti.desc with
      | .slice e => (match T.lookup e with
        | some te => frzL (rowsA (l.map (·.2))) st fun st => (match partsOf st parts.toList with
          | some l => (match rowC te.size 0 l with
            | some xs => ifD (l.length = len) (ifD (0 < len * te.size) (ifD (len * te.size ≤ 16777216) (ifD (0 < te.zero.cells.size) (match st with | ⟨n, k, env, own⟩ => forceN own.length fun i => forceL (own ++ [some (.row e te.size xs)]) fun own' => putK ⟨n, k, env, own'⟩ o.dst (.c (.row i)) K))))
            | none => False)
          | none => False)
        | none => False)
      | _ => False)
    | _, _ => False
  | .call { callee := .builtin .append, args, argTypes } => match args.toList, argTypes.toList with
    | [x, y], [t, tx] => (match T.lookup t, T.lookup tx, ev st x, ev st y with
      | some ti, some tj, some av, some aw => (match ti.desc with
        | .slice e => (match T.lookup e with
          | some te => (match oldOf st e te.size av, newsOf st tj.desc te.size aw with
            | some (oi, xs), some ys => (xs.length + ys.length ≤ 9223372036854775807 ∧ (xs.length + ys.length) * te.bytes ≤ 140737488355328) ∧ ifD (te.zero.cells.size = te.size) (match st with
              | ⟨n, k, env, own⟩ => forceN own.length fun i => forceL (without own oi ++ [some (.row e te.size (xs ++ ys))]) fun own' => putK ⟨n, k, env, own'⟩ o.dst (.c (.row i)) K)
            | _, _ => False)
          | none => False)
        | _ => False)
      | _, _, _, _ => False)
    | _, _ => False
  | _ => aopP T st o.op (fun av => putK st o.dst av K)

section
variable {P : Program} {T : TT} {F : FL} {may : Nat → Prop} {w0 : World} {h0 : Base} {st : St} {a : Act} {w : World}
theorem put_sat {L : Nat → Value} {h : Hp} (hm : Mem (mineOf may w0) L h st.own w) (ha : Agree L h st a) (hs : SubB h0 st.k L h) (hn : ∀ k, h.m k ≠ none → h0.h.m k ≠ none ∨ mineOf may w0 k) (hk : Keep may w0 w) {dst : Option Nat} {av : AV} (hok : OkA h av) {K : St → Prop}
    (hp : putK st dst av K) : ∃ st', Sat may w0 h0 st' (a.put dst (den L av)) w ∧ K st' := by
  cases dst with
  | none => exact ⟨st, ⟨⟨L, h, hm, ha, hs, hn⟩, hk⟩, hp⟩
  | some d => exact ⟨st.put (some d) av, ⟨⟨L, h, hm, agree_put ha (putK_some hp).1 hok, hs, hn⟩, hk⟩, (putK_some hp).2⟩
theorem keep_push (hk : Keep may w0 w) (o : Obj) : Keep may w0 (w.alloc o) :=
  ⟨hk.os, hk.tape, hk.output, Nat.le_trans hk.size (by simp), fun k hlt hn => by
    rw [Below.heap_alloc w o k (Nat.lt_of_lt_of_le hlt hk.size)]
    exact hk.block k hlt hn⟩
theorem heap_alloc_at (w : World) (o : Obj) : (w.alloc o).heap[w.heap.size]? = some o := by
  show (w.heap.push o)[w.heap.size]? = _
  simp
/-- A new own object of known cells. -/
theorem alloc_sat {L : Nat → Value} {h : Hp} (hm : Mem (mineOf may w0) L h st.own w) (ha : Agree L h st a) (hs : SubB h0 st.k L h) (hn : ∀ k, h.m k ≠ none → h0.h.m k ≠ none ∨ mineOf may w0 k) (hk : Keep may w0 w) {t : TypeId} {cs : List Cell} (hok : ∀ c, c ∈ cs → OkC h c)
    {dst : Option Nat} {K : St → Prop} (hp : putK (st.push (.cells t cs)) dst (.c (.own st.own.length 0)) K) :
    ∃ st', Sat may w0 h0 st' (a.put dst (.pointer (some ⟨w.heap.size, 0, none⟩))) (w.alloc (.cells (cs.map (denC L)).toArray t (0, 0))) ∧ K st' := by
  have hL : ∀ i, i < h.n → upd L st.own.length (.pointer (some ⟨w.heap.size, 0, none⟩)) i = L i := fun i hi => by
    have := hm.hn
    unfold upd
    rw [if_neg (by omega)]
  have hm' : Mem (mineOf may w0) (upd L st.own.length (.pointer (some ⟨w.heap.size, 0, none⟩))) (h.more 1) (st.push (.cells t cs)).own (w.alloc (.cells (cs.map (denC L)).toArray t (0, 0))) := by
    refine mem_push hm (fun k hlt => Below.heap_alloc w _ k hlt) ⟨⟨w.heap.size, rfl, ?_, hp_new hm.hsub (Nat.le_refl _), .inr hk.size⟩, fun c hc => (hok c hc).sub (sub_more h 1)⟩ (fun b hb => by cases hb; exact Nat.le_refl _)
    rw [map_denC_upd hok hL]
    exact heap_alloc_at w _
  have := put_sat hm' (agree_more ha hL (sub_more h 1) rfl rfl) (hs.step hL (sub_more h 1)) hn (keep_push hk _) (av := .c (.own st.own.length 0)) (OkC.own _ _ (by simp [Hp.more, hm.hn])) hp
  have e : den (upd L st.own.length (.pointer (some ⟨w.heap.size, 0, none⟩))) (.c (.own st.own.length 0)) = .pointer (some ⟨w.heap.size, 0, none⟩) := by
    simp [den, den1, denC, upd, ptrAt, Addr.add]
  rw [e] at this
  exact this
theorem argsOf_ok {L : Nat → Value} {h : Hp} (ha : Agree L h st a) : ∀ {xs : List Operand} {avs : List AV}, argsOf st xs = some avs → xs.map a.eval = avs.map (den L) ∧ ∀ av, av ∈ avs → OkA h av
  | [], avs, e => by cases e; exact ⟨rfl, fun _ h => by cases h⟩
  | x :: r, avs, e => by
    unfold argsOf at e
    split at e
    · rename_i av l hx hr
      cases e
      obtain ⟨h1, h2⟩ := argsOf_ok ha hr
      obtain ⟨h3, h4⟩ := ev_eval ha hx
      refine ⟨by rw [List.map_cons, List.map_cons, h1, h3], fun av' hm => ?_⟩
      rcases List.mem_cons.1 hm with rfl | hm
      · exact h4
      · exact h2 _ hm
    · cases e
theorem mem_set {mine : Nat → Prop} {L : Nat → Value} {h : Hp} {own : List (Option Ob)} (hm : Mem mine L h own w) {i : Nat} {u : TypeId} {cs vs : List Cell} (hi : own[i]? = some (some (.cells u cs))) (hok : ∀ c, c ∈ vs → OkC h c) {b : Nat} (hb : L i = .pointer (some ⟨b, 0, none⟩)) :
    Mem mine L h (own.set i (some (.cells u vs))) (w.setRow b (vs.map (denC L)).toArray) := by
  have hlt : i < own.length := (List.getElem?_eq_some_iff.1 hi).1
  have hbi := obOk_lt (hm.obs i _ hi) (b := b) (by rw [hb]; rfl)
  obtain ⟨b', hb', hh, _⟩ := own_cells (st := ⟨0, 0, [], own⟩) hm hi
  obtain rfl : b = b' := by rw [hb] at hb'; simpa using hb'
  have hother : ∀ j oj, j ≠ i → own[j]? = some (some oj) → ∀ b', blk (L j) = some b' → b' ≠ b := fun j oj hne hj b' hb2 e => hne (hm.dis j i oj _ b' hj hi hb2 (by rw [hb, e]; rfl))
  have hset : ∀ j, j ≠ i → (own.set i (some (.cells u vs)))[j]? = own[j]? := fun j hne => by rw [List.getElem?_set_ne (Ne.symm hne)]
  refine ⟨by rw [List.length_set]; exact hm.hn, fun k o hk => ?_, fun j oj hj => ?_, fun j k oj ok b2 hj hk hbj hbk => ?_⟩
  · have hne : k ≠ b := fun e => by rw [e, hbi.2.2] at hk; cases hk
    rw [setRow_other w b k _ hne]
    exact hm.hsub k o hk
  · by_cases hne : j = i
    · subst hne
      rw [List.getElem?_set_self hlt] at hj
      simp only [Option.some.injEq] at hj
      subst hj
      refine ⟨⟨b, hb, setRow_heap w b _ _ u (0, 0) hh, hbi.2.2, hbi.2.1⟩, hok⟩
    · rw [hset j hne] at hj
      refine obOk_move (hm.obs j oj hj) (fun b2 hb2 h1 h2 => ⟨?_, h2, h1⟩) (fun _ _ => rfl) (Sub.refl h)
      rw [setRow_other w b b2 _ (hother j oj hne hj b2 hb2)]
  · have g : ∀ j oj, (own.set i (some (.cells u vs)))[j]? = some (some oj) → ∃ oj', own[j]? = some (some oj') := fun j oj hj => by
      by_cases hne : j = i
      · subst hne; exact ⟨_, hi⟩
      · rw [hset j hne] at hj; exact ⟨_, hj⟩
    obtain ⟨oj', hj'⟩ := g j oj hj
    obtain ⟨ok', hk'⟩ := g k ok hk
    exact hm.dis j k oj' ok' b2 hj' hk' hbj hbk

theorem keep_row (hk : Keep may w0 w) {b : Nat} (hb : mineOf may w0 b) (cs : Array Value) : Keep may w0 (w.setRow b cs) :=
  ⟨hk.os, hk.tape, hk.output, by rw [size_setRow]; exact hk.size, fun k hlt hn => by
    have hne : k ≠ b := fun e => by subst e; rcases hb with h | h; exact hn h; omega
    rw [setRow_other w b k _ hne]
    exact hk.block k hlt hn⟩
theorem zero_cells {z : Value} (h : z.cells.toList.all (·.oneCell') = true) {L : Nat → Value} : ((z.cells.toList.map Cell.v).map (denC L)).toArray = z.cells := by
  rw [List.map_map]
  have : (denC L ∘ Cell.v) = id := rfl
  rw [this, List.map_id, Array.toArray_toList]
theorem value_upon {o : Oper} {v : Value} {w' : World} {Kc : Act → World → Prop} {Q : Exit → Act → World → Prop} (hr : (execOp a.eval o).run P w = .ok (.value v) w') (hk : Kc (a.put o.dst v) w') : o.wp P a w Kc Q := by
  unfold Oper.wp
  rw [hr]
  exact hk
theorem skip_upon {o : Oper} {w' : World} {Kc : Act → World → Prop} {Q : Exit → Act → World → Prop} (hr : (execOp a.eval o).run P w = .ok .skip w') (hk : Kc (a.put o.dst undef) w') : o.wp P a w Kc Q := by
  unfold Oper.wp
  rw [hr]
  exact hk
theorem step_ok (hT : TTok P T) (hF : FTok P F) {o : Oper} {K : St → Prop} {Q : Exit → Act → World → Prop} (hp : stepP P T F o st K) (hs : Sat may w0 h0 st a w) : o.wp P a w (fun a' w' => ∃ st', Sat may w0 h0 st' a' w' ∧ K st') Q := by
  have hs0 := hs
  obtain ⟨⟨L, h, hm, ha, hsub, hnew⟩, hk⟩ := hs
  obtain ⟨dst, op, ty, pos, after, guard⟩ := o
  unfold stepP at hp
  simp only at hp
  split at hp
  · split at hp
    · rename_i ti hl
      obtain ⟨hz, hp⟩ := ifD_and hp
      rw [forceL_eq, pushK_eq] at hp
      have hok : ∀ c, c ∈ ti.zero.cells.toList.map Cell.v → OkC h c := fun c hc => by
        obtain ⟨v, hv, rfl⟩ := List.mem_map.1 hc
        exact OkC.v v (List.all_eq_true.1 hz v hv)
      have := alloc_sat hm ha hsub hnew hk hok hp
      rw [zero_cells hz] at this
      refine value_upon (v := .pointer (some ⟨w.heap.size, 0, none⟩)) ?_ this
      simp [execOp, Instr.alloc, (hT _ _ hl).zero, newVar, newRow, run_newObj_alloc]
    · exact hp.elim
  · split at hp
    · rename_i av hx
      split at hp
      · rename_i cs hc
        obtain ⟨hst, hp⟩ := ifD_and hp
        rw [forceL_eq, pushK_eq] at hp
        have hok := cellsOf_ok hc (ev_eval ha hx).2
        have hone : ∀ c, c ∈ cs → (denC L c).oneCell' = true := fun c hcm => storable_one hm (List.all_eq_true.1 hst c hcm) (hok c hcm)
        have := alloc_sat hm ha hsub hnew hk hok hp
        refine value_upon (v := .pointer (some ⟨w.heap.size, 0, none⟩)) ?_ this
        rw [← cellsOf_den hc hone]
        simp [execOp, Instr.box, (ev_eval ha hx).1, newVar, newRow, run_newObj_alloc]
      · exact hp.elim
    · exact hp.elim
  · rename_i t p x
    split at hp
    · rename_i i off av ti hx hy hl
      split at hp
      · rename_i u cs vs ho hc
        obtain ⟨hst, hp⟩ := ifD_and hp
        obtain ⟨hlen, hp⟩ := ifD_and hp
        obtain ⟨hle, hp⟩ := ifD_and hp
        obtain ⟨hd, hp4⟩ := ifD_and hp
        rw [forceL_eq] at hp4
        obtain ⟨n, k, env, own⟩ := st
        simp only [forceL_eq] at hp4
        have hok := cellsOf_ok hc (ev_eval ha hy).2
        have hone : ∀ c, c ∈ vs → (denC L c).oneCell' = true := fun c hcm => storable_one hm (List.all_eq_true.1 hst c hcm) (hok c hcm)
        obtain ⟨b, hb, hh, hcs⟩ := own_cells hm ho
        have hnewok : ∀ c, c ∈ cs.take off ++ vs ++ cs.drop (off + vs.length) → OkC h c := fun c hcm => by
          rcases List.mem_append.1 hcm with hcm | hcm
          · rcases List.mem_append.1 hcm with hcm | hcm
            · exact hcs c (List.mem_of_mem_take hcm)
            · exact hok c hcm
          · exact hcs c (List.mem_of_mem_drop hcm)
        have hm' := mem_set hm ho hnewok hb
        have hb1 := (obOk_lt (hm.obs i _ ho) (b := b) (by rw [hb]; rfl)).2.1
        refine skip_upon (w' := w.setRow b ((cs.take off ++ vs ++ cs.drop (off + vs.length)).map (denC L)).toArray) ?_ ?_
        · have ex : a.eval p = .pointer (some ⟨b, off, none⟩) := by
            refine (ev_eval ha hx).1.trans ?_
            simp [den, den1, denC, hb, ptrAt, addr_plain]
          have ey := (ev_eval ha hy).1
          have hcells := cellsOf_den hc hone
          have hrun := run_storeCells_at (P := P) b off u (vs.map (denC L)) 0 _ w hh (by simp; omega) (fun v hv => by
            obtain ⟨c, hcm, rfl⟩ := List.mem_map.1 hv
            exact hone c hcm)
          simp only [execOp, ex, ey, Instr.storeAt, Instr.sureAddr, storeVar, Sem.run_bind, Sem.run_pure, Result.andThen_ok, (hT _ _ hl).size, hcells]
          simp only [List.size_toArray, List.length_map, hlen, ne_eq, not_true_eq_false, if_false]
          simp [hrun, hlen, List.map_take, List.map_drop]
        · subst hd
          exact ⟨St.set ⟨n, k, env, own⟩ i (some (.cells u (cs.take off ++ vs ++ cs.drop (off + vs.length)))), ⟨⟨L, h, hm', agree_more ha (fun _ _ => rfl) (Sub.refl h) rfl rfl, hsub, hnew⟩, keep_row hk hb1 _⟩, hp4⟩
      · exact hp.elim
    · exact hp.elim
  · rename_i f args ts
    split at hp
    · rename_i avs0 fz hx0 hf
      obtain ⟨st, hs, hp⟩ := frzL_sat _ st hp hs0
      split at hp
      · rename_i avs hx
        clear hm ha hsub hnew hk
        obtain ⟨⟨L, h, hm, ha, hsub, hnew⟩, hk⟩ := hs
        have hc := hp
        obtain ⟨n, k, env, own⟩ := st
        simp only at hc
        obtain ⟨h1, h2⟩ := argsOf_ok ha hx
        have hcall := hc.out (mineOf may w0) L h w hm (fun b hb => .inr (Nat.le_trans hk.size hb)) h2
        have hargs : args.map a.eval = (avs.map (den L)).toArray := by
          apply Array.ext'
          rw [Array.toList_map, h1]
        have hrun : (execOp a.eval { dst := dst, op := .call { callee := .value (.func f), args := args, argTypes := ts }, type := ty, pos := pos, after := after, guard := guard }).run P w = .ok (.enter f (avs.map (den L)).toArray) w := by
          have he := hF f fz hf (avs.map (den L)).toArray w
          unfold execOp
          simp [resolve, Deferred.ofValue, invoke, Act.eval, hargs, he]
        unfold Oper.wp
        rw [hrun, Oper.upon_enter]
        refine hcall.mono ?_
        rintro e w' ⟨r, L', h', own', rfl, k2, k3, k4, k5, k6, k7, k8, k9⟩
        have hk' : Keep may w0 w' := by
          refine ⟨k4.os.trans hk.os, k4.tape.trans hk.tape, k4.output.trans hk.output, Nat.le_trans hk.size k4.size, fun k hlt hno => ?_⟩
          rw [k4.block k (Nat.lt_of_lt_of_le hlt hk.size) (fun ⟨i, ob, hi, hb⟩ => by
            have := (obOk_lt (hm.obs i ob hi) hb).2.1
            rcases this with h3 | h3
            · exact hno h3
            · omega)]
          exact hk.block k hlt hno
        have ha' : Agree L' h' ⟨n, k, env, own'⟩ a := agree_more ha k2 k5 rfl rfl
        exact put_sat (st := ⟨n, k, env, own'⟩) k3 ha' (hsub.step k2 k5) (fun k hk2 => by
          rcases k6 k hk2 with h3 | h3 | ⟨i, ob, hi, hb⟩
          · exact hnew k h3
          · exact .inr (.inr (Nat.le_trans hk.size h3))
          · exact .inr (obOk_lt (hm.obs i ob hi) hb).2.1) hk' k8 k9
      · exact hp.elim
    · exact hp.elim
  · rename_i t len parts
    split at hp
    · rename_i ti l0 hl hl0
      split at hp
      · rename_i e hd
        split at hp
        · rename_i te hle
          obtain ⟨st, hs, hp⟩ := frzL_sat _ st hp hs0
          split at hp
          · rename_i l hpl
            split at hp
            · rename_i xs hrc
              obtain ⟨q1, hp⟩ := ifD_and hp
              obtain ⟨q2, hp⟩ := ifD_and hp
              obtain ⟨q3, hp⟩ := ifD_and hp
              obtain ⟨q4, hp⟩ := ifD_and hp
              clear hm ha hsub hnew hk
              obtain ⟨⟨L, h, hm, ha, hsub, hnew⟩, hk⟩ := hs
              obtain ⟨n, k, env, own⟩ := st
              simp only [forceN_eq, forceL_eq] at hp
              obtain ⟨p1, p2⟩ := partsOf_ok ha hpl
              obtain ⟨r1, r2, r3, r4, r5⟩ := rowC_ok (L := L) hrc p2
              have hte := hT _ _ hle
              have hu := (hT _ _ hl).und
              rw [hd] at hu
              have hi := hte.info
              cases hinfo : P.info? e with
              | none => rw [hinfo] at hi; cases hi
              | some ie =>
              rw [hinfo] at hi
              simp only [Option.map_some, Option.some.injEq, Prod.mk.injEq] at hi
              obtain ⟨i1, i2, i3⟩ := hi
              have hszp : 0 < te.size := by
                rcases Nat.eq_zero_or_pos te.size with h0 | h0
                · rw [h0] at q2; simp at q2
                · exact h0
              have hpe : (parts.map fun (i, x) => (i, a.eval x)).toList = ((l.map fun x => den L x.2).zipIdx 0).map fun x => (x.2, x.1) := by
                rw [Array.toList_map, ← r2, ← p1]
              have hfill := Go.Great.fill_whole (s := te.size) hszp (l.map fun x => den L x.2) ((Array.range (len * te.size)).map (te.zero.cells[· % te.zero.cells.size]!)) r4 (by simp [q1])
              have hrun := run_buildSlice (P := P) w t e len (parts.map fun (i, x) => (i, a.eval x)) (xs.flatten.map (denC L)).toArray ie te.zero hu hinfo i1 (by rw [i2]; omega) (by rw [i2]; omega) (by rw [i2, hpe, hfill, r5])
              have hb : h.m w.heap.size = none := hp_new hm.hsub (Nat.le_refl _)
              have hL : ∀ i, i < h.n → upd L own.length (.slice (some ⟨w.heap.size, 0, none⟩) len len) i = L i := fun i hi => by
                have := hm.hn
                have : h.n = own.length := this
                unfold upd
                rw [if_neg (by omega)]
              have hm' : Mem (mineOf may w0) (upd L own.length (.slice (some ⟨w.heap.size, 0, none⟩) len len)) (h.more 1) (own ++ [some (.row e te.size xs)]) (w.alloc (.cells (xs.flatten.map (denC L)).toArray e)) := by
                refine mem_push hm (fun k hlt => Below.heap_alloc w _ k hlt) ⟨?_, fun b hb2 => ?_, fun y hy => ⟨(r3 y hy).1, fun c hc => ⟨((r3 y hy).2 c hc).1, ((r3 y hy).2 c hc).2.sub (sub_more h 1)⟩⟩⟩ (fun b hb => by cases hb; exact Nat.le_refl _)
                · have e1 : xs.flatten.map (denC (upd L own.length (.slice (some ⟨w.heap.size, 0, none⟩) len len))) = xs.flatten.map (denC L) := List.map_congr_left (fun c hc => by
                    obtain ⟨y, hy, hcy⟩ := List.mem_flatten.1 hc
                    exact denC_closed ((r3 y hy).2 c hcy).1 _ _)
                  have hfl : xs.flatten.length = xs.length * te.size := flatten_len (fun y hy => (r3 y hy).1)
                  have hxl : xs.length = len := by rw [r1, q1]
                  have hlen : len ≤ len * te.size := Nat.le_mul_of_pos_right _ hszp
                  refine ⟨by rw [List.length_map, hfl], .inr ⟨w.heap.size, len, _, by rw [hxl], Nat.zero_le _, heap_alloc_at w _, by omega, by unfold maxLen; omega, by rw [List.size_toArray, List.length_map, hfl, hxl], ?_⟩⟩
                  rw [e1, ← hfl]; exact List.take_of_length_le (Nat.le_of_eq (List.length_map _))
                · cases hb2
                  exact ⟨hb, .inr hk.size⟩
              have ha' : Agree (upd L own.length (.slice (some ⟨w.heap.size, 0, none⟩) len len)) (h.more 1) ⟨n, k, env, own ++ [some (.row e te.size xs)]⟩ a := agree_more ha hL (sub_more h 1) rfl rfl
              have := put_sat (st := ⟨n, k, env, own ++ [some (.row e te.size xs)]⟩) hm' ha' (hsub.step hL (sub_more h 1)) hnew (keep_push hk _) (av := .c (.row own.length)) (OkC.row _ (by have : h.n = own.length := hm.hn; simp [Hp.more, this])) hp
              have ed : den (upd L own.length (.slice (some ⟨w.heap.size, 0, none⟩) len len)) (.c (.row own.length)) = .slice (some ⟨w.heap.size, 0, none⟩) len len := by simp [den, den1, denC, upd]
              rw [ed] at this
              refine value_upon ?_ this
              unfold execOp
              simp only [Sem.run_bind, hrun, Result.andThen_ok]
              rfl
            · exact hp.elim
          · exact hp.elim
        · exact hp.elim
      · exact hp.elim
    · exact hp.elim
  · rename_i args ts
    split at hp
    · rename_i x y t tx hargs hts
      have hargs' : args = #[x, y] := by apply Array.ext'; simpa using hargs
      have hts' : ts = #[t, tx] := by apply Array.ext'; simpa using hts
      subst hargs' hts'
      split at hp
      · rename_i ti tj av aw hl hlx hx hy
        split at hp
        · rename_i e hd
          split at hp
          · rename_i te hle
            split at hp
            · rename_i oi xs ys ho hn
              obtain ⟨⟨b1, b2⟩, hp⟩ := hp
              obtain ⟨hz, hp⟩ := ifD_and hp
              obtain ⟨n, k, env, own⟩ := st
              simp only [forceN_eq, forceL_eq] at hp
              have hu := (hT _ _ hl).und
              rw [hd] at hu
              obtain ⟨x1, x2⟩ := ev_eval ha hx
              obtain ⟨y1, y2⟩ := ev_eval ha hy
              obtain ⟨n1, n2⟩ := newsOf_ok hm (hT _ _ hlx).und y2 hn
              obtain ⟨v', w', r1, r2, r3, r4, r5, r6, r7⟩ := append_mem hT hm (fun b hb => .inr (Nat.le_trans hk.size hb)) (ty := ty) (hT _ _ hle) hu hz ho n1 n2 b1 b2
              have hL : ∀ i, i < h.n → upd L own.length v' i = L i := fun i hi => by
                have : h.n = own.length := hm.hn
                unfold upd
                rw [if_neg (by omega)]
              have ha' : Agree (upd L own.length v') (h.more 1) ⟨n, k, env, without own oi ++ [some (.row e te.size (xs ++ ys))]⟩ a := agree_more ha hL (sub_more h 1) rfl rfl
              have hk' : Keep may w0 w' := ⟨r3.trans hk.os, r4.trans hk.tape, r5.trans hk.output, Nat.le_trans hk.size r6, fun k hlt hno => by
                rw [r7 k (Nat.lt_of_lt_of_le hlt hk.size) (fun hmk => by rcases hmk with h3 | h3; exact hno h3; omega)]
                exact hk.block k hlt hno⟩
              have := put_sat (st := ⟨n, k, env, without own oi ++ [some (.row e te.size (xs ++ ys))]⟩) r2 ha' (hsub.step hL (sub_more h 1)) hnew hk' (av := .c (.row own.length)) (OkC.row _ (by have : h.n = own.length := hm.hn; simp [Hp.more, this])) hp
              have ed : den (upd L own.length v') (.c (.row own.length)) = v' := by simp [den, den1, denC, upd]
              rw [ed] at this
              refine value_upon ?_ this
              simp only [execOp, resolve, invoke, builtin, Sem.run_bind, Sem.run_pure, Result.andThen_ok, List.map_toArray, List.map_cons, List.map_nil, x1, y1, r1]
            · exact hp.elim
          · exact hp.elim
        · exact hp.elim
      · exact hp.elim
    · exact hp.elim
  · obtain ⟨av, h1, h2, h3⟩ := aop_ok hT ha w hm (o := ⟨dst, op, ty, pos, after, guard⟩) hp
    exact value_upon (h3 w hm) (put_sat hm ha hsub hnew hk h2 h1)
end
end Go.Eng
