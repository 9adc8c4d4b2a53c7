/- A part of the proof: what the functions of the program come to, told by a small reckoner of states. -/
import Derived.Test.YteglopjljejjkaaDoorA13
set_option linter.unusedVariables false
set_option linter.unusedSimpArgs false
namespace Go.Eng
open Go Go.RowKit

def flat : AV → Bool
  | .tup _ => false
  | .top => false
  | _ => true
def res1 (T : TT) (st : St) (rv : ResultVar) (K : AV → Prop) : Prop :=
  match rv with
  | .tmp t => match st.env.lookup t with
    | some a => ifD (flat a = true) (K a)
    | none => False
  | .cell p ty => match st.env.lookup p with
    | some (.c c) => loadP T st ty c (fun a => ifD (flat a = true) (K a))
    | _ => False
def resL (T : TT) (st : St) (l : List ResultVar) : (List AV → Prop) → Prop :=
  List.rec (motive := fun _ => (List AV → Prop) → Prop) (fun K => K []) (fun r _ ih K => res1 T st r (fun a => ih (fun l => K (a :: l)))) l
def retV : List AV → AV
  | [a] => a
  | l => .tup l
/-- What is handed back: of one result itself, of more the tuple; it holds nothing of the call's own. -/
def retK (Q : AV → Prop) (l : List AV) : Prop :=
  match l with
  | [a] => ifD (cloA a = true) (Q a)
  | l => ifD (cloA (.tup l) = true) (Q (.tup l))
theorem retK_eq {Q : AV → Prop} {l : List AV} (h : retK Q l) : cloA (retV l) = true ∧ Q (retV l) := by
  match l, h with
  | [], h => exact ifD_and (p := cloA (.tup []) = true) h
  | [a], h => exact ifD_and (p := cloA a = true) h
  | a :: b :: r, h => exact ifD_and (p := cloA (.tup (a :: b :: r)) = true) h
/-- The own objects that cells lead to. -/
def ownsC (own : List (Option Ob)) : List IC → List Nat
  | [] => []
  | .row j :: r => j :: ownsC own r
  | .own j _ :: r => (match own[j]? with | some (some (.cells _ cs)) => rowsC cs ++ [j] | _ => []) ++ ownsC own r
  | .ifc _ (.own j _) :: r => (match own[j]? with | some (some (.cells _ cs)) => rowsC cs ++ [j] | _ => []) ++ ownsC own r
  | _ :: r => ownsC own r
def ownsA (own : List (Option Ob)) : AV → List Nat
  | .c x => ownsC own [x]
  | .agg xs => ownsC own xs
  | .tup _ => []
  | .top => []
/-- The own objects that a function's results lead to. -/
def resOwns (st : St) : List ResultVar → List Nat
  | [] => []
  | .tmp t :: r => (match st.env.lookup t with | some a => ownsA st.own a | none => []) ++ resOwns st r
  | .cell p _ :: r => (match st.env.lookup p with
    | some (.c (.own i _)) => (match st.own[i]? with | some (some (.cells _ cs)) => ownsC st.own cs | _ => [])
    | _ => []) ++ resOwns st r
def env0 (args : List AV) : List (Nat × AV) := args.zipIdx.map fun x => (x.2, x.1)
section
variable {P : Program} {T : TT} {FF : FL} {mine may : Nat → Prop} {L : Nat → Value} {F : Nat → Nat → Prop} {h : Hp} {st : St} {a : Act} {w w0 : World}
theorem ldP_mono {t : TypeId} {cs : List IC} {K K' : AV → Prop} (hk : ∀ a, K a → K' a) (h : ldP T t cs K) : ldP T t cs K' := by
  unfold ldP at *
  split at h
  · split at h
    · have := ifD_and h
      unfold ifD at *
      split <;> simp_all
    · split at h
      · exact hk _ h
      · exact h
  · exact h
theorem ifD_mk {p : Prop} [d : Decidable p] {x : Prop} (hp : p) (hx : x) : ifD p x := by
  unfold ifD
  rw [decide_eq_true hp]
  exact hx
theorem loadP_mono {t : TypeId} {c : IC} {K K' : AV → Prop} (hk : ∀ a, K a → K' a) (h : loadP T st t c K) : loadP T st t c K' := by
  unfold loadP at *
  split at h
  · split at h
    · exact ldP_mono hk h
    · exact h
  · exact ldP_mono hk h
  · split at h
    · have := ifD_and h
      exact ifD_mk this.1 (ldP_mono hk this.2)
    · have := ifD_and h
      exact ifD_mk this.1 ⟨this.2.1, ldP_mono hk this.2.2⟩
    · exact h
  · exact h
theorem res1_mono {rv : ResultVar} {K K' : AV → Prop} (hk : ∀ a, K a → K' a) (h : res1 T st rv K) : res1 T st rv K' := by
  unfold res1 at *
  split at h
  · split at h
    · have := ifD_and h
      exact ifD_mk this.1 (hk _ this.2)
    · exact h
  · split at h
    · exact loadP_mono (fun a ha => by have := ifD_and ha; exact ifD_mk this.1 (hk _ this.2)) h
    · exact h
theorem resL_mono : ∀ {rs : List ResultVar} {K K' : List AV → Prop}, (∀ l, K l → K' l) → resL T st rs K → resL T st rs K'
  | [], K, K', hk, h => hk _ h
  | r :: rs, K, K', hk, h => res1_mono (fun a ha => resL_mono (fun l hl => hk _ hl) ha) h
theorem flat_den {av : AV} {v : Value} (hf : flat av = true) (hd : DenA L h av v) : Den1 L h av v := by cases av <;> first | exact hd | cases hf
theorem den_flat {av : AV} {v : Value} (hd : Den1 L h av v) : DenA L h av v := by cases av <;> first | exact hd | exact hd.elim
theorem load_addr {c : IC} {K : AV → Prop} {p : Value} {t : TypeId} (hd : Den L h c p) (hp : loadP T st t c K) : ∃ ad, p = .pointer (some ad) := by
  unfold loadP at hp
  cases hd <;> first | exact ⟨_, rfl⟩ | exact hp.elim
theorem res1_ok (hT : TTok P T) (hm : Mem mine L F h st.own w) (ha : Agree L h st a) {rv : ResultVar} {K : AV → Prop} (hp : res1 T st rv K) : ∃ av v, K av ∧ Den1 L h av v ∧ flat av = true ∧
    ∀ (f : ResultVar → Sem Value), (∀ u, f (.tmp u) = pure (a.tmps.getD u undef)) → (∀ p t, f (.cell p t) = (do loadVar t (← asAddr (a.tmps.getD p undef)))) → (f rv).run P w = .ok v w := by
  unfold res1 at hp
  split at hp
  · split at hp
    · rename_i t av hl
      have h1 := ha.env _ _ hl
      have hp := ifD_and hp
      refine ⟨av, _, hp.2, flat_den hp.1 h1, hp.1, fun f hf _ => ?_⟩
      rw [hf]
      rfl
    · exact hp.elim
  · rename_i p ty
    split at hp
    · rename_i c hl
      have hd : Den L h c _ := ha.env _ _ hl
      obtain ⟨av, v, hK0, h2, h3⟩ := load_ok hT hm hd hp
      obtain ⟨hfl, hK⟩ := ifD_and hK0
      obtain ⟨ad, e⟩ := load_addr hd hp
      refine ⟨av, v, hK, flat_den hfl h2, hfl, fun f _ hf => ?_⟩
      have := h3 w (fun _ _ => rfl)
      rw [hf]
      rw [e] at this ⊢
      simp only [Instr.loadAt, Instr.sureAddr, Sem.run_bind, Sem.run_pure, Result.andThen_ok] at this ⊢
      simp only [asAddr, Sem.run_pure, Result.andThen_ok]
      exact this
    · exact hp.elim
theorem resL_ok (hT : TTok P T) (hm : Mem mine L F h st.own w) (ha : Agree L h st a) : ∀ (rs : List ResultVar) (K : List AV → Prop), resL T st rs K → ∃ l vs, K l ∧ l.length = vs.length ∧ (∀ (j : Nat) av v, l[j]? = some av → vs[j]? = some v → Den1 L h av v ∧ flat av = true) ∧
    ∀ (f : ResultVar → Sem Value), (∀ u, f (.tmp u) = pure (a.tmps.getD u undef)) → (∀ p t, f (.cell p t) = (do loadVar t (← asAddr (a.tmps.getD p undef)))) → (rs.mapM f).run P w = .ok vs w
  | [], K, hp => ⟨[], [], hp, rfl, (fun j av v hj => by simp at hj), fun f _ _ => by simp⟩
  | r :: rs, K, hp => by
    obtain ⟨av, v, h1, h2, h3, h4⟩ := res1_ok hT hm ha hp
    obtain ⟨l, vs, k1, k0, k2, k3⟩ := resL_ok hT hm ha rs _ h1
    refine ⟨av :: l, v :: vs, k1, by simp [k0], fun j av' v' hj hv => ?_, fun f hf hc => ?_⟩
    · cases j with
      | zero => simp at hj hv; subst hj hv; exact ⟨h2, h3⟩
      | succ j => simp at hj hv; exact k2 j av' v' hj hv
    · rw [List.mapM_cons]
      simp [h4 f hf hc, k3 f hf hc]
theorem results_ok (hT : TTok P T) (hm : Mem mine L F h st.own w) (ha : Agree L h st a) {fn : Func} {Q : AV → Prop} (hp : resL T st fn.results.toList (fun l => Q (retV l))) : ∃ r v, Q r ∧ DenA L h r v ∧ (results fn a.tmps).run P w = .ok v w := by
  obtain ⟨l, vs, h1, h0, h2, h3⟩ := resL_ok hT hm ha _ _ hp
  have hrun : (results fn a.tmps).run P w = .ok (if hl : vs.toArray.size = 1 then vs.toArray[0] else .tuple vs.toArray) w := by
    unfold results
    rw [show fn.results = fn.results.toList.toArray from by simp, List.mapM_toArray]
    simp only [Sem.run_bind, Sem.run_map]
    rw [h3]
    · simp
    · intro u; rfl
    · intro p t; rfl
  refine ⟨_, _, h1, ?_, hrun⟩
  match l, vs, h0, h2 with
  | [], [], _, _ => exact ⟨[], rfl, rfl, fun j a u ha => by simp at ha⟩
  | [x], [v], _, h2 => exact den_flat (h2 0 x v rfl rfl).1
  | x :: y :: l, v :: u :: vs, h0, h2 => exact ⟨_, rfl, h0, fun j a' u' ha hu => (h2 j a' u' ha hu).1⟩
theorem lookup_env0 (args : List AV) (t : Nat) : ∀ (k : Nat), ((args.zipIdx k).map fun x => (x.2, x.1)).lookup t = if k ≤ t then args[t - k]? else none := by
  induction args with
  | nil => intro k; simp
  | cons x r ih =>
    intro k
    rw [List.zipIdx_cons, List.map_cons, List.lookup_cons]
    by_cases e : t = k
    · subst e; simp
    · have e' : (t == k) = false := by simpa using e
      rw [e']
      simp only
      rw [ih (k + 1)]
      by_cases hk : k + 1 ≤ t
      · rw [if_pos hk, if_pos (by omega)]
        have : t - k = (t - (k + 1)) + 1 := by omega
        rw [this, List.getElem?_cons_succ]
      · rw [if_neg hk, if_neg (by omega)]
theorem agree0 {args : List AV} {vs : List Value} {n : Nat} (hn : args.length ≤ n) (hd : DenAs L h args vs) (k : Nat) (own : List (Option Ob)) : Agree L h ⟨n, k, env0 args, own⟩ { tmps := vs.toArray ++ Array.replicate (n - vs.toArray.size) undef, defers := [] } := by
  have hl := hd.len
  refine ⟨by simp; omega, fun t av hl => ?_, rfl⟩
  unfold env0 at hl
  simp only [lookup_env0 args t 0, Nat.zero_le, if_true, Nat.sub_zero] at hl
  have hlt := (List.getElem?_eq_some_iff.1 hl).1
  have hlv : t < vs.length := by omega
  rw [Array.getD_eq_getD_getElem?, Array.getElem?_append_left (by simpa using hlv)]
  simp [hlv]
  exact hd.den t av _ hl (by simp [hlv])
/-- A function that is handed own objects. -/
theorem callV_own [HasGl P] {own : List (Option Ob)} {f : FuncId} {fn : Func} {c : Code} (hf : P.funcs[f]? = some fn) (hb : fn.body = some c) (hT : TTok P T) (hF : FTok P FF) {args : List AV} {n : Nat} (hnn : fn.ntmps = n) {rs : List ResultVar} (hrs : fn.results.toList = rs) {env : List (Nat × AV)} (henv : env0 args = env) (hn : args.length ≤ n) {k : Nat} (hk : own.length = k) {Q : AV → List (Option Ob) → Prop}
    (hv : vc P T FF c (fun e st' => match e with | .exit _ => False | _ => ∃ st1, Weak st' st1 ∧ resL T st1 rs (fun l => ∃ ob, headOk k ob = true ∧ nodupB ob = true ∧ Q (sbA (up (renT ob)) (retV l)) (ob.map (pickOwn st1.own (up (renT ob)))))) ⟨n, k, env, own⟩) : CallV P f args own Q := by
  subst hnn hrs henv hk
  refine ⟨fun mine L F h w vs hgl hm hden => ?_⟩
  have hm0 : Mem (mineOf (footOf F own) w) L F h own w := hm.mine_mono (fun b hb => .inl hb)
  have hs : Sat (footOf F own) w (⟨h, L, hgl⟩ : Base P) ⟨fn.ntmps, own.length, env0 args, own⟩ { tmps := vs.toArray ++ Array.replicate (fn.ntmps - vs.toArray.size) undef, defers := [] } w :=
    ⟨⟨L, F, h, hm0, agree0 hn hden own.length own, ⟨Sub.refl h, fun _ _ => rfl, hm.hn.symm⟩, fun k hk => .inl hk⟩, Keep.refl _ w⟩
  refine calls_of_wp hf hb (Code.wp_mono (fun e a' w' hh => ?_) (vc_ok hT hF c _ _ _ _ hv hs))
  obtain ⟨e', st0, rfl, hs1, he⟩ := hh
  have hr : ∃ st1, Weak st0 st1 ∧ resL T st1 fn.results.toList (fun l => ∃ ob, headOk own.length ob = true ∧ nodupB ob = true ∧ Q (sbA (up (renT ob)) (retV l)) (ob.map (pickOwn st1.own (up (renT ob))))) := by
    cases e' with
    | normal => exact he
    | exit i => exact he.elim
    | ret => exact he
  obtain ⟨st1, hw, hr⟩ := hr
  obtain ⟨⟨L', F', h', hm', ha', hsub, hnew'⟩, hk⟩ := hw.out _ _ _ _ _ hs1
  obtain ⟨r, v, ⟨ob, ho1, ho2, hQ⟩, hd, hrun⟩ := results_ok (Q := fun r => ∃ ob, headOk own.length ob = true ∧ nodupB ob = true ∧ Q (sbA (up (renT ob)) r) (ob.map (pickOwn st1.own (up (renT ob))))) hT hm' ha' hr
  have hkk : st1.k = own.length := by rw [hsub.kk]; exact hm.hn
  have hsub2 := subB_norm (by rw [hkk]; exact ho1) hsub
  have fin : a'.defers = [] ∧ ∃ v, (results fn a'.tmps).run P w' = .ok v w' ∧ ∃ (r : AV) (u : Value) (L' : Nat → Value) (F' : Nat → Nat → Prop) (h' : Hp) (own' : List (Option Ob)), Ending.returned v = .returned u ∧ DenA L' h' r u ∧ (∀ i, i < h.n → L' i = L i) ∧ Mem (mineOf (footOf F own) w) L' F' h' own' w' ∧
      Keep (footOf F own) w w' ∧ Sub h h' ∧ (∀ k, h'.m k ≠ none → h.m k ≠ none ∨ mineOf (footOf F own) w k) ∧ Q r own' :=
    ⟨ha'.defers, _, hrun, _, v, _, _, _, _, rfl, (renU_ok L' h' ob).denA hd, hsub2.at_, mem_norm ho2 hm', hk, hsub2.sub, hnew', hQ⟩
  cases e' with
  | normal => exact fin
  | exit i => exact he.elim
  | ret => exact fin
/-- A function that is handed nothing of its own, and hands back nothing of its own. -/
theorem callV_pure [HasGl P] {f : FuncId} {fn : Func} {c : Code} (hf : P.funcs[f]? = some fn) (hb : fn.body = some c) (hT : TTok P T) (hF : FTok P FF) {args : List AV} {n : Nat} (hnn : fn.ntmps = n) {rs : List ResultVar} (hrs : fn.results.toList = rs) {env : List (Nat × AV)} (henv : env0 args = env) (hn : args.length ≤ n) {Q : AV → Prop}
    (hv : vc P T FF c (fun e st' => match e with | .exit _ => False | _ => frzL (resOwns st' rs) st' fun st' => resL T st' rs (retK Q)) ⟨n, 0, env, []⟩) : CallV P f args [] (fun r own' => own' = [] ∧ Q r) := by
  subst hnn hrs henv
  refine ⟨fun mine L F h w vs hgl hm hden => ?_⟩
  have hm0 : Mem (mineOf (footOf F []) w) L F h [] w := hm.mine_mono (fun b hb => .inl hb)
  have hs : Sat (footOf F []) w (⟨h, L, hgl⟩ : Base P) ⟨fn.ntmps, 0, env0 args, []⟩ { tmps := vs.toArray ++ Array.replicate (fn.ntmps - vs.toArray.size) undef, defers := [] } w :=
    ⟨⟨L, F, h, hm0, agree0 hn hden 0 [], ⟨Sub.refl h, fun _ _ => rfl, hm.hn.symm⟩, fun k hk => .inl hk⟩, Keep.refl _ w⟩
  refine calls_of_wp hf hb (Code.wp_mono (fun e a' w' hh => ?_) (vc_ok hT hF c _ _ _ _ hv hs))
  obtain ⟨e', st0, rfl, hs1, he⟩ := hh
  have hr0 : frzL (resOwns st0 fn.results.toList) st0 (fun st' => resL T st' fn.results.toList (retK Q)) := by
    cases e' with
    | normal => exact he
    | exit i => exact he.elim
    | ret => exact he
  obtain ⟨st', ⟨⟨L', F', h', hm', ha', hsub, hnew'⟩, hk⟩, hr⟩ := frzL_sat _ st0 hr0 hs1
  obtain ⟨r, v, ⟨hcl, hQ⟩, hd, hrun⟩ := results_ok (Q := fun r => cloA r = true ∧ Q r) hT hm' ha' (resL_mono (fun l h => retK_eq h) hr)
  have h0n : h.n = 0 := hm.hn
  have fin : a'.defers = [] ∧ ∃ v, (results fn a'.tmps).run P w' = .ok v w' ∧ ∃ (r : AV) (u : Value) (L' : Nat → Value) (F' : Nat → Nat → Prop) (h' : Hp) (own' : List (Option Ob)), Ending.returned v = .returned u ∧ DenA L' h' r u ∧ (∀ i, i < h.n → L' i = L i) ∧ Mem (mineOf (footOf F []) w) L' F' h' own' w' ∧
      Keep (footOf F []) w w' ∧ Sub h h' ∧ (∀ k, h'.m k ≠ none → h.m k ≠ none ∨ mineOf (footOf F []) w k) ∧ own' = [] ∧ Q r :=
    ⟨ha'.defers, _, hrun, r, v, L', F', ⟨h'.m, 0⟩, [], rfl, hd.clo 0 hcl, fun i hi => by omega, ⟨rfl, hm'.hsub, fun i ob hi => by simp at hi, fun i ob b hi => by simp at hi, fun i j oi oj b hi => by simp at hi⟩, hk, ⟨hsub.sub.m, by rw [h0n]; exact Nat.le_refl _⟩, hnew', rfl, hQ⟩
  cases e' with
  | normal => exact fin
  | exit i => exact he.elim
  | ret => exact fin
theorem not_foot_nil {b : Nat} : ¬ footOf F [] b := fun ⟨i, ob, hi, _⟩ => by simp at hi
theorem denAs_clo {args : List AV} {vs : List Value} {L' : Nat → Value} (hd : DenAs L h args vs) (n' : Nat) (hcl : args.all cloA = true) : DenAs L' ⟨h.m, n'⟩ args vs :=
  ⟨hd.len, fun j a v hj hv => (hd.den j a v hj hv).clo n' (List.all_eq_true.1 hcl a (List.mem_of_getElem? hj))⟩
/-- A call of a function that changes nothing, beside own objects. -/
theorem call_pure [HasGl P] {f : FuncId} {args : List AV} {Q : AV → Prop} (hc : CallV P f args [] (fun r own' => own' = [] ∧ Q r)) (hcl : args.all cloA = true) {own : List (Option Ob)} {K : AV → List (Option Ob) → Prop} (hK : ∀ r, Q r → K r own) : CallV P f args own K := by
  refine ⟨fun mine L F h w vs hgl hm hden => ?_⟩
  have := hc.out mine L F ⟨h.m, 0⟩ w vs hgl ⟨rfl, hm.hsub, fun i ob hi => by simp at hi, fun i ob b hi => by simp at hi, fun i j oi oj b hi => by simp at hi⟩ (denAs_clo hden 0 hcl)
  refine this.mono ?_
  rintro e w' ⟨r, v, L', F', h', own', h1, h2, h3, h4, h5, h6, h7, rfl, hQ⟩
  have hn0 : h'.n = 0 := h4.hn
  have hkeep : ∀ k, k < w.heap.size → w'.heap[k]? = w.heap[k]? := fun k hk => h5.block k hk not_foot_nil
  have hsub : Sub h ⟨h'.m, h.n⟩ := ⟨h6.m, Nat.le_refl _⟩
  have hs2 : Sub h' ⟨h'.m, h.n⟩ := ⟨fun _ _ e => e, by rw [hn0]; exact Nat.zero_le _⟩
  refine ⟨r, v, L, F, ⟨h'.m, h.n⟩, own, h1, h2.mono hs2 (fun i hi => by omega), fun _ _ => rfl, ⟨hm.hn, h4.hsub, fun i ob hi => obOk_move (hm.obs i ob hi) (fun b hb => hkeep b (hm.foot i ob b hi hb).1) (fun _ _ => rfl) hsub, fun i ob b hi hb => ?_, hm.dis⟩, ⟨h5.os, h5.tape, h5.output, h5.size, fun k hk _ => hkeep k hk⟩, hsub, (fun k hk2 => by
      rcases h7 k hk2 with h9 | h9 | h9
      · exact .inl h9
      · exact absurd h9 not_foot_nil
      · exact .inr (.inr h9)), hK r hQ⟩
  have hlt := (hm.foot i ob b hi hb)
  refine ⟨Nat.lt_of_lt_of_le hlt.1 h5.size, ?_, .inl ⟨i, ob, hi, hb⟩⟩
  cases hx : h'.m b with
  | none => rfl
  | some o =>
    rcases h7 b (by rw [hx]; simp) with h9 | h9 | h9
    · exact absurd hlt.2.1 h9
    · exact absurd h9 not_foot_nil
    · omega
/-- The world is left as it was but for what is new. -/
theorem pure_calls [HasGl P] {f : FuncId} {args : List AV} {Q : AV → Prop} (hc : CallV P f args [] (fun r own' => own' = [] ∧ Q r)) (m : Nat → Option Obj) (hgl : HasGl.ok P m) (w : World) (hs : ∀ k o, m k = some o → w.heap[k]? = some o) {vs : List Value} (hd : DenAs (fun _ => undef) ⟨m, 0⟩ args vs) :
    Calls P f vs.toArray w fun e w' => ∃ (r : AV) (v : Value) (L : Nat → Value) (h' : Hp), e = .returned v ∧ DenA L h' r v ∧ Below w.heap.size w w' ∧ Sub ⟨m, 0⟩ h' ∧ (∀ k o, h'.m k = some o → w'.heap[k]? = some o) ∧ Q r := by
  have := hc.out (fun _ => True) (fun _ => undef) (fun _ _ => False) ⟨m, 0⟩ w vs hgl ⟨rfl, hs, fun i ob hi => by simp at hi, fun i ob b hi => by simp at hi, fun i j oi oj b hi => by simp at hi⟩ hd
  refine this.mono ?_
  rintro e w' ⟨r, v, L', F', h', own', h1, h2, h3, h4, h5, h6, h7, rfl, hQ⟩
  exact ⟨r, v, L', h', h1, h2, ⟨h5.os, h5.tape, h5.output, h5.size, fun k hk => h5.block k hk not_foot_nil⟩, h6, h4.hsub, hQ⟩
end
end Go.Eng
