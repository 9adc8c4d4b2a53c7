/- A part of the proof: what the functions of the program come to, told by a small reckoner of states. -/
import Derived.Test.YteglopjljejjkaaEng6
set_option linter.unusedVariables false
set_option linter.unusedSimpArgs false
namespace Go.Eng
open Go Go.RowKit

def flat : AV → Bool
  | .tup _ => false
  | _ => true
def res1 (T : TT) (st : St) (rv : ResultVar) (K : AV → Prop) : Prop :=
  match rv with
  | .tmp t => match st.env.lookup t with
    | some a => ifD (flat a = true) (K a)
    | none => False
  | .cell p ty => match st.env.lookup p with
    | some (.c (.own i off)) => match st.own[i]? with
      | some (some (.cells _ cs)) => ldP T ty (cs.drop off) (fun a => ifD (flat a = true) (K a))
      | _ => False
    | _ => False
def resL (T : TT) (st : St) (l : List ResultVar) : (List AV → Prop) → Prop :=
  List.rec (motive := fun _ => (List AV → Prop) → Prop) (fun K => K []) (fun r _ ih K => res1 T st r (fun a => ih (fun l => K (a :: l)))) l
def retV : List AV → AV
  | [a] => a
  | l => .tup l
/-- What is handed back: of one result itself, of more the tuple. -/
def retK (Q : AV → Prop) (l : List AV) : Prop :=
  match l with
  | [a] => ifD (closedA a = true) (Q a)
  | l => ifD (closedA (.tup l) = true) (Q (.tup l))
theorem retK_eq {Q : AV → Prop} {l : List AV} (h : retK Q l) : closedA (retV l) = true ∧ Q (retV l) := by
  match l, h with
  | [], h => exact ifD_and (p := closedA (.tup []) = true) h
  | [a], h => exact ifD_and (p := closedA a = true) h
  | a :: b :: r, h => exact ifD_and (p := closedA (.tup (a :: b :: r)) = true) h
def env0 (args : List AV) : List (Nat × AV) := args.zipIdx.map fun x => (x.2, x.1)
section
variable {P : Program} {T : TT} {F : FL} {mine may : Nat → Prop} {L : Nat → Value} {h : Hp} {st : St} {a : Act} {w w0 : World}
theorem flat_den {av : AV} (hf : flat av = true) : den L av = den1 L av := by cases av <;> first | rfl | cases hf
theorem res1_ok (hT : TTok P T) (hm : Mem mine L h st.own w) (ha : Agree L h st a) {rv : ResultVar} {K : AV → Prop} (hp : res1 T st rv K) : ∃ av, K av ∧ OkA h av ∧ flat av = true ∧
    ∀ (f : ResultVar → Sem Value), (∀ u, f (.tmp u) = pure (a.tmps.getD u undef)) → (∀ p t, f (.cell p t) = (do loadVar t (← asAddr (a.tmps.getD p undef)))) → (f rv).run P w = .ok (den1 L av) w := by
  unfold res1 at hp
  split at hp
  · split at hp
    · rename_i t av hl
      obtain ⟨h1, h2⟩ := ha.env _ _ hl
      have hp := ifD_and hp
      refine ⟨av, hp.2, h2, hp.1, fun f hf _ => ?_⟩
      rw [hf, h1, flat_den hp.1]
      rfl
    · exact hp.elim
  · rename_i p ty
    split at hp
    · rename_i i off hl
      split at hp
      · rename_i u cs ho
        obtain ⟨av, hK0, h2, h3⟩ := load_own hT w hm ho hp
        obtain ⟨hfl, hK⟩ := ifD_and hK0
        refine ⟨av, hK, h2, hfl, fun f _ hf => ?_⟩
        have := h3 w hm
        obtain ⟨b, hb, _⟩ := own_cells hm ho
        have he := (ha.env _ _ hl).1
        rw [hf, he, ← flat_den hfl]
        simp only [den, den1, denC, hb, ptrAt, Instr.loadAt, Instr.sureAddr, Sem.run_bind, Sem.run_pure, Result.andThen_ok] at this ⊢
        simp only [asAddr, Sem.run_pure, Result.andThen_ok]
        exact this
      · exact hp.elim
    · exact hp.elim
theorem resL_ok (hT : TTok P T) (hm : Mem mine L h st.own w) (ha : Agree L h st a) : ∀ (rs : List ResultVar) (K : List AV → Prop), resL T st rs K → ∃ l, K l ∧ l.length = rs.length ∧ (∀ av, av ∈ l → OkA h av ∧ flat av = true) ∧
    ∀ (f : ResultVar → Sem Value), (∀ u, f (.tmp u) = pure (a.tmps.getD u undef)) → (∀ p t, f (.cell p t) = (do loadVar t (← asAddr (a.tmps.getD p undef)))) → (rs.mapM f).run P w = .ok (l.map (den1 L)) w
  | [], K, hp => ⟨[], hp, rfl, (fun _ hm => nomatch hm), fun f _ _ => by simp⟩
  | r :: rs, K, hp => by
    obtain ⟨av, h1, h2, h3, h4⟩ := res1_ok hT hm ha hp
    obtain ⟨l, k1, k0, k2, k3⟩ := resL_ok hT hm ha rs _ h1
    refine ⟨av :: l, k1, by simp [k0], fun av' hmm => ?_, fun f hf hc => ?_⟩
    · rcases List.mem_cons.1 hmm with rfl | hmm
      · exact ⟨h2, h3⟩
      · exact k2 _ hmm
    · rw [List.mapM_cons]
      simp [h4 f hf hc, k3 f hf hc]
theorem ldP_mono {t : TypeId} {cs : List Cell} {K K' : AV → Prop} (hk : ∀ a, K a → K' a) (h : ldP T t cs K) : ldP T t cs K' := by
  unfold ldP at *
  split at h
  · split at h
    · have := ifD_and h
      unfold ifD at *
      split <;> simp_all
    · split at h
      · exact hk _ h
      · exact h
  · exact h
theorem ifD_mk {p : Prop} [d : Decidable p] {x : Prop} (hp : p) (hx : x) : ifD p x := by
  unfold ifD
  rw [decide_eq_true hp]
  exact hx
theorem res1_mono {rv : ResultVar} {K K' : AV → Prop} (hk : ∀ a, K a → K' a) (h : res1 T st rv K) : res1 T st rv K' := by
  unfold res1 at *
  split at h
  · split at h
    · have := ifD_and h
      exact ifD_mk this.1 (hk _ this.2)
    · exact h
  · split at h
    · split at h
      · exact ldP_mono (fun a ha => by have := ifD_and ha; exact ifD_mk this.1 (hk _ this.2)) h
      · exact h
    · exact h
theorem resL_mono : ∀ {rs : List ResultVar} {K K' : List AV → Prop}, (∀ l, K l → K' l) → resL T st rs K → resL T st rs K'
  | [], K, K', hk, h => hk _ h
  | r :: rs, K, K', hk, h => res1_mono (fun a ha => resL_mono (fun l hl => hk _ hl) ha) h
theorem results_ok (hT : TTok P T) (hm : Mem mine L h st.own w) (ha : Agree L h st a) {fn : Func} {Q : AV → Prop} (hp : resL T st fn.results.toList (fun l => Q (retV l))) : ∃ r, Q r ∧ OkA h r ∧ (results fn a.tmps).run P w = .ok (den L r) w := by
  obtain ⟨l, h1, h0, h2, h3⟩ := resL_ok hT hm ha _ _ hp
  have hrun : (results fn a.tmps).run P w = .ok (if hl : (l.map (den1 L)).toArray.size = 1 then (l.map (den1 L)).toArray[0] else .tuple (l.map (den1 L)).toArray) w := by
    unfold results
    rw [show fn.results = fn.results.toList.toArray from by simp, List.mapM_toArray]
    simp only [Sem.run_bind, Sem.run_map]
    rw [h3]
    · simp
    · intro u; rfl
    · intro p t; rfl
  refine ⟨_, h1, ?_, ?_⟩
  · match l, h2 with
    | [], _ => exact fun _ h => by cases h
    | [x], h2 => exact (h2 x (by simp)).1
    | x :: y :: l, h2 =>
      intro av hmm
      have := h2 av hmm
      cases av with
      | c x => exact this.1
      | agg xs => exact this.1
      | tup _ => trivial
  · rw [hrun]
    match l, h2 with
    | [], _ => rfl
    | [x], h2 => simp [retV, flat_den (h2 x (by simp)).2]
    | x :: y :: l, h2 => simp [retV, den]
theorem lookup_env0 (args : List AV) (t : Nat) : ∀ (k : Nat), ((args.zipIdx k).map fun x => (x.2, x.1)).lookup t = if k ≤ t then args[t - k]? else none := by
  induction args with
  | nil => intro k; simp
  | cons x r ih =>
    intro k
    rw [List.zipIdx_cons, List.map_cons, List.lookup_cons]
    by_cases e : t = k
    · subst e; simp
    · have e' : (t == k) = false := by simpa using e
      rw [e']
      simp only
      rw [ih (k + 1)]
      by_cases hk : k + 1 ≤ t
      · rw [if_pos hk, if_pos (by omega)]
        have : t - k = (t - (k + 1)) + 1 := by omega
        rw [this, List.getElem?_cons_succ]
      · rw [if_neg hk, if_neg (by omega)]
theorem agree0 {args : List AV} {n : Nat} (hn : args.length ≤ n) (hok : ∀ a, a ∈ args → OkA h a) (k : Nat) (own : List (Option Ob)) : Agree L h ⟨n, k, env0 args, own⟩ { tmps := (args.map (den L)).toArray ++ Array.replicate (n - (args.map (den L)).toArray.size) undef, defers := [] } := by
  refine ⟨by simp; omega, fun t av hl => ?_, rfl⟩
  unfold env0 at hl
  simp only [lookup_env0 args t 0, Nat.zero_le, if_true, Nat.sub_zero] at hl
  have hlt := (List.getElem?_eq_some_iff.1 hl).1
  refine ⟨?_, hok av (List.mem_of_getElem? hl)⟩
  rw [Array.getD_eq_getD_getElem?, Array.getElem?_append_left (by simpa using hlt)]
  simp [hl]
theorem okC_zero {c : Cell} (hc : OkC h c) : closedC c = true → OkC ⟨h.m, 0⟩ c := by
  induction hc with
  | v x h1 => exact fun _ => .v x h1
  | own i off h1 => intro e; cases e
  | row i h1 => intro e; cases e
  | rel i sz k off h1 => intro e; cases e
  | sl s sz n f h1 hc h2 ih =>
    intro _
    refine .sl s sz n f ?_ hc (fun k hk c hcm => ih k hk c hcm ?_)
    · obtain ⟨⟨A, c, e, hc, hm, hr⟩, hl⟩ := h1
      exact ⟨⟨A, c, e, hc, hm, hr⟩, hl⟩
    · have := hc k hk c hcm
      cases c <;> simp_all [Closed, closedC]
  | el _ _ _ _ _ _ _ _ _ _ _ => intro e; cases e
theorem okA_zero {r : AV} (hr : OkA h r) (hc : closedA r = true) : OkA ⟨h.m, 0⟩ r := by
  cases r with
  | c x => exact okC_zero hr hc
  | agg xs => exact fun x hx => okC_zero (hr x hx) (List.all_eq_true.1 hc x hx)
  | tup as =>
    intro a ha
    have h1 := hr a ha
    have h2 := List.all_eq_true.1 hc a ha
    cases a with
    | c x => exact okC_zero h1 h2
    | agg xs => exact fun x hx => okC_zero (h1 x hx) (List.all_eq_true.1 h2 x hx)
    | tup _ => trivial
/-- A function that changes nothing that was there, and hands back what holds no place of its own. -/
theorem callV_pure {f : FuncId} {fn : Func} {c : Code} (hf : P.funcs[f]? = some fn) (hb : fn.body = some c) (hT : TTok P T) (hF : FTok P F) {args : List AV} {n : Nat} (hnn : fn.ntmps = n) {rs : List ResultVar} (hrs : fn.results.toList = rs) {env : List (Nat × AV)} (henv : env0 args = env) (hn : args.length ≤ n) {Q : AV → Prop}
    (hv : vc P T F c (fun e st' => match e with | .exit _ => False | _ => resL T st' rs (retK Q)) ⟨n, 0, env, []⟩) : CallV P f args [] (fun r own' => own' = [] ∧ Q r) := by
  subst hnn hrs henv
  refine ⟨fun mine L h w hm hnew hok => ?_⟩
  have hm0 : Mem (mineOf (ownBlk L []) w) L h [] w := ⟨hm.hn, hm.hsub, fun i ob hi => by simp at hi, fun i j oi oj b hi => by simp at hi⟩
  have hs : Sat (ownBlk L []) w ⟨h, L⟩ ⟨fn.ntmps, 0, env0 args, []⟩ { tmps := (args.map (den L)).toArray ++ Array.replicate (fn.ntmps - (args.map (den L)).toArray.size) undef, defers := [] } w :=
    ⟨⟨L, h, hm0, agree0 hn hok 0 [], ⟨Sub.refl h, fun _ _ => rfl, hm.hn.symm⟩, fun k hk => .inl hk⟩, ⟨rfl, rfl, rfl, Nat.le_refl _, fun _ _ _ => rfl⟩⟩
  refine calls_of_wp hf hb (Code.wp_mono (fun e a' w' hh => ?_) (vc_ok hT hF c _ _ _ _ hv hs))
  obtain ⟨e', st', rfl, ⟨⟨L', h', hm', ha', hsub, hnew'⟩, hk⟩, he⟩ := hh
  have hr : resL T st' fn.results.toList (retK Q) := by
    cases e' with
    | normal => exact he
    | exit i => exact he.elim
    | ret => exact he
  obtain ⟨r, ⟨hcl, hQ⟩, hrok, hrun⟩ := results_ok (Q := fun r => closedA r = true ∧ Q r) hT hm' ha' (resL_mono (fun l h => retK_eq h) hr)
  have h0n : h.n = 0 := hm.hn
  have fin : a'.defers = [] ∧ ∃ v, (results fn a'.tmps).run P w' = .ok v w' ∧ ∃ (r : AV) (L' : Nat → Value) (h' : Hp) (own' : List (Option Ob)), Ending.returned v = .returned (den L' r) ∧ (∀ i, i < h.n → L' i = L i) ∧ Mem mine L' h' own' w' ∧
      Keep (ownBlk L []) w w' ∧ Sub h h' ∧ (∀ k, h'.m k ≠ none → h.m k ≠ none ∨ w.heap.size ≤ k ∨ ownBlk L [] k) ∧ (∀ i ob b, h.n ≤ i → own'[i]? = some (some ob) → blk (L' i) = some b → w.heap.size ≤ b) ∧ OkA h' r ∧ own' = [] ∧ Q r :=
    ⟨ha'.defers, _, hrun, r, L', ⟨h'.m, 0⟩, [], rfl, fun i hi => by omega, ⟨rfl, hm'.hsub, fun i ob hi => by simp at hi, fun i j oi oj b hi => by simp at hi⟩, hk, ⟨hsub.sub.m, by rw [h0n]; exact Nat.le_refl _⟩, (fun k hk2 => by rcases hnew' k hk2 with h1 | ⟨i, ob, hi, _⟩ | h1; exact .inl h1; simp at hi; exact .inr (.inl h1)), fun i ob b _ hi => by simp at hi, okA_zero hrok hcl, rfl, hQ⟩
  cases e' with
  | normal => exact fin
  | exit i => exact he.elim
  | ret => exact fin
/-- A call of a function that changes nothing, beside own objects. -/
theorem call_pure {f : FuncId} {args : List AV} {Q : AV → Prop} (hc : CallV P f args [] (fun r own' => own' = [] ∧ Q r)) (hcl : args.all closedA = true) {own : List (Option Ob)} {K : AV → List (Option Ob) → Prop} (hK : ∀ r, Q r → K r own) : CallV P f args own K := by
  refine ⟨fun mine L h w hm hnew hok => ?_⟩
  have := hc.out mine L ⟨h.m, 0⟩ w ⟨rfl, hm.hsub, fun i ob hi => by simp at hi, fun i j oi oj b hi => by simp at hi⟩ hnew (fun a ha => okA_zero (hok a ha) (List.all_eq_true.1 hcl a ha))
  refine this.mono ?_
  rintro e w' ⟨r, L', h', own', h1, h2, h3, h4, h5, h6, h7, h8, rfl, hQ⟩
  have hn0 : h'.n = 0 := h3.hn
  have hkeep : ∀ k, k < w.heap.size → w'.heap[k]? = w.heap[k]? := fun k hk => h4.block k hk (fun ⟨i, ob, hi, _⟩ => by simp at hi)
  have hsub : Sub h ⟨h'.m, h.n⟩ := ⟨h5.m, Nat.le_refl _⟩
  refine ⟨r, L, ⟨h'.m, h.n⟩, own, by rw [h1, den_upd (L := L) (L' := L') h8 (fun i hi => by omega)], fun _ _ => rfl, ⟨hm.hn, h3.hsub, fun i ob hi => ?_, hm.dis⟩, ⟨h4.os, h4.tape, h4.output, h4.size, fun k hk _ => hkeep k hk⟩, hsub, (fun k hk2 => by rcases h6 k hk2 with h9 | h9 | ⟨i, ob, hi, _⟩; exact .inl h9; exact .inr (.inl h9); simp at hi), fun i ob b hi ho => ?_, OkA.sub (h := h') (h' := ⟨h'.m, h.n⟩) ⟨fun _ _ e => e, by rw [hn0]; exact Nat.zero_le _⟩ h8, hK r hQ⟩
  · have ho := hm.obs i ob hi
    refine obOk_move ho (fun b hb hmine hn => ?_) (fun _ _ => rfl) hsub
    have hlt := (obOk_lt ho hb).1
    refine ⟨hkeep b hlt, ?_, hmine⟩
    cases hx : h'.m b with
    | none => rfl
    | some o =>
      rcases h6 b (by rw [hx]; simp) with h9 | h9 | ⟨i, ob, hi, _⟩
      · exact absurd hn h9
      · omega
      · simp at hi
  · have := (List.getElem?_eq_some_iff.1 ho).1
    rw [← hm.hn] at this
    omega
/-- The world is left as it was but for what is new. -/
theorem pure_calls {f : FuncId} {args : List AV} {Q : AV → Prop} (hc : CallV P f args [] (fun r own' => own' = [] ∧ Q r)) (h : Hp) (w : World) (hs : ∀ k o, h.m k = some o → w.heap[k]? = some o) (hok : ∀ a, a ∈ args → OkA ⟨h.m, 0⟩ a) :
    Calls P f (args.map (den (fun _ => undef))).toArray w fun e w' => ∃ (r : AV) (L : Nat → Value) (h' : Hp), e = .returned (den L r) ∧ Below w.heap.size w w' ∧ Sub ⟨h.m, 0⟩ h' ∧ (∀ k o, h'.m k = some o → w'.heap[k]? = some o) ∧ OkA h' r ∧ Q r := by
  have := hc.out (fun _ => True) (fun _ => undef) ⟨h.m, 0⟩ w ⟨rfl, hs, fun i ob hi => by simp at hi, fun i j oi oj b hi => by simp at hi⟩ (fun _ _ => trivial) hok
  refine this.mono ?_
  rintro e w' ⟨r, L', h', own', h1, h2, h3, h4, h5, h6, h7, h8, rfl, hQ⟩
  exact ⟨r, L', h', h1, ⟨h4.os, h4.tape, h4.output, h4.size, fun k hk => h4.block k hk (fun ⟨i, ob, hi, _⟩ => by simp at hi)⟩, h5, h3.hsub, h8, hQ⟩
end
end Go.Eng
