/- A region that draws its order: reads in any order among operations of which several orders are open: each of these is reckoned. -/
import Derived.Test.YteglopjljejjkaaDoorA21
set_option linter.unusedVariables false
set_option linter.unusedSimpArgs false
namespace Go.Eng
open Go
def headsOf (ords : List (List Nat)) : List Nat := (ords.filterMap List.head?).eraseDups
def tailsOf (i : Nat) (ords : List (List Nat)) : List (List Nat) := ords.filterMap fun l => match l with | x :: r => (match Nat.beq x i with | true => some r | false => none) | [] => none
def ordsB (md : Region.Mode) (ops : Array Oper) (S : Nat → Bool) : Nat → List (List Nat) → Array Bool → Bool
  | 0, _, listed => (List.range ops.size).all (fun j => !S j || listed.getD j false)
  | n + 1, ords, listed => (List.range ops.size).any (fun j => S j && !(listed.getD j true)) && ((Region.ready md ops listed).all (fun i => !S i || (headsOf ords).contains i) &&
      (headsOf ords).all (fun i => decide (i < ops.size) && ordsB md ops S n (tailsOf i ords) (listed.setIfInBounds i true)))
section
variable {P : Program} {ops : Array Oper} {Q : Exit → Act → World → Prop} {md : Region.Mode} {C : World → Prop}
def wpOrds (P : Program) (ops : Array Oper) (Q : Exit → Act → World → Prop) (C : World → Prop) (R : Act → World → Prop) : Nat → List (List Nat) → Act → World → Prop
  | 0, _, a, w => R a w
  | n + 1, ords, a, w => ∀ i, i ∈ headsOf ords → wpOp P ops Q i (fun a' w' => C w' ∧ wpOrds P ops Q C R n (tailsOf i ords) a' w') a w
theorem wpOrds_mono {R R' : Act → World → Prop} (hq : ∀ a w, R a w → R' a w) : ∀ (n : Nat) (ords : List (List Nat)) (a : Act) (w : World), wpOrds P ops Q C R n ords a w → wpOrds P ops Q C R' n ords a w
  | 0, _, a, w, h => hq a w h
  | n + 1, ords, a, w, h => fun i hi => wpOp_mono (fun a' w' h2 => ⟨h2.1, wpOrds_mono hq n _ a' w' h2.2⟩) (h i hi)
theorem wpAnyX_ords {S : Nat → Bool} {R : Act → World → Prop} : ∀ (n : Nat) (ords : List (List Nat)) (listed : Array Bool) (a : Act) (w : World), ordsB md ops S n ords listed = true → wpOrds P ops Q C R n ords a w → wpAnyX P md ops Q C S R n listed a w
  | 0, ords, listed, a, w, hB, h => by
    unfold ordsB at hB
    rw [List.all_eq_true] at hB
    refine ⟨fun j hj hS => ?_, h⟩
    have := hB j (List.mem_range.2 hj)
    rw [hS] at this
    simpa using this
  | n + 1, ords, listed, a, w, hB, h => by
    unfold ordsB at hB
    rw [Bool.and_eq_true, Bool.and_eq_true] at hB
    obtain ⟨h1, h2, h3⟩ := hB
    rw [List.any_eq_true] at h1
    obtain ⟨j, hj, hj2⟩ := h1
    rw [Bool.and_eq_true] at hj2
    rw [List.all_eq_true] at h2 h3
    refine ⟨⟨j, List.mem_range.1 hj, hj2.1, by simpa using hj2.2⟩, fun i hi hS => ?_⟩
    have h4 := h2 i hi
    rw [hS] at h4
    have hm : i ∈ headsOf ords := by simpa using h4
    have h5 := h3 i hm
    rw [Bool.and_eq_true] at h5
    exact wpOp_mono (fun a' w' h6 => ⟨h6.1, wpAnyX_ords n _ _ a' w' h5.2 h6.2⟩) (h i hm)
def loudOB (ops : Array Oper) (k en : Nat) (h : List Nat) (ords : List (List Nat)) : Bool :=
  Region.noSelect ops && decide (k ≤ ops.size) && tailB .any ops k && preB .any ops h (Array.replicate ops.size false) && h.all (fun i => decide (i < k)) && ordsB .any ops (fun i => decide (i < k)) en ords (setAll h (Array.replicate ops.size false)) && decide (en + h.length = k)
theorem wp_region_loudO {id k en : Nat} {hl : List Nat} {ords : List (List Nat)} {a : Act} {w : World} (hmx : P.follows .mixedOrders = true) (hB : loudOB ops k en hl ords = true) (hQ : ∀ d v c a w, Q (.panic c) (a.put d v) w → Q (.panic c) a w) (hC : C { w with drawn := w.drawn + 1 })
    (h : wpHoist P ops C (fun a' => wpOrds P ops Q C (fun a'' w' => wpList P ops Q (ops.toList.drop k) a'' w') en ords a' { w with drawn := w.drawn + 1 }) hl a) : (Code.region id ops true).wp P Q a w := by
  unfold loudOB at hB
  simp only [Bool.and_eq_true, decide_eq_true_eq] at hB
  obtain ⟨⟨⟨⟨⟨⟨hs, hk⟩, ht⟩, hp⟩, hhk⟩, hob⟩, hlen⟩ := hB
  refine wp_region_any hmx ?_
  have hsz0 : (Array.replicate ops.size false).size = ops.size := by simp
  have hcl : Lclosed .any ops (Array.replicate ops.size false) := fun i hi hx => by simp [hi] at hx
  have hX : wpAnyX P .any ops Q C (fun i => decide (i < k)) (fun a'' w' => wpList P ops Q (ops.toList.drop k) a'' w') (en + hl.length) (Array.replicate ops.size false) a { w with drawn := w.drawn + 1 } :=
    wpAnyX_hoist hs hQ en hl _ a _ hC (fun i hi => List.all_eq_true.1 hhk i hi) hp h (fun a' hK => wpAnyX_ords en ords _ a' _ hob hK)
  have hlenk : en + hl.length + (ops.toList.drop k).length = ops.size := by
    rw [hlen, List.length_drop, Array.length_toList]; omega
  have key := wpAny_of_X (Q := Q) ht hk (ops.toList.drop k).length (fun listed a' w' hR hz h1 h2 hc =>
    wpAny_tail ht (ops.toList.drop k) k listed a' w' (fun j => by rw [List.getElem?_drop, Array.getElem?_toList]) (by simp; omega) (Nat.le_refl _) hz h1 h2 hc hR) (en + hl.length) _ a _ hsz0 (fun j _ hj => by simp [hj]) hcl hX
  rw [hlenk] at key
  exact key
end
/-- Each of the open orders. -/
def allH (l : List Nat) : (Nat → Prop) → Prop := List.rec (motive := fun _ => (Nat → Prop) → Prop) (fun _ => True) (fun i _ ih p => p i ∧ ih p) l
theorem allH_mem : ∀ {l : List Nat} {p : Nat → Prop}, allH l p → ∀ i, i ∈ l → p i
  | [], p, _, i, hi => by cases hi
  | x :: r, p, h, i, hi => by
    rcases List.mem_cons.1 hi with rfl | hi
    · exact h.1
    · exact allH_mem (l := r) h.2 i hi
def anyO (P : Program) [HasGl P] (T : TT) (F : FL) (ops : Array Oper) (n : Nat) : List (List Nat) → St → (St → Prop) → Prop :=
  Nat.rec (motive := fun _ => List (List Nat) → St → (St → Prop) → Prop) (fun _ st K => K st)
    (fun _ ih ords st K => allH (headsOf ords) fun i => match ops[i]? with
      | some o => guardP ops o st (stepP P T F o st (fun st' => ih (tailsOf i ords) st' K)) (skipK st o.dst (fun st' => ih (tailsOf i ords) st' K))
      | none => True) n
def loudOP (P : Program) [HasGl P] (T : TT) (F : FL) (ops : Array Oper) (k en : Nat) (hl : List Nat) (ords : List (List Nat)) (ch : List Nat) (st : St) (K : St → Prop) : Prop :=
  match st with
  | ⟨n, kk, env, own⟩ => forceL (hideL ch 0 own) fun ownH => hopsP T (getO ops hl) ⟨n, kk, env, ownH⟩ (fun st1 => match st1 with
    | ⟨n1, _, env1, _⟩ => forceL (onlyL ch 0 own) fun ownE => anyO P T F ops en ords ⟨n1, own.length, env1, ownE⟩ (fun st2 => match st2 with
      | ⟨n2, _, env2, own2⟩ => emptyL ch 0 own own2 = true ∧ forceL (mergeL ch 0 own own2) fun own3 => opsP P T F ops (ops.toList.drop k) ⟨n2, kk, env2, own3⟩ K))
section
variable {P : Program} {T : TT} {FF : FL} {mine may : Nat → Prop} {L : Nat → Value} {F : Nat → Nat → Prop} {h : Hp} {w w0 : World} {ops : Array Oper}
theorem ordI_ok [HasGl P] {h0 : Base P} (hT : TTok P T) (hF : FTok P FF) {C : World → Prop} {Q : Exit → Act → World → Prop} {K : St → Prop} {S : Nat → Bool} (hC : ∀ w', Keep may w0 w' → C w') : ∀ (n : Nat) (ords : List (List Nat)) (st : St) (a : Act) (w : World) (listed : Array Bool), ordsB .any ops S n ords listed = true → anyO P T FF ops n ords st K → Sat may w0 h0 st a w →
    wpOrds P ops Q C (fun a' w' => ∃ st', Sat may w0 h0 st' a' w' ∧ K st') n ords a w
  | 0, ords, st, a, w, listed, hB, hp, hs => ⟨st, hs, hp⟩
  | n + 1, ords, st, a, w, listed, hB, hp, hs => fun i hi => by
    have hpi := allH_mem (l := headsOf ords) hp i hi
    unfold ordsB at hB
    rw [Bool.and_eq_true, Bool.and_eq_true] at hB
    have hBi := List.all_eq_true.1 hB.2.2 i hi
    rw [Bool.and_eq_true] at hBi
    have hi2 : i < ops.size := of_decide_eq_true hBi.1
    have hoi : ops[i]? = some ops[i] := Array.getElem?_eq_getElem hi2
    rw [hoi] at hpi
    generalize ops[i] = o at hoi hpi
    simp only at hpi
    obtain ⟨⟨L, F, h, hm, ha, hsub, hnew⟩, hk⟩ := hs
    unfold wpOp
    simp only [hoi]
    have next : ∀ a' w' st', Sat may w0 h0 st' a' w' → anyO P T FF ops n (tailsOf i ords) st' K → C w' ∧ wpOrds P ops Q C (fun a' w' => ∃ st', Sat may w0 h0 st' a' w' ∧ K st') n (tailsOf i ords) a' w' := fun a' w' st' h1 h2 => ⟨hC w' h1.keep, ordI_ok hT hF hC n _ st' a' w' _ hBi.2 h2 h1⟩
    rcases guard_wanted ha hpi with ⟨hw, hp⟩ | ⟨hw, hp⟩
    · rw [if_pos hw]
      refine .inl (Oper.wp_mono (fun a' w' ⟨st', h1, h2⟩ => next a' w' st' h1 h2) (step_ok (Q := Q) hT hF hp ⟨⟨L, F, h, hm, ha, hsub, hnew⟩, hk⟩))
    · rw [if_neg (by rw [hw]; simp)]
      obtain ⟨st', h1, h2⟩ := put_sat hm ha hsub hnew hk (av := .tup []) tup_nil hp
      exact next _ _ st' h1 h2
/-- **A region that draws its order, with calls and appends among reads**: the reads hl in any order, then el in a forced order, which may change the own objects ch alone; then the rest. -/
theorem drawV_ords [HasGl P] (k en : Nat) (hl : List Nat) (ords : List (List Nat)) (ch : List Nat) {id : Nat} {K : St → Prop} {st : St} (hmx : P.follows .mixedOrders = true) (hB : loudOB ops k en hl ords = true) (hT : TTok P T) (hF : FTok P FF)
    (hp : loudOP P T FF ops k en hl ords ch st K) : DrawV P id ops K st := by
  refine ⟨fun may w0 h0 a w hs => ?_⟩
  obtain ⟨n, kk, env, own⟩ := st
  obtain ⟨⟨L, F, h, hm, ha, hsub, hnew⟩, hk⟩ := hs
  have hk0 : Keep may w0 { w with drawn := w.drawn + 1 } := ⟨hk.os, hk.tape, hk.output, hk.size, hk.block⟩
  have hm0 : Mem (mineOf may w0) L F h own { w with drawn := w.drawn + 1 } := mem_same hm (fun b _ => rfl) (Nat.le_refl _)
  have hBk := hB
  unfold loudOB at hBk
  simp only [Bool.and_eq_true, decide_eq_true_eq] at hBk
  obtain ⟨⟨⟨⟨⟨⟨_, hkk⟩, _⟩, _⟩, hhk⟩, hob⟩, _⟩ := hBk
  generalize hwd : ({ w with drawn := w.drawn + 1 } : World) = wd at hk0 hm0
  let may' : Nat → Prop := footOf F (onlyL ch 0 own)
  have hmayF : ∀ b, may' b → ∃ i ob, own[i]? = some (some ob) ∧ ch.contains i = true ∧ F i b := fun b ⟨i, ob, hi, hb⟩ => by
    have := (onlyL_get ch own 0 i ob).1 hi
    rw [Nat.zero_add] at this
    exact ⟨i, ob, this.1, this.2, hb⟩
  have hmay : ∀ b, may' b → mineOf may w0 b := fun b hb => by
    obtain ⟨i, ob, h1, _, h3⟩ := hmayF b hb
    exact (hm0.foot i ob b h1 h3).2.2
  have hmine' : ∀ b, mineOf may' wd b → mineOf may w0 b := fun b hb => by
    rcases hb with hb | hb
    · exact hmay b hb
    · exact .inr (Nat.le_trans hk0.size hb)
  -- the objects that are read, and those that may change
  have hmH : Mem (mineOf may w0) L F h (hideL ch 0 own) wd :=
    ⟨by rw [hideL_len]; exact hm0.hn, hm0.hsub, fun i ob hi => hm0.obs i ob ((hideL_get ch own 0 i ob).1 hi).1, fun i ob b hi => hm0.foot i ob b ((hideL_get ch own 0 i ob).1 hi).1,
      fun i j oi oj b hi hj => hm0.dis i j oi oj b ((hideL_get ch own 0 i oi).1 hi).1 ((hideL_get ch own 0 j oj).1 hj).1⟩
  have hmE : Mem (mineOf may' wd) L F h (onlyL ch 0 own) wd :=
    ⟨by rw [onlyL_len]; exact hm0.hn, hm0.hsub, fun i ob hi => hm0.obs i ob ((onlyL_get ch own 0 i ob).1 hi).1, fun i ob b hi hb => ⟨(hm0.foot i ob b ((onlyL_get ch own 0 i ob).1 hi).1 hb).1, (hm0.foot i ob b ((onlyL_get ch own 0 i ob).1 hi).1 hb).2.1, .inl ⟨i, ob, hi, hb⟩⟩,
      fun i j oi oj b hi hj => hm0.dis i j oi oj b ((onlyL_get ch own 0 i oi).1 hi).1 ((onlyL_get ch own 0 j oj).1 hj).1⟩
  have hout : ∀ (i : Nat) (ob : Ob) (b : Nat), own[i]? = some (some ob) → ch.contains i = false → F i b → ¬ may' b := fun i ob b hi hc hb hmb => by
    obtain ⟨j, oj, h1, h2, h3⟩ := hmayF b hmb
    have := hm0.dis i j ob oj b hi h1 hb h3
    subst this
    rw [hc] at h2; cases h2
  have hC : ∀ w', Keep may' wd w' → Same F (hideL ch 0 own) h wd w' := fun w' hw' b hb => by
    rcases hb with hb | ⟨i, ob, hi, hb⟩
    · cases ho : h.m b with
      | none => exact absurd ho hb
      | some o =>
        refine hw'.block b (Array.getElem?_eq_some_iff.1 (hm0.hsub b o ho)).1 (fun hmb => ?_)
        obtain ⟨j, oj, h1, _, h3⟩ := hmayF b hmb
        exact hb (hm0.foot j oj b h1 h3).2.1
    · have h1 := (hideL_get ch own 0 i ob).1 hi
      rw [Nat.zero_add] at h1
      exact hw'.block b (hm0.foot i ob b h1.1 hb).1 (hout i ob b h1.1 h1.2 hb)
  have hlsz : ∀ i, i ∈ hl → i < ops.size := fun i hi => by
    have : i < k := of_decide_eq_true (List.all_eq_true.1 hhk i hi)
    omega
  refine wp_region_loudO (k := k) (en := en) (hl := hl) (ords := ords) (C := Keep may' wd) hmx hB (fun d v c a w h => by cases h.1) (by rw [hwd]; exact Keep.refl _ _) ?_
  rw [hwd]
  unfold loudOP at hp
  simp only [forceL_eq] at hp
  have hH := hoist_ok (mine := mineOf may w0) (C := Keep may' wd) hT hmH hC hl ⟨n, kk, env, hideL ch 0 own⟩ a hlsz ⟨rfl, rfl⟩ hp ⟨ha.size, ha.env, ha.defers⟩
  refine wpHoist_mono (fun a1 h1 => ?_) hl a hH
  obtain ⟨⟨n1, kk1, env1, own1⟩, ha1, ⟨rfl, rfl⟩, hp1⟩ := h1
  simp only at hp1
  have hsatE : Sat may' wd (⟨h, L, HasGl.mono h0.gl hsub.sub.m⟩ : Base P) ⟨n1, own.length, env1, onlyL ch 0 own⟩ a1 wd :=
    ⟨⟨L, F, h, hmE, ⟨ha1.size, ha1.env, ha1.defers⟩, ⟨Sub.refl h, fun i hi => rfl, hm0.hn.symm⟩, fun k hk => .inl hk⟩, Keep.refl _ _⟩
  have hE := ordI_ok (Q := fun e a' w' => e = .normal ∧ ∃ st', Sat may w0 h0 st' a' w' ∧ K st') (C := Keep may' wd) hT hF (fun w' hw' => hw') en ords _ a1 wd _ hob hp1 hsatE
  refine wpOrds_mono (fun a2 w2 h2 => ?_) en ords a1 wd hE
  obtain ⟨⟨n2, kk2, env2, own2⟩, ⟨⟨L2, F2, h2, hm2, ha2, hsub2, hnew2⟩, hk2⟩, hem, hp2⟩ := h2
  have hLL : ∀ i, i < h.n → L2 i = L i := fun i hi => hsub2.at_ i hi
  have hS2 : Sub h h2 := hsub2.sub
  let F3 : Nat → Nat → Prop := fun i b => (∃ x, own[i]? = some (some x) ∧ ch.contains i = false ∧ F i b) ∨ ((∀ x, own[i]? = some (some x) → ch.contains i = true) ∧ F2 i b)
  have hnot : ∀ (i j : Nat) (ob o2 : Ob) (b : Nat), own[i]? = some (some ob) → ch.contains i = false → F i b → own2[j]? = some (some o2) → F2 j b → False := fun i j ob o2 b hi hc hb hj hb2 => by
    obtain ⟨q1, q2, q3⟩ := hm2.foot j o2 b hj hb2
    rcases q3 with q3 | q3
    · exact hout i ob b hi hc hb q3
    · have := (hm0.foot i ob b hi hb).1
      omega
  have hF3a : ∀ (i : Nat) (ob : Ob), own[i]? = some (some ob) → ch.contains i = false → F3 i = F i := fun i ob hi hc => by
    funext b
    refine propext ⟨fun hb => ?_, fun hb => .inl ⟨ob, hi, hc, hb⟩⟩
    rcases hb with ⟨_, _, _, hb⟩ | ⟨hx, _⟩
    · exact hb
    · rw [hx ob hi] at hc; cases hc
  have hF3b : ∀ (i : Nat), (∀ x, own[i]? = some (some x) → ch.contains i = true) → F3 i = F2 i := fun i hx => by
    funext b
    refine propext ⟨fun hb => ?_, fun hb => .inr ⟨hx, hb⟩⟩
    rcases hb with ⟨x, h1, h2, _⟩ | ⟨_, hb⟩
    · rw [hx x h1] at h2; cases h2
    · exact hb
  have hmg : ∀ (i : Nat) (ob : Ob), (mergeL ch 0 own own2)[i]? = some (some ob) → (own[i]? = some (some ob) ∧ ch.contains i = false ∧ F3 i = F i) ∨ (own2[i]? = some (some ob) ∧ F3 i = F2 i) := fun i ob hi => by
    have := mergeL_get ch own own2 0 i ob hi
    rw [Nat.zero_add] at this
    rcases this with ⟨h1, h2⟩ | ⟨h1, h2⟩
    · exact .inl ⟨h1, h2, hF3a i ob h1 h2⟩
    · exact .inr ⟨h1, hF3b i h2⟩
  have hm3 : Mem (mineOf may w0) L2 F3 h2 (mergeL ch 0 own own2) w2 := by
    refine ⟨by rw [mergeL_len]; exact hm2.hn, hm2.hsub, fun i ob hi => ?_, fun i ob b hi hb => ?_, fun i j oi oj b hi hj hbi hbj => ?_⟩
    · rcases hmg i ob hi with ⟨q1, q2, q3⟩ | ⟨q1, q3⟩
      · have hlt : i < h.n := by rw [hm0.hn]; exact (List.getElem?_eq_some_iff.1 q1).1
        rw [q3, hLL i hlt]
        exact obOk_move (hm0.obs i ob q1) (fun b hb => hk2.block b (hm0.foot i ob b q1 hb).1 (hout i ob b q1 q2 hb)) hLL hS2
      · rw [q3]; exact hm2.obs i ob q1
    · rcases hmg i ob hi with ⟨q1, q2, q3⟩ | ⟨q1, q3⟩
      · rw [q3] at hb
        obtain ⟨f1, f2, f3⟩ := hm0.foot i ob b q1 hb
        refine ⟨Nat.lt_of_lt_of_le f1 hk2.size, ?_, f3⟩
        cases ho : h2.m b with
        | none => rfl
        | some o =>
          rcases hnew2 b (by rw [ho]; simp) with h9 | h9 | h9
          · exact absurd f2 h9
          · exact absurd h9 (hout i ob b q1 q2 hb)
          · omega
      · rw [q3] at hb
        obtain ⟨f1, f2, f3⟩ := hm2.foot i ob b q1 hb
        exact ⟨f1, f2, hmine' b f3⟩
    · rcases hmg i oi hi with ⟨q1, q2, q3⟩ | ⟨q1, q3⟩ <;> rcases hmg j oj hj with ⟨r1, r2, r3⟩ | ⟨r1, r3⟩ <;> rw [q3] at hbi <;> rw [r3] at hbj
      · exact hm0.dis i j oi oj b q1 r1 hbi hbj
      · exact (hnot i j oi oj b q1 q2 hbi r1 hbj).elim
      · exact (hnot j i oj oi b r1 r2 hbj q1 hbi).elim
      · exact hm2.dis i j oi oj b q1 r1 hbi hbj
  refine ops_ok (may := may) (w0 := w0) (h0 := h0) (K := K) hT hF (fun st'' a'' w'' h1 h2 => ⟨rfl, st'', h1, h2⟩) _ _ a2 w2 hp2 ⟨⟨L2, F3, h2, hm3, ⟨ha2.size, ha2.env, ha2.defers⟩, hsub.step hLL hS2, fun x hx => ?_⟩, hk0.trans hk2 hmay⟩
  rcases hnew2 x hx with h9 | h9
  · exact hnew x h9
  · exact .inr (hmine' x h9)
end
end Go.Eng
