/- A part of the proof: what the functions of the program come to, told by a small reckoner of states. -/
import Derived.Test.YteglopjljejjkabGA15TA21
import Derived.RangeFuncFrom
import Derived.RangeFuncLeaves
import Derived.RangeFuncCalls
import Derived.OrdersIn
import Derived.Shelf.Abstract
import Derived.WideKeyRuns
import Derived.Shelf.SlSortCmp.WholeK
import Derived.Shelf.SlSortCmp.NoneTotal
/- A region that draws its order: reads in any order among operations of which several orders are open: each of these is reckoned. -/
set_option linter.unusedVariables false
set_option linter.unusedSimpArgs false
namespace Go.Eng
open Go
def headsOf (ords : List (List Nat)) : List Nat := (ords.filterMap List.head?).eraseDups
def tailsOf (i : Nat) (ords : List (List Nat)) : List (List Nat) := ords.filterMap fun l => match l with | x :: r => (match Nat.beq x i with | true => some r | false => none) | [] => none
def ordsB (md : Region.Mode) (ops : Array Oper) (S : Nat → Bool) : Nat → List (List Nat) → Array Bool → Bool
  | 0, _, listed => (List.range ops.size).all (fun j => !S j || listed.getD j false)
  | n + 1, ords, listed => (List.range ops.size).any (fun j => S j && !(listed.getD j true)) && ((Region.ready md ops listed).all (fun i => !S i || (headsOf ords).contains i) &&
      (headsOf ords).all (fun i => decide (i < ops.size) && ordsB md ops S n (tailsOf i ords) (listed.setIfInBounds i true)))
section
variable {P : Program} {ops : Array Oper} {Q : Exit → Act → World → Prop} {md : Region.Mode} {C : World → Prop}
def wpOrds (P : Program) (ops : Array Oper) (Q : Exit → Act → World → Prop) (C : World → Prop) (R : Act → World → Prop) : Nat → List (List Nat) → Act → World → Prop
  | 0, _, a, w => R a w
  | n + 1, ords, a, w => ∀ i, i ∈ headsOf ords → wpOp P ops Q i (fun a' w' => C w' ∧ wpOrds P ops Q C R n (tailsOf i ords) a' w') a w
theorem wpOrds_mono {R R' : Act → World → Prop} (hq : ∀ a w, R a w → R' a w) : ∀ (n : Nat) (ords : List (List Nat)) (a : Act) (w : World), wpOrds P ops Q C R n ords a w → wpOrds P ops Q C R' n ords a w
  | 0, _, a, w, h => hq a w h
  | n + 1, ords, a, w, h => fun i hi => wpOp_mono (fun a' w' h2 => ⟨h2.1, wpOrds_mono hq n _ a' w' h2.2⟩) (h i hi)
theorem wpAnyX_ords {S : Nat → Bool} {R : Act → World → Prop} : ∀ (n : Nat) (ords : List (List Nat)) (listed : Array Bool) (a : Act) (w : World), ordsB md ops S n ords listed = true → wpOrds P ops Q C R n ords a w → wpAnyX P md ops Q C S R n listed a w
  | 0, ords, listed, a, w, hB, h => by
    unfold ordsB at hB
    rw [List.all_eq_true] at hB
    refine ⟨fun j hj hS => ?_, h⟩
    have := hB j (List.mem_range.2 hj)
    rw [hS] at this
    simpa using this
  | n + 1, ords, listed, a, w, hB, h => by
    unfold ordsB at hB
    rw [Bool.and_eq_true, Bool.and_eq_true] at hB
    obtain ⟨h1, h2, h3⟩ := hB
    rw [List.any_eq_true] at h1
    obtain ⟨j, hj, hj2⟩ := h1
    rw [Bool.and_eq_true] at hj2
    rw [List.all_eq_true] at h2 h3
    refine ⟨⟨j, List.mem_range.1 hj, hj2.1, by simpa using hj2.2⟩, fun i hi hS => ?_⟩
    have h4 := h2 i hi
    rw [hS] at h4
    have hm : i ∈ headsOf ords := by simpa using h4
    have h5 := h3 i hm
    rw [Bool.and_eq_true] at h5
    exact wpOp_mono (fun a' w' h6 => ⟨h6.1, wpAnyX_ords n _ _ a' w' h5.2 h6.2⟩) (h i hm)
def loudOB (ops : Array Oper) (k en : Nat) (h : List Nat) (ords : List (List Nat)) : Bool :=
  Region.noSelect ops && decide (k ≤ ops.size) && tailB .any ops k && preB .any ops h (Array.replicate ops.size false) && h.all (fun i => decide (i < k)) && ordsB .any ops (fun i => decide (i < k)) en ords (setAll h (Array.replicate ops.size false)) && decide (en + h.length = k)
theorem wp_region_loudO {id k en : Nat} {hl : List Nat} {ords : List (List Nat)} {a : Act} {w : World} (hmx : P.follows .mixedOrders = true) (hB : loudOB ops k en hl ords = true) (hQ : ∀ d v c a w, Q (.panic c) (a.put d v) w → Q (.panic c) a w) (hC : C { w with drawn := w.drawn + 1 })
    (h : wpHoist P ops C (fun a' => wpOrds P ops Q C (fun a'' w' => wpList P ops Q (ops.toList.drop k) a'' w') en ords a' { w with drawn := w.drawn + 1 }) hl a) : (Code.region id ops true).wp P Q a w := by
  unfold loudOB at hB
  simp only [Bool.and_eq_true, decide_eq_true_eq] at hB
  obtain ⟨⟨⟨⟨⟨⟨hs, hk⟩, ht⟩, hp⟩, hhk⟩, hob⟩, hlen⟩ := hB
  refine wp_region_any hmx ?_
  have hsz0 : (Array.replicate ops.size false).size = ops.size := by simp
  have hcl : Lclosed .any ops (Array.replicate ops.size false) := fun i hi hx => by simp [hi] at hx
  have hX : wpAnyX P .any ops Q C (fun i => decide (i < k)) (fun a'' w' => wpList P ops Q (ops.toList.drop k) a'' w') (en + hl.length) (Array.replicate ops.size false) a { w with drawn := w.drawn + 1 } :=
    wpAnyX_hoist hs hQ en hl _ a _ hC (fun i hi => List.all_eq_true.1 hhk i hi) hp h (fun a' hK => wpAnyX_ords en ords _ a' _ hob hK)
  have hlenk : en + hl.length + (ops.toList.drop k).length = ops.size := by
    rw [hlen, List.length_drop, Array.length_toList]; omega
  have key := wpAny_of_X (Q := Q) ht hk (ops.toList.drop k).length (fun listed a' w' hR hz h1 h2 hc =>
    wpAny_tail ht (ops.toList.drop k) k listed a' w' (fun j => by rw [List.getElem?_drop, Array.getElem?_toList]) (by simp; omega) (Nat.le_refl _) hz h1 h2 hc hR) (en + hl.length) _ a _ hsz0 (fun j _ hj => by simp [hj]) hcl hX
  rw [hlenk] at key
  exact key
end
/-- Each of the open orders. -/
def allH (l : List Nat) : (Nat → Prop) → Prop := List.rec (motive := fun _ => (Nat → Prop) → Prop) (fun _ => True) (fun i _ ih p => p i ∧ ih p) l
theorem allH_mem : ∀ {l : List Nat} {p : Nat → Prop}, allH l p → ∀ i, i ∈ l → p i
  | [], p, _, i, hi => by cases hi
  | x :: r, p, h, i, hi => by
    rcases List.mem_cons.1 hi with rfl | hi
    · exact h.1
    · exact allH_mem (l := r) h.2 i hi
def anyO (P : Program) [HasGl P] (T : TT) (F : FL) (ops : Array Oper) (n : Nat) : List (List Nat) → St → (St → Prop) → Prop :=
  Nat.rec (motive := fun _ => List (List Nat) → St → (St → Prop) → Prop) (fun _ st K => K st)
    (fun _ ih ords st K => allH (headsOf ords) fun i => match ops[i]? with
      | some o => guardP ops o st (stepP P T F o st (fun st' => ih (tailsOf i ords) st' K)) (skipK st o.dst (fun st' => ih (tailsOf i ords) st' K))
      | none => True) n
def loudOP (P : Program) [HasGl P] (T : TT) (F : FL) (ops : Array Oper) (k en : Nat) (hl : List Nat) (ords : List (List Nat)) (ch : List Nat) (st : St) (K : St → Prop) : Prop :=
  match st with
  | ⟨n, kk, env, own⟩ => forceL (hideL ch 0 own) fun ownH => hopsP T (getO ops hl) ⟨n, kk, env, ownH⟩ (fun st1 => match st1 with
    | ⟨n1, _, env1, _⟩ => forceL (onlyL ch 0 own) fun ownE => anyO P T F ops en ords ⟨n1, own.length, env1, ownE⟩ (fun st2 => match st2 with
      | ⟨n2, _, env2, own2⟩ => emptyL ch 0 own own2 = true ∧ forceL (mergeL ch 0 own own2) fun own3 => opsP P T F ops (ops.toList.drop k) ⟨n2, kk, env2, own3⟩ K))
section
variable {P : Program} {T : TT} {FF : FL} {mine may : Nat → Prop} {L : Nat → Value} {F : Nat → Nat → Prop} {h : Hp} {w w0 : World} {ops : Array Oper}
theorem ordI_ok [HasGl P] {h0 : Base P} (hT : TTok P T) (hF : FTok P FF) {C : World → Prop} {Q : Exit → Act → World → Prop} {K : St → Prop} {S : Nat → Bool} (hC : ∀ w', Keep may w0 w' → C w') : ∀ (n : Nat) (ords : List (List Nat)) (st : St) (a : Act) (w : World) (listed : Array Bool), ordsB .any ops S n ords listed = true → anyO P T FF ops n ords st K → Sat may w0 h0 st a w →
    wpOrds P ops Q C (fun a' w' => ∃ st', Sat may w0 h0 st' a' w' ∧ K st') n ords a w
  | 0, ords, st, a, w, listed, hB, hp, hs => ⟨st, hs, hp⟩
  | n + 1, ords, st, a, w, listed, hB, hp, hs => fun i hi => by
    have hpi := allH_mem (l := headsOf ords) hp i hi
    unfold ordsB at hB
    rw [Bool.and_eq_true, Bool.and_eq_true] at hB
    have hBi := List.all_eq_true.1 hB.2.2 i hi
    rw [Bool.and_eq_true] at hBi
    have hi2 : i < ops.size := of_decide_eq_true hBi.1
    have hoi : ops[i]? = some ops[i] := Array.getElem?_eq_getElem hi2
    rw [hoi] at hpi
    generalize ops[i] = o at hoi hpi
    simp only at hpi
    obtain ⟨⟨L, F, h, hm, ha, hsub, hnew⟩, hk⟩ := hs
    unfold wpOp
    simp only [hoi]
    have next : ∀ a' w' st', Sat may w0 h0 st' a' w' → anyO P T FF ops n (tailsOf i ords) st' K → C w' ∧ wpOrds P ops Q C (fun a' w' => ∃ st', Sat may w0 h0 st' a' w' ∧ K st') n (tailsOf i ords) a' w' := fun a' w' st' h1 h2 => ⟨hC w' h1.keep, ordI_ok hT hF hC n _ st' a' w' _ hBi.2 h2 h1⟩
    rcases guard_wanted ha hpi with ⟨hw, hp⟩ | ⟨hw, hp⟩
    · rw [if_pos hw]
      refine .inl (Oper.wp_mono (fun a' w' ⟨st', h1, h2⟩ => next a' w' st' h1 h2) (step_ok (Q := Q) hT hF hp ⟨⟨L, F, h, hm, ha, hsub, hnew⟩, hk⟩))
    · rw [if_neg (by rw [hw]; simp)]
      obtain ⟨st', h1, h2⟩ := put_sat hm ha hsub hnew hk (av := .tup []) tup_nil hp
      exact next _ _ st' h1 h2
/-- **A region that draws its order, with calls and appends among reads**: the reads hl in any order, then el in a forced order, which may change the own objects ch alone; then the rest. -/
theorem drawV_ords [HasGl P] (k en : Nat) (hl : List Nat) (ords : List (List Nat)) (ch : List Nat) {id : Nat} {K : St → Prop} {st : St} (hmx : P.follows .mixedOrders = true) (hB : loudOB ops k en hl ords = true) (hT : TTok P T) (hF : FTok P FF)
    (hp : loudOP P T FF ops k en hl ords ch st K) : DrawV P id ops K st := by
  refine ⟨fun may w0 h0 a w hs => ?_⟩
  obtain ⟨n, kk, env, own⟩ := st
  obtain ⟨⟨L, F, h, hm, ha, hsub, hnew⟩, hk⟩ := hs
  have hk0 : Keep may w0 { w with drawn := w.drawn + 1 } := ⟨hk.os, hk.tape, hk.output, hk.size, hk.block⟩
  have hm0 : Mem (mineOf may w0) L F h own { w with drawn := w.drawn + 1 } := mem_same hm (fun b _ => rfl) (Nat.le_refl _)
  have hBk := hB
  unfold loudOB at hBk
  simp only [Bool.and_eq_true, decide_eq_true_eq] at hBk
  obtain ⟨⟨⟨⟨⟨⟨_, hkk⟩, _⟩, _⟩, hhk⟩, hob⟩, _⟩ := hBk
  generalize hwd : ({ w with drawn := w.drawn + 1 } : World) = wd at hk0 hm0
  let may' : Nat → Prop := footOf F (onlyL ch 0 own)
  have hmayF : ∀ b, may' b → ∃ i ob, own[i]? = some (some ob) ∧ ch.contains i = true ∧ F i b := fun b ⟨i, ob, hi, hb⟩ => by
    have := (onlyL_get ch own 0 i ob).1 hi
    rw [Nat.zero_add] at this
    exact ⟨i, ob, this.1, this.2, hb⟩
  have hmay : ∀ b, may' b → mineOf may w0 b := fun b hb => by
    obtain ⟨i, ob, h1, _, h3⟩ := hmayF b hb
    exact (hm0.foot i ob b h1 h3).2.2
  have hmine' : ∀ b, mineOf may' wd b → mineOf may w0 b := fun b hb => by
    rcases hb with hb | hb
    · exact hmay b hb
    · exact .inr (Nat.le_trans hk0.size hb)
  -- the objects that are read, and those that may change
  have hmH : Mem (mineOf may w0) L F h (hideL ch 0 own) wd :=
    ⟨by rw [hideL_len]; exact hm0.hn, hm0.hsub, fun i ob hi => hm0.obs i ob ((hideL_get ch own 0 i ob).1 hi).1, fun i ob b hi => hm0.foot i ob b ((hideL_get ch own 0 i ob).1 hi).1,
      fun i j oi oj b hi hj => hm0.dis i j oi oj b ((hideL_get ch own 0 i oi).1 hi).1 ((hideL_get ch own 0 j oj).1 hj).1⟩
  have hmE : Mem (mineOf may' wd) L F h (onlyL ch 0 own) wd :=
    ⟨by rw [onlyL_len]; exact hm0.hn, hm0.hsub, fun i ob hi => hm0.obs i ob ((onlyL_get ch own 0 i ob).1 hi).1, fun i ob b hi hb => ⟨(hm0.foot i ob b ((onlyL_get ch own 0 i ob).1 hi).1 hb).1, (hm0.foot i ob b ((onlyL_get ch own 0 i ob).1 hi).1 hb).2.1, .inl ⟨i, ob, hi, hb⟩⟩,
      fun i j oi oj b hi hj => hm0.dis i j oi oj b ((onlyL_get ch own 0 i oi).1 hi).1 ((onlyL_get ch own 0 j oj).1 hj).1⟩
  have hout : ∀ (i : Nat) (ob : Ob) (b : Nat), own[i]? = some (some ob) → ch.contains i = false → F i b → ¬ may' b := fun i ob b hi hc hb hmb => by
    obtain ⟨j, oj, h1, h2, h3⟩ := hmayF b hmb
    have := hm0.dis i j ob oj b hi h1 hb h3
    subst this
    rw [hc] at h2; cases h2
  have hC : ∀ w', Keep may' wd w' → Same F (hideL ch 0 own) h wd w' := fun w' hw' b hb => by
    rcases hb with hb | ⟨i, ob, hi, hb⟩
    · cases ho : h.m b with
      | none => exact absurd ho hb
      | some o =>
        refine hw'.block b (Array.getElem?_eq_some_iff.1 (hm0.hsub b o ho)).1 (fun hmb => ?_)
        obtain ⟨j, oj, h1, _, h3⟩ := hmayF b hmb
        exact hb (hm0.foot j oj b h1 h3).2.1
    · have h1 := (hideL_get ch own 0 i ob).1 hi
      rw [Nat.zero_add] at h1
      exact hw'.block b (hm0.foot i ob b h1.1 hb).1 (hout i ob b h1.1 h1.2 hb)
  have hlsz : ∀ i, i ∈ hl → i < ops.size := fun i hi => by
    have : i < k := of_decide_eq_true (List.all_eq_true.1 hhk i hi)
    omega
  refine wp_region_loudO (k := k) (en := en) (hl := hl) (ords := ords) (C := Keep may' wd) hmx hB (fun d v c a w h => by cases h.1) (by rw [hwd]; exact Keep.refl _ _) ?_
  rw [hwd]
  unfold loudOP at hp
  simp only [forceL_eq] at hp
  have hH := hoist_ok (mine := mineOf may w0) (C := Keep may' wd) hT hmH hC hl ⟨n, kk, env, hideL ch 0 own⟩ a hlsz ⟨rfl, rfl⟩ hp ⟨ha.size, ha.env, ha.defers⟩
  refine wpHoist_mono (fun a1 h1 => ?_) hl a hH
  obtain ⟨⟨n1, kk1, env1, own1⟩, ha1, ⟨rfl, rfl⟩, hp1⟩ := h1
  simp only at hp1
  have hsatE : Sat may' wd (⟨h, L, HasGl.mono h0.gl hsub.sub.m⟩ : Base P) ⟨n1, own.length, env1, onlyL ch 0 own⟩ a1 wd :=
    ⟨⟨L, F, h, hmE, ⟨ha1.size, ha1.env, ha1.defers⟩, ⟨Sub.refl h, fun i hi => rfl, hm0.hn.symm⟩, fun k hk => .inl hk⟩, Keep.refl _ _⟩
  have hE := ordI_ok (Q := fun e a' w' => e = .normal ∧ ∃ st', Sat may w0 h0 st' a' w' ∧ K st') (C := Keep may' wd) hT hF (fun w' hw' => hw') en ords _ a1 wd _ hob hp1 hsatE
  refine wpOrds_mono (fun a2 w2 h2 => ?_) en ords a1 wd hE
  obtain ⟨⟨n2, kk2, env2, own2⟩, ⟨⟨L2, F2, h2, hm2, ha2, hsub2, hnew2⟩, hk2⟩, hem, hp2⟩ := h2
  have hLL : ∀ i, i < h.n → L2 i = L i := fun i hi => hsub2.at_ i hi
  have hS2 : Sub h h2 := hsub2.sub
  let F3 : Nat → Nat → Prop := fun i b => (∃ x, own[i]? = some (some x) ∧ ch.contains i = false ∧ F i b) ∨ ((∀ x, own[i]? = some (some x) → ch.contains i = true) ∧ F2 i b)
  have hnot : ∀ (i j : Nat) (ob o2 : Ob) (b : Nat), own[i]? = some (some ob) → ch.contains i = false → F i b → own2[j]? = some (some o2) → F2 j b → False := fun i j ob o2 b hi hc hb hj hb2 => by
    obtain ⟨q1, q2, q3⟩ := hm2.foot j o2 b hj hb2
    rcases q3 with q3 | q3
    · exact hout i ob b hi hc hb q3
    · have := (hm0.foot i ob b hi hb).1
      omega
  have hF3a : ∀ (i : Nat) (ob : Ob), own[i]? = some (some ob) → ch.contains i = false → F3 i = F i := fun i ob hi hc => by
    funext b
    refine propext ⟨fun hb => ?_, fun hb => .inl ⟨ob, hi, hc, hb⟩⟩
    rcases hb with ⟨_, _, _, hb⟩ | ⟨hx, _⟩
    · exact hb
    · rw [hx ob hi] at hc; cases hc
  have hF3b : ∀ (i : Nat), (∀ x, own[i]? = some (some x) → ch.contains i = true) → F3 i = F2 i := fun i hx => by
    funext b
    refine propext ⟨fun hb => ?_, fun hb => .inr ⟨hx, hb⟩⟩
    rcases hb with ⟨x, h1, h2, _⟩ | ⟨_, hb⟩
    · rw [hx x h1] at h2; cases h2
    · exact hb
  have hmg : ∀ (i : Nat) (ob : Ob), (mergeL ch 0 own own2)[i]? = some (some ob) → (own[i]? = some (some ob) ∧ ch.contains i = false ∧ F3 i = F i) ∨ (own2[i]? = some (some ob) ∧ F3 i = F2 i) := fun i ob hi => by
    have := mergeL_get ch own own2 0 i ob hi
    rw [Nat.zero_add] at this
    rcases this with ⟨h1, h2⟩ | ⟨h1, h2⟩
    · exact .inl ⟨h1, h2, hF3a i ob h1 h2⟩
    · exact .inr ⟨h1, hF3b i h2⟩
  have hm3 : Mem (mineOf may w0) L2 F3 h2 (mergeL ch 0 own own2) w2 := by
    refine ⟨by rw [mergeL_len]; exact hm2.hn, hm2.hsub, fun i ob hi => ?_, fun i ob b hi hb => ?_, fun i j oi oj b hi hj hbi hbj => ?_⟩
    · rcases hmg i ob hi with ⟨q1, q2, q3⟩ | ⟨q1, q3⟩
      · have hlt : i < h.n := by rw [hm0.hn]; exact (List.getElem?_eq_some_iff.1 q1).1
        rw [q3, hLL i hlt]
        exact obOk_move (hm0.obs i ob q1) (fun b hb => hk2.block b (hm0.foot i ob b q1 hb).1 (hout i ob b q1 q2 hb)) hLL hS2
      · rw [q3]; exact hm2.obs i ob q1
    · rcases hmg i ob hi with ⟨q1, q2, q3⟩ | ⟨q1, q3⟩
      · rw [q3] at hb
        obtain ⟨f1, f2, f3⟩ := hm0.foot i ob b q1 hb
        refine ⟨Nat.lt_of_lt_of_le f1 hk2.size, ?_, f3⟩
        cases ho : h2.m b with
        | none => rfl
        | some o =>
          rcases hnew2 b (by rw [ho]; simp) with h9 | h9 | h9
          · exact absurd f2 h9
          · exact absurd h9 (hout i ob b q1 q2 hb)
          · omega
      · rw [q3] at hb
        obtain ⟨f1, f2, f3⟩ := hm2.foot i ob b q1 hb
        exact ⟨f1, f2, hmine' b f3⟩
    · rcases hmg i oi hi with ⟨q1, q2, q3⟩ | ⟨q1, q3⟩ <;> rcases hmg j oj hj with ⟨r1, r2, r3⟩ | ⟨r1, r3⟩ <;> rw [q3] at hbi <;> rw [r3] at hbj
      · exact hm0.dis i j oi oj b q1 r1 hbi hbj
      · exact (hnot i j oi oj b q1 q2 hbi r1 hbj).elim
      · exact (hnot j i oj oi b r1 r2 hbj q1 hbi).elim
      · exact hm2.dis i j oi oj b q1 r1 hbi hbj
  refine ops_ok (may := may) (w0 := w0) (h0 := h0) (K := K) hT hF (fun st'' a'' w'' h1 h2 => ⟨rfl, st'', h1, h2⟩) _ _ a2 w2 hp2 ⟨⟨L2, F3, h2, hm3, ⟨ha2.size, ha2.env, ha2.defers⟩, hsub.step hLL hS2, fun x hx => ?_⟩, hk0.trans hk2 hmay⟩
  rcases hnew2 x hx with h9 | h9
  · exact hnew x h9
  · exact .inr (hmine' x h9)
end
end Go.Eng
/- A region that draws its order, by a schedule: what may come up any time is reckoned at once; what has effects is alone when it comes. -/
set_option linter.unusedVariables false
set_option linter.unusedSimpArgs false
namespace Go.Eng
open Go
section
variable {P : Program} {ops : Array Oper} {Q : Exit → Act → World → Prop} {md : Region.Mode} {R : Act → World → Prop}
theorem wpAnyX_monoC {S : Nat → Bool} {C C' : World → Prop} (hC : ∀ w, C' w → C w) : ∀ (fuel : Nat) (listed : Array Bool) (a : Act) (w : World), wpAnyX P md ops Q C' S R fuel listed a w → wpAnyX P md ops Q C S R fuel listed a w
  | 0, listed, a, w, h => h
  | fuel + 1, listed, a, w, h => ⟨h.1, fun i hi hS => wpOp_mono (fun a' w' h1 => ⟨hC _ h1.1, wpAnyX_monoC hC fuel _ a' w' h1.2⟩) (h.2 i hi hS)⟩
/-- A schedule: a read that may come up at any time (rd); what has effects (ef), alone or one of several (alt). -/
inductive Sch where
  | nil
  | rd (i : Nat) (s : Sch)
  | ef (i : Nat) (s : Sch)
  | alt (a b : Sch)
/-- Reads leave what they leave in every world of the class; the class may shrink at what has effects. -/
def wpS (P : Program) (ops : Array Oper) (Q : Exit → Act → World → Prop) (R : Act → World → Prop) : Sch → (World → Prop) → Act → World → Prop
  | .nil, C, a, w => R a w
  | .rd i r, C, a, w => ∃ o v, ops[i]? = some o ∧ YieldsW P ops C o v a ∧ wpS P ops Q R r C (a.put o.dst v) w
  | .ef i r, C, a, w => wpOp P ops Q i (fun a' w' => ∃ C' : World → Prop, (∀ x, C' x → C x) ∧ C' w' ∧ wpS P ops Q R r C' a' w') a w
  | .alt x y, C, a, w => wpS P ops Q R x C a w ∧ wpS P ops Q R y C a w
theorem wpS_mono {R R' : Act → World → Prop} (hq : ∀ a w, R a w → R' a w) : ∀ (l : Sch) (C : World → Prop) (a : Act) (w : World), wpS P ops Q R l C a w → wpS P ops Q R' l C a w
  | .nil, C, a, w, h => hq a w h
  | .rd i r, C, a, w, ⟨o, v, h1, h2, h3⟩ => ⟨o, v, h1, h2, wpS_mono hq r C _ _ h3⟩
  | .ef i r, C, a, w, h => wpOp_mono (fun a' w' ⟨C', k1, k2, k3⟩ => ⟨C', k1, k2, wpS_mono hq r C' a' w' k3⟩) h
  | .alt x y, C, a, w, h => ⟨wpS_mono hq x C a w h.1, wpS_mono hq y C a w h.2⟩
def heads : Sch → List Nat
  | .ef i _ => [i]
  | .alt x y => heads x ++ heads y
  | _ => []
def depthB : Sch → Nat → Bool
  | .nil, 0 => true
  | .rd _ r, n + 1 => depthB r n
  | .ef _ r, n + 1 => depthB r n
  | .alt x y, n + 1 => depthB x (n + 1) && depthB y (n + 1)
  | _, _ => false
def schedB (md : Region.Mode) (ops : Array Oper) : Sch → Bool → Array Bool → Bool
  | .nil, _, listed => (List.range ops.size).all (fun j => listed.getD j false)
  | .rd i r, _, listed => (Region.ready md ops listed).contains i && Region.free md ops listed i && schedB md ops r true (listed.setIfInBounds i true)
  | .ef i r, fl, listed => (Region.ready md ops listed).contains i && (!fl || (Region.ready md ops listed).all (fun j => decide (j = i))) && schedB md ops r true (listed.setIfInBounds i true)
  | .alt x y, fl, listed => (!fl || ((Region.ready md ops listed).all (fun j => (heads x ++ heads y).contains j) && (Region.ready md ops listed).any (fun _ => true))) && schedB md ops x false listed && schedB md ops y false listed
theorem wpAnyX_sched (hs : Region.noSelect ops = true) (hQ : ∀ d v c a w, Q (.panic c) (a.put d v) w → Q (.panic c) a w) : ∀ (l : Sch),
    (∀ (n : Nat) (listed : Array Bool) (C : World → Prop) (a : Act) (w : World), C w → depthB l n = true → schedB md ops l true listed = true → wpS P ops Q R l C a w → wpAnyX P md ops Q C (fun i => decide (i < ops.size)) R n listed a w) ∧
    (∀ (n : Nat) (listed : Array Bool) (C : World → Prop) (a : Act) (w : World) (j : Nat), C w → depthB l (n + 1) = true → schedB md ops l false listed = true → wpS P ops Q R l C a w → j ∈ heads l → wpOp P ops Q j (fun a' w' => C w' ∧ wpAnyX P md ops Q C (fun i => decide (i < ops.size)) R n (listed.setIfInBounds j true) a' w') a w)
  | .nil => by
    refine ⟨fun n listed C a w hw hd hB h => ?_, fun n listed C a w j hw hd hB h hj => by cases hj⟩
    cases n with
    | zero => exact ⟨fun j hj _ => List.all_eq_true.1 hB j (List.mem_range.2 hj), h⟩
    | succ n => cases hd
  | .rd i r => by
    refine ⟨fun n listed C a w hw hd hB h => ?_, fun n listed C a w j hw hd hB h hj => by cases hj⟩
    cases n with
    | zero => cases hd
    | succ n =>
      obtain ⟨o, v, h0, hy, h⟩ := h
      simp only [schedB, Bool.and_eq_true] at hB
      obtain ⟨⟨hr, hf⟩, hB'⟩ := hB
      have := (wpAnyX_sched hs hQ r).1 n _ C (a.put o.dst v) w hw hd hB' h
      exact wpAnyX_first (decide_eq_true (Array.getElem?_eq_some_iff.1 h0).1) h0 (Region.noSelect_spec hs) (hQ o.dst v) n listed a w hw (Region.free_spec h0 hf) (by simpa using hr) hy this
  | .ef i r => by
    have two : ∀ (n : Nat) (listed : Array Bool) (C : World → Prop) (a : Act) (w : World), C w → depthB r n = true → schedB md ops r true (listed.setIfInBounds i true) = true → wpS P ops Q R (.ef i r) C a w → wpOp P ops Q i (fun a' w' => C w' ∧ wpAnyX P md ops Q C (fun i => decide (i < ops.size)) R n (listed.setIfInBounds i true) a' w') a w := fun n listed C a w hw hd hB h => by
      refine wpOp_mono (fun a' w' h1 => ?_) h
      obtain ⟨C', k1, k2, k3⟩ := h1
      exact ⟨k1 _ k2, wpAnyX_monoC k1 _ _ _ _ ((wpAnyX_sched hs hQ r).1 n _ C' a' w' k2 hd hB k3)⟩
    refine ⟨fun n listed C a w hw hd hB h => ?_, fun n listed C a w j hw hd hB h hj => ?_⟩
    · cases n with
      | zero => cases hd
      | succ n =>
        simp only [schedB, Bool.and_eq_true, Bool.not_true, Bool.false_or] at hB
        obtain ⟨⟨hr, hf⟩, hB'⟩ := hB
        have hr' : i ∈ Region.ready md ops listed := by simpa using hr
        obtain ⟨g1, g2, g3⟩ := ready_deps hr'
        refine ⟨⟨i, g1, decide_eq_true g1, g2⟩, fun j hj hS => ?_⟩
        obtain rfl : j = i := of_decide_eq_true (List.all_eq_true.1 hf j hj)
        exact two n listed C a w hw hd hB' h
    · obtain rfl : j = i := by simpa [heads] using hj
      simp only [schedB, Bool.and_eq_true] at hB
      exact two n listed C a w hw hd hB.2 h
  | .alt x y => by
    have two : ∀ (n : Nat) (listed : Array Bool) (C : World → Prop) (a : Act) (w : World) (j : Nat), C w → depthB (.alt x y) (n + 1) = true → schedB md ops x false listed = true → schedB md ops y false listed = true → wpS P ops Q R (.alt x y) C a w → j ∈ heads x ++ heads y →
        wpOp P ops Q j (fun a' w' => C w' ∧ wpAnyX P md ops Q C (fun i => decide (i < ops.size)) R n (listed.setIfInBounds j true) a' w') a w := fun n listed C a w j hw hd h1 h2 h hj => by
      simp only [depthB, Bool.and_eq_true] at hd
      rcases List.mem_append.1 hj with hj | hj
      · exact (wpAnyX_sched hs hQ x).2 n listed C a w j hw hd.1 h1 h.1 hj
      · exact (wpAnyX_sched hs hQ y).2 n listed C a w j hw hd.2 h2 h.2 hj
    refine ⟨fun n listed C a w hw hd hB h => ?_, fun n listed C a w j hw hd hB h hj => ?_⟩
    · cases n with
      | zero => cases hd
      | succ n =>
        simp only [schedB, Bool.and_eq_true, Bool.not_true, Bool.false_or] at hB
        obtain ⟨⟨⟨hr, he⟩, h1⟩, h2⟩ := hB
        obtain ⟨i, hi, _⟩ := List.any_eq_true.1 he
        obtain ⟨g1, g2, g3⟩ := ready_deps hi
        refine ⟨⟨i, g1, decide_eq_true g1, g2⟩, fun j hj hS => ?_⟩
        exact two n listed C a w j hw hd h1 h2 h (by simpa using List.all_eq_true.1 hr j hj)
    · simp only [schedB, Bool.and_eq_true] at hB
      exact two n listed C a w j hw hd hB.1.2 hB.2 h hj
def schB (ops : Array Oper) (l : Sch) : Bool := Region.noSelect ops && tailB .any ops ops.size && schedB .any ops l true (Array.replicate ops.size false) && depthB l ops.size
theorem wp_region_sched {id : Nat} {l : Sch} {C : World → Prop} {a : Act} {w : World} (hmx : P.follows .mixedOrders = true) (hB : schB ops l = true) (hQ : ∀ d v c a w, Q (.panic c) (a.put d v) w → Q (.panic c) a w) (hC : C { w with drawn := w.drawn + 1 })
    (h : wpS P ops Q (fun a' w' => Q .normal a' w') l C a { w with drawn := w.drawn + 1 }) : (Code.region id ops true).wp P Q a w := by
  unfold schB at hB
  simp only [Bool.and_eq_true, decide_eq_true_eq] at hB
  obtain ⟨⟨⟨hs, ht⟩, hp⟩, hlen⟩ := hB
  refine wp_region_any hmx ?_
  have hsz0 : (Array.replicate ops.size false).size = ops.size := by simp
  have hcl : Lclosed .any ops (Array.replicate ops.size false) := fun i hi hx => by simp [hi] at hx
  have hX := (wpAnyX_sched (md := .any) (Q := Q) (R := fun a' w' => Q .normal a' w') hs hQ l).1 ops.size _ C a _ hC hlen hp h
  have key := wpAny_of_X (Q := Q) ht (Nat.le_refl _) 0 (fun listed a' w' hR hz h1 h2 hc =>
    wpAny_tail ht [] ops.size listed a' w' (fun j => by rw [List.getElem?_nil, Array.getElem?_eq_none (by omega)]) (by simp) (Nat.le_refl _) hz h1 h2 hc hR) ops.size _ a _ hsz0 (fun j hj1 hj2 => by omega) hcl hX
  exact key
end
def schedP (P : Program) [HasGl P] (T : TT) (F : FL) (ops : Array Oper) (ch : List Nat) (l : Sch) : St → (St → Prop) → Prop :=
  Sch.rec (motive := fun _ => St → (St → Prop) → Prop) (fun st K => K st)
    (fun i _ ih st K => match ops[i]? with
        | none => False
        | some o => match st with
          | ⟨n, kk, env, own⟩ => forceL (hideL ch 0 own) fun ownH => guardP ops o ⟨n, kk, env, ownH⟩ (aopP T ⟨n, kk, env, ownH⟩ o.op (fun av => putK ⟨n, kk, env, own⟩ o.dst av (fun st' => ih st' K))) (skipK ⟨n, kk, env, own⟩ o.dst (fun st' => ih st' K)))
    (fun i _ ih st K => match ops[i]? with
        | none => False
        | some o => match st with
          | ⟨n, kk, env, own⟩ => forceL (onlyL ch 0 own) fun ownE => guardP ops o ⟨n, own.length, env, ownE⟩ (stepP P T F o ⟨n, own.length, env, ownE⟩ (fun st2 => match st2 with
                | ⟨n2, _, env2, own2⟩ => forceL (mergeL ch 0 own own2) fun own3 => ih ⟨n2, kk, env2, own3⟩ K)) (skipK ⟨n, kk, env, own⟩ o.dst (fun st' => ih st' K)))
    (fun _ _ iha ihb st K => iha st K ∧ ihb st K) l
section
variable {P : Program} {T : TT} {FF : FL} {may : Nat → Prop} {L : Nat → Value} {F : Nat → Nat → Prop} {h : Hp} {w w0 : World} {ops : Array Oper}
/-- What an effect on the own objects ch alone (and on new ones) comes to. -/
theorem merge_ok [HasGl P] {h0 : Base P} {ch : List Nat} {own own2 : List (Option Ob)} {kk n2 kk2 : Nat} {env2 : List (Nat × AV)} {a2 : Act} {wd w2 : World} {hgl : HasGl.ok P h.m} (hm0 : Mem (mineOf may w0) L F h own wd) (hk0 : Keep may w0 wd) (hsub : SubB h0 kk L h) (hnew : ∀ k, h.m k ≠ none → h0.h.m k ≠ none ∨ mineOf may w0 k)
    (hs : Sat (footOf F (onlyL ch 0 own)) wd (⟨h, L, hgl⟩ : Base P) ⟨n2, kk2, env2, own2⟩ a2 w2) :
    ∃ L2 F3 h2, Mem (mineOf may w0) L2 F3 h2 (mergeL ch 0 own own2) w2 ∧ Agree L2 h2 ⟨n2, kk, env2, mergeL ch 0 own own2⟩ a2 ∧ SubB h0 kk L2 h2 ∧ (∀ k, h2.m k ≠ none → h0.h.m k ≠ none ∨ mineOf may w0 k) ∧ Keep may w0 w2 ∧
      (∀ x, Keep (footOf F3 (onlyL ch 0 (mergeL ch 0 own own2))) w2 x → Keep (footOf F (onlyL ch 0 own)) wd x) := by
  let may' : Nat → Prop := footOf F (onlyL ch 0 own)
  have hmayF : ∀ b, may' b → ∃ i ob, own[i]? = some (some ob) ∧ ch.contains i = true ∧ F i b := fun b ⟨i, ob, hi, hb⟩ => by
    have := (onlyL_get ch own 0 i ob).1 hi
    rw [Nat.zero_add] at this
    exact ⟨i, ob, this.1, this.2, hb⟩
  have hmay : ∀ b, may' b → mineOf may w0 b := fun b hb => by
    obtain ⟨i, ob, h1, _, h3⟩ := hmayF b hb
    exact (hm0.foot i ob b h1 h3).2.2
  have hmine' : ∀ b, mineOf may' wd b → mineOf may w0 b := fun b hb => by
    rcases hb with hb | hb
    · exact hmay b hb
    · exact .inr (Nat.le_trans hk0.size hb)
  have hout : ∀ (i : Nat) (ob : Ob) (b : Nat), own[i]? = some (some ob) → ch.contains i = false → F i b → ¬ may' b := fun i ob b hi hc hb hmb => by
    obtain ⟨j, oj, h1, h2, h3⟩ := hmayF b hmb
    have := hm0.dis i j ob oj b hi h1 hb h3
    subst this
    rw [hc] at h2; cases h2
  obtain ⟨⟨L2, F2, h2, hm2, ha2, hsub2, hnew2⟩, hk2⟩ := hs
  have hLL : ∀ i, i < h.n → L2 i = L i := fun i hi => hsub2.at_ i hi
  have hS2 : Sub h h2 := hsub2.sub
  let F3 : Nat → Nat → Prop := fun i b => (∃ x, own[i]? = some (some x) ∧ ch.contains i = false ∧ F i b) ∨ ((∀ x, own[i]? = some (some x) → ch.contains i = true) ∧ F2 i b)
  have hnot : ∀ (i j : Nat) (ob o2 : Ob) (b : Nat), own[i]? = some (some ob) → ch.contains i = false → F i b → own2[j]? = some (some o2) → F2 j b → False := fun i j ob o2 b hi hc hb hj hb2 => by
    obtain ⟨q1, q2, q3⟩ := hm2.foot j o2 b hj hb2
    rcases q3 with q3 | q3
    · exact hout i ob b hi hc hb q3
    · have := (hm0.foot i ob b hi hb).1
      omega
  have hF3a : ∀ (i : Nat) (ob : Ob), own[i]? = some (some ob) → ch.contains i = false → F3 i = F i := fun i ob hi hc => by
    funext b
    refine propext ⟨fun hb => ?_, fun hb => .inl ⟨ob, hi, hc, hb⟩⟩
    rcases hb with ⟨_, _, _, hb⟩ | ⟨hx, _⟩
    · exact hb
    · rw [hx ob hi] at hc; cases hc
  have hF3b : ∀ (i : Nat), (∀ x, own[i]? = some (some x) → ch.contains i = true) → F3 i = F2 i := fun i hx => by
    funext b
    refine propext ⟨fun hb => ?_, fun hb => .inr ⟨hx, hb⟩⟩
    rcases hb with ⟨x, h1, h2, _⟩ | ⟨_, hb⟩
    · rw [hx x h1] at h2; cases h2
    · exact hb
  have hmg : ∀ (i : Nat) (ob : Ob), (mergeL ch 0 own own2)[i]? = some (some ob) → (own[i]? = some (some ob) ∧ ch.contains i = false ∧ F3 i = F i) ∨ (own2[i]? = some (some ob) ∧ F3 i = F2 i) := fun i ob hi => by
    have := mergeL_get ch own own2 0 i ob hi
    rw [Nat.zero_add] at this
    rcases this with ⟨h1, h2⟩ | ⟨h1, h2⟩
    · exact .inl ⟨h1, h2, hF3a i ob h1 h2⟩
    · exact .inr ⟨h1, hF3b i h2⟩
  have hm3 : Mem (mineOf may w0) L2 F3 h2 (mergeL ch 0 own own2) w2 := by
    refine ⟨by rw [mergeL_len]; exact hm2.hn, hm2.hsub, fun i ob hi => ?_, fun i ob b hi hb => ?_, fun i j oi oj b hi hj hbi hbj => ?_⟩
    · rcases hmg i ob hi with ⟨q1, q2, q3⟩ | ⟨q1, q3⟩
      · have hlt : i < h.n := by rw [hm0.hn]; exact (List.getElem?_eq_some_iff.1 q1).1
        rw [q3, hLL i hlt]
        exact obOk_move (hm0.obs i ob q1) (fun b hb => hk2.block b (hm0.foot i ob b q1 hb).1 (hout i ob b q1 q2 hb)) hLL hS2
      · rw [q3]; exact hm2.obs i ob q1
    · rcases hmg i ob hi with ⟨q1, q2, q3⟩ | ⟨q1, q3⟩
      · rw [q3] at hb
        obtain ⟨f1, f2, f3⟩ := hm0.foot i ob b q1 hb
        refine ⟨Nat.lt_of_lt_of_le f1 hk2.size, ?_, f3⟩
        cases ho : h2.m b with
        | none => rfl
        | some o =>
          rcases hnew2 b (by rw [ho]; simp) with h9 | h9 | h9
          · exact absurd f2 h9
          · exact absurd h9 (hout i ob b q1 q2 hb)
          · omega
      · rw [q3] at hb
        obtain ⟨f1, f2, f3⟩ := hm2.foot i ob b q1 hb
        exact ⟨f1, f2, hmine' b f3⟩
    · rcases hmg i oi hi with ⟨q1, q2, q3⟩ | ⟨q1, q3⟩ <;> rcases hmg j oj hj with ⟨r1, r2, r3⟩ | ⟨r1, r3⟩ <;> rw [q3] at hbi <;> rw [r3] at hbj
      · exact hm0.dis i j oi oj b q1 r1 hbi hbj
      · exact (hnot i j oi oj b q1 q2 hbi r1 hbj).elim
      · exact (hnot j i oj oi b r1 r2 hbj q1 hbi).elim
      · exact hm2.dis i j oi oj b q1 r1 hbi hbj
  refine ⟨L2, F3, h2, hm3, ⟨ha2.size, ha2.env, ha2.defers⟩, hsub.step hLL hS2, fun x hx => ?_, hk0.trans hk2 hmay, fun x hx => hk2.trans hx (fun b hb => ?_)⟩
  · rcases hnew2 x hx with h9 | h9
    · exact hnew x h9
    · exact .inr (hmine' x h9)
  · obtain ⟨i, ob, hi, hb⟩ := hb
    have h1 := (onlyL_get ch _ 0 i ob).1 hi
    rw [Nat.zero_add] at h1
    rcases hmg i ob h1.1 with ⟨q1, q2, q3⟩ | ⟨q1, q3⟩
    · rw [q2] at h1; cases h1.2
    · rw [q3] at hb
      exact (hm2.foot i ob b q1 hb).2.2
theorem schedP_t [HasGl P] {ch : List Nat} {i n kk : Nat} {env : List (Nat × AV)} {own : List (Option Ob)} {r : Sch} {K : St → Prop} : schedP P T FF ops ch (.rd i r) ⟨n, kk, env, own⟩ K = (match ops[i]? with
    | none => False
    | some o => forceL (hideL ch 0 own) fun ownH => guardP ops o ⟨n, kk, env, ownH⟩ (aopP T ⟨n, kk, env, ownH⟩ o.op (fun av => putK ⟨n, kk, env, own⟩ o.dst av (fun st' => schedP P T FF ops ch r st' K))) (skipK ⟨n, kk, env, own⟩ o.dst (fun st' => schedP P T FF ops ch r st' K))) := by
  show (match ops[i]? with | none => _ | some o => _) = _
  cases ops[i]? <;> rfl
theorem schedP_f [HasGl P] {ch : List Nat} {i n kk : Nat} {env : List (Nat × AV)} {own : List (Option Ob)} {r : Sch} {K : St → Prop} : schedP P T FF ops ch (.ef i r) ⟨n, kk, env, own⟩ K = (match ops[i]? with
    | none => False
    | some o => forceL (onlyL ch 0 own) fun ownE => guardP ops o ⟨n, own.length, env, ownE⟩ (stepP P T FF o ⟨n, own.length, env, ownE⟩ (fun st2 => match st2 with
                | ⟨n2, _, env2, own2⟩ => forceL (mergeL ch 0 own own2) fun own3 => schedP P T FF ops ch r ⟨n2, kk, env2, own3⟩ K)) (skipK ⟨n, kk, env, own⟩ o.dst (fun st' => schedP P T FF ops ch r st' K))) := by
  show (match ops[i]? with | none => _ | some o => _) = _
  cases ops[i]? <;> rfl
theorem sched_ok [HasGl P] {h0 : Base P} (hT : TTok P T) (hF : FTok P FF) {Q : Exit → Act → World → Prop} {ch : List Nat} {K : St → Prop} : ∀ (l : Sch) (n kk : Nat) (env : List (Nat × AV)) (own : List (Option Ob)) (a : Act) (w : World) (L : Nat → Value) (F : Nat → Nat → Prop) (h : Hp),
    schedP P T FF ops ch l ⟨n, kk, env, own⟩ K → Mem (mineOf may w0) L F h own w → Agree L h ⟨n, kk, env, own⟩ a → SubB h0 kk L h → (∀ k, h.m k ≠ none → h0.h.m k ≠ none ∨ mineOf may w0 k) → Keep may w0 w →
    wpS P ops Q (fun a' w' => ∃ st', Sat may w0 h0 st' a' w' ∧ K st') l (Keep (footOf F (onlyL ch 0 own)) w) a w
  | .nil, n, kk, env, own, a, w, L, F, h, hp, hm, ha, hsub, hnew, hk => ⟨_, ⟨⟨L, F, h, hm, ha, hsub, hnew⟩, hk⟩, hp⟩
  | .rd i r, n, kk, env, own, a, w, L, F, h, hp, hm, ha, hsub, hnew, hk => by
    rw [schedP_t] at hp
    cases hoi : ops[i]? with
    | none => rw [hoi] at hp; exact hp.elim
    | some o =>
      rw [hoi] at hp
      have hgl : HasGl.ok P h.m := HasGl.mono h0.gl hsub.sub.m
      simp only [forceL_eq] at hp
      have hH : Agree L h ⟨n, kk, env, hideL ch 0 own⟩ a := ⟨ha.size, ha.env, ha.defers⟩
      have hmH : Mem (mineOf may w0) L F h (hideL ch 0 own) w :=
        ⟨by rw [hideL_len]; exact hm.hn, hm.hsub, fun i ob hi => hm.obs i ob ((hideL_get ch own 0 i ob).1 hi).1, fun i ob b hi => hm.foot i ob b ((hideL_get ch own 0 i ob).1 hi).1,
          fun i j oi oj b hi hj => hm.dis i j oi oj b ((hideL_get ch own 0 i oi).1 hi).1 ((hideL_get ch own 0 j oj).1 hj).1⟩
      have hC : ∀ w', Keep (footOf F (onlyL ch 0 own)) w w' → Same F (hideL ch 0 own) h w w' := fun w' hw' b hb => by
        have hmayF : footOf F (onlyL ch 0 own) b → ∃ i ob, own[i]? = some (some ob) ∧ ch.contains i = true ∧ F i b := fun ⟨i, ob, hi, hb⟩ => by
          have := (onlyL_get ch own 0 i ob).1 hi
          rw [Nat.zero_add] at this
          exact ⟨i, ob, this.1, this.2, hb⟩
        rcases hb with hb | ⟨i, ob, hi, hb⟩
        · cases ho : h.m b with
          | none => exact absurd ho hb
          | some o =>
            refine hw'.block b (Array.getElem?_eq_some_iff.1 (hm.hsub b o ho)).1 (fun hmb => ?_)
            obtain ⟨j, oj, h1, _, h3⟩ := hmayF hmb
            exact hb (hm.foot j oj b h1 h3).2.1
        · have h1 := (hideL_get ch own 0 i ob).1 hi
          rw [Nat.zero_add] at h1
          refine hw'.block b (hm.foot i ob b h1.1 hb).1 (fun hmb => ?_)
          obtain ⟨j, oj, g1, g2, g3⟩ := hmayF hmb
          have := hm.dis i j ob oj b h1.1 g1 hb g3
          subst this
          rw [h1.2] at g2; cases g2
      rcases guard_wanted hH hp with ⟨hw, hp⟩ | ⟨hw, hp⟩
      · obtain ⟨av, v, h1, h2, h3⟩ := aop_ok hT hmH hH (o := o) hp
        obtain ⟨⟨n', kk', env', own'⟩, k1, ⟨k2, k2'⟩, k3⟩ := put_agree ha h2 h1
        simp only at k2 k2'
        subst k2 k2'
        exact ⟨o, v, hoi, .inl ⟨hw, fun w' hw' => h3 w' (hC w' hw')⟩, sched_ok hT hF r n' _ env' _ _ w L F h k3 hm k1 hsub hnew hk⟩
      · obtain ⟨⟨n', kk', env', own'⟩, k1, ⟨k2, k2'⟩, k3⟩ := put_agree ha (av := .tup []) (v := undef) tup_nil hp
        simp only at k2 k2'
        subst k2 k2'
        exact ⟨o, undef, hoi, .inr ⟨hw, rfl⟩, sched_ok hT hF r n' _ env' _ _ w L F h k3 hm k1 hsub hnew hk⟩
  | .ef i r, n, kk, env, own, a, w, L, F, h, hp, hm, ha, hsub, hnew, hk => by
    rw [schedP_f] at hp
    cases hoi : ops[i]? with
    | none => rw [hoi] at hp; exact hp.elim
    | some o =>
      rw [hoi] at hp
      have hgl : HasGl.ok P h.m := HasGl.mono h0.gl hsub.sub.m
      simp only [forceL_eq] at hp
      have hE : Agree L h ⟨n, own.length, env, onlyL ch 0 own⟩ a := ⟨ha.size, ha.env, ha.defers⟩
      have hmE : Mem (mineOf (footOf F (onlyL ch 0 own)) w) L F h (onlyL ch 0 own) w :=
        ⟨by rw [onlyL_len]; exact hm.hn, hm.hsub, fun i ob hi => hm.obs i ob ((onlyL_get ch own 0 i ob).1 hi).1, fun i ob b hi hb => ⟨(hm.foot i ob b ((onlyL_get ch own 0 i ob).1 hi).1 hb).1, (hm.foot i ob b ((onlyL_get ch own 0 i ob).1 hi).1 hb).2.1, .inl ⟨i, ob, hi, hb⟩⟩,
          fun i j oi oj b hi hj => hm.dis i j oi oj b ((onlyL_get ch own 0 i oi).1 hi).1 ((onlyL_get ch own 0 j oj).1 hj).1⟩
      have hsatE : Sat (footOf F (onlyL ch 0 own)) w (⟨h, L, hgl⟩ : Base P) ⟨n, own.length, env, onlyL ch 0 own⟩ a w :=
        ⟨⟨L, F, h, hmE, hE, ⟨Sub.refl h, fun i hi => rfl, hm.hn.symm⟩, fun k hk => .inl hk⟩, Keep.refl _ _⟩
      show Go.wpOp P ops Q i _ a w
      unfold Go.wpOp
      simp only [hoi]
      rcases guard_wanted hE hp with ⟨hw, hp⟩ | ⟨hw, hp⟩
      · rw [if_pos hw]
        refine .inl (Oper.wp_mono (fun a' w' h2 => ?_) (step_ok (Q := Q) hT hF hp hsatE))
        obtain ⟨⟨n2, kk2, env2, own2⟩, hs2, hp2⟩ := h2
        obtain ⟨L2, F3, h2, m1, m2, m3, m4, m5, m6⟩ := merge_ok hm hk hsub hnew hs2
        exact ⟨_, m6, Keep.refl _ _, sched_ok hT hF r n2 kk env2 _ a' w' L2 F3 h2 hp2 m1 m2 m3 m4 m5⟩
      · rw [if_neg (by rw [hw]; simp)]
        obtain ⟨⟨n', kk', env', own'⟩, k1, ⟨k2, k2'⟩, k3⟩ := put_agree ha (av := .tup []) (v := undef) tup_nil hp
        simp only at k2 k2'
        subst k2 k2'
        exact ⟨_, fun x hx => hx, Keep.refl _ _, sched_ok hT hF r n' _ env' _ _ w L F h k3 hm k1 hsub hnew hk⟩
  | .alt x y, n, kk, env, own, a, w, L, F, h, hp, hm, ha, hsub, hnew, hk => ⟨sched_ok hT hF x n kk env own a w L F h hp.1 hm ha hsub hnew hk, sched_ok hT hF y n kk env own a w L F h hp.2 hm ha hsub hnew hk⟩
/-- **A region that draws its order, by a schedule**; what has effects may change the own objects ch alone. -/
theorem drawV_sched [HasGl P] (l : Sch) (ch : List Nat) {id : Nat} {K : St → Prop} {st : St} (hmx : P.follows .mixedOrders = true) (hB : schB ops l = true) (hT : TTok P T) (hF : FTok P FF)
    (hp : schedP P T FF ops ch l st K) : DrawV P id ops K st := by
  refine ⟨fun may w0 h0 a w hs => ?_⟩
  obtain ⟨n, kk, env, own⟩ := st
  obtain ⟨⟨L, F, h, hm, ha, hsub, hnew⟩, hk⟩ := hs
  have hk0 : Keep may w0 { w with drawn := w.drawn + 1 } := ⟨hk.os, hk.tape, hk.output, hk.size, hk.block⟩
  have hm0 : Mem (mineOf may w0) L F h own { w with drawn := w.drawn + 1 } := mem_same hm (fun b _ => rfl) (Nat.le_refl _)
  refine wp_region_sched (l := l) (C := Keep (footOf F (onlyL ch 0 own)) { w with drawn := w.drawn + 1 }) hmx hB (fun d v c a w h => by cases h.1) (Keep.refl _ _) ?_
  have := sched_ok (Q := fun e a' w' => e = .normal ∧ ∃ st', Sat may w0 h0 st' a' w' ∧ K st') (ops := ops) hT hF l n kk env own a _ L F h hp hm0 ha hsub hnew hk0
  exact wpS_mono (fun a' w' h1 => ⟨rfl, h1⟩) l _ a _ this
end
end Go.Eng
/- A call that hands back an own row, told as one that hands back a slice that stays. -/
set_option linter.unusedVariables false
set_option linter.unusedSimpArgs false
namespace Go.Eng
open Go Go.RowKit
theorem callV_frzR {P : Program} [HasGl P] {f : FuncId} {args : List AV} {i : Nat} {e : TypeId} {sz m : Nat} {g : Nat → List IC} (hcl : ∀ j, j < m → (g j).all clo = true)
    (hc : CallV P f args [] (fun r own' => r = .c (.row i) ∧ own'[i]? = some (some (.row e sz m g)))) : CallV P f args [] (fun r own' => own' = [] ∧ r = .c (.sl sz m g)) := by
  refine ⟨fun mine L F h w vs hgl hm hden => ?_⟩
  refine (hc.out mine L F h w vs hgl hm hden).mono ?_
  rintro x w' ⟨r, v, L', F', h', own', h1, h2, h3, h4, h5, h6, h7, rfl, hi⟩
  obtain ⟨h'', s1, s2, s3, s4, s5⟩ := frz_row h4 hi hcl
  have hd : Den L' h' (.row i) v := h2
  have hd2 := s4.out _ _ hd
  have hsb : sbR i sz m g (.row i) = .sl sz m g := by
    unfold sbR
    simp only [show Nat.beq i i = true from Nat.beq_refl i]
  rw [hsb] at hd2
  have h0n : h.n = 0 := hm.hn
  have hclo : clo (.sl sz m g) = true := rfl
  refine ⟨.c (.sl sz m g), v, L', F', ⟨h''.m, 0⟩, [], h1, hd2.clo 0 hclo, fun i hi => by omega, ⟨rfl, s3.hsub, fun i ob hi => by simp at hi, fun i ob b hi => by simp at hi, fun i j oi oj b hi => by simp at hi⟩, h5, ⟨fun k o hk => s1.m k o (h6.m k o hk), by rw [h0n]; exact Nat.le_refl _⟩, fun k hk => ?_, rfl, rfl⟩
  rcases s5 k hk with h9 | h9
  · exact h7 k h9
  · exact .inr h9
end Go.Eng
/- Rows that are frozen at a loop's end. -/
set_option linter.unusedVariables false
set_option linter.unusedSimpArgs false
namespace Go.Eng
open Go Go.RowKit
theorem frzK_ex {i : Nat} {st : St} {K : St → Prop} (hp : frzK st i K) : ∃ st', Weak st st' ∧ K st' := by
  obtain ⟨n, k, env, own⟩ := st
  have hp0 := hp
  unfold frzK at hp
  simp only at hp
  split at hp
  · rename_i e sz m f hi
    rw [sbEnv_eq, sbOwn_eq] at hp
    refine ⟨_, frz_weak i (fun K' hK' => ?_), hp.2⟩
    unfold frzK
    simp only [hi]
    rw [sbEnv_eq, sbOwn_eq]
    exact ⟨hp.1, hK'⟩
  · rename_i t cs hi
    obtain ⟨h1, h2⟩ := ifD_and hp
    rw [sbEnv_eq, sbOwn_eq] at h2
    refine ⟨_, frz_weak i (fun K' hK' => ?_), h2⟩
    unfold frzK
    simp only [hi]
    unfold ifD
    rw [decide_eq_true h1]
    simp only
    rw [sbEnv_eq, sbOwn_eq]
    exact hK'
  · exact ⟨_, Weak.refl _, hp⟩
theorem frzL_ex : ∀ (l : List Nat) {st : St} {K : St → Prop}, frzL l st K → ∃ st', Weak st st' ∧ K st'
  | [], st, K, hp => ⟨st, Weak.refl _, hp⟩
  | i :: r, st, K, hp => by
    obtain ⟨st1, h1, h2⟩ := frzK_ex (K := fun st => frzL r st K) hp
    obtain ⟨st2, h3, h4⟩ := frzL_ex r h2
    exact ⟨st2, h1.trans h3, h4⟩
/-- At a loop's end: rows are frozen ahead of the next round. -/
theorem frz_end (l : List Nat) {st : St} {M : Nat} {I : Nat → St → Prop} (hp : frzL l st fun st1 => ∃ m st2, m < M ∧ Weak st1 st2 ∧ I m st2) : ∃ m st2, m < M ∧ Weak st st2 ∧ I m st2 := by
  obtain ⟨st1, h1, m, st2, h2, h3, h4⟩ := frzL_ex l hp
  exact ⟨m, st2, h2, h1.trans h3, h4⟩
/-- An append of a list. -/
theorem app_list {α : Type} {enc : α → List IC} {d : α} {l b : List α} {f g : Nat → List IC} {K : Nat → (Nat → List IC) → Prop} (hf : ∀ k, k < l.length → f k = enc (l.getD k d)) (hg : ∀ k, k < b.length → g k = enc (b.getD k d)) (h : K (l ++ b).length fun k => enc ((l ++ b).getD k d)) :
    ∃ (n' : Nat) (f' : Nat → List IC), n' = l.length + b.length ∧ (∀ k, k < l.length → f' k = f k) ∧ (∀ k, k < b.length → f' (l.length + k) = g k) ∧ K n' f' := by
  refine ⟨_, _, List.length_append, fun k hk => ?_, fun k hk => ?_, h⟩
  · rw [hf k hk]
    simp [List.getD_eq_getElem?_getD, List.getElem?_append_left hk]
  · rw [hg k hk, List.getD_eq_getElem?_getD, List.getElem?_append_right (by omega), Nat.add_sub_cancel_left, List.getD_eq_getElem?_getD]
theorem drawV_at {P : Program} [HasGl P] (S : St) {id : Nat} {ops : Array Oper} {K : St → Prop} {st : St} (h : DrawV P id ops (fun st' => Weak st' S) st) (hK : K S) : DrawV P id ops K st := by
  refine ⟨fun may w0 h0 a w hs => ?_⟩
  refine Code.wp_mono (fun e a' w' hh => ?_) (h.out may w0 h0 a w hs)
  obtain ⟨h1, st', h2, h3⟩ := hh
  exact ⟨h1, S, h3.out may w0 h0 a' w' h2, hK⟩
end Go.Eng
/- A range over a function: operations in a round, and ahead of a mark. -/
set_option linter.unusedVariables false
set_option linter.unusedSimpArgs false
namespace Go.Eng
open Go Go.RowKit
/-- The wide fence, outside of rounds and in one. -/
def wideAt : Option Nat → Fence
  | none => Fence.wide
  | some l => Fence.wide.inRound l
theorem wideAt_fn (ro : Option Nat) (f : FuncId) : (wideAt ro).fn f := by cases ro <;> trivial
theorem wideAt_depth (ro : Option Nat) : (wideAt ro).depth = none := by cases ro <;> rfl
theorem wideAt_round (ro : Option Nat) : (wideAt ro).round = ro := by cases ro <;> rfl
theorem calls_wideAt {ro : Option Nat} {n : Nat} {P : Program} {f : FuncId} {args : Array Value} {w : World} {R : Ending → World → Prop} (h : Calls P f args w R) : CallsIn (wideAt ro) n P f args w R := by
  cases ro with
  | none => exact callsIn_wide.2 h
  | some l => exact CallsIn.inRound l (callsIn_wide.2 h)
theorem rows_wideAt {ro : Option Nat} {n : Nat} {P : Program} {row : String} {args : Array Value} {w : World} {R : Value → World → Prop} (h : Rows P row args w R) : RowsIn (wideAt ro) n P row args w R := by
  cases ro with
  | none => exact fun c cs _ => let ⟨v, w', r, s⟩ := h c cs; ⟨v, w', r, stepsIn_wide.2 s⟩
  | some l => exact fun c cs _ => let ⟨v, w', r, s⟩ := h c cs; ⟨v, w', r, stepsIn_wide.2 s⟩
def calmOp (o : Oper) : Bool := match o.op with | .defer _ => false | _ => true
theorem calmOp_ne {o : Oper} (h : calmOp o = true) (c : Go.Call) : o.op ≠ .defer c := fun e => by
  unfold calmOp at h; rw [e] at h; cases h
def addD (ds : List Deferred) (a : Act) : Act := { a with defers := a.defers ++ ds }
def onD (ds : List Deferred) (K : Act → World → Prop) : Act → World → Prop := fun a w => ∃ a0, a = addD ds a0 ∧ K a0 w
theorem addD_eval (ds : List Deferred) (a : Act) : (addD ds a).eval = a.eval := by funext x; cases x <;> rfl
theorem addD_put (ds : List Deferred) (a : Act) (d : Option Nat) (v : Value) : (addD ds a).put d v = addD ds (a.put d v) := by cases d <;> rfl
section
variable {ro : Option Nat} {n : Nat} {P : Program} {ops : Array Oper} {Q : Exit → Act → World → Prop} {ds : List Deferred} {w : World} {a : Act}
theorem letsOut_onD (h : LetsOut Q) : LetsOut (fun e => onD ds (Q e)) := by
  obtain ⟨a, w, h⟩ := h
  exact ⟨_, w, a, rfl, h⟩
theorem op_in {o : Oper} {K : Act → World → Prop} (hc : calmOp o = true) (h : o.wp P a w K Q) : o.wpIn (wideAt ro) n P (addD ds a) w (onD ds K) (fun e => onD ds (Q e)) := by
  refine ⟨fun f _ => wideAt_fn ro f, ?_⟩
  rw [wideAt_round, Oper.semAt_eq _ _ _ (calmOp_ne hc), addD_eval]
  unfold Oper.wp at h
  have hd : (wideAt ro).depth.isSome = true → 1 ≤ n := fun e => by rw [wideAt_depth] at e; cases e
  generalize (execOp a.eval o).run P w = r at *
  cases r with
  | ok x w' =>
    cases x <;> simp only [Oper.uponIn, Oper.upon] at h ⊢
    case value v => exact ⟨_, addD_put ds a _ v, h⟩
    case skip => exact ⟨_, addD_put ds a _ undef, h⟩
    case defer d => exact ⟨_, by rw [← addD_put]; rfl, h⟩
    case enter f args =>
      refine ⟨hd, (calls_wideAt h).mono (fun e w'' he => ?_)⟩
      cases e with
      | returned v => exact ⟨_, addD_put ds a _ v, he⟩
      | panicked c => exact ⟨_, rfl, he⟩
      | outgrown => exact letsOut_onD he
    case row row args =>
      exact ⟨hd, (rows_wideAt h).mono (fun v w'' he => ⟨_, addD_put ds a _ v, he⟩)⟩
  | halt x w' => cases x <;> simp only [Oper.uponIn, Oper.upon] at h ⊢; exact ⟨_, rfl, h⟩
theorem op_in2 {o : Oper} {K : Act → World → Prop} {Q2 : Exit → Act → World → Prop} (hQ : ∀ e a w, Q e a w → e = .normal) (hc : calmOp o = true) (h : o.wp P a w K Q) : o.wpIn (wideAt ro) n P (addD ds a) w (onD ds K) Q2 := by
  refine ⟨fun f _ => wideAt_fn ro f, ?_⟩
  rw [wideAt_round, Oper.semAt_eq _ _ _ (calmOp_ne hc), addD_eval]
  unfold Oper.wp at h
  have hd : (wideAt ro).depth.isSome = true → 1 ≤ n := fun e => by rw [wideAt_depth] at e; cases e
  generalize (execOp a.eval o).run P w = r at *
  cases r with
  | ok x w' =>
    cases x <;> simp only [Oper.uponIn, Oper.upon] at h ⊢
    case value v => exact ⟨_, addD_put ds a _ v, h⟩
    case skip => exact ⟨_, addD_put ds a _ undef, h⟩
    case defer d => exact ⟨_, by rw [← addD_put]; rfl, h⟩
    case enter f args =>
      refine ⟨hd, (calls_wideAt h).mono (fun e w'' he => ?_)⟩
      cases e with
      | returned v => exact ⟨_, addD_put ds a _ v, he⟩
      | panicked c => cases hQ _ _ _ he
      | outgrown => obtain ⟨_, _, he⟩ := he; cases hQ _ _ _ he
    case row row args =>
      exact ⟨hd, (rows_wideAt h).mono (fun v w'' he => ⟨_, addD_put ds a _ v, he⟩)⟩
  | halt x w' =>
    cases x <;> simp only [Oper.uponIn, Oper.upon] at h ⊢
    cases hQ _ _ _ h
/-- A part of a list; then the rest. -/
theorem list_in {Q2 : Exit → Act → World → Prop} {l2 : List Oper} (hQ : ∀ e a w, Q e a w → e = .normal) (hk : ∀ a w, Q .normal a w → wpListIn (wideAt ro) n P ops Q2 l2 (addD ds a) w) : ∀ (l : List Oper) (a : Act) (w : World), l.all calmOp = true → wpList P ops Q l a w → wpListIn (wideAt ro) n P ops Q2 (l ++ l2) (addD ds a) w
  | [], a, w, _, h => hk a w h
  | o :: r, a, w, hc, h => by
    simp only [List.all_cons, Bool.and_eq_true] at hc
    unfold wpList at h
    refine wpListIn_step (fun K hK => ?_)
    have hK' : ∀ a' w', onD ds (wpList P ops Q r) a' w' → K a' w' := fun a' w' ⟨a0, e, h0⟩ => by subst e; exact hK _ _ (list_in hQ hk r a0 w' hc.2 h0)
    have hy : yielded ops (addD ds a).tmps = yielded ops a.tmps := rfl
    rw [hy]
    split at h
    · rename_i hw
      rw [if_pos hw]
      rcases h with h | h
      · exact Oper.wpIn_mono hK' (op_in2 hQ hc.1 h)
      · obtain ⟨_, _, h⟩ := h.2
        cases hQ _ _ _ h
    · rename_i hw
      rw [if_neg hw]
      refine ⟨fun f _ => wideAt_fn ro f, hK' _ _ ⟨_, addD_put ds a _ undef, h⟩⟩
theorem opi_in {i : Nat} {K : Act → World → Prop} (hno : ¬ LetsOut Q) (hc : ops.all calmOp = true) (h : wpOp P ops Q i K a w) : wpOpIn (wideAt ro) n P ops (fun e => onD ds (Q e)) i (onD ds K) (addD ds a) w := by
  unfold wpOp at h
  unfold wpOpIn
  have hy : yielded ops (addD ds a).tmps = yielded ops a.tmps := rfl
  cases ho : ops[i]? with
  | none => rw [ho] at h; exact ⟨a, rfl, h⟩
  | some o =>
    rw [ho] at h
    simp only at h ⊢
    have hco : calmOp o = true := by
      obtain ⟨hi, e⟩ := Array.getElem?_eq_some_iff.1 ho
      rw [← e]
      exact (Array.all_eq_true.1 hc) i hi
    rw [hy]
    split at h
    · rename_i hw
      rw [if_pos hw]
      rcases h with h | h
      · exact op_in hco h
      · exact absurd h.2 hno
    · rename_i hw
      rw [if_neg hw]
      exact ⟨fun f _ => wideAt_fn ro f, _, addD_put ds a _ undef, h⟩
theorem any_in {md : Region.Mode} (hno : ¬ LetsOut Q) (hc : ops.all calmOp = true) : ∀ (fuel : Nat) (listed : Array Bool) (a : Act) (w : World), wpAny P md ops Q fuel listed a w → wpAnyIn (wideAt ro) n P md ops (fun e => onD ds (Q e)) fuel listed (addD ds a) w
  | 0, listed, a, w, h => ⟨h.1, a, rfl, h.2⟩
  | fuel + 1, listed, a, w, h => by
    refine ⟨fun e => ⟨a, rfl, h.1 e⟩, fun i hi => ?_⟩
    refine wpOpIn_mono (fun a' w' hh => ?_) (opi_in hno hc (h.2 i hi))
    obtain ⟨a0, e, h0⟩ := hh
    subst e
    exact any_in hno hc fuel _ a0 w' h0
end
section
variable {P : Program} {T : TT} {FF : FL} {mine may : Nat → Prop} {L : Nat → Value} {F : Nat → Nat → Prop} {h : Hp} {st : St} {a : Act} {w w0 : World}
/-- A function that hands back a closure: the objects that are frozen are told. -/
theorem callV_pureL [HasGl P] (l : List Nat) {f : FuncId} {fn : Func} {c : Code} (hf : P.funcs[f]? = some fn) (hb : fn.body = some c) (hT : TTok P T) (hF : FTok P FF) {args : List AV} {n : Nat} (hnn : fn.ntmps = n) {rs : List ResultVar} (hrs : fn.results.toList = rs) {env : List (Nat × AV)} (henv : env0 args = env) (hn : args.length ≤ n) {Q : AV → Prop}
    (hv : vc P T FF c (fun e st' => match e with | .exit _ => False | _ => frzL l st' fun st' => resL T st' rs (retK Q)) ⟨n, 0, env, []⟩) : CallV P f args [] (fun r own' => own' = [] ∧ Q r) := by
  subst hnn hrs henv
  refine ⟨fun mine L F h w vs hgl hm hden => ?_⟩
  have hm0 : Mem (mineOf (footOf F []) w) L F h [] w := hm.mine_mono (fun b hb => .inl hb)
  have hs : Sat (footOf F []) w (⟨h, L, hgl⟩ : Base P) ⟨fn.ntmps, 0, env0 args, []⟩ { tmps := vs.toArray ++ Array.replicate (fn.ntmps - vs.toArray.size) undef, defers := [] } w :=
    ⟨⟨L, F, h, hm0, agree0 hn hden 0 [], ⟨Sub.refl h, fun _ _ => rfl, hm.hn.symm⟩, fun k hk => .inl hk⟩, Keep.refl _ w⟩
  refine calls_of_wp hf hb (Code.wp_mono (fun e a' w' hh => ?_) (vc_ok hT hF c _ _ _ _ hv hs))
  obtain ⟨e', st0, rfl, hs1, he⟩ := hh
  have hr0 : frzL l st0 (fun st' => resL T st' fn.results.toList (retK Q)) := by
    cases e' with
    | normal => exact he
    | exit i => exact he.elim
    | ret => exact he
  obtain ⟨st', ⟨⟨L', F', h', hm', ha', hsub, hnew'⟩, hk⟩, hr⟩ := frzL_sat _ st0 hr0 hs1
  obtain ⟨r, v, ⟨hcl, hQ⟩, hd, hrun⟩ := results_ok (Q := fun r => cloA r = true ∧ Q r) hT hm' ha' (resL_mono (fun l h => retK_eq h) hr)
  have h0n : h.n = 0 := hm.hn
  have fin : a'.defers = [] ∧ ∃ v, (results fn a'.tmps).run P w' = .ok v w' ∧ ∃ (r : AV) (u : Value) (L' : Nat → Value) (F' : Nat → Nat → Prop) (h' : Hp) (own' : List (Option Ob)), Ending.returned v = .returned u ∧ DenA L' h' r u ∧ (∀ i, i < h.n → L' i = L i) ∧ Mem (mineOf (footOf F []) w) L' F' h' own' w' ∧
      Keep (footOf F []) w w' ∧ Sub h h' ∧ (∀ k, h'.m k ≠ none → h.m k ≠ none ∨ mineOf (footOf F []) w k) ∧ own' = [] ∧ Q r :=
    ⟨ha'.defers, _, hrun, r, v, L', F', ⟨h'.m, 0⟩, [], rfl, hd.clo 0 hcl, fun i hi => by omega, ⟨rfl, hm'.hsub, fun i ob hi => by simp at hi, fun i ob b hi => by simp at hi, fun i j oi oj b hi => by simp at hi⟩, hk, ⟨hsub.sub.m, by rw [h0n]; exact Nat.le_refl _⟩, hnew', rfl, hQ⟩
  cases e' with
  | normal => exact fin
  | exit i => exact he.elim
  | ret => exact fin
end
/-! ### What only reads, told with the world and what stays fixed -/
def FzIn (m : Nat → Option Obj) (W : World) : Prop := ∀ k o, m k = some o → W.heap[k]? = some o
theorem FzIn.mem {m : Nat → Option Obj} {W : World} (hf : FzIn m W) (L : Nat → Value) : Mem (fun _ => True) L (fun _ _ => False) ⟨m, 0⟩ [] W :=
  ⟨rfl, hf, fun i ob hi => by simp at hi, fun i ob b hi => by simp at hi, fun i j oi oj b hi => by simp at hi⟩
theorem FzIn.below {m : Nat → Option Obj} {W W' : World} (hf : FzIn m W) (h : Below W.heap.size W W') : FzIn m W' := fun k o hk => by
  have := hf k o hk
  rw [h.block k (Array.getElem?_eq_some_iff.1 this).1]
  exact this
section
variable {P : Program} {T : TT} {FF : FL} {L : Nat → Value} {m : Nat → Option Obj} {W : World} {ops : Array Oper} {K : St → Prop}
theorem quietL_G (hT : TTok P T) (hf : FzIn m W) : ∀ (l : List Oper) (st : St) (gds : GD) (a : Act), st.own = [] → opsG T ops l st gds K → Agree L ⟨m, 0⟩ st a → GOk L ⟨m, 0⟩ gds a →
    wpList P ops (fun e a' w' => e = .normal ∧ w' = W ∧ ∃ st', Agree L ⟨m, 0⟩ st' a' ∧ st'.own = [] ∧ K st') l a W
  | [], st, gds, a, ho, hp, ha, hg => wpList_nil ⟨rfl, rfl, st, ha, ho, hp⟩
  | o :: r, st, gds, a, ho, hp, ha, hg => by
    refine wpList_step (fun Kc hKc => ?_)
    have hm := hf.mem L
    rw [← ho] at hm
    obtain ⟨v, st', gds', hrun, h1, h2, h3, h4⟩ := opsG_step (P := P) hT hm ha hg hp
    have go : Kc (a.put o.dst v) W := hKc _ _ (quietL_G hT hf r st' gds' _ (h3.1.trans ho) h4 h1 h2)
    rcases hrun with ⟨hw, hrun⟩ | ⟨hw, rfl⟩
    · rw [if_pos hw]
      exact value_upon (hrun W (fun _ _ => rfl)) go
    · rw [if_neg (by rw [hw]; simp)]
      exact go
theorem quietR (hT : TTok P T) (hf : FzIn m W) {st : St} {a : Act} {id : Nat} (ho : st.own = []) (hp : opsG T ops ops.toList st [] K) (ha : Agree L ⟨m, 0⟩ st a) :
    (Code.region id ops false).wp P (fun e a' w' => e = .normal ∧ w' = W ∧ ∃ st', Agree L ⟨m, 0⟩ st' a' ∧ st'.own = [] ∧ K st') a W :=
  wp_region_list (quietL_G hT hf _ st [] a ho hp ha gok_nil)
theorem quietD [HasGl P] (hgl : HasGl.ok P m) (hmx : P.follows .mixedOrders = true) (hB : Region.lexB .any ops = true) (hT : TTok P T) (hF : FTok P FF) (hf : FzIn m W) {st : St} {a : Act} {id : Nat} (ho : st.own = []) (hp : qopsP P T FF ops ops.toList st K) (ha : Agree L ⟨m, 0⟩ st a) :
    (Code.region id ops true).wp P (fun e a' w' => e = .normal ∧ Below W.heap.size W w' ∧ ∃ st', Agree L ⟨m, 0⟩ st' a' ∧ st'.own = [] ∧ K st') a W := by
  refine wp_region_quiet (C := fun w' => Below W.heap.size W w') hmx hB ⟨rfl, rfl, rfl, Nat.le_refl _, fun _ _ => rfl⟩ ?_
  have hm := hf.mem L
  rw [← ho] at hm
  refine wpQuiet_mono (fun a' hq w' hw' => ?_) _ _ (quiet_ops (h := ⟨m, 0⟩) hgl hT hF hm ops.toList st a ⟨rfl, rfl⟩ hp ha)
  obtain ⟨st', k1, k2, k3⟩ := hq
  exact ⟨rfl, hw', st', k1, k2.1.trans ho, k3⟩
def pickE (env : List (Nat × AV)) : List Nat → Option (List (Nat × AV))
  | [] => some []
  | t :: r => match env.lookup t, pickE env r with
    | some a, some l => some ((t, a) :: l)
    | _, _ => none
theorem pickE_ok {env : List (Nat × AV)} : ∀ {ts : List Nat} {env' : List (Nat × AV)}, pickE env ts = some env' → ∀ t av, env'.lookup t = some av → env.lookup t = some av
  | [], env', h, t, av, hl => by cases h; simp at hl
  | t0 :: r, env', h, t, av, hl => by
    unfold pickE at h
    split at h
    · rename_i a l h1 h2
      cases h
      rw [List.lookup_cons] at hl
      by_cases e : t = t0
      · subst e; simp at hl; subst hl; exact h1
      · have e' : (t == t0) = false := by simpa using e
        rw [e'] at hl
        exact pickE_ok h2 t av hl
    · cases h
theorem agree_pick {h : Hp} {st : St} {a : Act} {n k : Nat} {ts : List Nat} {env : List (Nat × AV)} {own : List (Option Ob)} (ha : Agree L h st a) (hn : st.n = n) (hp : pickE st.env ts = some env) : Agree L h ⟨n, k, env, own⟩ a :=
  ⟨ha.size.trans hn, fun t av ht => ha.env t av (pickE_ok hp t av ht), ha.defers⟩
theorem yield_op {n ln : Nat} {o : Oper} {y x : Operand} {tys : Array TypeId} {a : Act} {w : World} {Kc : Act → World → Prop} {Q : Exit → Act → World → Prop} {R : Ending → World → Prop} (ho : o.op = .call { callee := .value y, args := #[x], argTypes := tys }) (hg : a.eval y = .func (.yield ln) #[] #[])
    (hY : YieldAt Fence.wide (n - 1) P ln #[a.eval x] w R) (hR : ∀ e w', R e w' → ∃ v, e = .returned v ∧ Kc (a.put o.dst v) w') : o.wpIn Fence.wide n P a w Kc Q := by
  obtain ⟨fn, tmps, assign, body, hy, hr⟩ := hY
  refine ⟨fun f _ => trivial, ?_⟩
  have : (Oper.semAt Fence.wide.round a.eval o).run P w = .ok (.round ln fn tmps assign body) w := by
    show (execOp a.eval o).run P w = _
    obtain ⟨vx, e⟩ : ∃ vx, a.eval x = vx := ⟨_, rfl⟩
    rw [e] at hy
    have hres : resolve a.eval { callee := .value y, args := #[x], argTypes := tys } o.type = Deferred.ofValue (.func (.yield ln) #[] #[]) #[vx] := by
      unfold resolve
      simp only [hg, List.map_toArray, List.map_cons, List.map_nil, e]
    unfold execOp
    rw [ho]
    simp only [hres]
    simp [go_sem, invoke, hy]
  rw [this]
  refine ⟨fun h => (by cases h), hr.mono (fun e w' he => ?_)⟩
  obtain ⟨v, rfl, hK⟩ := hR e w' he
  exact hK
end
theorem addD_nil (a : Act) : addD [] a = a := by
  obtain ⟨t, d⟩ := a
  show (⟨t, d ++ []⟩ : Act) = _
  rw [List.append_nil]
theorem list_in0 {n : Nat} {P : Program} {ops : Array Oper} {l l2 : List Oper} {R : Act → World → Prop} {Q2 : Exit → Act → World → Prop} {a : Act} {w : World} (hc : l.all calmOp = true) (hp : wpList P ops (fun e a' w' => e = .normal ∧ R a' w') l a w)
    (hk : ∀ a w, R a w → wpListIn Fence.wide n P ops Q2 l2 a w) : wpListIn Fence.wide n P ops Q2 (l ++ l2) a w := by
  have := list_in (ro := none) (ds := []) (n := n) (Q2 := Q2) (l2 := l2) (fun e a w h => h.1) (fun a w h => by rw [addD_nil]; exact hk a w h.2) l a w hc hp
  rw [addD_nil] at this
  exact this
/-- A region whose first k operations are walked by the engine. -/
theorem region_pre (k : Nat) {n : Nat} {P : Program} {ops : Array Oper} {id : Nat} {R : Act → World → Prop} {Q2 : Exit → Act → World → Prop} {a : Act} {w : World} (hc : (ops.toList.take k).all calmOp = true) (hp : wpList P ops (fun e a' w' => e = .normal ∧ R a' w') (ops.toList.take k) a w)
    (hk : ∀ a w, R a w → wpListIn Fence.wide n P ops Q2 (ops.toList.drop k) a w) : (Code.region id ops false).wpIn Fence.wide n P Q2 a w := by
  refine wpIn_region_list ?_
  have := list_in0 (l2 := ops.toList.drop k) hc hp hk
  rwa [List.take_append_drop] at this
theorem then_n {K : Act → World → Prop} {Q : Exit → Act → World → Prop} {a : Act} {w : World} (h : K a w) : Exit.then K Q .normal a w := h
theorem then_e {K : Act → World → Prop} {Q : Exit → Act → World → Prop} {a : Act} {w : World} {i : Nat} (h : Q (.exit i) a w) : Exit.then K Q (.exit i) a w := h
theorem then_r {K : Act → World → Prop} {Q : Exit → Act → World → Prop} {a : Act} {w : World} (h : Q .ret a w) : Exit.then K Q .ret a w := h
theorem inb_n {Q : Exit → Act → World → Prop} {a : Act} {w : World} {i : Nat} (h : Q .normal a w) : Exit.inBlock i Q .normal a w := h
theorem inb_r {Q : Exit → Act → World → Prop} {a : Act} {w : World} {i : Nat} (h : Q .ret a w) : Exit.inBlock i Q .ret a w := h
theorem inb_e {Q : Exit → Act → World → Prop} {a : Act} {w : World} {i : Nat} (h : Q .normal a w) : Exit.inBlock i Q (.exit i) a w := by show (if i = i then _ else _); rw [if_pos rfl]; exact h
theorem below_grown {W W' : World} (h : Below W.heap.size W W') : W.grownBy W' none := ⟨h.os, h.tape, h.output, h.size, fun k hk _ => h.block k hk⟩
end Go.Eng
/- A range over a function: the caller's own objects between two rounds. -/
set_option linter.unusedVariables false
set_option linter.unusedSimpArgs false
namespace Go.Eng
open Go Go.RowKit
theorem den_hc {L : Nat → Value} {h h' : Hp} (hn : h.n ≤ h'.n) (hh : ∀ a v, hcell h a = some v → hcell h' a = some v) {c : IC} {v : Value} (hd : Den L h c v) : Den L h' c v := by
  induction hd with
  | v x h1 => exact .v x h1
  | sl sz n f A c ad g hc hm hA hg hl hclo hr ih => exact .sl sz n f A c ad g hc hm hA (fun k hk j hj => hh _ _ (hg k hk j hj)) hl hclo ih
  | fp cs ad g hclo hg hr ih => exact .fp cs ad g hclo (fun j hj => hh _ _ (hg j hj)) ih
  | any x h1 => exact .any x h1
  | own i off a h1 h2 => exact .own i off a (Nat.lt_of_lt_of_le h1 hn) h2
  | row i A n c h1 h2 => exact .row i A n c (Nat.lt_of_lt_of_le h1 hn) h2
  | rel i sz k off a h1 h2 h3 => exact .rel i sz k off a (Nat.lt_of_lt_of_le h1 hn) h2 h3
  | view i sz k n c a b h1 h2 h3 h4 h5 => exact .view i sz k n c a b (Nat.lt_of_lt_of_le h1 hn) h2 h3 h4 h5
  | fn f cs vs g hl hv h1 hr ih => exact .fn f cs vs g hl hv h1 ih
  | ifc t c v hr ih => exact .ifc t c v ih
  | mp i r h1 h2 => exact .mp i r (Nat.lt_of_lt_of_le h1 hn) h2
/-- What stays, of the blocks from B on the cells alone. -/
def cutH (B : Nat) (h : Hp) : Hp := ⟨fun k => match h.m k with | some o => if k < B ∨ o.isCells = true then some o else none | none => none, h.n⟩
theorem cutH_sub {B : Nat} {h : Hp} {k : Nat} {o : Obj} (e : (cutH B h).m k = some o) : h.m k = some o ∧ (k < B ∨ o.isCells = true) := by
  unfold cutH at e
  simp only at e
  split at e
  · rename_i o' ho
    split at e
    · rename_i hc; cases e; exact ⟨ho, hc⟩
    · cases e
  · cases e
theorem cutH_of {B : Nat} {h : Hp} {k : Nat} {o : Obj} (e : h.m k = some o) (hc : k < B ∨ o.isCells = true) : (cutH B h).m k = some o := by
  unfold cutH
  simp only [e, if_pos hc]
theorem cutH_none {B : Nat} {h : Hp} {k : Nat} (e : h.m k = none) : (cutH B h).m k = none := by
  unfold cutH
  simp only [e]
theorem hcell_cut {B : Nat} {h : Hp} {a : Addr} {v : Value} (e : hcell h a = some v) : hcell (cutH B h) a = some v := by
  unfold hcell at *
  cases hb : h.m a.block with
  | none => rw [hb] at e; cases e
  | some o =>
    rw [hb] at e
    cases o <;> first | (cases e; done) | skip
    rw [cutH_of hb (.inr rfl)]
    exact e
theorem den_cut {B : Nat} {L : Nat → Value} {h : Hp} {c : IC} {v : Value} (hd : Den L h c v) : Den L (cutH B h) c v := den_hc (h := h) (h' := cutH B h) (Nat.le_refl _) (fun a v e => @hcell_cut B h a v e) hd
def plainO : Option Ob → Bool
  | none => true
  | some (.cells _ _) => true
  | some (.row _ _ _ _) => true
  | some (.arr _ _ _ _ _) => true
  | _ => false
def cellsAt (W : World) (b : Nat) : Prop := ∃ o, W.heap[b]? = some o ∧ o.isCells = true
structure RInv {P : Program} [HasGl P] (may : Nat → Prop) (w0 : World) (h0 : Base P) (k B : Nat) (own : List (Option Ob)) (W : World) : Prop where
  ex : ∃ L F h, Mem (mineOf may w0) L F h own W ∧ SubB h0 k L h ∧ (∀ x, h.m x ≠ none → h0.h.m x ≠ none ∨ mineOf may w0 x) ∧ (∀ x o, B ≤ x → h.m x = some o → o.isCells = true) ∧ (∀ b, footOf F own b → cellsAt W b)
  keep : Keep may w0 W
section
variable {P : Program} [HasGl P] {may : Nat → Prop} {w0 W : World} {h0 : Base P} {k B : Nat} {own : List (Option Ob)}
theorem obOk_tight {L : Nat → Value} {h : Hp} {F : Nat → Prop} {v : Value} {ob : Ob} (hp : plainO (some ob) = true) (hob : ObOk L h W v F ob) : ObOk L (cutH B h) W v (fun b => F b ∧ blk v = some b) ob ∧ ∀ b, F b ∧ blk v = some b → cellsAt W b := by
  cases ob with
  | cells t cs =>
    obtain ⟨b, vs, h1, h2, h3, h4⟩ := hob
    refine ⟨⟨b, vs, h1, ⟨h2, by rw [h1]; rfl⟩, h3, h4.1, fun j c u hc hu => den_cut (h4.2 j c u hc hu)⟩, fun b' hb' => ?_⟩
    have := hb'.2
    rw [h1] at this
    cases this
    exact ⟨_, h3, rfl⟩
  | row e sz n f =>
    obtain ⟨vs, h1, h2, h3⟩ := hob
    refine ⟨⟨vs, h1, fun b hb => ⟨h2 b hb, hb⟩, h3.len, fun k hk j c hc => ?_⟩, fun b' hb' => ?_⟩
    · obtain ⟨u, g1, g2⟩ := h3.den k hk j c hc
      exact ⟨u, g1, den_cut g2⟩
    · rcases h1.2 with ⟨e, _⟩ | ⟨g, cap, cur, e1, _, e3, _⟩
      · rw [e] at hb'; cases hb'.2
      · rw [e1] at hb'
        cases hb'.2
        exact ⟨_, e3, rfl⟩
  | arr e sz cap n f =>
    obtain ⟨b, cur, h1, h2, h3, h4, h5, h6, h7⟩ := hob
    refine ⟨⟨b, cur, h1, ⟨h2, by rw [h1]; rfl⟩, h3, h4, h5, h6, h7.len, fun k hk j c hc => ?_⟩, fun b' hb' => ?_⟩
    · obtain ⟨u, g1, g2⟩ := h7.den k hk j c hc
      exact ⟨u, g1, den_cut g2⟩
    · have := hb'.2
      rw [h1] at this
      cases this
      exact ⟨_, h3, rfl⟩
  | mp t es => cases hp
  | iter s pos => cases hp
  | abs p => cases hp
theorem RInv.of_sat {st : St} {a : Act} (hs : Sat may w0 h0 st a W) (hp : st.own.all plainO = true) (hB : ∀ x, h0.h.m x ≠ none → x < B) : RInv may w0 h0 st.k B st.own W := by
  obtain ⟨⟨L, F, h, hm, ha, hsub, hnew⟩, hk⟩ := hs
  have hpl : ∀ (i : Nat) ob, st.own[i]? = some (some ob) → plainO (some ob) = true := fun i ob hi => List.all_eq_true.1 hp _ (List.mem_of_getElem? hi)
  refine ⟨⟨L, fun i b => F i b ∧ blk (L i) = some b, cutH B h, ⟨hm.hn, fun x o e => hm.hsub x o (cutH_sub e).1, fun i ob hi => (obOk_tight (hpl i ob hi) (hm.obs i ob hi)).1, fun i ob b hi hb => ?_, fun i j oi oj b hi hj hbi hbj => hm.dis i j oi oj b hi hj hbi.1 hbj.1⟩, ⟨⟨fun x o e => ?_, hsub.sub.n⟩, hsub.at_, hsub.kk⟩, fun x hx => ?_, fun x o hB e => ?_, fun b hb => ?_⟩, hk⟩
  · obtain ⟨f1, f2, f3⟩ := hm.foot i ob b hi hb.1
    exact ⟨f1, cutH_none f2, f3⟩
  · exact cutH_of (hsub.sub.m x o e) (.inl (hB x (by rw [e]; simp)))
  · refine hnew x (fun e => hx (cutH_none e))
  · rcases (cutH_sub e).2 with h1 | h1
    · omega
    · exact h1
  · obtain ⟨i, ob, hi, hb⟩ := hb
    exact (obOk_tight (B := B) (hpl i ob hi) (hm.obs i ob hi)).2 b hb
theorem RInv.grown {W' : World} {row : Option Nat} (hr : RInv may w0 h0 k B own W) (hB : w0.heap.size ≤ B) (hg : W.grownBy W' row) (hrow : ∀ r, row = some r → B ≤ r ∧ ∃ o : Obj, W.heap[r]? = some o ∧ o.isCells = false) : RInv may w0 h0 k B own W' := by
  obtain ⟨⟨L, F, h, hm, hsub, hnew, hcc, hft⟩, hk⟩ := hr
  have hbl : ∀ x o, W.heap[x]? = some o → (x < B ∨ o.isCells = true) → W'.heap[x]? = W.heap[x]? := fun x o hx hc => by
    refine hg.block x (Array.getElem?_eq_some_iff.1 hx).1 (fun e => ?_)
    obtain ⟨h1, o', h2, h3⟩ := hrow x e.symm
    rw [hx] at h2; cases h2
    rcases hc with hc | hc
    · omega
    · rw [hc] at h3; cases h3
  have hmb : ∀ x o, h.m x = some o → W'.heap[x]? = W.heap[x]? := fun x o hx => hbl x o (hm.hsub x o hx) (by
    rcases Nat.lt_or_ge x B with h1 | h1
    · exact .inl h1
    · exact .inr (hcc x o h1 hx))
  have hfb : ∀ b, footOf F own b → W'.heap[b]? = W.heap[b]? := fun b hb => by
    obtain ⟨o, h1, h2⟩ := hft b hb
    exact hbl b o h1 (.inr h2)
  refine ⟨⟨L, F, h, mem_move hm hg.size hmb hfb, hsub, hnew, hcc, fun b hb => ?_⟩, ⟨hg.os.trans hk.os, hg.tape.trans hk.tape, hg.output.trans hk.output, Nat.le_trans hk.size hg.size, fun x hx hn => ?_⟩⟩
  · obtain ⟨o, h1, h2⟩ := hft b hb
    exact ⟨o, (hfb b hb).trans h1, h2⟩
  · rw [← hk.block x hx hn]
    exact hg.block x (Nat.lt_of_lt_of_le hx hk.size) (fun e => by
      have := (hrow x e.symm).1
      omega)
/-- What was found may be told anew. -/
theorem sat_back {st : St} {L : Nat → Value} {F : Nat → Nat → Prop} {h : Hp} {hgl : HasGl.ok P h.m} (hm : Mem (mineOf may w0) L F h own W) (hsub : SubB h0 k L h) (hnew : ∀ x, h.m x ≠ none → h0.h.m x ≠ none ∨ mineOf may w0 x) (hk : Keep may w0 W)
    {a' : Act} {W' : World} (hs : Sat (footOf F own) W (⟨h, L, hgl⟩ : Base P) st a' W') : Sat may w0 h0 ⟨st.n, k, st.env, st.own⟩ a' W' := by
  obtain ⟨⟨L', F', h', hm', ha', hsub', hnew'⟩, hk'⟩ := hs
  have hmine : ∀ b, mineOf (footOf F own) W b → mineOf may w0 b := fun b hb => by
    rcases hb with ⟨i, ob, hi, hb⟩ | hb
    · exact (hm.foot i ob b hi hb).2.2
    · exact .inr (Nat.le_trans hk.size hb)
  refine ⟨⟨L', F', h', hm'.mine_mono (fun b ⟨i, ob, hi, hb⟩ => hmine b (hm'.foot i ob b hi hb).2.2), ⟨ha'.size, ha'.env, ha'.defers⟩, ⟨hsub.sub.trans hsub'.sub, fun i hi => (hsub'.at_ i (Nat.lt_of_lt_of_le hi hsub.sub.n)).trans (hsub.at_ i hi), hsub.kk⟩, fun x hx => ?_⟩, hk.trans hk' (fun b ⟨i, ob, hi, hb⟩ => (hm.foot i ob b hi hb).2.2)⟩
  rcases hnew' x hx with h1 | h1
  · exact hnew x h1
  · exact .inr (hmine x h1)
theorem sat_rebase {st : St} {a : Act} (hs : Sat may w0 h0 st a W) : ∃ (b : Base P) (f : Nat → Prop), FzIn b.h.m W ∧ b.h.n = st.own.length ∧ Agree b.L b.h st a ∧ Sat f W b ⟨st.n, st.own.length, st.env, st.own⟩ a W ∧ ∀ st' a' W', Sat f W b st' a' W' → Sat may w0 h0 ⟨st'.n, st.k, st'.env, st'.own⟩ a' W' := by
  obtain ⟨⟨L, F, h, hm, ha, hsub, hnew⟩, hk⟩ := hs
  have hgl : HasGl.ok P h.m := HasGl.mono h0.gl hsub.sub.m
  exact ⟨⟨h, L, hgl⟩, footOf F st.own, hm.hsub, hm.hn, ha, ⟨⟨L, F, h, hm.mine_mono (fun b hb => .inl hb), ⟨ha.size, ha.env, ha.defers⟩, ⟨Sub.refl h, fun _ _ => rfl, hm.hn.symm⟩, fun x hx => .inl hx⟩, Keep.refl _ _⟩, fun st' a' W' hs' => sat_back (hgl := hgl) hm hsub hnew hk hs'⟩
/-- Between two rounds: the engine may walk on. -/
theorem RInv.open {n : Nat} {env : List (Nat × AV)} {a : Act} (hr : RInv may w0 h0 k B own W) (hB : w0.heap.size ≤ B) (ha : ∀ (L : Nat → Value) (h : Hp), Sub h0.h h → (∀ i, i < h0.h.n → L i = h0.L i) → Agree L h ⟨n, k, env, own⟩ a) :
    ∃ (b : Base P) (f : Nat → Prop), Sat f W b ⟨n, own.length, env, own⟩ a W ∧ ∀ st' a' W', Sat f W b st' a' W' → KeepsOthers W W' ∧ Sat may w0 h0 ⟨st'.n, k, st'.env, st'.own⟩ a' W' ∧
      ∀ D o o', B ≤ D → W.heap[D]? = some o → o.isCells = false → Sat may w0 h0 ⟨st'.n, k, st'.env, st'.own⟩ a' (W'.putObj D o') := by
  obtain ⟨⟨L, F, h, hm, hsub, hnew, hcc, hft⟩, hk⟩ := hr
  have hgl : HasGl.ok P h.m := HasGl.mono h0.gl hsub.sub.m
  have ha1 := ha L h hsub.sub hsub.at_
  refine ⟨⟨h, L, hgl⟩, footOf F own, ⟨⟨L, F, h, hm.mine_mono (fun b hb => .inl hb), ⟨ha1.size, ha1.env, ha1.defers⟩, ⟨Sub.refl h, fun _ _ => rfl, hm.hn.symm⟩, fun x hx => .inl hx⟩, Keep.refl _ _⟩, fun st' a' W' hs' => ?_⟩
  have hback := sat_back (hgl := hgl) hm hsub hnew hk hs'
  have hko : KeepsOthers W W' := ⟨hs'.keep.size, fun x o hx ho => by
    rw [← hx]
    refine hs'.keep.block x (Array.getElem?_eq_some_iff.1 hx).1 (fun hf => ?_)
    obtain ⟨o2, h1, h2⟩ := hft x hf
    rw [hx] at h1; cases h1; rw [ho] at h2; cases h2⟩
  refine ⟨hko, hback, fun D o o' hD hDo ho => ?_⟩
  obtain ⟨⟨L', F', h', hm', ha', hsub', hnew'⟩, hk'⟩ := hs'
  have hDl := (Array.getElem?_eq_some_iff.1 hDo).1
  have hnf : ¬ mineOf (footOf F own) W D := fun hf => by
    rcases hf with hf | hf
    · obtain ⟨o2, h1, h2⟩ := hft D hf
      rw [hDo] at h1; cases h1; rw [ho] at h2; cases h2
    · omega
  have hmn : h'.m D = none := by
    cases e : h'.m D with
    | none => rfl
    | some o2 =>
      rcases hnew' D (by rw [e]; simp) with h1 | h1
      · cases e1 : h.m D with
        | none => exact absurd e1 h1
        | some o3 =>
          have := hcc D o3 hD e1
          have h4 := hm.hsub D o3 e1
          rw [hDo] at h4; cases h4; rw [ho] at this; cases this
      · exact absurd h1 hnf
  have hms : ∀ x, x ≠ D → (W'.putObj D o').heap[x]? = W'.heap[x]? := fun x hx => World.putObj_heap_other hx
  have hm2 : Mem (mineOf (footOf F own) W) L' F' h' st'.own (W'.putObj D o') := mem_move hm' (by simp [World.putObj]) (fun x o hx => hms x (fun e => by subst e; rw [hmn] at hx; cases hx)) (fun b ⟨i, ob, hi, hb⟩ => hms b (fun e => by subst e; exact hnf (hm'.foot i ob b hi hb).2.2))
  have hmine : ∀ b, mineOf (footOf F own) W b → mineOf may w0 b := fun b hb => by
    rcases hb with ⟨i, ob, hi, hb⟩ | hb
    · exact (hm.foot i ob b hi hb).2.2
    · exact .inr (Nat.le_trans hk.size hb)
  have hkb := hback.keep
  refine ⟨⟨L', F', h', hm2.mine_mono (fun b ⟨i, ob, hi, hb⟩ => hmine b (hm2.foot i ob b hi hb).2.2), ⟨ha'.size, ha'.env, ha'.defers⟩, ⟨hsub.sub.trans hsub'.sub, fun i hi => (hsub'.at_ i (Nat.lt_of_lt_of_le hi hsub.sub.n)).trans (hsub.at_ i hi), hsub.kk⟩, fun x hx => ?_⟩,
    ⟨hkb.os, hkb.tape, hkb.output, by simpa [World.putObj] using hkb.size, fun x hx hn => (hms x (by omega)).trans (hkb.block x hx hn)⟩⟩
  rcases hnew' x hx with h1 | h1
  · exact hnew x h1
  · exact .inr (hmine x h1)
end

theorem any_region_sched {P : Program} {ops : Array Oper} {Q : Exit → Act → World → Prop} {l : Sch} {C : World → Prop} {a : Act} {w : World} (hmx : P.follows .mixedOrders = true) (hB : schB ops l = true) (hQ : ∀ d v c a w, Q (.panic c) (a.put d v) w → Q (.panic c) a w) (hC : C { w with drawn := w.drawn + 1 })
    (h : wpS P ops Q (fun a' w' => Q .normal a' w') l C a { w with drawn := w.drawn + 1 }) : wpAny P .any ops Q ops.size (Array.replicate ops.size false) a { w with drawn := w.drawn + 1 } := by
  unfold schB at hB
  simp only [Bool.and_eq_true, decide_eq_true_eq] at hB
  obtain ⟨⟨⟨hs, ht⟩, hp⟩, hlen⟩ := hB
  have hsz0 : (Array.replicate ops.size false).size = ops.size := by simp
  have hcl : Lclosed .any ops (Array.replicate ops.size false) := fun i hi hx => by simp [hi] at hx
  have hX := (wpAnyX_sched (md := .any) (Q := Q) (R := fun a' w' => Q .normal a' w') hs hQ l).1 ops.size _ C a _ hC hlen hp h
  have key := wpAny_of_X (Q := Q) ht (Nat.le_refl _) 0 (fun listed a' w' hR hz h1 h2 hc =>
    wpAny_tail ht [] ops.size listed a' w' (fun j => by rw [List.getElem?_nil, Array.getElem?_eq_none (by omega)]) (by simp) (Nat.le_refl _) hz h1 h2 hc hR) ops.size _ a _ hsz0 (fun j hj1 hj2 => by omega) hcl hX
  exact key

section
variable {P : Program} {T : TT} {FF : FL} {may : Nat → Prop} {w0 : World} {ops : Array Oper}
/-- A region that draws its order, by a schedule, in a round. -/
theorem round_sched [HasGl P] {h0 : Base P} (l : Sch) (ch : List Nat) {ro : Option Nat} {nn : Nat} {id : Nat} {K : St → Prop} {st : St} {a : Act} {w : World} (hmx : P.follows .mixedOrders = true) (hB : schB ops l = true) (hca : ops.all calmOp = true) (hT : TTok P T) (hF : FTok P FF)
    (hp : schedP P T FF ops ch l st K) (hs : Sat may w0 h0 st a w) : (Code.region id ops true).wpIn (wideAt ro) nn P (fun e a' w' => e = .normal ∧ ∃ st', Sat may w0 h0 st' a' w' ∧ K st') a w := by
  obtain ⟨n, kk, env, own⟩ := st
  obtain ⟨⟨L, F, h, hm, ha, hsub, hnew⟩, hk⟩ := hs
  have hk0 : Keep may w0 { w with drawn := w.drawn + 1 } := ⟨hk.os, hk.tape, hk.output, hk.size, hk.block⟩
  have hm0 : Mem (mineOf may w0) L F h own { w with drawn := w.drawn + 1 } := mem_same hm (fun b _ => rfl) (Nat.le_refl _)
  have hw := sched_ok (Q := fun e a' w' => e = .normal ∧ ∃ st', Sat may w0 h0 st' a' w' ∧ K st') (ops := ops) hT hF l n kk env own a _ L F h hp hm0 ha hsub hnew hk0
  have hany := any_region_sched (Q := fun e a' w' => e = .normal ∧ ∃ st', Sat may w0 h0 st' a' w' ∧ K st') (l := l) (C := Keep (footOf F (onlyL ch 0 own)) { w with drawn := w.drawn + 1 }) hmx hB (fun d v c a w h => by cases h.1) (Keep.refl _ _) (wpS_mono (fun a' w' h1 => ⟨rfl, h1⟩) l _ a _ hw)
  have hin := any_in (ro := ro) (n := nn) (ds := []) (fun ⟨_, _, h⟩ => by cases h.1) hca _ _ _ _ hany
  rw [addD_nil] at hin
  refine wpIn_mono (wpIn_region_any hmx hin) ?_
  rintro e a' w' ⟨a0, rfl, h⟩
  rw [addD_nil]
  exact h
theorem assign_in {F : Fence} {n : Nat} {id : Nat} {d : Nat} {x : Operand} {ty : TypeId} {pos : String} {after : Array Edge} {K : Act → World → Prop} {Q : Exit → Act → World → Prop} {a : Act} {w : World} (h : K (a.put (some d) (a.eval x)) w) :
    (Code.region id #[{ dst := some d, op := .assign x, type := ty, pos := pos, after := after, guard := none }] false).wpIn F n P (Exit.then K Q) a w := by
  refine wpIn_region_list ?_
  refine wpListIn_plain rfl (fun Kc hK => ?_)
  refine ⟨fun f hf => (by cases hf), ?_⟩
  rw [Oper.semAt_eq _ _ _ (fun c e => by cases e)]
  exact hK _ _ (wpListIn_nil h)
/-- What a function that owns nothing else comes to at its end. -/
theorem sat_fin [HasGl P] {L : Nat → Value} {F : Nat → Nat → Prop} {h : Hp} {hgl : HasGl.ok P h.m} {w w' : World} {a' : Act} {st0 : St} {fn : Func} {Q : AV → Prop} (hT : TTok P T) (h0n : h.n = 0) (hs1 : Sat (footOf F []) w (⟨h, L, hgl⟩ : Base P) st0 a' w')
    (hr0 : frzL (resOwns st0 fn.results.toList) st0 (fun st' => resL T st' fn.results.toList (retK Q))) :
    ∃ v, (results fn a'.tmps).run P w' = .ok v w' ∧ ∃ (r : AV) (u : Value) (L' : Nat → Value) (F' : Nat → Nat → Prop) (h' : Hp) (own' : List (Option Ob)), Ending.returned v = .returned u ∧ DenA L' h' r u ∧ (∀ i, i < h.n → L' i = L i) ∧ Mem (mineOf (footOf F []) w) L' F' h' own' w' ∧
      Keep (footOf F []) w w' ∧ Sub h h' ∧ (∀ k, h'.m k ≠ none → h.m k ≠ none ∨ mineOf (footOf F []) w k) ∧ own' = [] ∧ Q r := by
  obtain ⟨st', ⟨⟨L', F', h', hm', ha', hsub, hnew'⟩, hk⟩, hr⟩ := frzL_sat _ st0 hr0 hs1
  obtain ⟨r, v, ⟨hcl, hQ⟩, hd, hrun⟩ := results_ok (Q := fun r => cloA r = true ∧ Q r) hT hm' ha' (resL_mono (fun l h => retK_eq h) hr)
  exact ⟨_, hrun, r, v, L', F', ⟨h'.m, 0⟩, [], rfl, hd.clo 0 hcl, fun i hi => by omega, ⟨rfl, hm'.hsub, fun i ob hi => by simp at hi, fun i ob b hi => by simp at hi, fun i j oi oj b hi => by simp at hi⟩, hk, ⟨hsub.sub.m, by rw [h0n]; exact Nat.le_refl _⟩, hnew', rfl, hQ⟩
theorem Agree.mono2 {L L' : Nat → Value} {h h' : Hp} {st : St} {a : Act} (ha : Agree L h st a) (hs : Sub h h') (hL : ∀ i, i < h.n → L' i = L i) {k : Nat} {own : List (Option Ob)} : Agree L' h' ⟨st.n, k, st.env, own⟩ a :=
  ⟨ha.size, fun t av ht => (ha.env t av ht).mono hs hL, ha.defers⟩
end
end Go.Eng
/- A range over a function: a region that draws its order, with effects, in a round. -/
set_option linter.unusedVariables false
set_option linter.unusedSimpArgs false
namespace Go.Eng
open Go Go.RowKit
theorem any_region_loud {P : Program} {ops : Array Oper} {Q : Exit → Act → World → Prop} {C : World → Prop} {k : Nat} {hl el : List Nat} {a : Act} {w : World} (hmx : P.follows .mixedOrders = true) (hB : loudB ops k hl el = true) (hQ : ∀ d v c a w, Q (.panic c) (a.put d v) w → Q (.panic c) a w) (hC : C { w with drawn := w.drawn + 1 })
    (h : wpHoist P ops C (fun a' => wpListI P ops Q C (fun a'' w' => wpList P ops Q (ops.toList.drop k) a'' w') el a' { w with drawn := w.drawn + 1 }) hl a) : wpAny P .any ops Q ops.size (Array.replicate ops.size false) a { w with drawn := w.drawn + 1 } := by
  unfold loudB at hB
  simp only [Bool.and_eq_true, decide_eq_true_eq] at hB
  obtain ⟨⟨⟨⟨⟨⟨⟨⟨⟨hs, hk⟩, ht⟩, hp⟩, hch⟩, hhk⟩, hek⟩, hnd⟩, hcov⟩, hlen⟩ := hB
  have hsz0 : (Array.replicate ops.size false).size = ops.size := by simp
  have hcl : Lclosed .any ops (Array.replicate ops.size false) := fun i hi hx => by simp [hi] at hx
  have hX : wpAnyX P .any ops Q C (fun i => decide (i < k)) (fun a'' w' => wpList P ops Q (ops.toList.drop k) a'' w') (el.length + hl.length) (Array.replicate ops.size false) a { w with drawn := w.drawn + 1 } := by
    refine wpAnyX_hoist hs hQ el.length hl _ a _ hC (fun i hi => List.all_eq_true.1 hhk i hi) hp h (fun a' hK => ?_)
    refine wpAnyX_chain el _ a' _ (by rw [setAll_size, hsz0]) (preB_closed hl _ hcl hp) hch (fun i hi => ?_) (fun j hj hS hm => ?_) hnd hK
    · have h1 := List.all_eq_true.1 hek i hi
      simp only [Bool.and_eq_true, Bool.not_eq_true'] at h1
      have hik : i < k := of_decide_eq_true h1.1
      refine ⟨h1.1, ?_⟩
      rw [setAll_get _ _ _ _ (by rw [hsz0]; omega), h1.2]
      simp [show i < ops.size by omega]
    · have h1 := List.all_eq_true.1 hcov j (List.mem_range.2 (of_decide_eq_true hS))
      rw [Bool.or_eq_true] at h1
      rw [setAll_get _ _ _ _ (by rw [hsz0]; exact hj)]
      rcases h1 with h1 | h1
      · rw [h1]; rfl
      · exact absurd (by simpa using h1) hm
  have hlenk : el.length + hl.length + (ops.toList.drop k).length = ops.size := by
    rw [hlen, List.length_drop, Array.length_toList]; omega
  have key := wpAny_of_X (Q := Q) ht hk (ops.toList.drop k).length (fun listed a' w' hR hz h1 h2 hc =>
    wpAny_tail ht (ops.toList.drop k) k listed a' w' (fun j => by rw [List.getElem?_drop, Array.getElem?_toList]) (by simp; omega) (Nat.le_refl _) hz h1 h2 hc hR) (el.length + hl.length) _ a _ hsz0 (fun j _ hj => by simp [hj]) hcl hX
  rw [hlenk] at key
  exact key
theorem list_end {ro : Option Nat} {n : Nat} {P : Program} {ops : Array Oper} {Q Q2 : Exit → Act → World → Prop} {ds : List Deferred} {w : World} {a : Act} {l : List Oper} (hQ : ∀ e a w, Q e a w → e = .normal) (hk : ∀ a w, Q .normal a w → Q2 .normal (addD ds a) w)
    (hc : l.all calmOp = true) (h : wpList P ops Q l a w) : wpListIn (wideAt ro) n P ops Q2 l (addD ds a) w := by
  have := list_in (ro := ro) (n := n) (ds := ds) (Q2 := Q2) (l2 := []) hQ (fun a w h => wpListIn_nil (hk a w h)) l a w hc h
  rwa [List.append_nil] at this
theorem addD_mark {a : Act} (hd : a.defers = []) (m : Deferred) : ({ a with defers := m :: a.defers } : Act) = addD [m] a := by
  obtain ⟨t, d⟩ := a
  cases hd
  rfl
section
variable {P : Program} {T : TT} {FF : FL} {may : Nat → Prop} {w0 : World} {ops : Array Oper}
theorem any_loud [HasGl P] (k : Nat) (hl el ch : List Nat) {h0 : Base P} {K : St → Prop} {st : St} {a : Act} {w : World} (hmx : P.follows .mixedOrders = true) (hB : loudB ops k hl el = true) (hT : TTok P T) (hF : FTok P FF)
    (hp : loudP P T FF ops k hl el ch st K) (hs : Sat may w0 h0 st a w) : wpAny P .any ops (fun e a' w' => e = .normal ∧ ∃ st', Sat may w0 h0 st' a' w' ∧ K st') ops.size (Array.replicate ops.size false) a { w with drawn := w.drawn + 1 } := by
  obtain ⟨n, kk, env, own⟩ := st
  obtain ⟨⟨L, F, h, hm, ha, hsub, hnew⟩, hk⟩ := hs
  have hk0 : Keep may w0 { w with drawn := w.drawn + 1 } := ⟨hk.os, hk.tape, hk.output, hk.size, hk.block⟩
  have hm0 : Mem (mineOf may w0) L F h own { w with drawn := w.drawn + 1 } := mem_same hm (fun b _ => rfl) (Nat.le_refl _)
  have hBk := hB
  unfold loudB at hBk
  simp only [Bool.and_eq_true, decide_eq_true_eq] at hBk
  obtain ⟨⟨⟨⟨⟨⟨⟨⟨⟨_, hkk⟩, _⟩, _⟩, _⟩, hhk⟩, hek⟩, _⟩, _⟩, _⟩ := hBk
  generalize hwd : ({ w with drawn := w.drawn + 1 } : World) = wd at hk0 hm0
  let may' : Nat → Prop := footOf F (onlyL ch 0 own)
  have hmayF : ∀ b, may' b → ∃ i ob, own[i]? = some (some ob) ∧ ch.contains i = true ∧ F i b := fun b ⟨i, ob, hi, hb⟩ => by
    have := (onlyL_get ch own 0 i ob).1 hi
    rw [Nat.zero_add] at this
    exact ⟨i, ob, this.1, this.2, hb⟩
  have hmay : ∀ b, may' b → mineOf may w0 b := fun b hb => by
    obtain ⟨i, ob, h1, _, h3⟩ := hmayF b hb
    exact (hm0.foot i ob b h1 h3).2.2
  have hmine' : ∀ b, mineOf may' wd b → mineOf may w0 b := fun b hb => by
    rcases hb with hb | hb
    · exact hmay b hb
    · exact .inr (Nat.le_trans hk0.size hb)
  -- the objects that are read, and those that may change
  have hmH : Mem (mineOf may w0) L F h (hideL ch 0 own) wd :=
    ⟨by rw [hideL_len]; exact hm0.hn, hm0.hsub, fun i ob hi => hm0.obs i ob ((hideL_get ch own 0 i ob).1 hi).1, fun i ob b hi => hm0.foot i ob b ((hideL_get ch own 0 i ob).1 hi).1,
      fun i j oi oj b hi hj => hm0.dis i j oi oj b ((hideL_get ch own 0 i oi).1 hi).1 ((hideL_get ch own 0 j oj).1 hj).1⟩
  have hmE : Mem (mineOf may' wd) L F h (onlyL ch 0 own) wd :=
    ⟨by rw [onlyL_len]; exact hm0.hn, hm0.hsub, fun i ob hi => hm0.obs i ob ((onlyL_get ch own 0 i ob).1 hi).1, fun i ob b hi hb => ⟨(hm0.foot i ob b ((onlyL_get ch own 0 i ob).1 hi).1 hb).1, (hm0.foot i ob b ((onlyL_get ch own 0 i ob).1 hi).1 hb).2.1, .inl ⟨i, ob, hi, hb⟩⟩,
      fun i j oi oj b hi hj => hm0.dis i j oi oj b ((onlyL_get ch own 0 i oi).1 hi).1 ((onlyL_get ch own 0 j oj).1 hj).1⟩
  have hout : ∀ (i : Nat) (ob : Ob) (b : Nat), own[i]? = some (some ob) → ch.contains i = false → F i b → ¬ may' b := fun i ob b hi hc hb hmb => by
    obtain ⟨j, oj, h1, h2, h3⟩ := hmayF b hmb
    have := hm0.dis i j ob oj b hi h1 hb h3
    subst this
    rw [hc] at h2; cases h2
  have hC : ∀ w', Keep may' wd w' → Same F (hideL ch 0 own) h wd w' := fun w' hw' b hb => by
    rcases hb with hb | ⟨i, ob, hi, hb⟩
    · cases ho : h.m b with
      | none => exact absurd ho hb
      | some o =>
        refine hw'.block b (Array.getElem?_eq_some_iff.1 (hm0.hsub b o ho)).1 (fun hmb => ?_)
        obtain ⟨j, oj, h1, _, h3⟩ := hmayF b hmb
        exact hb (hm0.foot j oj b h1 h3).2.1
    · have h1 := (hideL_get ch own 0 i ob).1 hi
      rw [Nat.zero_add] at h1
      exact hw'.block b (hm0.foot i ob b h1.1 hb).1 (hout i ob b h1.1 h1.2 hb)
  have hlsz : ∀ i, i ∈ hl → i < ops.size := fun i hi => by
    have : i < k := of_decide_eq_true (List.all_eq_true.1 hhk i hi)
    omega
  have elsz : ∀ i, i ∈ el → i < ops.size := fun i hi => by
    have := List.all_eq_true.1 hek i hi
    rw [Bool.and_eq_true] at this
    have : i < k := of_decide_eq_true this.1
    omega
  rw [← hwd]
  refine any_region_loud (Q := fun e a' w' => e = .normal ∧ ∃ st', Sat may w0 h0 st' a' w' ∧ K st') (k := k) (hl := hl) (el := el) (C := Keep may' wd) hmx hB (fun d v c a w h => by cases h.1) (by rw [hwd]; exact Keep.refl _ _) ?_
  rw [hwd]
  unfold loudP at hp
  simp only [forceL_eq] at hp
  have hH := hoist_ok (mine := mineOf may w0) (C := Keep may' wd) hT hmH hC hl ⟨n, kk, env, hideL ch 0 own⟩ a hlsz ⟨rfl, rfl⟩ hp ⟨ha.size, ha.env, ha.defers⟩
  refine wpHoist_mono (fun a1 h1 => ?_) hl a hH
  obtain ⟨⟨n1, kk1, env1, own1⟩, ha1, ⟨rfl, rfl⟩, hp1⟩ := h1
  simp only at hp1
  have hsatE : Sat may' wd (⟨h, L, HasGl.mono h0.gl hsub.sub.m⟩ : Base P) ⟨n1, own.length, env1, onlyL ch 0 own⟩ a1 wd :=
    ⟨⟨L, F, h, hmE, ⟨ha1.size, ha1.env, ha1.defers⟩, ⟨Sub.refl h, fun i hi => rfl, hm0.hn.symm⟩, fun k hk => .inl hk⟩, Keep.refl _ _⟩
  have hE := listI_ok (Q := fun e a' w' => e = .normal ∧ ∃ st', Sat may w0 h0 st' a' w' ∧ K st') (C := Keep may' wd) hT hF (fun w' hw' => hw') el _ a1 wd elsz hp1 hsatE
  refine wpListI_mono (fun a2 w2 h2 => ?_) el a1 wd hE
  obtain ⟨⟨n2, kk2, env2, own2⟩, ⟨⟨L2, F2, h2, hm2, ha2, hsub2, hnew2⟩, hk2⟩, hem, hp2⟩ := h2
  have hLL : ∀ i, i < h.n → L2 i = L i := fun i hi => hsub2.at_ i hi
  have hS2 : Sub h h2 := hsub2.sub
  let F3 : Nat → Nat → Prop := fun i b => (∃ x, own[i]? = some (some x) ∧ ch.contains i = false ∧ F i b) ∨ ((∀ x, own[i]? = some (some x) → ch.contains i = true) ∧ F2 i b)
  have hnot : ∀ (i j : Nat) (ob o2 : Ob) (b : Nat), own[i]? = some (some ob) → ch.contains i = false → F i b → own2[j]? = some (some o2) → F2 j b → False := fun i j ob o2 b hi hc hb hj hb2 => by
    obtain ⟨q1, q2, q3⟩ := hm2.foot j o2 b hj hb2
    rcases q3 with q3 | q3
    · exact hout i ob b hi hc hb q3
    · have := (hm0.foot i ob b hi hb).1
      omega
  have hF3a : ∀ (i : Nat) (ob : Ob), own[i]? = some (some ob) → ch.contains i = false → F3 i = F i := fun i ob hi hc => by
    funext b
    refine propext ⟨fun hb => ?_, fun hb => .inl ⟨ob, hi, hc, hb⟩⟩
    rcases hb with ⟨_, _, _, hb⟩ | ⟨hx, _⟩
    · exact hb
    · rw [hx ob hi] at hc; cases hc
  have hF3b : ∀ (i : Nat), (∀ x, own[i]? = some (some x) → ch.contains i = true) → F3 i = F2 i := fun i hx => by
    funext b
    refine propext ⟨fun hb => ?_, fun hb => .inr ⟨hx, hb⟩⟩
    rcases hb with ⟨x, h1, h2, _⟩ | ⟨_, hb⟩
    · rw [hx x h1] at h2; cases h2
    · exact hb
  have hmg : ∀ (i : Nat) (ob : Ob), (mergeL ch 0 own own2)[i]? = some (some ob) → (own[i]? = some (some ob) ∧ ch.contains i = false ∧ F3 i = F i) ∨ (own2[i]? = some (some ob) ∧ F3 i = F2 i) := fun i ob hi => by
    have := mergeL_get ch own own2 0 i ob hi
    rw [Nat.zero_add] at this
    rcases this with ⟨h1, h2⟩ | ⟨h1, h2⟩
    · exact .inl ⟨h1, h2, hF3a i ob h1 h2⟩
    · exact .inr ⟨h1, hF3b i h2⟩
  have hm3 : Mem (mineOf may w0) L2 F3 h2 (mergeL ch 0 own own2) w2 := by
    refine ⟨by rw [mergeL_len]; exact hm2.hn, hm2.hsub, fun i ob hi => ?_, fun i ob b hi hb => ?_, fun i j oi oj b hi hj hbi hbj => ?_⟩
    · rcases hmg i ob hi with ⟨q1, q2, q3⟩ | ⟨q1, q3⟩
      · have hlt : i < h.n := by rw [hm0.hn]; exact (List.getElem?_eq_some_iff.1 q1).1
        rw [q3, hLL i hlt]
        exact obOk_move (hm0.obs i ob q1) (fun b hb => hk2.block b (hm0.foot i ob b q1 hb).1 (hout i ob b q1 q2 hb)) hLL hS2
      · rw [q3]; exact hm2.obs i ob q1
    · rcases hmg i ob hi with ⟨q1, q2, q3⟩ | ⟨q1, q3⟩
      · rw [q3] at hb
        obtain ⟨f1, f2, f3⟩ := hm0.foot i ob b q1 hb
        refine ⟨Nat.lt_of_lt_of_le f1 hk2.size, ?_, f3⟩
        cases ho : h2.m b with
        | none => rfl
        | some o =>
          rcases hnew2 b (by rw [ho]; simp) with h9 | h9 | h9
          · exact absurd f2 h9
          · exact absurd h9 (hout i ob b q1 q2 hb)
          · omega
      · rw [q3] at hb
        obtain ⟨f1, f2, f3⟩ := hm2.foot i ob b q1 hb
        exact ⟨f1, f2, hmine' b f3⟩
    · rcases hmg i oi hi with ⟨q1, q2, q3⟩ | ⟨q1, q3⟩ <;> rcases hmg j oj hj with ⟨r1, r2, r3⟩ | ⟨r1, r3⟩ <;> rw [q3] at hbi <;> rw [r3] at hbj
      · exact hm0.dis i j oi oj b q1 r1 hbi hbj
      · exact (hnot i j oi oj b q1 q2 hbi r1 hbj).elim
      · exact (hnot j i oj oi b r1 r2 hbj q1 hbi).elim
      · exact hm2.dis i j oi oj b q1 r1 hbi hbj
  refine ops_ok (may := may) (w0 := w0) (h0 := h0) (K := K) hT hF (fun st'' a'' w'' h1 h2 => ⟨rfl, st'', h1, h2⟩) _ _ a2 w2 hp2 ⟨⟨L2, F3, h2, hm3, ⟨ha2.size, ha2.env, ha2.defers⟩, hsub.step hLL hS2, fun x hx => ?_⟩, hk0.trans hk2 hmay⟩
  rcases hnew2 x hx with h9 | h9
  · exact hnew x h9
  · exact .inr (hmine' x h9)

theorem round_loud [HasGl P] {h0 : Base P} (k : Nat) (hl el ch : List Nat) {ro : Option Nat} {nn : Nat} {id : Nat} {K : St → Prop} {st : St} {a : Act} {w : World} (hmx : P.follows .mixedOrders = true) (hB : loudB ops k hl el = true) (hca : ops.all calmOp = true) (hT : TTok P T) (hF : FTok P FF)
    (hp : loudP P T FF ops k hl el ch st K) (hs : Sat may w0 h0 st a w) : (Code.region id ops true).wpIn (wideAt ro) nn P (fun e a' w' => e = .normal ∧ ∃ st', Sat may w0 h0 st' a' w' ∧ K st') a w := by
  have hany := any_loud k hl el ch hmx hB hT hF hp hs
  have hin := any_in (ro := ro) (n := nn) (ds := []) (fun ⟨_, _, h⟩ => by cases h.1) hca _ _ _ _ hany
  rw [addD_nil] at hin
  refine wpIn_mono (wpIn_region_any hmx hin) ?_
  rintro e a' w' ⟨a0, rfl, h⟩
  rw [addD_nil]
  exact h
end
end Go.Eng
/- Own rows lent to functions that only read. -/
set_option linter.unusedVariables false
set_option linter.unusedSimpArgs false
namespace Go.Eng
open Go Go.RowKit
section
variable {P : Program} [HasGl P]
theorem den_scalC {L L' : Nat → Value} {h h' : Hp} {c : IC} {u : Value} (hc : scalC c = true) (hd : Den L h c u) : Den L' h' c u := by
  cases hd <;> first | exact Den.v _ (by assumption) | (simp [scalC] at hc)
theorem den_scalL {L L' : Nat → Value} {h h' : Hp} {cs : List IC} {us : List Value} (hc : cs.all scalC = true) (hd : DenL L h cs us) : DenL L' h' cs us :=
  ⟨hd.1, fun j c u hj hu => den_scalC (List.all_eq_true.1 hc c (List.mem_of_getElem? hj)) (hd.2 j c u hj hu)⟩
theorem den_scal1 {L L' : Nat → Value} {h h' : Hp} {r : AV} {v : Value} (hs : scal1 r = true) (hd : Den1 L h r v) : Den1 L' h' r v := by
  cases r with
  | c x => exact den_scalC hs hd
  | agg xs => obtain ⟨us, e, hd⟩ := hd; exact ⟨us, e, den_scalL hs hd⟩
  | tup xs => cases hs
  | top => cases hs
theorem den_scalA {L L' : Nat → Value} {h h' : Hp} {r : AV} {v : Value} (hs : scalA r = true) (hd : DenA L h r v) : DenA L' h' r v := by
  cases r with
  | c x => exact den_scal1 (r := .c x) hs hd
  | agg xs => exact den_scal1 (r := .agg xs) hs hd
  | tup xs =>
    obtain ⟨us, e, hl, hd⟩ := hd
    exact ⟨us, e, hl, fun j a u ha hu => den_scal1 (List.all_eq_true.1 hs a (List.mem_of_getElem? ha)) (hd j a u ha hu)⟩
  | top => cases hs
theorem denAs_sb {L L' : Nat → Value} {h h' : Hp} {s : IC → IC} (hs : SubstOk L L' h h' s) {args : List AV} {vs : List Value} (hd : DenAs L h args vs) : DenAs L' h' (args.map (sbA s)) vs :=
  ⟨by rw [List.length_map]; exact hd.len, fun j a v ha hv => by
    rw [List.getElem?_map] at ha
    cases hx : args[j]? with
    | none => rw [hx] at ha; cases ha
    | some b => rw [hx] at ha; cases ha; exact hs.denA (hd.den j b v hx hv)⟩
/-- **An own row is lent** to a function that only reads, and hands back plain values. -/
theorem callV_lendS {f : FuncId} {args : List AV} {own : List (Option Ob)} (i : Nat) {e : TypeId} {sz m : Nat} {g : Nat → List IC} {Q : AV → Prop} (hi : own[i]? = some (some (.row e sz m g))) (hcl : ∀ j, j < m → (g j).all clo = true)
    (hc : CallV P f (args.map (sbA (up (sbR i sz m g)))) [] (fun r own' => own' = [] ∧ Q r)) (hca : (args.map (sbA (up (sbR i sz m g)))).all cloA = true) (hsc : ∀ r, Q r → scalA r = true) : CallV P f args own (fun r own' => own' = own ∧ Q r) := by
  refine ⟨fun mine L F h w vs hgl hm hden => ?_⟩
  obtain ⟨h2, s1, s2, s3, s4, s5⟩ := frz_row hm hi hcl
  have hd2 := denAs_sb s4.up hden
  have hgl2 : HasGl.ok P h2.m := HasGl.mono hgl s1.m
  have := hc.out mine L F ⟨h2.m, 0⟩ w vs hgl2 ⟨rfl, s3.hsub, fun i ob hi => by simp at hi, fun i ob b hi => by simp at hi, fun i j oi oj b hi => by simp at hi⟩ (denAs_clo hd2 0 hca)
  refine this.mono ?_
  rintro x w' ⟨r, v, L', F', h', own', h1, h2', h3, h4, h5, h6, h7, rfl, hQ⟩
  have hkeep : ∀ k, k < w.heap.size → w'.heap[k]? = w.heap[k]? := fun k hk => h5.block k hk not_foot_nil
  have hm2 : Mem (mineOf (footOf F own) w) L F h own w' := (mem_move hm h5.size (fun k o hk => hkeep k (Array.getElem?_eq_some_iff.1 (hm.hsub k o hk)).1) (fun b ⟨j, ob, hj, hb⟩ => hkeep b (hm.foot j ob b hj hb).1)).mine_mono (fun b hb => .inl hb)
  exact ⟨r, v, L, F, h, own, h1, den_scalA (hsc r hQ) h2', fun _ _ => rfl, hm2, ⟨h5.os, h5.tape, h5.output, h5.size, fun k hk _ => hkeep k hk⟩, Sub.refl h, fun k hk => .inl hk, rfl, hQ⟩
/-- .. and hands back an own row of plain values. -/
theorem callV_lendR {f : FuncId} {args : List AV} {own : List (Option Ob)} (i : Nat) {e : TypeId} {sz m : Nat} {g : Nat → List IC} {e2 : TypeId} {sz2 : Nat} {Q : Nat → (Nat → List IC) → Prop} (hi : own[i]? = some (some (.row e sz m g))) (hcl : ∀ j, j < m → (g j).all clo = true)
    (hc : CallV P f (args.map (sbA (up (sbR i sz m g)))) [] (fun r own' => ∃ n g2, r = .c (.row 0) ∧ own' = [some (.row e2 sz2 n g2)] ∧ (∀ k, k < n → (g2 k).all scalC = true) ∧ Q n g2)) (hca : (args.map (sbA (up (sbR i sz m g)))).all cloA = true) :
    CallV P f args own (fun r own' => ∃ n g2, r = .c (.row own.length) ∧ own' = own ++ [some (.row e2 sz2 n g2)] ∧ Q n g2) := by
  refine ⟨fun mine L F h w vs hgl hm hden => ?_⟩
  obtain ⟨h2, s1, s2, s3, s4, s5⟩ := frz_row hm hi hcl
  have hd2 := denAs_sb s4.up hden
  have hgl2 : HasGl.ok P h2.m := HasGl.mono hgl s1.m
  have := hc.out mine L F ⟨h2.m, 0⟩ w vs hgl2 ⟨rfl, s3.hsub, fun i ob hi => by simp at hi, fun i ob b hi => by simp at hi, fun i j oi oj b hi => by simp at hi⟩ (denAs_clo hd2 0 hca)
  refine this.mono ?_
  rintro x w' ⟨r, v, L', F', h', own', h1, h2', h3, h4, h5, h6, h7, n, g2, rfl, rfl, hsc, hQ⟩
  have hkeep : ∀ k, k < w.heap.size → w'.heap[k]? = w.heap[k]? := fun k hk => h5.block k hk not_foot_nil
  have hm2 : Mem (mineOf (footOf F own) w) L F h own w' := (mem_move hm h5.size (fun k o hk => hkeep k (Array.getElem?_eq_some_iff.1 (hm.hsub k o hk)).1) (fun b ⟨j, ob, hj, hb⟩ => hkeep b (hm.foot j ob b hj hb).1)).mine_mono (fun b hb => .inl hb)
  have hn : h.n = own.length := hm.hn
  obtain ⟨vs2, k1, k2, k3⟩ := h4.obs 0 _ rfl
  have hnew : ∀ b, F' 0 b → w.heap.size ≤ b := fun b hb => by
    rcases (h4.foot 0 _ b rfl hb).2.2 with g9 | g9
    · exact absurd g9 not_foot_nil
    · exact g9
  have hm3 := mem_push (v := L' 0) (G := F' 0) (ob := .row e2 sz2 n g2) hm2
    ⟨vs2, k1, k2, ⟨k3.len, fun k hk j c hc => by
      obtain ⟨u, q1, q2⟩ := k3.den k hk j c hc
      exact ⟨u, q1, den_scalC (List.all_eq_true.1 (hsc k hk) c (List.mem_of_getElem? hc)) q2⟩⟩⟩
    (fun b hb => ⟨(h4.foot 0 _ b rfl hb).1, hp_new hm.hsub (hnew b hb), .inr (hnew b hb)⟩)
    (fun b hb ⟨j, ob, hj, hb2⟩ => by have := (hm.foot j ob b hj hb2).1; have := hnew b hb; omega)
  refine ⟨.c (.row own.length), v, _, _, _, _, h1, ?_, fun i hi => upd_lt (by omega), hm3, ⟨h5.os, h5.tape, h5.output, h5.size, fun k hk _ => hkeep k hk⟩, sub_more h 1, fun k hk => .inl hk, n, g2, rfl, rfl, hQ⟩
  have hd : Den L' h' (.row 0) v := h2'
  cases hd with
  | row _ A n0 c q1 q2 => exact Den.row _ A n0 c (by simp [Hp.more, hn]) (by rw [upd_eq]; exact q2)
end
end Go.Eng
/- A nil slice stays as a slice of nothing. -/
set_option linter.unusedVariables false
set_option linter.unusedSimpArgs false
namespace Go.Eng
open Go Go.RowKit
theorem nil_sl (t sz : Nat) (f : Nat → List IC) {st : St} (hl : st.env.lookup t = some (.c (.v (.slice none 0 0)))) : Weak st ⟨st.n, st.k, (t, .c (.sl sz 0 f)) :: st.env, st.own⟩ := by
  refine ⟨fun {P} _ may w0 h0 a w hs => ?_⟩
  obtain ⟨⟨L, F, h, hm, ha, hsub, hnew⟩, hk⟩ := hs
  refine ⟨⟨L, F, h, hm, ⟨ha.size, fun s av hs => ?_, ha.defers⟩, hsub, hnew⟩, hk⟩
  simp only [List.lookup_cons] at hs
  by_cases e : s = t
  · subst e
    simp at hs
    subst hs
    have h1 := ha.env s _ hl
    have h2 : Den L h (.v (.slice none 0 0)) (a.tmps.getD s undef) := h1
    show Den L h _ _
    generalize a.tmps.getD s undef = x at h2
    cases h2
    exact .sl sz 0 f none 0 ⟨0, 0, none⟩ (fun _ _ => undef) (Nat.le_refl _) (by omega) (fun h => by omega) (fun k hk => by omega) (fun k hk => by omega) (fun k hk => by omega) (fun k hk => by omega)
  · have e' : (s == t) = false := by simpa using e
    rw [e'] at hs
    exact ha.env s av hs
end Go.Eng
/- Maps of the call's own: made, asked, written. -/
set_option linter.unusedVariables false
set_option linter.unusedSimpArgs false
namespace Go.Eng
open Go Go.RowKit
/-- May a value be a key? -/
def chkF (T : TT) (E : TypeId → Value → Bool) (xs : Array Value) : List Field → Bool
  | [] => true
  | f :: fs => if f.name ≠ "_" then (match partOf T f.type xs f.offset with | some a => E f.type a && chkF T E xs fs | none => false) else chkF T E xs fs
def chkV (T : TT) : Nat → TypeId → Value → Bool
  | 0, _, _ => false
  | d + 1, t, x => match T.lookup t with
    | none => false
    | some ti => match ti.desc, x with
      | .struct fs, .agg cs => chkF T (chkV T d) cs fs.toList
      | .bool, .bool _ => true
      | .int _, .int _ _ => true
      | .string, .string _ => true
      | _, _ => false
section
variable {P : Program} {T : TT}
theorem chkV_ok (hT : TTok P T) (em : Bool) : ∀ (d : Nat) (t : TypeId) (x : Value) (w : World), chkV T d t x = true → (Instr.checkKey em d t x).run P w = .ok () w
  | 0, t, x, w, h => by simp [chkV] at h
  | d + 1, t, x, w, h => by
    unfold chkV at h
    split at h
    · cases h
    · rename_i ti hl
      have hu := (hT _ _ hl).und
      generalize ti.desc = D at h hu
      split at h
      · rename_i fs cs
        rw [Instr.checkKey]
        simp only [Sem.run_bind, run_underlying hu, Result.andThen_ok]
        rw [← Array.forIn_toList]
        generalize fs.toList = L at h
        induction L with
        | nil => simp
        | cons f L ih =>
          unfold chkF at h
          split at h
          · rename_i hn
            split at h
            · rename_i a ha
              rw [Bool.and_eq_true] at h
              have h1 := chkV_ok hT em d f.type a w h.1
              have h2 := partOf_ok hT ha w
              simp only [List.forIn_cons, Sem.run_bind, hn, ne_eq, not_false_eq_true, if_true, h2, h1, Result.andThen_ok, Sem.run_pure]
              exact ih h.2
            · cases h
          · rename_i hn
            simp only [List.forIn_cons, Sem.run_bind, if_neg hn, Result.andThen_ok, Sem.run_pure]
            exact ih h
      · simp [Instr.checkKey, run_underlying hu]
      · simp [Instr.checkKey, run_underlying hu]
      · simp [Instr.checkKey, run_underlying hu]
      · cases h
end
/-- What the laws ask of a key's type. -/
structure KeyOk (P : Program) (T : TT) (k : TypeId) (D : Value → Prop) : Prop where
  wide : (match P.underlying k with | some (.array _ _) | some (.struct _) => true | _ => false) = true
  eq : ∀ a b, D a → D b → ∃ r : Bool, eqV T 10000 k a b = some r ∧ (r = true ↔ a = b)
  chk : ∀ a, D a → chkV T 10000 k a = true
  stay : ∀ a, D a → Instr.sameBits 10000 a a = true
section
variable {P : Program} {T : TT} {k : TypeId} {D : Value → Prop}
theorem KeyOk.find (hT : TTok P T) (O : KeyOk P T k D) (w : World) {x : Value} (hx : D x) (es : List MapEntry) (hes : ∀ e, e ∈ es → D e.key) :
    ((Instr.findKey k x es).run P w = .ok none w ∧ ∀ e, e ∈ es → e.key ≠ x) ∨ ∃ j e, (Instr.findKey k x es).run P w = .ok (some (j, e.val)) w ∧ es[j]? = some e ∧ e.key = x := by
  rw [run_findKey_eq w O.wide]
  have key : ∀ (es : List MapEntry) (i : Nat), (∀ e, e ∈ es → D e.key) → ((Instr.findAsking k x es i).run P w = .ok none w ∧ ∀ e, e ∈ es → e.key ≠ x) ∨ ∃ j e, (Instr.findAsking k x es i).run P w = .ok (some (i + j, e.val)) w ∧ es[j]? = some e ∧ e.key = x := by
    intro es
    induction es with
    | nil => intro i _; exact .inl ⟨by simp [Instr.findAsking], fun e he => by cases he⟩
    | cons e es ih =>
      intro i h
      obtain ⟨r, h2, h1⟩ := O.eq x e.key hx (h e (List.mem_cons_self ..))
      have h3 := eqV_ok hT 10000 k x e.key _ w h2
      have h4 : (Op.equal k x e.key).run P w = .ok r w := by simpa [Op.equal, Op.maxDepth] using h3
      cases r with
      | true => exact .inr ⟨0, e, by simp [Instr.findAsking, h4], rfl, (h1.1 rfl).symm⟩
      | false =>
        have hne : e.key ≠ x := fun g => by have := h1.2 g.symm; cases this
        rcases ih (i + 1) (fun y hy => h y (List.mem_cons_of_mem _ hy)) with ⟨g1, g2⟩ | ⟨j, e2, g1, g2, g3⟩
        · refine .inl ⟨by simp [Instr.findAsking, h4, g1], fun y hy => ?_⟩
          rcases List.mem_cons.1 hy with rfl | hy
          · exact hne
          · exact g2 y hy
        · exact .inr ⟨j + 1, e2, by simp [Instr.findAsking, h4, g1, Nat.add_assoc, Nat.add_comm 1 j], by simpa using g2, g3⟩
  rcases key es 0 hes with h | ⟨j, e, h1, h2, h3⟩
  · exact .inl h
  · exact .inr ⟨j, e, by simpa using h1, h2, h3⟩
theorem KeyOk.check (hT : TTok P T) (O : KeyOk P T k D) (em : Bool) (w : World) {x : Value} (hx : D x) : (Instr.checkKey em 10000 k x).run P w = .ok () w := chkV_ok hT em 10000 k x w (O.chk x hx)
theorem KeyOk.stays (O : KeyOk P T k D) (w : World) {x : Value} (hx : D x) : (Instr.keyThatStays x x).run P w = .ok x w := by
  unfold Instr.keyThatStays
  rw [if_pos (O.stay x hx)]
  simp
end
end Go.Eng
/- Maps of the call's own: the laws of the operations. -/
set_option linter.unusedVariables false
set_option linter.unusedSimpArgs false
namespace Go.Eng
open Go Go.RowKit
/-- A map of the call's own: its keys and what they hold, plain. -/
def mapP (es : List (Value × Value)) (m : Nat → Option Obj) (F : Nat → Prop) (w : World) (v : Value) : Prop :=
  ∃ r ents clock, v = .map (some r) ∧ F r ∧ w.heap[r]? = some (.map ents clock) ∧ es.length = ents.size ∧ ∀ (j : Nat) k a en, es[j]? = some (k, a) → ents[j]? = some en → en.key = k ∧ en.val = a
theorem mapP_stable (es : List (Value × Value)) : Stable (mapP es) :=
  ⟨fun m m' F w w' v ⟨r, ents, clock, h1, h2, h3, h4, h5⟩ _ hw => ⟨r, ents, clock, h1, h2, by rw [hw r h2]; exact h3, h4, h5⟩⟩
abbrev mpO (es : List (Value × Value)) : Ob := .abs (mapP es)
section
variable {P : Program} [HasGl P] {T : TT} {st : St} {K : St → Prop} {dst : Option Nat} {ty : TypeId} {pos : String} {after : Array Edge} {guard : Option (Nat × Bool)}
theorem den_plain {L : Nat → Value} {h : Hp} : ∀ {ks us : List Value}, DenL L h (ks.map IC.v) us → us = ks
  | [], us, hd => by have := hd.1; exact List.eq_nil_of_length_eq_zero (by simpa using this.symm)
  | k :: ks, us, hd => by
    obtain ⟨u, r, rfl, h1, h2⟩ := hd.uncons
    rw [den_one h1, den_plain h2]
theorem opV_makeMap {t : TypeId} (h : pushK st (mpO []) .mp dst K) : OpV P ⟨dst, .makeMap t none, ty, pos, after, guard⟩ st K := by
  refine ⟨fun Q may w0 h0 a w hs => ?_⟩
  obtain ⟨⟨L, F, hh, hm, ha, hsub, hnew⟩, hk⟩ := hs
  have := alloc_sat hm ha hsub hnew hk (o := .map #[] 0) (v := .map (some w.heap.size)) (ob := mpO []) (c := .mp)
    (fun L' h' hs hL => ⟨mapP_stable [], w.heap.size, #[], 0, rfl, rfl, heap_alloc_at w _, rfl, fun j k a en hj => by simp at hj⟩) (fun L' h' h1 h2 => Den.mp _ _ h1 h2) h
  refine value_upon (v := .map (some w.heap.size)) ?_ this
  simp [execOp, Instr.makeMap, run_newObj_alloc]
/-- What a map of the call's own is. -/
theorem mp_open {may : Nat → Prop} {L : Nat → Value} {F : Nat → Nat → Prop} {h : Hp} {w : World} {a : Act} {m : Operand} {i : Nat} {es : List (Value × Value)} (hm : Mem may L F h st.own w) (ha : Agree L h st a) (he : ev st m = some (.c (.mp i))) (hi : st.own[i]? = some (some (mpO es))) :
    ∃ r ents clock, a.eval m = .map (some r) ∧ F i r ∧ w.heap[r]? = some (.map ents clock) ∧ es.length = ents.size ∧ ∀ (j : Nat) k a en, es[j]? = some (k, a) → ents[j]? = some en → en.key = k ∧ en.val = a := by
  obtain ⟨_, r, ents, clock, h1, h2, h3, h4, h5⟩ := hm.obs i _ hi
  have hv : Den L h (.mp i) (a.eval m) := ev_eval ha he
  generalize a.eval m = v at hv
  cases hv with
  | mp _ r2 g1 g2 =>
  rw [h1] at g2
  cases g2
  exact ⟨r, ents, clock, rfl, h2, h3, h4, h5⟩
theorem ents_key {es : List (Value × Value)} {ents : Array MapEntry} (h4 : es.length = ents.size) (h5 : ∀ (j : Nat) k a en, es[j]? = some (k, a) → ents[j]? = some en → en.key = k ∧ en.val = a) {e : MapEntry} (he : e ∈ ents.toList) :
    (e.key, e.val) ∈ es := by
  obtain ⟨j, hj, rfl⟩ := List.getElem_of_mem he
  have hj2 : j < es.length := by rw [h4]; simpa using hj
  have := h5 j es[j].1 es[j].2 ents.toList[j] (by rw [List.getElem?_eq_getElem hj2]) (by simp at hj; simp [hj])
  rw [this.1, this.2]
  exact List.getElem_mem hj2
theorem ents_mem {es : List (Value × Value)} {ents : Array MapEntry} (h4 : es.length = ents.size) (h5 : ∀ (j : Nat) k a en, es[j]? = some (k, a) → ents[j]? = some en → en.key = k ∧ en.val = a) {k : Value} {b : Value} (he : (k, b) ∈ es) :
    ∃ e, e ∈ ents.toList ∧ e.key = k := by
  obtain ⟨j, hj, e⟩ := List.getElem_of_mem he
  have hj2 : j < ents.size := by rw [← h4]; exact hj
  have := h5 j k b ents[j] (by rw [List.getElem?_eq_getElem hj, e]) (by simp [hj2])
  exact ⟨ents[j], by simp, this.1⟩
/-- A map is asked. -/
theorem opV_lookup {D : Value → Prop} {t kt et : TypeId} {ti te : TI} {m k : Operand} {i : Nat} {es : List (Value × Value)} {ks : List Value} (r : AV) (hT : TTok P T) (O : KeyOk P T kt D) (hl : T.lookup t = some ti) (hd : ti.desc = .map kt et) (hle : T.lookup et = some te)
    (he : ev st m = some (.c (.mp i))) (hi : st.own[i]? = some (some (mpO es))) (hk : ev st k = some (.agg (ks.map IC.v))) (hD : D (.agg ks.toArray)) (hes : ∀ e, e ∈ es → D e.1)
    (hr : (∀ L h, Den1 L h r te.zero) ∧ (∀ e, e ∈ es → e.1 ≠ .agg ks.toArray) ∨ (∃ b, (.agg ks.toArray, b) ∈ es) ∧ ∀ b, (.agg ks.toArray, b) ∈ es → ∀ L h, Den1 L h r b) (htup : ∀ L h v, Den1 L h r v → DenA L h r v) (h : putK st dst r K) : OpV P ⟨dst, .lookup t m k false, ty, pos, after, guard⟩ st K := by
  refine ⟨fun Q may w0 h0 a w hs => ?_⟩
  obtain ⟨⟨L, F, hh, hm, ha, hsub, hnew⟩, hk'⟩ := hs
  obtain ⟨r0, ents, clock, h1, h2, h3, h4, h5⟩ := mp_open hm ha he hi
  obtain ⟨us, e1, e2⟩ : Den1 L hh (.agg (ks.map IC.v)) (a.eval k) := ev_eval ha hk
  rw [den_plain e2] at e1
  have hu := (hT _ _ hl).und
  rw [hd] at hu
  have hz := (hT _ _ hle).zero w
  have hc := O.check hT ents.isEmpty w hD
  have hf := O.find hT w hD ents.toList (fun e he => hes _ (ents_key h4 h5 he))
  have hg : ∀ q, (getObj r0).run P q = (getObj r0).run P q := fun q => rfl
  have hgo : (getObj r0).run P w = .ok (.map ents clock) w := by simp [getObj, Sem.run, h3]
  rcases hf with ⟨g1, g2⟩ | ⟨j, e, g1, g2, g3⟩
  · have hdn : Den1 L hh r te.zero := by
      rcases hr with ⟨hz2, _⟩ | ⟨⟨b, hb⟩, _⟩
      · exact hz2 L hh
      · obtain ⟨e, he2, he3⟩ := ents_mem h4 h5 hb
        exact absurd he3 (g2 e he2)
    have := put_sat hm ha hsub hnew hk' (htup _ _ _ hdn) h
    refine value_upon (v := te.zero) ?_ this
    simp [execOp, Instr.lookup, run_underlying hu, h1, e1, hgo, hc, g1, hz]
  · have hem : e ∈ ents.toList := List.mem_of_getElem? g2
    have hb := ents_key h4 h5 hem
    rw [g3] at hb
    have hdn : Den1 L hh r e.val := by
      rcases hr with ⟨_, hno⟩ | ⟨_, hall⟩
      · exact absurd rfl (hno _ hb)
      · exact hall _ hb L hh
    have := put_sat hm ha hsub hnew hk' (htup _ _ _ hdn) h
    refine value_upon (v := e.val) ?_ this
    simp [execOp, Instr.lookup, run_underlying hu, h1, e1, hgo, hc, g1]
/-- A key comes to a map. -/
theorem opV_put {D : Value → Prop} {t kt et : TypeId} {ti : TI} {m k x : Operand} {i : Nat} {es : List (Value × Value)} {ks : List Value} {va : AV} {vb : Value} (hT : TTok P T) (O : KeyOk P T kt D) (hl : T.lookup t = some ti) (hd : ti.desc = .map kt et)
    (he : ev st m = some (.c (.mp i))) (hi : st.own[i]? = some (some (mpO es))) (hk : ev st k = some (.agg (ks.map IC.v))) (hD : D (.agg ks.toArray)) (hes : ∀ e, e ∈ es → D e.1) (hno : ∀ e, e ∈ es → e.1 ≠ .agg ks.toArray)
    (hx : ev st x = some va) (hvb : ∀ L h v, DenA L h va v → v = vb) (h : K ⟨st.n, st.k, st.env, st.own.set i (some (mpO (es ++ [(.agg ks.toArray, vb)])))⟩) : OpV P ⟨none, .mapUpdate t m k x, ty, pos, after, guard⟩ st K := by
  refine ⟨fun Q may w0 h0 a w hs => ?_⟩
  obtain ⟨⟨L, F, hh, hm, ha, hsub, hnew⟩, hk'⟩ := hs
  obtain ⟨r0, ents, clock, h1, h2, h3, h4, h5⟩ := mp_open hm ha he hi
  obtain ⟨us, e1, e2⟩ : Den1 L hh (.agg (ks.map IC.v)) (a.eval k) := ev_eval ha hk
  rw [den_plain e2] at e1
  have hu := (hT _ _ hl).und
  rw [hd] at hu
  have hc := O.check hT false w hD
  have hgo : (getObj r0).run P w = .ok (.map ents clock) w := by simp [getObj, Sem.run, h3]
  have hvx := hvb _ _ _ (ev_eval ha hx)
  have hlt := (Array.getElem?_eq_some_iff.1 h3).1
  rcases O.find hT w hD ents.toList (fun e he => hes _ (ents_key h4 h5 he)) with ⟨g1, g2⟩ | ⟨j, e, g1, g2, g3⟩
  · have hne : ∀ b, b ≠ r0 → (w.heap.setIfInBounds r0 (.map (ents.push { key := .agg ks.toArray, val := a.eval x, born := clock }) (clock + 1)))[b]? = w.heap[b]? := fun b hb => by rw [Array.getElem?_setIfInBounds, if_neg (Ne.symm hb)]
    obtain ⟨_, r1, ents1, clock1, k1, k2, k3, k4, k5⟩ := hm.obs i _ hi
    have hr1 : r1 = r0 := by
      have hv : Den L hh (.mp i) (a.eval m) := ev_eval ha he
      rw [h1] at hv
      cases hv with
      | mp _ r2 q1 q2 => rw [k1] at q2; cases q2; rfl
    subst hr1
    have hm' := mem_set (w' := { w with heap := w.heap.setIfInBounds r1 (.map (ents.push { key := .agg ks.toArray, val := a.eval x, born := clock }) (clock + 1)) }) hm hi (by simp) (fun b hb => hne b (fun e => hb (by rw [e]; exact h2))) (ob := mpO (es ++ [(.agg ks.toArray, vb)]))
      ⟨mapP_stable _, r1, ents.push { key := .agg ks.toArray, val := a.eval x, born := clock }, clock + 1, k1, h2, by show (w.heap.setIfInBounds r1 _)[r1]? = _; simp [hlt], by simp [h4], fun j k b en hj hen => by
        by_cases hjl : j < es.length
        · rw [List.getElem?_append_left hjl] at hj
          rw [Array.getElem?_push_lt (by omega)] at hen
          exact h5 j k b en hj (by rw [Array.getElem?_eq_getElem (by omega)]; exact hen)
        · have hj2 : j = es.length := by
            have := (List.getElem?_eq_some_iff.1 hj).1
            rw [List.length_append, List.length_singleton] at this
            omega
          subst hj2
          rw [List.getElem?_append_right (Nat.le_refl _), Nat.sub_self] at hj
          rw [h4, Array.getElem?_push_size] at hen
          cases hj
          cases hen
          exact ⟨rfl, hvx⟩⟩
    refine skip_upon (w' := { w with heap := w.heap.setIfInBounds r1 (.map (ents.push { key := .agg ks.toArray, val := a.eval x, born := clock }) (clock + 1)) }) ?_ ?_
    · simp [execOp, Instr.mapUpdate, run_underlying hu, h1, e1, hgo, hc, g1, setObj, Sem.run, h3]
    · refine ⟨_, set_own hm' ha hsub hnew ⟨hk'.os, hk'.tape, hk'.output, by simpa using hk'.size, fun b hlt2 hno2 => ?_⟩, h⟩
      show (w.heap.setIfInBounds r1 _)[b]? = _
      rw [hne b (fun e => by
        subst e
        rcases (hm.foot i _ b hi h2).2.2 with h6 | h6
        · exact hno2 h6
        · omega)]
      exact hk'.block b hlt2 hno2
  · exfalso
    have hb := ents_key h4 h5 (List.mem_of_getElem? g2)
    rw [g3] at hb
    exact hno _ hb rfl
end
end Go.Eng
/- slices.SortFunc of an own row of plain cells, from the kit's shelf. -/
set_option linter.unusedVariables false
set_option linter.unusedSimpArgs false
namespace Go.Eng
open Go Go.RowKit Go.Proofs Go.Shelf Go.Sort
/-- A nil slice is one that stays, of no elements. -/
theorem getD_toList {α : Type} [Inhabited α] (d : Array α) (i : Nat) : d.toList.getD i default = d[i]! := by
  rw [List.getD_eq_getElem?_getD, Array.getElem?_toList, Array.getElem!_eq_getD, Array.getD_eq_getD_getElem?]
theorem flatK_toList {α : Type} [Inhabited α] (enc : α → List Value) (k : Nat) (d : Array α) (i j : Nat) (hi : i < d.size) (hj : j < k) (hk : ∀ x, (enc x).length = k) : (flatK enc k d).toList[i * k + j]? = (enc (d.toList.getD i default))[j]? := by
  have lt : i * k + j < d.size * k := by
    have := Nat.mul_le_mul_right k (show i + 1 ≤ d.size from hi); rw [Nat.add_mul, Nat.one_mul] at this; omega
  have e1 : (i * k + j) / k = i := (blk_iff k i _ (by omega)).1 ⟨by omega, by omega⟩
  have e2 : (i * k + j) % k = j := by rw [Nat.mod_eq_sub_div_mul, e1]; omega
  have h := get_flatK enc k d _ lt
  rw [e1, e2] at h
  rw [Array.getElem?_toList, getD_toList]
  rw [Array.getElem?_eq_getElem (by rw [size_flatK]; exact lt), List.getElem?_eq_getElem (by rw [hk]; exact hj)]
  rw [getElem!_pos _ _ (by rw [size_flatK]; exact lt), getElem!_pos _ _ (by rw [hk]; exact hj)] at h
  rw [h]
theorem rowD_flatK {α : Type} [Inhabited α] (L : Nat → Value) (h : Hp) (enc : α → List Value) (k : Nat) (d : Array α) (hk : ∀ x, (enc x).length = k) (h1 : ∀ x, ∀ v ∈ enc x, v.oneCell' = true) :
    RowD L h k d.size (fun i => (enc (d.toList.getD i default)).map IC.v) (flatK enc k d).toList := by
  refine ⟨fun i hi => by rw [List.length_map, hk], fun i hi j c hc => ?_⟩
  rw [List.getElem?_map] at hc
  cases hu : (enc (d.toList.getD i default))[j]? with
  | none => rw [hu] at hc; cases hc
  | some u =>
    rw [hu] at hc
    cases hc
    have hj : j < k := by rw [← hk (d.toList.getD i default)]; exact (List.getElem?_eq_some_iff.1 hu).1
    exact ⟨u, (flatK_toList enc k d i j hi hj hk).trans hu, .v u (h1 _ u (List.mem_of_getElem? hu))⟩
section
variable {P : Program} [HasGl P] {ρ : Ren} {α : Type} [Inhabited α]
theorem callV_sort (L : SlLaysF0.n6 P ρ) (k : Nat) (aE : ∀ w, (isAgg (ρ.t 24)).run P w = .ok true w) (zE : ∀ w, (Go.sizeOf (ρ.t 24)).run P w = .ok k w) (enc : α → List Value) (hk : ∀ x, (enc x).length = k) (h1 : ∀ x, ∀ v ∈ enc x, v.oneCell' = true)
    (cf : α → α → Int) (hO : SWO (ltOf cf)) (g : Nat) (eg : ∀ args w, (callFunc g args).run P w = .ok (.enter g args) w)
    (hC : ∀ x y W, Calls P g #[.agg (enc x).toArray, .agg (enc y).toArray] W fun e w' => e = .returned (.int .i64 (cf x y)) ∧ ∃ q os', w' = grow (W.drewN q) os')
    (e : TypeId) (xs : List α) (hn : xs.length < 4611686018427387904) :
    CallV P (ρ.f 6) [.c (.row 0), .c (.fn g [])] [some (.row e k xs.length fun i => (enc (xs.getD i default)).map IC.v)]
      (fun r own' => ∃ ys : List α, ys.Perm xs ∧ (∀ i j, i < j → j < ys.length → ltOf cf (ys.getD j default) (ys.getD i default) = false) ∧ r = .tup [] ∧ own' = [some (.row e k ys.length fun i => (enc (ys.getD i default)).map IC.v)]) := by
  refine ⟨fun mine Lc F h w vs hgl hm hden => ?_⟩
  obtain ⟨hlen, hden⟩ := hden
  match vs, hlen with
  | [s, fv], _ =>
    have hs := hden 0 _ _ rfl rfl
    have hf := hden 1 _ _ rfl rfl
    have hf : fv = .func (.func g) #[] #[] := by
      have : Den Lc h (.fn g []) fv := hf
      cases this with
      | fn _ _ vs _ hl =>
        have : vs = [] := List.eq_nil_of_length_eq_zero hl.symm
        subst this; rfl
    subst hf
    obtain ⟨ws, hr, hF, hD⟩ := hm.obs 0 _ rfl
    have hLs : Lc 0 = s := by
      have : Den Lc h (.row 0) s := hs
      cases this with
      | row _ _ _ _ _ h2 => exact h2
    rw [hLs] at hr hF
    have hnone : xs.length = 0 → Calls P (ρ.f 6) [s, .func (.func g) #[] #[]].toArray w (fun e' w' => e' = .returned (.tuple #[]) ∧ w' = w) → Calls P (ρ.f 6) [s, .func (.func g) #[] #[]].toArray w (fun e_1 w' => ∃ (r : AV) (v : Value) (L' : Nat → Value) (F' : Nat → Nat → Prop) (h' : Hp) (own' : List (Option Ob)), e_1 = .returned v ∧ DenA L' h' r v ∧ (∀ i, i < h.n → L' i = Lc i) ∧ Mem (mineOf (footOf F [some (.row e k xs.length fun i => (enc (xs.getD i default)).map IC.v)]) w) L' F' h' own' w' ∧
      Keep (footOf F [some (.row e k xs.length fun i => (enc (xs.getD i default)).map IC.v)]) w w' ∧ Sub h h' ∧ (∀ k_1, h'.m k_1 ≠ none → h.m k_1 ≠ none ∨ mineOf (footOf F [some (.row e k xs.length fun i => (enc (xs.getD i default)).map IC.v)]) w k_1) ∧
      (∃ ys : List α, ys.Perm xs ∧ (∀ i j, i < j → j < ys.length → ltOf cf (ys.getD j default) (ys.getD i default) = false) ∧ r = .tup [] ∧ own' = [some (.row e k ys.length fun i => (enc (ys.getD i default)).map IC.v)])) := by
      intro h0 hcall
      refine hcall.mono ?_
      rintro _ w' ⟨rfl, rfl⟩
      refine ⟨.tup [], .tuple #[], Lc, F, h, _, rfl, ⟨[], rfl, rfl, fun j a u ha => by cases ha⟩, fun _ _ => rfl, hm.mine_mono (fun b hb => .inl hb), Keep.refl _ _, Sub.refl h, fun k hk => .inl hk, xs, .refl _, fun i j _ hj => by omega, rfl, rfl⟩
    rcases hr with ⟨hwl, ⟨rfl, h0⟩ | ⟨gb, cap, cur, rfl, _, hcell, hcap, hmax, hsz, htake⟩⟩
    · exact hnone h0 (AnyF.slices_SortFunc_none L none 0 _ w)
    · by_cases h0 : xs.length = 0
      · have := AnyF.slices_SortFunc_none L (some ⟨gb, 0, none⟩) cap (.func (.func g) #[] #[]) w
        rw [h0] at hnone ⊢
        exact hnone rfl this
      have hbl : gb < w.heap.size := (Array.getElem?_eq_some_iff.1 hcell).1
      have hFb : F 0 gb := hF gb rfl
      have hflat : ws = (flatK enc k xs.toArray).toList := by
        refine List.ext_getElem? fun t => ?_
        rcases Nat.lt_or_ge t (xs.length * k) with ht | ht
        · have k0 : 0 < k := by rcases Nat.eq_zero_or_pos k with h | h
                                · subst h; simp at ht
                                · exact h
          have e1 : t = t / k * k + t % k := by have := Nat.div_add_mod t k; rw [Nat.mul_comm] at this; exact this.symm
          have hi : t / k < xs.length := (Nat.div_lt_iff_lt_mul k0).2 ht
          have hj := Nat.mod_lt t k0
          rw [e1, flatK_toList enc k xs.toArray _ _ (by simpa using hi) hj hk]
          have hx : ((enc (xs.getD (t / k) default)).map IC.v)[t % k]? = some (.v ((enc (xs.getD (t / k) default))[t % k]'(by rw [hk]; exact hj))) := by
            rw [List.getElem?_map, List.getElem?_eq_getElem (by rw [hk]; exact hj)]; rfl
          obtain ⟨u, hu, hd⟩ := hD.den _ hi _ _ hx
          rw [hu]
          rw [List.getElem?_eq_getElem (by rw [hk]; exact hj)]
          congr 1
          generalize (enc (xs.getD (t / k) default))[t % k]'(by rw [hk]; exact hj) = z at hd
          cases hd; rfl
        · rw [List.getElem?_eq_none (by omega), List.getElem?_eq_none (by simp; exact ht)]
      have hcurlen : xs.length * k ≤ cur.size := by rw [hsz]; exact Nat.mul_le_mul_right _ hcap
      have hcurget : ∀ t, t < xs.length * k → cur[t]? = (flatK enc k xs.toArray)[t]? := fun t ht => by
        have := congrArg (fun l => l[t]?) (htake.trans hflat)
        simp only [List.getElem?_take, if_pos ht, Array.getElem?_toList] at this
        exact this
      have hH : HoldsK enc k w gb 0 xs.toArray := fun j hj => by
        rw [size_flatK] at hj
        have hj' : j < xs.length * k := by simpa using hj
        have := hcurget j hj'
        rw [Nat.zero_add]
        refine ⟨?_, by simp [World.frozen?, hcell]⟩
        simp only [World.cell?, hcell]
        rw [if_neg (by simp), this, Array.getElem?_eq_getElem (by rw [size_flatK]; exact hj), getElem!_pos _ _ (by rw [size_flatK]; exact hj)]
        rfl
      have hmain := AnyQ.slices_SortFunc L k aE zE enc hk h1 cf hO g #[] gb 0 cap xs.toArray w eg (fun m os dk _ x y => hC x y _) hH hbl (by simpa using hn)
      have hmain : Calls P (ρ.f 6) [Value.slice (some ⟨gb, 0, none⟩) xs.length cap, .func (.func g) #[] #[]].toArray w _ := hmain
      refine hmain.mono ?_
      rintro _ w' ⟨rfl, d', n, os, hp, hsd, rfl⟩
      have hds : d'.size = xs.length := by simpa using hp.1
      have hheap : ∀ b, b < w.heap.size → (sortWorldK enc k w gb 0 n d' os).heap[b]? = if b = gb then some (.cells (putCells id 0 (flatK enc k d') cur) e (0, 0)) else w.heap[b]? := fun b hb => by
        show (((Sort.ahead w n).heap.modify gb (onCells (putCells id 0 (flatK enc k d')))) ++ os)[b]? = _
        rw [Array.getElem?_append_left (by simpa [Sort.ahead] using hb), Array.getElem?_modify]
        by_cases hbg : b = gb
        · subst hbg; rw [if_pos rfl, if_pos rfl]; show Option.map _ w.heap[b]? = _; rw [hcell]; rfl
        · rw [if_neg (Ne.symm hbg), if_neg hbg]; rfl
      have hsize : w.heap.size ≤ (sortWorldK enc k w gb 0 n d' os).heap.size := size_sortWorldK_c enc k w gb 0 n d' os
      refine ⟨.tup [], .tuple #[], Lc, F, h, [some (.row e k d'.toList.length fun i => (enc (d'.toList.getD i default)).map IC.v)], rfl, ⟨[], rfl, rfl, fun j a u ha => by cases ha⟩, fun _ _ => rfl,
        ⟨hm.hn, fun b o hb => ?_, fun i ob hi => ?_, fun i ob b hi hb => ?_, fun i j oi oj b hi hj _ _ => ?_⟩, ⟨rfl, rfl, rfl, hsize, fun b hb hno => ?_⟩, Sub.refl h, fun b hb => .inl hb, d'.toList, ?_, fun i j hij hj => ?_, rfl, rfl⟩
      · have h2 := hm.hsub b o hb
        rw [hheap b (Array.getElem?_eq_some_iff.1 h2).1, if_neg (fun hbg => ?_)]
        · exact h2
        · subst hbg
          have := (hm.foot 0 _ b rfl hFb).2.1
          rw [this] at hb; cases hb
      · match i, hi with
        | 0, hi =>
          cases hi
          rw [hLs]
          refine ⟨(flatK enc k d').toList, ⟨by simp, .inr ⟨gb, cap, putCells id 0 (flatK enc k d') cur, by simp [hds], Nat.zero_le _, by rw [hheap gb hbl, if_pos rfl], by simpa [hds] using hcap, hmax, by simpa [putCells] using hsz, ?_⟩⟩, fun b hb => hF b hb, ?_⟩
          · refine List.ext_getElem? fun t => ?_
            rw [List.getElem?_take]
            by_cases ht : t < d'.toList.length * k
            · rw [if_pos ht, Array.getElem?_toList, Array.getElem?_toList]
              have ht' : t < d'.size * k := by simpa using ht
              have htc : t < cur.size := by rw [hds] at ht'; omega
              simp only [putCells, Array.getElem?_mapIdx]
              rw [Array.getElem?_eq_getElem htc, Option.map_some, if_pos ⟨Nat.zero_le _, by rw [size_flatK]; omega⟩, Nat.sub_zero, Array.getElem?_eq_getElem (by rw [size_flatK]; exact ht'), getElem!_pos _ _ (by rw [size_flatK]; exact ht')]
              rfl
            · rw [if_neg ht, List.getElem?_eq_none (by simpa using ht)]
          · have := rowD_flatK Lc h enc k d' hk h1
            simpa using this
        | i + 1, hi => simp at hi
      · match i, hi with
        | 0, hi =>
          have hx := hm.foot 0 _ b rfl hb
          exact ⟨Nat.lt_of_lt_of_le hx.1 hsize, hx.2.1, .inl ⟨0, _, rfl, hb⟩⟩
        | i + 1, hi => simp at hi
      · match i, j, hi, hj with
        | 0, 0, _, _ => rfl
        | i + 1, _, hi, _ => simp at hi
        | 0, j + 1, _, hj => simp at hj
      · rw [hheap b hb, if_neg (fun hbg => hno ⟨0, _, rfl, by rw [hbg]; exact hFb⟩)]
      · have := hp.2.2
        rw [Array.extract_eq_self_of_le (by simpa using Nat.le_of_eq hds), Array.extract_eq_self_of_le (by simp)] at this
        simpa using this
      · rw [getD_toList, getD_toList]
        exact hsd i j (Nat.zero_le _) hij (by simpa [hds] using hj)
end
end Go.Eng
