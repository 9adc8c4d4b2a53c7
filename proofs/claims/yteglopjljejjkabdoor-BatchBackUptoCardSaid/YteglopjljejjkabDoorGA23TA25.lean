/- A part of the proof: what the functions of the program come to, told by a small reckoner of states. -/
import Derived.Test.YteglopjljejjkabDoorGA16TA22
import Derived.Shelf.Unicode.DecodeSlow
/- A region that draws its order, by a schedule: what may come up any time is reckoned at once; what has effects is alone when it comes. -/
set_option linter.unusedVariables false
set_option linter.unusedSimpArgs false
namespace Go.Eng
open Go
section
variable {P : Program} {ops : Array Oper} {Q : Exit → Act → World → Prop} {md : Region.Mode} {R : Act → World → Prop}
theorem wpAnyX_monoC {S : Nat → Bool} {C C' : World → Prop} (hC : ∀ w, C' w → C w) : ∀ (fuel : Nat) (listed : Array Bool) (a : Act) (w : World), wpAnyX P md ops Q C' S R fuel listed a w → wpAnyX P md ops Q C S R fuel listed a w
  | 0, listed, a, w, h => h
  | fuel + 1, listed, a, w, h => ⟨h.1, fun i hi hS => wpOp_mono (fun a' w' h1 => ⟨hC _ h1.1, wpAnyX_monoC hC fuel _ a' w' h1.2⟩) (h.2 i hi hS)⟩
/-- A schedule: a read that may come up at any time (rd); what has effects (ef), alone or one of several (alt). -/
inductive Sch where
  | nil
  | rd (i : Nat) (s : Sch)
  | ef (i : Nat) (s : Sch)
  | alt (a b : Sch)
/-- Reads leave what they leave in every world of the class; the class may shrink at what has effects. -/
def wpS (P : Program) (ops : Array Oper) (Q : Exit → Act → World → Prop) (R : Act → World → Prop) : Sch → (World → Prop) → Act → World → Prop
  | .nil, C, a, w => R a w
  | .rd i r, C, a, w => ∃ o v, ops[i]? = some o ∧ YieldsW P ops C o v a ∧ wpS P ops Q R r C (a.put o.dst v) w
  | .ef i r, C, a, w => wpOp P ops Q i (fun a' w' => ∃ C' : World → Prop, (∀ x, C' x → C x) ∧ C' w' ∧ wpS P ops Q R r C' a' w') a w
  | .alt x y, C, a, w => wpS P ops Q R x C a w ∧ wpS P ops Q R y C a w
theorem wpS_mono {R R' : Act → World → Prop} (hq : ∀ a w, R a w → R' a w) : ∀ (l : Sch) (C : World → Prop) (a : Act) (w : World), wpS P ops Q R l C a w → wpS P ops Q R' l C a w
  | .nil, C, a, w, h => hq a w h
  | .rd i r, C, a, w, ⟨o, v, h1, h2, h3⟩ => ⟨o, v, h1, h2, wpS_mono hq r C _ _ h3⟩
  | .ef i r, C, a, w, h => wpOp_mono (fun a' w' ⟨C', k1, k2, k3⟩ => ⟨C', k1, k2, wpS_mono hq r C' a' w' k3⟩) h
  | .alt x y, C, a, w, h => ⟨wpS_mono hq x C a w h.1, wpS_mono hq y C a w h.2⟩
def heads : Sch → List Nat
  | .ef i _ => [i]
  | .alt x y => heads x ++ heads y
  | _ => []
def depthB : Sch → Nat → Bool
  | .nil, 0 => true
  | .rd _ r, n + 1 => depthB r n
  | .ef _ r, n + 1 => depthB r n
  | .alt x y, n + 1 => depthB x (n + 1) && depthB y (n + 1)
  | _, _ => false
def schedB (md : Region.Mode) (ops : Array Oper) : Sch → Bool → Array Bool → Bool
  | .nil, _, listed => (List.range ops.size).all (fun j => listed.getD j false)
  | .rd i r, _, listed => (Region.ready md ops listed).contains i && Region.free md ops listed i && schedB md ops r true (listed.setIfInBounds i true)
  | .ef i r, fl, listed => (Region.ready md ops listed).contains i && (!fl || (Region.ready md ops listed).all (fun j => decide (j = i))) && schedB md ops r true (listed.setIfInBounds i true)
  | .alt x y, fl, listed => (!fl || ((Region.ready md ops listed).all (fun j => (heads x ++ heads y).contains j) && (Region.ready md ops listed).any (fun _ => true))) && schedB md ops x false listed && schedB md ops y false listed
theorem wpAnyX_sched (hs : Region.noSelect ops = true) (hQ : ∀ d v c a w, Q (.panic c) (a.put d v) w → Q (.panic c) a w) : ∀ (l : Sch),
    (∀ (n : Nat) (listed : Array Bool) (C : World → Prop) (a : Act) (w : World), C w → depthB l n = true → schedB md ops l true listed = true → wpS P ops Q R l C a w → wpAnyX P md ops Q C (fun i => decide (i < ops.size)) R n listed a w) ∧
    (∀ (n : Nat) (listed : Array Bool) (C : World → Prop) (a : Act) (w : World) (j : Nat), C w → depthB l (n + 1) = true → schedB md ops l false listed = true → wpS P ops Q R l C a w → j ∈ heads l → wpOp P ops Q j (fun a' w' => C w' ∧ wpAnyX P md ops Q C (fun i => decide (i < ops.size)) R n (listed.setIfInBounds j true) a' w') a w)
  | .nil => by
    refine ⟨fun n listed C a w hw hd hB h => ?_, fun n listed C a w j hw hd hB h hj => by cases hj⟩
    cases n with
    | zero => exact ⟨fun j hj _ => List.all_eq_true.1 hB j (List.mem_range.2 hj), h⟩
    | succ n => cases hd
  | .rd i r => by
    refine ⟨fun n listed C a w hw hd hB h => ?_, fun n listed C a w j hw hd hB h hj => by cases hj⟩
    cases n with
    | zero => cases hd
    | succ n =>
      obtain ⟨o, v, h0, hy, h⟩ := h
      simp only [schedB, Bool.and_eq_true] at hB
      obtain ⟨⟨hr, hf⟩, hB'⟩ := hB
      have := (wpAnyX_sched hs hQ r).1 n _ C (a.put o.dst v) w hw hd hB' h
      exact wpAnyX_first (decide_eq_true (Array.getElem?_eq_some_iff.1 h0).1) h0 (Region.noSelect_spec hs) (hQ o.dst v) n listed a w hw (Region.free_spec h0 hf) (by simpa using hr) hy this
  | .ef i r => by
    have two : ∀ (n : Nat) (listed : Array Bool) (C : World → Prop) (a : Act) (w : World), C w → depthB r n = true → schedB md ops r true (listed.setIfInBounds i true) = true → wpS P ops Q R (.ef i r) C a w → wpOp P ops Q i (fun a' w' => C w' ∧ wpAnyX P md ops Q C (fun i => decide (i < ops.size)) R n (listed.setIfInBounds i true) a' w') a w := fun n listed C a w hw hd hB h => by
      refine wpOp_mono (fun a' w' h1 => ?_) h
      obtain ⟨C', k1, k2, k3⟩ := h1
      exact ⟨k1 _ k2, wpAnyX_monoC k1 _ _ _ _ ((wpAnyX_sched hs hQ r).1 n _ C' a' w' k2 hd hB k3)⟩
    refine ⟨fun n listed C a w hw hd hB h => ?_, fun n listed C a w j hw hd hB h hj => ?_⟩
    · cases n with
      | zero => cases hd
      | succ n =>
        simp only [schedB, Bool.and_eq_true, Bool.not_true, Bool.false_or] at hB
        obtain ⟨⟨hr, hf⟩, hB'⟩ := hB
        have hr' : i ∈ Region.ready md ops listed := by simpa using hr
        obtain ⟨g1, g2, g3⟩ := ready_deps hr'
        refine ⟨⟨i, g1, decide_eq_true g1, g2⟩, fun j hj hS => ?_⟩
        obtain rfl : j = i := of_decide_eq_true (List.all_eq_true.1 hf j hj)
        exact two n listed C a w hw hd hB' h
    · obtain rfl : j = i := by simpa [heads] using hj
      simp only [schedB, Bool.and_eq_true] at hB
      exact two n listed C a w hw hd hB.2 h
  | .alt x y => by
    have two : ∀ (n : Nat) (listed : Array Bool) (C : World → Prop) (a : Act) (w : World) (j : Nat), C w → depthB (.alt x y) (n + 1) = true → schedB md ops x false listed = true → schedB md ops y false listed = true → wpS P ops Q R (.alt x y) C a w → j ∈ heads x ++ heads y →
        wpOp P ops Q j (fun a' w' => C w' ∧ wpAnyX P md ops Q C (fun i => decide (i < ops.size)) R n (listed.setIfInBounds j true) a' w') a w := fun n listed C a w j hw hd h1 h2 h hj => by
      simp only [depthB, Bool.and_eq_true] at hd
      rcases List.mem_append.1 hj with hj | hj
      · exact (wpAnyX_sched hs hQ x).2 n listed C a w j hw hd.1 h1 h.1 hj
      · exact (wpAnyX_sched hs hQ y).2 n listed C a w j hw hd.2 h2 h.2 hj
    refine ⟨fun n listed C a w hw hd hB h => ?_, fun n listed C a w j hw hd hB h hj => ?_⟩
    · cases n with
      | zero => cases hd
      | succ n =>
        simp only [schedB, Bool.and_eq_true, Bool.not_true, Bool.false_or] at hB
        obtain ⟨⟨⟨hr, he⟩, h1⟩, h2⟩ := hB
        obtain ⟨i, hi, _⟩ := List.any_eq_true.1 he
        obtain ⟨g1, g2, g3⟩ := ready_deps hi
        refine ⟨⟨i, g1, decide_eq_true g1, g2⟩, fun j hj hS => ?_⟩
        exact two n listed C a w j hw hd h1 h2 h (by simpa using List.all_eq_true.1 hr j hj)
    · simp only [schedB, Bool.and_eq_true] at hB
      exact two n listed C a w j hw hd hB.1.2 hB.2 h hj
def schB (ops : Array Oper) (l : Sch) : Bool := Region.noSelect ops && tailB .any ops ops.size && schedB .any ops l true (Array.replicate ops.size false) && depthB l ops.size
theorem wp_region_sched {id : Nat} {l : Sch} {C : World → Prop} {a : Act} {w : World} (hmx : P.follows .mixedOrders = true) (hB : schB ops l = true) (hQ : ∀ d v c a w, Q (.panic c) (a.put d v) w → Q (.panic c) a w) (hC : C { w with drawn := w.drawn + 1 })
    (h : wpS P ops Q (fun a' w' => Q .normal a' w') l C a { w with drawn := w.drawn + 1 }) : (Code.region id ops true).wp P Q a w := by
  unfold schB at hB
  simp only [Bool.and_eq_true, decide_eq_true_eq] at hB
  obtain ⟨⟨⟨hs, ht⟩, hp⟩, hlen⟩ := hB
  refine wp_region_any hmx ?_
  have hsz0 : (Array.replicate ops.size false).size = ops.size := by simp
  have hcl : Lclosed .any ops (Array.replicate ops.size false) := fun i hi hx => by simp [hi] at hx
  have hX := (wpAnyX_sched (md := .any) (Q := Q) (R := fun a' w' => Q .normal a' w') hs hQ l).1 ops.size _ C a _ hC hlen hp h
  have key := wpAny_of_X (Q := Q) ht (Nat.le_refl _) 0 (fun listed a' w' hR hz h1 h2 hc =>
    wpAny_tail ht [] ops.size listed a' w' (fun j => by rw [List.getElem?_nil, Array.getElem?_eq_none (by omega)]) (by simp) (Nat.le_refl _) hz h1 h2 hc hR) ops.size _ a _ hsz0 (fun j hj1 hj2 => by omega) hcl hX
  exact key
end
def schedP (P : Program) [HasGl P] (T : TT) (F : FL) (ops : Array Oper) (ch : List Nat) (l : Sch) : St → (St → Prop) → Prop :=
  Sch.rec (motive := fun _ => St → (St → Prop) → Prop) (fun st K => K st)
    (fun i _ ih st K => match ops[i]? with
        | none => False
        | some o => match st with
          | ⟨n, kk, env, own⟩ => forceL (hideL ch 0 own) fun ownH => guardP ops o ⟨n, kk, env, ownH⟩ (aopP T ⟨n, kk, env, ownH⟩ o.op (fun av => putK ⟨n, kk, env, own⟩ o.dst av (fun st' => ih st' K))) (skipK ⟨n, kk, env, own⟩ o.dst (fun st' => ih st' K)))
    (fun i _ ih st K => match ops[i]? with
        | none => False
        | some o => match st with
          | ⟨n, kk, env, own⟩ => forceL (onlyL ch 0 own) fun ownE => guardP ops o ⟨n, own.length, env, ownE⟩ (stepP P T F o ⟨n, own.length, env, ownE⟩ (fun st2 => match st2 with
                | ⟨n2, _, env2, own2⟩ => forceL (mergeL ch 0 own own2) fun own3 => ih ⟨n2, kk, env2, own3⟩ K)) (skipK ⟨n, kk, env, own⟩ o.dst (fun st' => ih st' K)))
    (fun _ _ iha ihb st K => iha st K ∧ ihb st K) l
section
variable {P : Program} {T : TT} {FF : FL} {may : Nat → Prop} {L : Nat → Value} {F : Nat → Nat → Prop} {h : Hp} {w w0 : World} {ops : Array Oper}
/-- What an effect on the own objects ch alone (and on new ones) comes to. -/
theorem merge_ok [HasGl P] {h0 : Base P} {ch : List Nat} {own own2 : List (Option Ob)} {kk n2 kk2 : Nat} {env2 : List (Nat × AV)} {a2 : Act} {wd w2 : World} {hgl : HasGl.ok P h.m} (hm0 : Mem (mineOf may w0) L F h own wd) (hk0 : Keep may w0 wd) (hsub : SubB h0 kk L h) (hnew : ∀ k, h.m k ≠ none → h0.h.m k ≠ none ∨ mineOf may w0 k)
    (hs : Sat (footOf F (onlyL ch 0 own)) wd (⟨h, L, hgl⟩ : Base P) ⟨n2, kk2, env2, own2⟩ a2 w2) :
    ∃ L2 F3 h2, Mem (mineOf may w0) L2 F3 h2 (mergeL ch 0 own own2) w2 ∧ Agree L2 h2 ⟨n2, kk, env2, mergeL ch 0 own own2⟩ a2 ∧ SubB h0 kk L2 h2 ∧ (∀ k, h2.m k ≠ none → h0.h.m k ≠ none ∨ mineOf may w0 k) ∧ Keep may w0 w2 ∧
      (∀ x, Keep (footOf F3 (onlyL ch 0 (mergeL ch 0 own own2))) w2 x → Keep (footOf F (onlyL ch 0 own)) wd x) := by
  let may' : Nat → Prop := footOf F (onlyL ch 0 own)
  have hmayF : ∀ b, may' b → ∃ i ob, own[i]? = some (some ob) ∧ ch.contains i = true ∧ F i b := fun b ⟨i, ob, hi, hb⟩ => by
    have := (onlyL_get ch own 0 i ob).1 hi
    rw [Nat.zero_add] at this
    exact ⟨i, ob, this.1, this.2, hb⟩
  have hmay : ∀ b, may' b → mineOf may w0 b := fun b hb => by
    obtain ⟨i, ob, h1, _, h3⟩ := hmayF b hb
    exact (hm0.foot i ob b h1 h3).2.2
  have hmine' : ∀ b, mineOf may' wd b → mineOf may w0 b := fun b hb => by
    rcases hb with hb | hb
    · exact hmay b hb
    · exact .inr (Nat.le_trans hk0.size hb)
  have hout : ∀ (i : Nat) (ob : Ob) (b : Nat), own[i]? = some (some ob) → ch.contains i = false → F i b → ¬ may' b := fun i ob b hi hc hb hmb => by
    obtain ⟨j, oj, h1, h2, h3⟩ := hmayF b hmb
    have := hm0.dis i j ob oj b hi h1 hb h3
    subst this
    rw [hc] at h2; cases h2
  obtain ⟨⟨L2, F2, h2, hm2, ha2, hsub2, hnew2⟩, hk2⟩ := hs
  have hLL : ∀ i, i < h.n → L2 i = L i := fun i hi => hsub2.at_ i hi
  have hS2 : Sub h h2 := hsub2.sub
  let F3 : Nat → Nat → Prop := fun i b => (∃ x, own[i]? = some (some x) ∧ ch.contains i = false ∧ F i b) ∨ ((∀ x, own[i]? = some (some x) → ch.contains i = true) ∧ F2 i b)
  have hnot : ∀ (i j : Nat) (ob o2 : Ob) (b : Nat), own[i]? = some (some ob) → ch.contains i = false → F i b → own2[j]? = some (some o2) → F2 j b → False := fun i j ob o2 b hi hc hb hj hb2 => by
    obtain ⟨q1, q2, q3⟩ := hm2.foot j o2 b hj hb2
    rcases q3 with q3 | q3
    · exact hout i ob b hi hc hb q3
    · have := (hm0.foot i ob b hi hb).1
      omega
  have hF3a : ∀ (i : Nat) (ob : Ob), own[i]? = some (some ob) → ch.contains i = false → F3 i = F i := fun i ob hi hc => by
    funext b
    refine propext ⟨fun hb => ?_, fun hb => .inl ⟨ob, hi, hc, hb⟩⟩
    rcases hb with ⟨_, _, _, hb⟩ | ⟨hx, _⟩
    · exact hb
    · rw [hx ob hi] at hc; cases hc
  have hF3b : ∀ (i : Nat), (∀ x, own[i]? = some (some x) → ch.contains i = true) → F3 i = F2 i := fun i hx => by
    funext b
    refine propext ⟨fun hb => ?_, fun hb => .inr ⟨hx, hb⟩⟩
    rcases hb with ⟨x, h1, h2, _⟩ | ⟨_, hb⟩
    · rw [hx x h1] at h2; cases h2
    · exact hb
  have hmg : ∀ (i : Nat) (ob : Ob), (mergeL ch 0 own own2)[i]? = some (some ob) → (own[i]? = some (some ob) ∧ ch.contains i = false ∧ F3 i = F i) ∨ (own2[i]? = some (some ob) ∧ F3 i = F2 i) := fun i ob hi => by
    have := mergeL_get ch own own2 0 i ob hi
    rw [Nat.zero_add] at this
    rcases this with ⟨h1, h2⟩ | ⟨h1, h2⟩
    · exact .inl ⟨h1, h2, hF3a i ob h1 h2⟩
    · exact .inr ⟨h1, hF3b i h2⟩
  have hm3 : Mem (mineOf may w0) L2 F3 h2 (mergeL ch 0 own own2) w2 := by
    refine ⟨by rw [mergeL_len]; exact hm2.hn, hm2.hsub, fun i ob hi => ?_, fun i ob b hi hb => ?_, fun i j oi oj b hi hj hbi hbj => ?_⟩
    · rcases hmg i ob hi with ⟨q1, q2, q3⟩ | ⟨q1, q3⟩
      · have hlt : i < h.n := by rw [hm0.hn]; exact (List.getElem?_eq_some_iff.1 q1).1
        rw [q3, hLL i hlt]
        exact obOk_move (hm0.obs i ob q1) (fun b hb => hk2.block b (hm0.foot i ob b q1 hb).1 (hout i ob b q1 q2 hb)) hLL hS2
      · rw [q3]; exact hm2.obs i ob q1
    · rcases hmg i ob hi with ⟨q1, q2, q3⟩ | ⟨q1, q3⟩
      · rw [q3] at hb
        obtain ⟨f1, f2, f3⟩ := hm0.foot i ob b q1 hb
        refine ⟨Nat.lt_of_lt_of_le f1 hk2.size, ?_, f3⟩
        cases ho : h2.m b with
        | none => rfl
        | some o =>
          rcases hnew2 b (by rw [ho]; simp) with h9 | h9 | h9
          · exact absurd f2 h9
          · exact absurd h9 (hout i ob b q1 q2 hb)
          · omega
      · rw [q3] at hb
        obtain ⟨f1, f2, f3⟩ := hm2.foot i ob b q1 hb
        exact ⟨f1, f2, hmine' b f3⟩
    · rcases hmg i oi hi with ⟨q1, q2, q3⟩ | ⟨q1, q3⟩ <;> rcases hmg j oj hj with ⟨r1, r2, r3⟩ | ⟨r1, r3⟩ <;> rw [q3] at hbi <;> rw [r3] at hbj
      · exact hm0.dis i j oi oj b q1 r1 hbi hbj
      · exact (hnot i j oi oj b q1 q2 hbi r1 hbj).elim
      · exact (hnot j i oj oi b r1 r2 hbj q1 hbi).elim
      · exact hm2.dis i j oi oj b q1 r1 hbi hbj
  refine ⟨L2, F3, h2, hm3, ⟨ha2.size, ha2.env, ha2.defers⟩, hsub.step hLL hS2, fun x hx => ?_, hk0.trans hk2 hmay, fun x hx => hk2.trans hx (fun b hb => ?_)⟩
  · rcases hnew2 x hx with h9 | h9
    · exact hnew x h9
    · exact .inr (hmine' x h9)
  · obtain ⟨i, ob, hi, hb⟩ := hb
    have h1 := (onlyL_get ch _ 0 i ob).1 hi
    rw [Nat.zero_add] at h1
    rcases hmg i ob h1.1 with ⟨q1, q2, q3⟩ | ⟨q1, q3⟩
    · rw [q2] at h1; cases h1.2
    · rw [q3] at hb
      exact (hm2.foot i ob b q1 hb).2.2
theorem schedP_t [HasGl P] {ch : List Nat} {i n kk : Nat} {env : List (Nat × AV)} {own : List (Option Ob)} {r : Sch} {K : St → Prop} : schedP P T FF ops ch (.rd i r) ⟨n, kk, env, own⟩ K = (match ops[i]? with
    | none => False
    | some o => forceL (hideL ch 0 own) fun ownH => guardP ops o ⟨n, kk, env, ownH⟩ (aopP T ⟨n, kk, env, ownH⟩ o.op (fun av => putK ⟨n, kk, env, own⟩ o.dst av (fun st' => schedP P T FF ops ch r st' K))) (skipK ⟨n, kk, env, own⟩ o.dst (fun st' => schedP P T FF ops ch r st' K))) := by
  show (match ops[i]? with | none => _ | some o => _) = _
  cases ops[i]? <;> rfl
theorem schedP_f [HasGl P] {ch : List Nat} {i n kk : Nat} {env : List (Nat × AV)} {own : List (Option Ob)} {r : Sch} {K : St → Prop} : schedP P T FF ops ch (.ef i r) ⟨n, kk, env, own⟩ K = (match ops[i]? with
    | none => False
    | some o => forceL (onlyL ch 0 own) fun ownE => guardP ops o ⟨n, own.length, env, ownE⟩ (stepP P T FF o ⟨n, own.length, env, ownE⟩ (fun st2 => match st2 with
                | ⟨n2, _, env2, own2⟩ => forceL (mergeL ch 0 own own2) fun own3 => schedP P T FF ops ch r ⟨n2, kk, env2, own3⟩ K)) (skipK ⟨n, kk, env, own⟩ o.dst (fun st' => schedP P T FF ops ch r st' K))) := by
  show (match ops[i]? with | none => _ | some o => _) = _
  cases ops[i]? <;> rfl
theorem sched_ok [HasGl P] {h0 : Base P} (hT : TTok P T) (hF : FTok P FF) {Q : Exit → Act → World → Prop} {ch : List Nat} {K : St → Prop} : ∀ (l : Sch) (n kk : Nat) (env : List (Nat × AV)) (own : List (Option Ob)) (a : Act) (w : World) (L : Nat → Value) (F : Nat → Nat → Prop) (h : Hp),
    schedP P T FF ops ch l ⟨n, kk, env, own⟩ K → Mem (mineOf may w0) L F h own w → Agree L h ⟨n, kk, env, own⟩ a → SubB h0 kk L h → (∀ k, h.m k ≠ none → h0.h.m k ≠ none ∨ mineOf may w0 k) → Keep may w0 w →
    wpS P ops Q (fun a' w' => ∃ st', Sat may w0 h0 st' a' w' ∧ K st') l (Keep (footOf F (onlyL ch 0 own)) w) a w
  | .nil, n, kk, env, own, a, w, L, F, h, hp, hm, ha, hsub, hnew, hk => ⟨_, ⟨⟨L, F, h, hm, ha, hsub, hnew⟩, hk⟩, hp⟩
  | .rd i r, n, kk, env, own, a, w, L, F, h, hp, hm, ha, hsub, hnew, hk => by
    rw [schedP_t] at hp
    cases hoi : ops[i]? with
    | none => rw [hoi] at hp; exact hp.elim
    | some o =>
      rw [hoi] at hp
      have hgl : HasGl.ok P h.m := HasGl.mono h0.gl hsub.sub.m
      simp only [forceL_eq] at hp
      have hH : Agree L h ⟨n, kk, env, hideL ch 0 own⟩ a := ⟨ha.size, ha.env, ha.defers⟩
      have hmH : Mem (mineOf may w0) L F h (hideL ch 0 own) w :=
        ⟨by rw [hideL_len]; exact hm.hn, hm.hsub, fun i ob hi => hm.obs i ob ((hideL_get ch own 0 i ob).1 hi).1, fun i ob b hi => hm.foot i ob b ((hideL_get ch own 0 i ob).1 hi).1,
          fun i j oi oj b hi hj => hm.dis i j oi oj b ((hideL_get ch own 0 i oi).1 hi).1 ((hideL_get ch own 0 j oj).1 hj).1⟩
      have hC : ∀ w', Keep (footOf F (onlyL ch 0 own)) w w' → Same F (hideL ch 0 own) h w w' := fun w' hw' b hb => by
        have hmayF : footOf F (onlyL ch 0 own) b → ∃ i ob, own[i]? = some (some ob) ∧ ch.contains i = true ∧ F i b := fun ⟨i, ob, hi, hb⟩ => by
          have := (onlyL_get ch own 0 i ob).1 hi
          rw [Nat.zero_add] at this
          exact ⟨i, ob, this.1, this.2, hb⟩
        rcases hb with hb | ⟨i, ob, hi, hb⟩
        · cases ho : h.m b with
          | none => exact absurd ho hb
          | some o =>
            refine hw'.block b (Array.getElem?_eq_some_iff.1 (hm.hsub b o ho)).1 (fun hmb => ?_)
            obtain ⟨j, oj, h1, _, h3⟩ := hmayF hmb
            exact hb (hm.foot j oj b h1 h3).2.1
        · have h1 := (hideL_get ch own 0 i ob).1 hi
          rw [Nat.zero_add] at h1
          refine hw'.block b (hm.foot i ob b h1.1 hb).1 (fun hmb => ?_)
          obtain ⟨j, oj, g1, g2, g3⟩ := hmayF hmb
          have := hm.dis i j ob oj b h1.1 g1 hb g3
          subst this
          rw [h1.2] at g2; cases g2
      rcases guard_wanted hH hp with ⟨hw, hp⟩ | ⟨hw, hp⟩
      · obtain ⟨av, v, h1, h2, h3⟩ := aop_ok hT hmH hH (o := o) hp
        obtain ⟨⟨n', kk', env', own'⟩, k1, ⟨k2, k2'⟩, k3⟩ := put_agree ha h2 h1
        simp only at k2 k2'
        subst k2 k2'
        exact ⟨o, v, hoi, .inl ⟨hw, fun w' hw' => h3 w' (hC w' hw')⟩, sched_ok hT hF r n' _ env' _ _ w L F h k3 hm k1 hsub hnew hk⟩
      · obtain ⟨⟨n', kk', env', own'⟩, k1, ⟨k2, k2'⟩, k3⟩ := put_agree ha (av := .tup []) (v := undef) tup_nil hp
        simp only at k2 k2'
        subst k2 k2'
        exact ⟨o, undef, hoi, .inr ⟨hw, rfl⟩, sched_ok hT hF r n' _ env' _ _ w L F h k3 hm k1 hsub hnew hk⟩
  | .ef i r, n, kk, env, own, a, w, L, F, h, hp, hm, ha, hsub, hnew, hk => by
    rw [schedP_f] at hp
    cases hoi : ops[i]? with
    | none => rw [hoi] at hp; exact hp.elim
    | some o =>
      rw [hoi] at hp
      have hgl : HasGl.ok P h.m := HasGl.mono h0.gl hsub.sub.m
      simp only [forceL_eq] at hp
      have hE : Agree L h ⟨n, own.length, env, onlyL ch 0 own⟩ a := ⟨ha.size, ha.env, ha.defers⟩
      have hmE : Mem (mineOf (footOf F (onlyL ch 0 own)) w) L F h (onlyL ch 0 own) w :=
        ⟨by rw [onlyL_len]; exact hm.hn, hm.hsub, fun i ob hi => hm.obs i ob ((onlyL_get ch own 0 i ob).1 hi).1, fun i ob b hi hb => ⟨(hm.foot i ob b ((onlyL_get ch own 0 i ob).1 hi).1 hb).1, (hm.foot i ob b ((onlyL_get ch own 0 i ob).1 hi).1 hb).2.1, .inl ⟨i, ob, hi, hb⟩⟩,
          fun i j oi oj b hi hj => hm.dis i j oi oj b ((onlyL_get ch own 0 i oi).1 hi).1 ((onlyL_get ch own 0 j oj).1 hj).1⟩
      have hsatE : Sat (footOf F (onlyL ch 0 own)) w (⟨h, L, hgl⟩ : Base P) ⟨n, own.length, env, onlyL ch 0 own⟩ a w :=
        ⟨⟨L, F, h, hmE, hE, ⟨Sub.refl h, fun i hi => rfl, hm.hn.symm⟩, fun k hk => .inl hk⟩, Keep.refl _ _⟩
      show Go.wpOp P ops Q i _ a w
      unfold Go.wpOp
      simp only [hoi]
      rcases guard_wanted hE hp with ⟨hw, hp⟩ | ⟨hw, hp⟩
      · rw [if_pos hw]
        refine .inl (Oper.wp_mono (fun a' w' h2 => ?_) (step_ok (Q := Q) hT hF hp hsatE))
        obtain ⟨⟨n2, kk2, env2, own2⟩, hs2, hp2⟩ := h2
        obtain ⟨L2, F3, h2, m1, m2, m3, m4, m5, m6⟩ := merge_ok hm hk hsub hnew hs2
        exact ⟨_, m6, Keep.refl _ _, sched_ok hT hF r n2 kk env2 _ a' w' L2 F3 h2 hp2 m1 m2 m3 m4 m5⟩
      · rw [if_neg (by rw [hw]; simp)]
        obtain ⟨⟨n', kk', env', own'⟩, k1, ⟨k2, k2'⟩, k3⟩ := put_agree ha (av := .tup []) (v := undef) tup_nil hp
        simp only at k2 k2'
        subst k2 k2'
        exact ⟨_, fun x hx => hx, Keep.refl _ _, sched_ok hT hF r n' _ env' _ _ w L F h k3 hm k1 hsub hnew hk⟩
  | .alt x y, n, kk, env, own, a, w, L, F, h, hp, hm, ha, hsub, hnew, hk => ⟨sched_ok hT hF x n kk env own a w L F h hp.1 hm ha hsub hnew hk, sched_ok hT hF y n kk env own a w L F h hp.2 hm ha hsub hnew hk⟩
/-- **A region that draws its order, by a schedule**; what has effects may change the own objects ch alone. -/
theorem drawV_sched [HasGl P] (l : Sch) (ch : List Nat) {id : Nat} {K : St → Prop} {st : St} (hmx : P.follows .mixedOrders = true) (hB : schB ops l = true) (hT : TTok P T) (hF : FTok P FF)
    (hp : schedP P T FF ops ch l st K) : DrawV P id ops K st := by
  refine ⟨fun may w0 h0 a w hs => ?_⟩
  obtain ⟨n, kk, env, own⟩ := st
  obtain ⟨⟨L, F, h, hm, ha, hsub, hnew⟩, hk⟩ := hs
  have hk0 : Keep may w0 { w with drawn := w.drawn + 1 } := ⟨hk.os, hk.tape, hk.output, hk.size, hk.block⟩
  have hm0 : Mem (mineOf may w0) L F h own { w with drawn := w.drawn + 1 } := mem_same hm (fun b _ => rfl) (Nat.le_refl _)
  refine wp_region_sched (l := l) (C := Keep (footOf F (onlyL ch 0 own)) { w with drawn := w.drawn + 1 }) hmx hB (fun d v c a w h => by cases h.1) (Keep.refl _ _) ?_
  have := sched_ok (Q := fun e a' w' => e = .normal ∧ ∃ st', Sat may w0 h0 st' a' w' ∧ K st') (ops := ops) hT hF l n kk env own a _ L F h hp hm0 ha hsub hnew hk0
  exact wpS_mono (fun a' w' h1 => ⟨rfl, h1⟩) l _ a _ this
end
end Go.Eng
/- What the kit's shelf proves of a call, as the engine wants it. -/
set_option linter.unusedVariables false
set_option linter.unusedSimpArgs false
namespace Go.Eng
open Go Go.RowKit
/-- The two tables of the decoder lie where they lie. -/
def okTabs (g3 g4 : Nat) (m : Nat → Option Obj) : Prop := ∀ w : World, (∀ k o, m k = some o → w.heap[k]? = some o) → Lib.Utf8Tabs g3 g4 w
theorem okTabs_mono {g3 g4 : Nat} {m m' : Nat → Option Obj} (h : okTabs g3 g4 m) (hs : ∀ k o, m k = some o → m' k = some o) : okTabs g3 g4 m' := fun w hw => h w (fun k o hk => hw k o (hs k o hk))
theorem cell_heap {w w' : World} {b o : Nat} {v : Value} (hs : ∀ (k : Nat) (x : Obj), w.heap[k]? = some x → w'.heap[k]? = some x) (h : w.cell? ⟨b, o, none⟩ = some v) : w'.cell? ⟨b, o, none⟩ = some v := by
  unfold World.cell? at *
  cases hx : w.heap[b]? with
  | none => simp [hx] at h
  | some x => rw [hs b x hx]; rw [hx] at h; exact h
theorem okTabs_of {g3 g4 : Nat} {W : World} (h : Lib.Utf8Tabs g3 g4 W) : okTabs g3 g4 (fun k => W.heap[k]?) :=
  fun w hw => ⟨fun c hc => cell_heap hw (h.1 c hc), fun i hi => ⟨cell_heap hw (h.2 i hi).1, cell_heap hw (h.2 i hi).2⟩⟩
section
variable {P : Program} [HasGl P]
/-- A call at plain values that leaves alone what was there. -/
theorem callV_calls {f : FuncId} {vs : List Value} {u : Value} (hv : ∀ v, v ∈ vs → v.oneCell' = true) (hu : u.oneCell' = true)
    (hC : ∀ (m : Nat → Option Obj) (w : World), HasGl.ok P m → (∀ k o, m k = some o → w.heap[k]? = some o) → Calls P f vs.toArray w (fun e w' => e = .returned u ∧ Below w.heap.size w w')) :
    CallV P f (vs.map fun v => .c (.v v)) [] (fun r own' => own' = [] ∧ r = .c (.v u)) := by
  refine ⟨fun mine L F h w ws hgl hm hden => ?_⟩
  have e : ws = vs := by
    refine List.ext_getElem? (fun j => ?_)
    have hl := hden.len
    rw [List.length_map] at hl
    rcases Nat.lt_or_ge j vs.length with hj | hj
    · have h1 : (vs.map fun v => AV.c (.v v))[j]? = some (.c (.v vs[j])) := by rw [List.getElem?_map, List.getElem?_eq_getElem hj]; rfl
      have h2 : ws[j]? = some (ws[j]'(by omega)) := List.getElem?_eq_getElem (by omega)
      have h3 := hden.den j _ _ h1 h2
      have h4 : ws[j]'(by omega) = vs[j] := by
        have : Den L h (.v vs[j]) (ws[j]'(by omega)) := h3
        generalize ws[j]'(by omega) = x at this
        cases this; rfl
      rw [h2, h4, List.getElem?_eq_getElem hj]
    · rw [List.getElem?_eq_none (by omega), List.getElem?_eq_none (by omega)]
  subst e
  refine (hC h.m w hgl hm.hsub).mono ?_
  rintro e w' ⟨rfl, hb⟩
  have hob : ∀ (i : Nat) (ob : Ob), ([] : List (Option Ob))[i]? ≠ some (some ob) := fun i ob hi => by simp at hi
  refine ⟨.c (.v u), u, L, F, h, [], rfl, Den.v _ hu, fun _ _ => rfl, ⟨hm.hn, fun k o hk => ?_, fun i ob hi => (hob i ob hi).elim, fun i ob b hi => (hob i ob hi).elim, fun i j oi oj b hi => (hob i oi hi).elim⟩,
    ⟨hb.os, hb.tape, hb.output, hb.size, fun k hk _ => hb.block k hk⟩, Sub.refl h, fun k hk => .inl hk, rfl, rfl⟩
  have h1 := hm.hsub k o hk
  rw [hb.block k (Array.getElem?_eq_some_iff.1 h1).1]
  exact h1
end
end Go.Eng
/- A call that hands back an own row, told as one that hands back a slice that stays. -/
set_option linter.unusedVariables false
set_option linter.unusedSimpArgs false
namespace Go.Eng
open Go Go.RowKit
theorem callV_frzR {P : Program} [HasGl P] {f : FuncId} {args : List AV} {i : Nat} {e : TypeId} {sz m : Nat} {g : Nat → List IC} (hcl : ∀ j, j < m → (g j).all clo = true)
    (hc : CallV P f args [] (fun r own' => r = .c (.row i) ∧ own'[i]? = some (some (.row e sz m g)))) : CallV P f args [] (fun r own' => own' = [] ∧ r = .c (.sl sz m g)) := by
  refine ⟨fun mine L F h w vs hgl hm hden => ?_⟩
  refine (hc.out mine L F h w vs hgl hm hden).mono ?_
  rintro x w' ⟨r, v, L', F', h', own', h1, h2, h3, h4, h5, h6, h7, rfl, hi⟩
  obtain ⟨h'', s1, s2, s3, s4, s5⟩ := frz_row h4 hi hcl
  have hd : Den L' h' (.row i) v := h2
  have hd2 := s4.out _ _ hd
  have hsb : sbR i sz m g (.row i) = .sl sz m g := by
    unfold sbR
    simp only [show Nat.beq i i = true from Nat.beq_refl i]
  rw [hsb] at hd2
  have h0n : h.n = 0 := hm.hn
  have hclo : clo (.sl sz m g) = true := rfl
  refine ⟨.c (.sl sz m g), v, L', F', ⟨h''.m, 0⟩, [], h1, hd2.clo 0 hclo, fun i hi => by omega, ⟨rfl, s3.hsub, fun i ob hi => by simp at hi, fun i ob b hi => by simp at hi, fun i j oi oj b hi => by simp at hi⟩, h5, ⟨fun k o hk => s1.m k o (h6.m k o hk), by rw [h0n]; exact Nat.le_refl _⟩, fun k hk => ?_, rfl, rfl⟩
  rcases s5 k hk with h9 | h9
  · exact h7 k h9
  · exact .inr h9
end Go.Eng
