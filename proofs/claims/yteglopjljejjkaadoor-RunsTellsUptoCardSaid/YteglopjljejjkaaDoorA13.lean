/- A part of the proof: what the functions of the program come to, told by a small reckoner of states. -/
import Derived.Test.YteglopjljejjkaaDoorA13g
set_option linter.unusedVariables false
set_option linter.unusedSimpArgs false
namespace Go.Eng
open Go Go.RowKit

/-- Which way, of a Bool. -/
def onB (x y : Prop) (b : Bool) : Prop := match b with | true => x | false => y
theorem onB_intro {b : Bool} {x y : Prop} (hx : b = true → x) (hy : b = false → y) : onB x y b := by cases b; exact hy rfl; exact hx rfl
/-- Has a guarded operation to run? -/
def guardP (ops : Array Oper) (o : Oper) (st : St) (x y : Prop) : Prop :=
  match o.guard with
  | none => x
  | some (j, want) => match (ops[j]?).bind (·.dst) with
    | some d => match st.env.lookup d with
      | some (.c (.v (.bool b))) => (match want with | true => onB x y b | false => onB y x b)
      | some (.tup []) => y
      | _ => False
    | none => False
def skipK (st : St) (dst : Option Nat) (K : St → Prop) : Prop := putK st dst (.tup []) K
def opsP (P : Program) [HasGl P] (T : TT) (FF : FL) (ops : Array Oper) (l : List Oper) : St → (St → Prop) → Prop :=
  List.rec (motive := fun _ => St → (St → Prop) → Prop) (fun st K => K st)
    (fun o _ ih st K => guardP ops o st (stepP P T FF o st (fun st' => ih st' K)) (skipK st o.dst (fun st' => ih st' K))) l
inductive Ex where
  | normal
  | exit (id : Nat)
  | ret
def Ex.to : Ex → Exit
  | .normal => .normal
  | .exit id => .exit id
  | .ret => .ret
section
variable {P : Program} {T : TT} {FF : FL} {may : Nat → Prop} {w0 : World} {st : St} {a : Act} {w : World}
theorem guard_wanted {L : Nat → Value} {h : Hp} (ha : Agree L h st a) {ops : Array Oper} {o : Oper} {x y : Prop} (hg : guardP ops o st x y) : (Region.wanted o (yielded ops a.tmps) = true ∧ x) ∨ (Region.wanted o (yielded ops a.tmps) = false ∧ y) := by
  unfold guardP at hg
  unfold Region.wanted
  split at hg
  · rename_i e; rw [e]; exact .inl ⟨rfl, hg⟩
  · rename_i j want e
    rw [e]
    simp only
    split at hg
    · rename_i d hd
      have key : ∀ av, st.env.lookup d = some av → DenA L h av ((a.tmps[d]?).getD undef) := fun av hl => by
        have := ha.env d av hl
        rw [Array.getD_eq_getD_getElem?] at this
        exact this
      split at hg
      · rename_i b hl
        have hk := den_one (key _ hl)
        have hy : yielded ops a.tmps j = some b := by
          unfold yielded
          rw [hd]
          simp only [Option.bind_some]
          cases ht : a.tmps[d]? with
          | none => rw [ht] at hk; simp [undef] at hk
          | some v => rw [ht] at hk; simp only [Option.getD_some] at hk; rw [hk]
        rw [hy]
        cases want <;> cases b <;> simp_all [onB]
      · rename_i hl
        obtain ⟨vs, hk, hlen, _⟩ := key _ hl
        have hvs : vs = [] := List.eq_nil_of_length_eq_zero (by simpa using hlen.symm)
        subst hvs
        have hy : yielded ops a.tmps j = none := by
          unfold yielded
          rw [hd]
          simp only [Option.bind_some]
          cases ht : a.tmps[d]? with
          | none => rfl
          | some v => rw [ht] at hk; simp only [Option.getD_some] at hk; rw [hk]
        rw [hy]
        exact .inr ⟨by simp, hg⟩
      · exact hg.elim
    · exact hg.elim
theorem tup_nil {L : Nat → Value} {h : Hp} : DenA L h (.tup []) undef := ⟨[], rfl, rfl, fun j a u ha => by simp at ha⟩
theorem ops_ok [HasGl P] {h0 : Base P} (hT : TTok P T) (hF : FTok P FF) {ops : Array Oper} {Q : Exit → Act → World → Prop} {K : St → Prop} (hQ : ∀ st a w, Sat may w0 h0 st a w → K st → Q .normal a w) : ∀ (l : List Oper) (st : St) (a : Act) (w : World), opsP P T FF ops l st K → Sat may w0 h0 st a w → wpList P ops Q l a w
  | [], st, a, w, hp, hs => by
    refine wpList_nil ?_
    exact hQ st a w hs hp
  | o :: r, st, a, w, hp, hs => by
    refine wpList_step (fun Kc hKc => ?_)
    obtain ⟨⟨L, F, h, hm, ha, hsub, hnew⟩, hk⟩ := hs
    rcases guard_wanted ha hp with ⟨hw, hp⟩ | ⟨hw, hp⟩
    · rw [if_pos hw]
      have := step_ok (Q := Q) hT hF hp ⟨⟨L, F, h, hm, ha, hsub, hnew⟩, hk⟩
      unfold Oper.wp at this ⊢
      generalize (execOp a.eval o).run P w = res at this ⊢
      have mono : ∀ a' w', (∃ st', Sat may w0 h0 st' a' w' ∧ opsP P T FF ops r st' K) → Kc a' w' := fun a' w' ⟨st', h1, h2⟩ => hKc a' w' (ops_ok hT hF hQ r st' a' w' h2 h1)
      cases res with
      | ok n w' =>
        cases n <;> simp only [Oper.upon] at this ⊢ <;> first | exact mono _ _ this | exact this | skip
        · exact this.mono (fun e w'' h => by cases e <;> first | exact mono _ _ h | exact h)
        · exact this.mono (fun v w'' h => mono _ _ h)
      | halt x w' => cases x <;> exact this
    · rw [if_neg (by rw [hw]; simp)]
      obtain ⟨st', h1, h2⟩ := put_sat hm ha hsub hnew hk (av := .tup []) tup_nil hp
      exact hKc _ _ (ops_ok hT hF hQ r st' _ w h2 h1)

theorem opsG_ok [HasGl P] {h0 : Base P} (hT : TTok P T) {ops : Array Oper} {Q : Exit → Act → World → Prop} {K : St → Prop} (hQ : ∀ st a w, Sat may w0 h0 st a w → K st → Q .normal a w) : ∀ (l : List Oper) (st : St) (gds : GD) (a : Act) (w : World), opsG T ops l st gds K → Sat may w0 h0 st a w →
    (∀ L h, Agree L h st a → GOk L h gds a) → wpList P ops Q l a w := by
  intro l st gds a w hp hs hg
  obtain ⟨⟨L, F, h, hm, ha, hsub, hnew⟩, hk⟩ := hs
  replace hg := hg L h ha
  induction l generalizing st gds a with
  | nil => exact wpList_nil (hQ st a w ⟨⟨L, F, h, hm, ha, hsub, hnew⟩, hk⟩ hp)
  | cons o r ih =>
    refine wpList_step (fun Kc hKc => ?_)
    obtain ⟨v, st', gds', hrun, h1, h2, h3, h4⟩ := opsG_step (P := P) hT hm ha hg hp
    have go : Kc (a.put o.dst v) w := hKc _ _ (ih st' gds' _ h4 (by rw [h3.1]; exact hm) h1 (by rw [h3.2]; exact hsub) h2)
    rcases hrun with ⟨hw, hrun⟩ | ⟨hw, rfl⟩
    · rw [if_pos hw]
      exact value_upon (hrun w (fun _ _ => rfl)) go
    · rw [if_neg (by rw [hw]; simp)]
      exact go
/-- What a loop comes to. -/
structure LoopV (P : Program) [HasGl P] (c : Code) (Q : Ex → St → Prop) (st : St) : Prop where
  out : ∀ (may : Nat → Prop) (w0 : World) (h0 : Base P) (a : Act) (w : World), Sat may w0 h0 st a w → (Code.loop c).wp P (fun e a' w' => ∃ e' st', e = Ex.to e' ∧ Sat may w0 h0 st' a' w' ∧ Q e' st') a w
/-- What a region that draws its order comes to. -/
structure DrawV (P : Program) [HasGl P] (id : Nat) (ops : Array Oper) (K : St → Prop) (st : St) : Prop where
  out : ∀ (may : Nat → Prop) (w0 : World) (h0 : Base P) (a : Act) (w : World), Sat may w0 h0 st a w → (Code.region id ops true).wp P (fun e a' w' => e = .normal ∧ ∃ st', Sat may w0 h0 st' a' w' ∧ K st') a w

def vc (P : Program) [HasGl P] (T : TT) (FF : FL) (c : Code) : (Ex → St → Prop) → St → Prop :=
  Code.rec (motive := fun _ => (Ex → St → Prop) → St → Prop)
    (fun Q st => Q .normal st)
    (fun id ops draw Q st => match draw with
      | false => (match hasG ops.toList && allG T ops.toList with | true => opsG T ops ops.toList st [] (Q .normal) | false => opsP P T FF ops ops.toList st (Q .normal))
      | true => DrawV P id ops (Q .normal) st)
    (fun _ _ ihx ihy Q st => ihx (fun e st' => match e with | .normal => ihy Q st' | .exit i => Q (.exit i) st' | .ret => Q .ret st') st)
    (fun c _ _ ihx ihy Q st => match ev st c with
      | some (.c (.v (.bool b))) => onB (ihx Q st) (ihy Q st) b
      | _ => False)
    (fun id _ ih Q st => ih (fun e st' => match e with | .normal => Q .normal st' | .exit i => if i = id then Q .normal st' else Q (.exit i) st' | .ret => Q .ret st') st)
    (fun c _ Q st => LoopV P c Q st)
    (fun _ _ _ _ _ _ _ _ => False)
    (fun id Q st => Q (.exit id) st)
    (fun _ _ _ _ => False)
    (fun _ _ _ => False)
    (fun _ _ _ => False)
    (fun Q st => Q .ret st)
    (fun _ _ _ => False) c
theorem vc_cond (P : Program) [HasGl P] (T : TT) (FF : FL) (c : Operand) (x y : Code) (Q : Ex → St → Prop) (st : St) : vc P T FF (.cond c x y) Q st = (match ev st c with
      | some (.c (.v (.bool b))) => onB (vc P T FF x Q st) (vc P T FF y Q st) b
      | _ => False) := rfl
theorem vc_ok [HasGl P] {h0 : Base P} (hT : TTok P T) (hF : FTok P FF) : ∀ (c : Code) (Q : Ex → St → Prop) (st : St) (a : Act) (w : World), vc P T FF c Q st → Sat may w0 h0 st a w → c.wp P (fun e a' w' => ∃ e' st', e = Ex.to e' ∧ Sat may w0 h0 st' a' w' ∧ Q e' st') a w
  | .skip, Q, st, a, w, hp, hs => wp_skip ⟨.normal, st, rfl, hs, hp⟩
  | .region id ops draw, Q, st, a, w, hp, hs => by
    cases draw with
    | false =>
      have hp : (match hasG ops.toList && allG T ops.toList with | true => opsG T ops ops.toList st [] (Q .normal) | false => opsP P T FF ops ops.toList st (Q .normal)) := hp
      split at hp
      · exact wp_region_list (opsG_ok hT (fun st' a' w' h1 h2 => ⟨.normal, st', rfl, h1, h2⟩) _ st [] a w hp hs (fun _ _ _ => gok_nil))
      · exact wp_region_list (ops_ok hT hF (fun st' a' w' h1 h2 => ⟨.normal, st', rfl, h1, h2⟩) _ st a w hp hs)
    | true => exact Code.wp_mono (fun e a' w' ⟨he, st', h1, h2⟩ => ⟨.normal, st', he, h1, h2⟩) (hp.out may w0 h0 a w hs)
  | .seq x y, Q, st, a, w, hp, hs => by
    refine wp_seq (Code.wp_mono (fun e a' w' h => ?_) (vc_ok hT hF x _ st a w hp hs))
    obtain ⟨e', st', rfl, h1, h2⟩ := h
    cases e' with
    | normal => exact vc_ok hT hF y Q st' a' w' h2 h1
    | exit i => exact ⟨.exit i, st', rfl, h1, h2⟩
    | ret => exact ⟨.ret, st', rfl, h1, h2⟩
  | .cond c x y, Q, st, a, w, hp, hs => by
    rw [vc_cond] at hp
    split at hp
    · rename_i b hc
      obtain ⟨⟨L, F, h, hm, ha, hsub, hnew⟩, hk⟩ := hs
      have hev : a.eval c = .bool b := ev_v ha hc
      cases b with
      | true => exact wp_cond_true hev (vc_ok hT hF x Q st a w hp ⟨⟨L, F, h, hm, ha, hsub, hnew⟩, hk⟩)
      | false => exact wp_cond_false hev (vc_ok hT hF y Q st a w hp ⟨⟨L, F, h, hm, ha, hsub, hnew⟩, hk⟩)
    · exact hp.elim
  | .block id c, Q, st, a, w, hp, hs => by
    refine wp_block (Code.wp_mono (fun e a' w' h => ?_) (vc_ok hT hF c _ st a w hp hs))
    obtain ⟨e', st', rfl, h1, h2⟩ := h
    cases e' with
    | normal => exact ⟨.normal, st', rfl, h1, h2⟩
    | exit i =>
      simp only at h2
      show Exit.inBlock id _ (.exit i) a' w'
      simp only [Exit.inBlock]
      split at h2
      · rename_i e; rw [if_pos e]; exact ⟨.normal, st', rfl, h1, h2⟩
      · rename_i e; rw [if_neg e]; exact ⟨.exit i, st', rfl, h1, h2⟩
    | ret => exact ⟨.ret, st', rfl, h1, h2⟩
  | .loop c, Q, st, a, w, hp, hs => hp.out may w0 h0 a w hs
  | .exit id, Q, st, a, w, hp, hs => wp_exit ⟨.exit id, st, rfl, hs, hp⟩
  | .ret, Q, st, a, w, hp, hs => wp_ret ⟨.ret, st, rfl, hs, hp⟩
  | .rangeFunc _ _ _ _, Q, st, a, w, hp, hs => hp.elim
  | .scope _, Q, st, a, w, hp, hs => hp.elim
  | .label _, Q, st, a, w, hp, hs => hp.elim
  | .goto _, Q, st, a, w, hp, hs => hp.elim
  | .refuse _, Q, st, a, w, hp, hs => hp.elim
end
theorem onB_t {x y : Prop} (h : x) : onB x y true := h
theorem onB_f {x y : Prop} (h : y) : onB x y false := h

end Go.Eng
