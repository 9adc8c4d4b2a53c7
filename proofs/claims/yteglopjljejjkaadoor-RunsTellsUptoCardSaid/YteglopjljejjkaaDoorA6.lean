/- A part of the proof: what the functions of the program come to, told by a small reckoner of states. -/
import Derived.Test.YteglopjljejjkaaDoorA5
set_option linter.unusedVariables false
set_option linter.unusedSimpArgs false
namespace Go.Eng
open Go Go.RowKit
section
variable {P : Program} {T : TT} {mine : Nat → Prop} {L : Nat → Value} {F : Nat → Nat → Prop} {h : Hp} {st : St} {a : Act} {w : World}
/-- The captured values of a function. -/
structure DenF (L : Nat → Value) (h : Hp) (cs : List (Bool × List IC)) (vs : List Value) : Prop where
  hl : cs.length = vs.length
  ex : ∃ g : Nat → Nat → Value, (∀ (j : Nat) b xs u, cs[j]? = some (b, xs) → vs[j]? = some u → u = if b = true then .agg ((List.range xs.length).map (g j)).toArray else g j 0) ∧ (∀ (j : Nat) xs, cs[j]? = some (false, xs) → xs.length = 1) ∧
    (∀ (j : Nat) b xs, cs[j]? = some (b, xs) → ∀ (i : Nat) c', xs[i]? = some c' → Den L h c' (g j i))
theorem DenF.fn {cs : List (Bool × List IC)} {vs : List Value} (hd : DenF L h cs vs) (f : Nat) : Den L h (.fn f cs) (.func (.func f) #[] vs.toArray) := by
  obtain ⟨hl, g, h1, h2, h3⟩ := hd
  exact Den.fn f cs vs g hl h1 h2 h3
theorem DenF.nil : DenF L h [] [] := ⟨rfl, fun _ _ => undef, fun j b xs u hc => by simp at hc, fun j xs hc => by simp at hc, fun j b xs hc => by simp at hc⟩
theorem range_get (vs : List Value) : (List.range vs.length).map (fun i => vs.getD i undef) = vs := by
  have := range_map_getD vs undef id
  simpa using this
theorem DenF.cons {b : Bool} {xs : List IC} {v : Value} {us : List Value} {cs : List (Bool × List IC)} {vs : List Value} (h1 : DenL L h xs us) (hb : v = if b = true then .agg us.toArray else us.getD 0 undef) (hf : b = false → xs.length = 1) (hd : DenF L h cs vs) : DenF L h ((b, xs) :: cs) (v :: vs) := by
  obtain ⟨hl, g, k1, k2, k3⟩ := hd
  refine ⟨by simp [hl], fun j => match j with | 0 => fun i => us.getD i undef | j + 1 => g j, fun j b' xs' u hc hu => ?_, fun j xs' hc => ?_, fun j b' xs' hc i c' hi => ?_⟩
  · match j with
    | 0 =>
      simp at hc hu
      obtain ⟨rfl, rfl⟩ := hc
      subst hu
      rw [hb, h1.1, range_get]
    | j + 1 => simp at hc hu; exact k1 j b' xs' u hc hu
  · match j with
    | 0 => simp at hc; obtain ⟨rfl, rfl⟩ := hc; exact hf rfl
    | j + 1 => simp at hc; exact k2 j xs' hc
  · match j with
    | 0 =>
      simp at hc
      obtain ⟨rfl, rfl⟩ := hc
      have hlt := (List.getElem?_eq_some_iff.1 hi).1
      have : us[i]? = some (us.getD i undef) := by
        have : i < us.length := by rw [← h1.1]; exact hlt
        simp [List.getD_eq_getElem?_getD, this]
      exact h1.2 i c' _ hi this
    | j + 1 => simp at hc; exact k3 j b' xs' hc i c' hi
theorem capsOf_ok (ha : Agree L h st a) : ∀ {xs : List Operand} {cs : List (Bool × List IC)}, capsOf st xs = some cs → DenF L h cs (xs.map a.eval)
  | [], cs, e => by cases e; exact DenF.nil
  | x :: r, cs, e => by
    unfold capsOf at e
    split at e
    · rename_i c l hx hr
      cases e
      have hd : Den L h c (a.eval x) := ev_eval ha hx
      exact DenF.cons (us := [a.eval x]) (DenL.cons hd DenL.nil) rfl (fun _ => rfl) (capsOf_ok ha hr)
    · rename_i cs l hx hr
      cases e
      obtain ⟨us, e, hd⟩ : Den1 L h (.agg cs) (a.eval x) := ev_eval ha hx
      exact DenF.cons hd (by rw [e]; rfl) (fun h => by cases h) (capsOf_ok ha hr)
    · cases e
theorem part_ok (hT : TTok P T) {t : TypeId} {cs : List IC} {vs : List Value} {off : Nat} {K : AV → Prop} (hd : DenL L h cs vs) (hp : ldP T t (cs.drop off) K) :
    ∃ av v, K av ∧ DenA L h av v ∧ ∀ w, (part t vs.toArray off).run P w = .ok v w := by
  unfold ldP at hp
  split at hp
  · rename_i ti hl
    have hf := hT _ _ hl
    split at hp
    · rename_i ha
      obtain ⟨hle, hK⟩ := ifD_and hp
      refine ⟨_, .agg ((vs.drop off).take ti.size).toArray, hK, ⟨_, rfl, (hd.drop off).take _⟩, fun w => ?_⟩
      unfold part
      simp only [Sem.run_bind, hf.agg, Result.andThen_ok, ha, if_true, hf.size]
      simp [List.drop_take]
    · rename_i ha
      split at hp
      · rename_i c rest hce
        have hd2 := hd.drop off
        rw [hce] at hd2
        obtain ⟨v, r, e, h1, h2⟩ := hd2.uncons
        refine ⟨_, v, hp, h1, fun w => ?_⟩
        have h0 : vs[off]? = some v := by
          have := List.getElem?_drop (xs := vs) (i := off) (j := 0)
          rw [e] at this
          simpa using this.symm
        unfold part
        simp only [Sem.run_bind, hf.agg, Result.andThen_ok, ha]
        simp [h0]
      · exact hp.elim
  · exact hp.elim
theorem aop_ok (hT : TTok P T) (hm : Mem mine L F h st.own w) (ha : Agree L h st a) {o : Oper} {K : AV → Prop} (hp : aopP T st o.op K) :
    ∃ av v, K av ∧ DenA L h av v ∧ ∀ w', Same F st.own h w w' → (execOp a.eval o).run P w' = .ok (.value v) w' := by
  obtain ⟨dst, op, ty, pos, after, guard⟩ := o
  simp only at hp
  unfold aopP at hp
  split at hp
  · split at hp
    · rename_i x av hx
      exact ⟨av, _, hp, ev_eval ha hx, fun w _ => by simp [execOp]⟩
    · exact hp.elim
  · split at hp
    · rename_i x av hx
      exact ⟨av, _, hp, ev_eval ha hx, fun w _ => by simp [execOp]⟩
    · exact hp.elim
  · split at hp
    · rename_i hc
      have ec := ev_v ha hc
      split at hp
      · rename_i u hu
        exact ⟨u, _, hp, ev_eval ha hu, fun w _ => by simp [execOp, ec, asBool]⟩
      · exact hp.elim
    · rename_i hc
      have ec := ev_v ha hc
      split at hp
      · rename_i u hu
        exact ⟨u, _, hp, ev_eval ha hu, fun w _ => by simp [execOp, ec, asBool]⟩
      · exact hp.elim
    · exact hp.elim
  · split at hp
    · rename_i c hx
      obtain ⟨av, v, h1, h2, h3⟩ := load_ok hT hm (ev_eval ha hx) hp
      exact ⟨av, v, h1, h2, fun w hs => by simp [execOp, h3 w hs]⟩
    · exact hp.elim
  · split at hp
    · rename_i fo j off hf hx
      have hd : Den L h _ _ := ev_eval ha hx
      generalize hz : a.eval _ = z at hd
      cases hd with
      | own _ _ ad h1 h2 =>
      exact ⟨_, _, hp, Den.own _ _ ad h1 h2, fun w _ => by simp [execOp, hz, fieldOff_run hT hf, addr_add_add]⟩
    · rename_i fo cs hf hx
      have hd : Den L h _ _ := ev_eval ha hx
      generalize hz : a.eval _ = z at hd
      cases hd with
      | fp _ ad g hclo hg hr =>
      refine ⟨_, _, hp, Den.fp _ (ad.add fo) (fun j => g (fo + j)) (List.all_eq_true.2 (fun x hx => List.all_eq_true.1 hclo x (List.mem_of_mem_drop hx))) (fun j hj => ?_) (fun j c' hc' => ?_), fun w _ => by simp [execOp, hz, fieldOff_run hT hf]⟩
      · rw [addr_add_add]; simp at hj; exact hg _ (by omega)
      · rw [List.getElem?_drop] at hc'; exact hr _ _ hc'
    · rename_i fo j sz k off hf hx
      have hd : Den L h _ _ := ev_eval ha hx
      generalize hz : a.eval _ = z at hd
      cases hd with
      | rel _ _ _ _ ad h1 h2 h3 =>
      exact ⟨_, _, hp, Den.rel _ _ _ _ ad h1 h2 h3, fun w _ => by simp [execOp, hz, fieldOff_run hT hf, addr_add_add, Nat.add_assoc]⟩
    · exact hp.elim
  · split at hp
    · rename_i ti cs hl hx
      obtain ⟨vs, e, hd⟩ : Den1 L h (.agg cs) _ := ev_eval ha hx
      have hu := (hT _ _ hl).und
      split at hp
      · rename_i fs hde
        rw [hde] at hu
        split at hp
        · rename_i f hf
          obtain ⟨av, v, k1, k2, k3⟩ := part_ok (P := P) hT hd hp
          exact ⟨av, v, k1, k2, fun w _ => by simp [execOp, e, Instr.field, run_underlying hu, hf, asAgg, k3]⟩
        · exact hp.elim
      · exact hp.elim
    · exact hp.elim
  · split at hp
    · rename_i ti sz n f k j hl hx hi
      have ei := idxOf_eval ha hi
      have hd : Den L h _ _ := ev_eval ha hx
      generalize hz : a.eval _ = z at hd
      split at hp
      · rename_i e hde
        split at hp
        · rename_i te hl2
          obtain ⟨hsz, ⟨h0, hj⟩, hK⟩ := ifD_and hp
          cases hd with
          | sl _ _ _ A c ad g hc hmx hA hg hlen hclo hr =>
          have hk : j.toNat < n := by omega
          obtain rfl := hA (by omega)
          refine ⟨_, _, hK, Den.fp _ (ad.add (j.toNat * sz)) (g j.toNat) (hclo _ hk) (fun i hi => ?_) (hr _ hk), fun w _ => by simp [execOp, hz, ei, indexAt_run (hT _ _ hl) hde (hT _ _ hl2) ad n c k j h0 hj w, hsz]⟩
          rw [addr_add_add]
          exact hg _ hk i (by rw [hlen _ hk] at hi; exact hi)
        · exact hp.elim
      · exact hp.elim
    · rename_i ti r k j hl hx hi
      have ei := idxOf_eval ha hi
      have hd : Den L h _ _ := ev_eval ha hx
      generalize hz : a.eval _ = z at hd
      split at hp
      · rename_i e e' sz n f hde ho
        split at hp
        · rename_i te hl2
          obtain ⟨hsz, ⟨h0, hj⟩, hK⟩ := ifD_and hp
          cases hd with
          | row _ A n' c h1 h2 =>
          obtain ⟨A', c', vs, e1, e2, e3, e4, e5⟩ := row_mem (hm.obs r _ ho)
          rw [h2] at e1
          cases e1
          have hk : j.toNat < n := by omega
          obtain ⟨g, rfl, _⟩ := e5 (by omega)
          refine ⟨_, _, hK, Den.rel _ _ _ _ ⟨g, 0, none⟩ h1 (by rw [h2]; rfl) (fun A n2 c2 e => by rw [h2] at e; cases e; exact hk), fun w _ => by simp [execOp, hz, ei, indexAt_run (hT _ _ hl) hde (hT _ _ hl2) ⟨g, 0, none⟩ n c k j h0 hj w, hsz]⟩
        · exact hp.elim
      · exact hp.elim
    · rename_i ti r sz kk n c k j hl hx hi
      have ei := idxOf_eval ha hi
      have hd : Den L h _ _ := ev_eval ha hx
      generalize hz : a.eval _ = z at hd
      split at hp
      · rename_i e hde
        split at hp
        · rename_i te hl2
          obtain ⟨hsz, ⟨h0, hj⟩, hK⟩ := ifD_and hp
          cases hd with
          | view _ _ _ _ _ ad b h1 h2 h3 h4 h5 =>
          obtain rfl := h3 (by omega)
          refine ⟨_, _, hK, Den.rel _ _ _ _ ad h1 (by rw [h2]; rfl) (fun A n2 c2 e => by rw [h2] at e; cases e), fun w _ => by simp [execOp, hz, ei, indexAt_run (hT _ _ hl) hde (hT _ _ hl2) (ad.add (kk * sz)) n c k j h0 hj w, hsz, addr_add_add, Nat.add_mul]⟩
        · exact hp.elim
      · exact hp.elim
    · exact hp.elim
  · split at hp
    · rename_i ti s k j hl hx hi
      have ex := ev_v ha hx
      have ei := idxOf_eval ha hi
      split at hp
      · rename_i hd
        have hu := (hT _ _ hl).und
        rw [hd] at hu
        obtain ⟨⟨h0, hj⟩, hK⟩ := hp
        have hlt : j.toNat < s.size := by omega
        refine ⟨_, _, hK, Den.v _ rfl, fun w _ => ?_⟩
        simp [execOp, ex, ei, Instr.index, asIntOf, run_underlying hu, h0, hlt, getElem!_pos]
      · exact hp.elim
    · exact hp.elim
  · obtain ⟨av, v, h1, h2, h3⟩ := slice_ok hT ha hp
    exact ⟨av, v, h1, h2, fun w _ => by simp [execOp, h3 w]⟩
  · split at hp
    · rename_i u v hx hy
      split at hp
      · rename_i x y hu hv
        obtain ⟨r, h1, h2, h3⟩ := binP_ok hT hp
        refine ⟨_, _, h1, Den.v _ h2, fun w _ => ?_⟩
        have e1 := avVal_den hu (ev_eval ha hx)
        have e2 := avVal_den hv (ev_eval ha hy)
        have := h3 w
        simp only [execOp, e1, e2]
        simp only [Sem.run_bind] at this ⊢
        simp [this]
      · obtain ⟨b, h1, h3⟩ := nil_run hT hm (ev_eval ha hx) (ev_eval ha hy) hp
        refine ⟨_, _, h1, Den.v _ rfl, fun w _ => ?_⟩
        simp only [Sem.run_bind] at h3
        simp only [execOp]
        simp only [Sem.run_bind]
        simp [h3]
    · exact hp.elim
  · split at hp
    · rename_i b hx
      have ex := ev_v ha hx
      exact ⟨_, _, hp, Den.v _ rfl, fun w _ => by simp [execOp, ex, Op.unary]⟩
    · rename_i k n hx
      have ex := ev_v ha hx
      exact ⟨_, _, hp, Den.v _ rfl, fun w _ => by simp [execOp, ex, Op.unary, Op.intArith]⟩
    · exact hp.elim
  · split at hp
    · rename_i as hx
      obtain ⟨vs, e, hl, hd⟩ : DenA L h (.tup as) _ := ev_eval ha hx
      split at hp
      · rename_i y hi
        have hlt := (List.getElem?_eq_some_iff.1 hi).1
        have hv : vs[_]? = some _ := List.getElem?_eq_getElem (hl ▸ hlt)
        exact ⟨_, _, hp, hd _ _ _ hi hv, fun w _ => by simp [execOp, e, Instr.extract, hv]⟩
      · rename_i ys hi
        have hlt := (List.getElem?_eq_some_iff.1 hi).1
        have hv : vs[_]? = some _ := List.getElem?_eq_getElem (hl ▸ hlt)
        exact ⟨_, _, hp, hd _ _ _ hi hv, fun w _ => by simp [execOp, e, Instr.extract, hv]⟩
      · exact hp.elim
    · exact hp.elim
  · split at hp
    · rename_i tt xx _ _ ti av hl hx
      have hu := (hT _ _ hl).und
      split at hp
      · exact hp.elim
      · rename_i hni
        have hrun : ∀ v w, (Instr.makeInterface tt v).run P w = .ok (.iface tt v) w := fun v w => by
          unfold Instr.makeInterface
          simp only [Sem.run_bind, run_underlying hu, Result.andThen_ok]
          simp
        split at hp
        · rename_i u hau
          have e := avVal_den hau (ev_eval ha hx)
          exact ⟨_, _, hp, Den.v _ rfl, fun w _ => by simp only [execOp, e, Sem.run_bind, hrun, Result.andThen_ok]; rfl⟩
        · split at hp
          · rename_i c
            exact ⟨_, _, hp, Den.ifc _ _ _ (ev_eval ha hx), fun w _ => by simp only [execOp, Sem.run_bind, hrun, Result.andThen_ok]; rfl⟩
          · exact hp.elim
    · exact hp.elim
  · split at hp
    · rename_i cs hcs
      exact ⟨_, _, hp, (capsOf_ok ha hcs).fn _, fun w _ => by simp [execOp, Instr.makeFunc]⟩
    · exact hp.elim
  · split at hp
    · rename_i ts td av hl1 hl2 hx
      obtain ⟨r, v, h1, h2, h3⟩ := conv_ok hT hm hl1 hl2 (ev_eval ha hx) hp
      exact ⟨r, v, h1, h2, fun w hs => by simp [execOp, h3 w hs]⟩
    · exact hp.elim
  · split at hp
    · rename_i av hx
      obtain ⟨r, v, h1, h2, h3⟩ := assert_ok hT (ev_eval ha hx) hp
      exact ⟨r, v, h1, h2, fun w hs => by simp [execOp, h3 w]⟩
    · exact hp.elim
  · split at hp
    · rename_i j off hx
      have hd : Den L h _ _ := ev_eval ha hx
      generalize hz : a.eval _ = z at hd
      cases hd with
      | own _ _ ad h1 h2 => exact ⟨_, _, hp, Den.own _ _ ad h1 h2, fun w _ => by simp [execOp, hz]⟩
    · rename_i cs hx
      have hd : Den L h _ _ := ev_eval ha hx
      generalize hz : a.eval _ = z at hd
      have hd' : DenA L h (.c (.fp cs)) z := hd
      cases hd with
      | fp _ ad => exact ⟨_, _, hp, hd', fun w _ => by simp [execOp, hz]⟩
    · rename_i i sz k off hx
      have hd : Den L h _ _ := ev_eval ha hx
      generalize hz : a.eval _ = z at hd
      have hd' : DenA L h (.c (.rel i sz k off)) z := hd
      cases hd with
      | rel _ _ _ _ ad => exact ⟨_, _, hp, hd', fun w _ => by simp [execOp, hz]⟩
    · exact hp.elim
  · obtain ⟨av, v, h1, h2, h3⟩ := build_ok hT ha hp
    exact ⟨av, v, h1, h2, fun w _ => by simp [execOp, h3 w]⟩
  · obtain ⟨av, v, h1, h2, h3⟩ := builtin_ok hT hm ha (o := ⟨dst, _, ty, pos, after, guard⟩) rfl hp
    exact ⟨av, v, h1, h2, fun w _ => h3 w⟩
  · exact hp.elim
end
end Go.Eng
