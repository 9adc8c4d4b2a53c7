/- A part of the proof: what the functions of the program come to, told by a small reckoner of states. -/
import Derived.Test.YteglopjljejjkaaDoorA3
set_option linter.unusedVariables false
set_option linter.unusedSimpArgs false
namespace Go.Eng
open Go Go.RowKit
section
variable {P : Program} {T : TT} {mine : Nat → Prop} {L : Nat → Value} {F : Nat → Nat → Prop} {h : Hp} {st : St} {a : Act} {w : World}
theorem fold_set (vs : List Value) : ∀ (k off : Nat) (arr : List Value), off + k + vs.length ≤ arr.length →
    (vs.zipIdx k).foldl (fun (cs : Array Value) (x : Value × Nat) => cs.setIfInBounds (off + x.2) x.1) arr.toArray = (arr.take (off + k) ++ vs ++ arr.drop (off + k + vs.length)).toArray := by
  induction vs with
  | nil => intro k off arr h; simp
  | cons v r ih =>
    intro k off arr h
    rw [List.zipIdx_cons, List.foldl_cons]
    simp only [List.setIfInBounds_toArray]
    simp only [List.length_cons] at h
    rw [ih (k + 1) off _ (by rw [List.length_set]; omega)]
    congr 1
    have hlt : off + k < arr.length := by omega
    have e1 : off + (k + 1) = off + k + 1 := by omega
    have e2 : off + k + 1 + r.length = off + k + (v :: r).length := by simp; omega
    rw [e1, List.take_set, List.drop_set, if_pos (by omega), e2]
    rw [List.take_succ_eq_append_getElem (by simpa using hlt)]
    simp only [List.set_append]
    rw [if_neg (by simp; omega)]
    simp [Nat.min_eq_left (Nat.le_of_lt hlt)]
/-- Values for a list of abstract ones. -/
inductive DenP (L : Nat → Value) (h : Hp) : List (Nat × AV) → List (Nat × Value) → Prop
  | nil : DenP L h [] []
  | cons {i : Nat} {a : AV} {v : Value} {l : List (Nat × AV)} {r : List (Nat × Value)} (h1 : DenA L h a v) (h2 : DenP L h l r) : DenP L h ((i, a) :: l) ((i, v) :: r)
theorem fill_ok (hT : TTok P T) {fs : Array Field} {pl : Array (Nat × Nat)} (hpl : ∀ (i : Nat) (f : Field) (tf : TI), fs[i]? = some f → T.lookup f.type = some tf → pl[i]? = some (f.offset, tf.size)) :
    ∀ (l : List (Nat × AV)) (us : List (Nat × Value)) (cs : List IC) (vs : List Value) (out : List IC), DenP L h l us → DenL L h cs vs → fillC T fs cs l = some out →
      ∃ ws, Instr.fill (fun i => pl[i]?) vs.toArray us = some ws.toArray ∧ DenL L h out ws
  | [], _, cs, vs, out, .nil, hd, hf => by
    simp only [fillC, Option.some.injEq] at hf
    subst hf
    exact ⟨vs, rfl, hd⟩
  | (i, av) :: r, _, cs, vs, out, .cons (v := v) (r := us) h1 h2, hd, hf => by
    unfold fillC at hf
    split at hf
    · rename_i f xs hfi hc
      split at hf
      · rename_i tf hl
        split at hf
        · rename_i hcond
          obtain ⟨ys, e1, e2⟩ := cellsOf_den hc h1
          have hxl := e2.1
          have hcl := hd.1
          have hnew : DenL L h (cs.take f.offset ++ xs ++ cs.drop (f.offset + xs.length)) (vs.take f.offset ++ ys ++ vs.drop (f.offset + ys.length)) := by
            rw [← hxl]
            exact ((hd.take _).append e2).append (hd.drop _)
          obtain ⟨ws, k1, k2⟩ := fill_ok hT hpl r us _ _ out h2 hnew hf
          refine ⟨ws, ?_, k2⟩
          unfold Instr.fill
          simp only [hpl i f tf hfi hl, e1]
          rw [if_neg (by simp; omega)]
          have := fold_set ys 0 f.offset vs (by omega)
          rw [Nat.add_zero] at this
          have e : ys.toArray.zipIdx = (ys.zipIdx 0).toArray := by simp
          rw [e, ← Array.foldl_toList]
          simp only [] at this ⊢
          rw [this]
          exact k1
        · cases hf
      · cases hf
    · cases hf
theorem partsOf_ok (ha : Agree L h st a) : ∀ {xs : List (Nat × Operand)} {l : List (Nat × AV)}, partsOf st xs = some l → DenP L h l (xs.map fun x => (x.1, a.eval x.2))
  | [], l, e => by cases e; exact .nil
  | (i, x) :: r, l, e => by
    unfold partsOf at e
    split at e
    · rename_i av l' hx hr
      cases e
      exact .cons (ev_eval ha hx) (partsOf_ok ha hr)
    · cases e
theorem places_run (hT : TTok P T) : ∀ (fs : List Field), fs.all (fun f => (T.lookup f.type).isSome) = true → ∃ pl : List (Nat × Nat), (∀ w, (fs.mapM (fun f => (do pure (f.offset, ← Go.sizeOf f.type) : Sem (Nat × Nat)))).run P w = .ok pl w) ∧ ∀ (i : Nat) (f : Field) (tf : TI), fs[i]? = some f → T.lookup f.type = some tf → pl[i]? = some (f.offset, tf.size)
  | [], _ => ⟨[], fun w => by simp, fun i f tf hi => by simp at hi⟩
  | f :: fs, hall => by
    rw [List.all_cons, Bool.and_eq_true] at hall
    obtain ⟨tf, hl⟩ := Option.isSome_iff_exists.1 hall.1
    obtain ⟨pl, h1, h2⟩ := places_run hT fs hall.2
    refine ⟨(f.offset, tf.size) :: pl, fun w => by rw [List.mapM_cons]; simp only [Sem.run_bind, Sem.run_pure, (hT _ _ hl).size, h1, Result.andThen_ok], fun i f' tf' hi hl' => ?_⟩
    cases i with
    | zero =>
      simp only [List.getElem?_cons_zero, Option.some.injEq] at hi
      subst hi
      rw [hl] at hl'
      cases hl'
      rfl
    | succ i =>
      simp only [List.getElem?_cons_succ] at hi ⊢
      exact h2 i f' tf' hi hl'
theorem zero_den {z : Value} (hz : z.cells.toList.all (·.oneCell') = true) : DenL L h (z.cells.toList.map IC.v) z.cells.toList := DenL.of_v (fun x hx => List.all_eq_true.1 hz x hx)
theorem build_ok (hT : TTok P T) (ha : Agree L h st a) {t : TypeId} {parts : Array (Nat × Operand)} {K : AV → Prop} (hp : buildP T st t parts.toList K) :
    ∃ av v, K av ∧ DenA L h av v ∧ ∀ w, (Instr.build t (parts.map fun (i, x) => (i, a.eval x))).run P w = .ok v w := by
  unfold buildP at hp
  split at hp
  · rename_i ti l hl hx
    have hf := hT _ _ hl
    split at hp
    · rename_i fs hd
      have hu := hf.und
      rw [hd] at hu
      obtain ⟨hall, hp⟩ := ifD_and hp
      split at hp
      · rename_i cs hfc
        obtain ⟨hz, hp⟩ := ifD_and hp
        rw [forceL_eq] at hp
        obtain ⟨pl, p1, p2⟩ := places_run hT fs.toList hall
        obtain ⟨ws, f1, f2⟩ := fill_ok (L := L) (h := h) hT (fs := fs) (pl := pl.toArray) (fun i f tf hi hl => by
          rw [List.getElem?_toArray]
          exact p2 i f tf (by rw [Array.getElem?_toList]; exact hi) hl) l _ _ _ cs (partsOf_ok ha hx) (zero_den hz) hfc
        refine ⟨_, .agg ws.toArray, hp, ⟨ws, rfl, f2⟩, fun w => ?_⟩
        rw [Array.toArray_toList] at f1
        have hpr : (fs.mapM (fun f => (do pure (f.offset, ← Go.sizeOf f.type) : Sem (Nat × Nat)))).run P w = .ok pl.toArray w := by
          rw [show fs = fs.toList.toArray from by simp, List.mapM_toArray]
          simp only [Sem.run_map, p1]
          rfl
        have hparts : (parts.map fun (i, x) => (i, a.eval x)).toList = parts.toList.map fun x => (x.1, a.eval x.2) := by
          rw [Array.toList_map]
        unfold Instr.build
        simp only [Sem.run_bind, hf.zero, Result.andThen_ok, run_underlying hu]
        rw [hpr]
        simp only [Result.andThen_ok, hparts, f1]
        rfl
      · exact hp.elim
    · exact hp.elim
  · exact hp.elim
theorem bnd_run {x : Option Operand} {d l : Int} (ha : Agree L h st a) (hb : bndOf st x d = some l) : (x = none ∧ l = d) ∨ ∃ o k, x = some o ∧ a.eval o = .int k l := by
  unfold bndOf at hb
  split at hb
  · cases hb; exact .inl ⟨rfl, rfl⟩
  · rename_i o
    split at hb
    · rename_i k j hj
      cases hb
      exact .inr ⟨o, k, rfl, idxOf_eval ha hj⟩
    · cases hb
def mxN (mx : Option Operand) (c : Nat) (m : Int) : Nat := match mx with | none => c | some _ => m.toNat
theorem slice_run {t e : TypeId} {sz : Nat} (ht : P.underlying t = some (.slice e)) (hsz : ∀ w, (Go.sizeOf e).run P w = .ok sz w) (A : Option Addr) (n c : Nat) {lo hi mx : Option Operand} {l r m : Int} {d : Int} (ha : Agree L h st a) (hlo : bndOf st lo 0 = some l) (hhi : bndOf st hi n = some r) (hmx : bndOf st mx d = some m)
    (hh : (hi.isNone && mx.isSome) = false) (h0 : 0 ≤ l) (h1 : l ≤ r) (h2 : r ≤ m) (h3 : m ≤ c) (hrc : mx = none → r ≤ n ∨ r ≤ c) (h4 : n ≤ c) (w : World) :
    (Instr.sliceAt t (.slice A n c) (lo.map a.eval) (hi.map a.eval) (mx.map a.eval)).run P w = .ok (.slice (if (mxN mx c m) = l.toNat then A else A.map (·.add (l.toNat * sz))) (r.toNat - l.toNat) ((mxN mx c m) - l.toNat)) w := by
  have er : (r.toNat : Int) = r := Int.toNat_of_nonneg (by omega)
  have em : (m.toNat : Int) = m := Int.toNat_of_nonneg (by omega)
  have g2 : 0 ≤ r := by omega
  have g3 : l ≤ (r.toNat : Int) := by omega
  have g4 : 0 ≤ m := by omega
  have g5 : r ≤ (m.toNat : Int) := by omega
  rcases bnd_run ha hmx with ⟨rfl, rfl⟩ | ⟨o3, k3, rfl, e3⟩
  · have g1 : r ≤ (c : Int) := by rcases hrc rfl with g | g <;> omega
    rcases bnd_run ha hlo with ⟨rfl, rfl⟩ | ⟨o1, k1, rfl, e1⟩ <;> rcases bnd_run ha hhi with ⟨rfl, rfl⟩ | ⟨o2, k2, rfl, e2⟩ <;>
      (simp [mxN, Instr.sliceAt, Instr.slice, run_underlying ht, Instr.sliceBounds, run_sliceBound, hsz, *]; try congr 1)
  · rcases bnd_run ha hhi with ⟨rfl, rfl⟩ | ⟨o2, k2, rfl, e2⟩
    · simp at hh
    · rcases bnd_run ha hlo with ⟨rfl, rfl⟩ | ⟨o1, k1, rfl, e1⟩ <;>
        (simp [mxN, Instr.sliceAt, Instr.slice, run_underlying ht, Instr.sliceBounds, run_sliceBound, hsz, *]; try congr 1)
theorem slice_str_run {t : TypeId} (ht : P.underlying t = some .string) (s : ByteArray) {lo hi : Option Operand} {l r : Int} (ha : Agree L h st a) (hlo : bndOf st lo 0 = some l) (hhi : bndOf st hi s.size = some r)
    (h0 : 0 ≤ l) (h1 : l ≤ r) (h2 : r ≤ s.size) (w : World) : (Instr.sliceAt t (.string s) (lo.map a.eval) (hi.map a.eval) none).run P w = .ok (.string (s.extract l.toNat r.toNat)) w := by
  have er : (r.toNat : Int) = r := Int.toNat_of_nonneg (by omega)
  have g2 : 0 ≤ r := by omega
  have g3 : l ≤ (r.toNat : Int) := by omega
  rcases bnd_run ha hlo with ⟨rfl, rfl⟩ | ⟨o1, k1, rfl, e1⟩ <;> rcases bnd_run ha hhi with ⟨rfl, rfl⟩ | ⟨o2, k2, rfl, e2⟩ <;>
    simp [Instr.sliceAt, Instr.slice, run_underlying ht, Instr.sliceBounds, run_sliceBound, *]
theorem slice_ok (hT : TTok P T) (ha : Agree L h st a) {t : TypeId} {x : Operand} {lo hi mx : Option Operand} {K : AV → Prop} (hp : sliceP T st t x lo hi mx K) :
    ∃ av v, K av ∧ DenA L h av v ∧ ∀ w, (Instr.sliceAt t (a.eval x) (lo.map a.eval) (hi.map a.eval) (mx.map a.eval)).run P w = .ok v w := by
  unfold sliceP at hp
  split at hp
  · rename_i ti s hl hx
    have hu := (hT _ _ hl).und
    split at hp
    · rename_i l r hd h1 h2
      rw [hd] at hu
      obtain ⟨⟨g1, g2, g3⟩, hK⟩ := hp
      refine ⟨_, .string (s.extract l.toNat r.toNat), hK, Den.v _ rfl, fun w => ?_⟩
      rw [ev_v ha hx]
      exact slice_str_run hu s ha h1 h2 g1 g2 g3 w
    · exact hp.elim
  · rename_i ti hl hx
    have hu := (hT _ _ hl).und
    split at hp
    · rename_i e l r m hd h1 h2 h3
      rw [hd] at hu
      split at hp
      · exact hp.elim
      · rename_i hh
        split at hp
        · rename_i te hle
          obtain ⟨⟨rfl, rfl, rfl⟩, hK⟩ := hp
          refine ⟨_, .slice none 0 0, hK, Den.v _ rfl, fun w => ?_⟩
          rw [ev_v ha hx]
          have hrun := slice_run (P := P) hu (hT _ _ hle).size none 0 0 ha h1 h2 h3 (by simpa using hh) (by omega) (by omega) (by omega) (by omega) (fun _ => .inl (by omega)) (by omega) w
          rw [hrun]
          cases mx <;> simp [mxN]
        · exact hp.elim
    · exact hp.elim
  · rename_i ti sz n f hl hx
    have hu := (hT _ _ hl).und
    split at hp
    · rename_i e l r m hd h1 h2 h3
      rw [hd] at hu
      split at hp
      · exact hp.elim
      · rename_i hh
        split at hp
        · rename_i te hle
          obtain ⟨hsz, ⟨g1, g2, g3, g4⟩, n', f', hn, hf, hK⟩ := ifD_and hp
          have hden : Den L h _ _ := ev_eval ha hx
          generalize hz : a.eval x = z at hden
          cases hden with
          | sl _ _ _ A c ad g hc hm hA hg hlen hclo hr =>
          subst hn
          have hszr : ∀ w, (Go.sizeOf e).run P w = .ok sz w := fun w => by rw [← hsz]; exact (hT _ _ hle).size w
          have hrun := slice_run hu hszr A n c ha h1 h2 h3 hh g1 g2 g3 (by omega) (fun _ => .inl (by omega)) hc
          refine ⟨_, _, hK, ?_, hrun⟩
          have hcm : r.toNat ≤ (mxN mx c m) := by unfold mxN; split <;> omega
          refine Den.sl _ _ _ _ _ (ad.add (l.toNat * sz)) (fun k j => g (l.toNat + k) j) (by omega) (by omega) (fun hp => ?_) (fun k hk j hj => ?_) (fun k hk => ?_) (fun k hk => ?_) (fun k hk j c' hc' => ?_)
          · rw [if_neg (by omega), hA (by omega)]; rfl
          · rw [addr_add_add]
            have e1 : l.toNat * sz + (k * sz + j) = (l.toNat + k) * sz + j := by rw [Nat.add_mul]; omega
            rw [e1]
            exact hg _ (by omega) j hj
          · rw [hf k hk]; exact hlen _ (by omega)
          · rw [hf k hk]; exact hclo _ (by omega)
          · rw [hf k hk] at hc'; exact hr _ (by omega) j c' hc'
        · exact hp.elim
    · exact hp.elim
  · rename_i ti i sz k n c hl hx
    have hu := (hT _ _ hl).und
    split at hp
    · rename_i e l r m hd h1 h2 h3
      rw [hd] at hu
      split at hp
      · exact hp.elim
      · rename_i hh
        split at hp
        · rename_i te hle
          obtain ⟨hsz, ⟨g1, g2, g3, g4⟩, hK⟩ := ifD_and hp
          have hden : Den L h _ _ := ev_eval ha hx
          generalize hz : a.eval x = z at hden
          cases hden with
          | view _ _ _ _ _ ad b k1 k2 k3 k4 k5 =>
          have hmc : mx = none → m = c := fun e => by subst e; unfold bndOf at h3; cases h3; rfl
          have hszr : ∀ w, (Go.sizeOf e).run P w = .ok sz w := fun w => by rw [← hsz]; exact (hT _ _ hle).size w
          have hrun := slice_run hu hszr (some b) n c ha h1 h2 h3 hh g1 g2 g3 g4 (fun _ => .inr (by omega)) k4
          have hmm : (mxN mx c m) = m.toNat := by
            cases mx with
            | none => have := hmc rfl; show c = m.toNat; omega
            | some _ => rfl
          refine ⟨_, .slice (some (if m.toNat = l.toNat then b else b.add (l.toNat * sz))) (r.toNat - l.toNat) (m.toNat - l.toNat), hK, Den.view _ _ _ _ _ ad _ k1 k2 (fun hp => ?_) (by omega) (by omega), fun w => ?_⟩
          · rcases hp with hp | hp
            · rw [if_neg (by omega), k3 (.inl (by omega)), addr_add_add, Nat.add_mul]
            · have e1 : k = 0 := by omega
              have e2 : l.toNat = 0 := by omega
              rw [k3 (.inr e1), e1, e2]
              simp only [Nat.zero_mul, Nat.add_zero, addr_add_add, ite_self]
          · rw [hrun w, hmm]
            by_cases e : m.toNat = l.toNat <;> simp [e]
        · exact hp.elim
    · exact hp.elim
  · exact hp.elim
theorem den_one {u v : Value} (hx : DenA L h (.c (.v u)) v) : v = u := by cases hx; rfl
theorem nil_run (hT : TTok P T) (hm : Mem mine L F h st.own w) {t : TypeId} {x y : AV} {vx vy : Value} (hx : DenA L h x vx) (hy : DenA L h y vy) {K : AV → Prop} {op : BinOp} (hp : nilP op (nilT st T t x y) K) :
    ∃ b : Bool, K (.c (.v (.bool b))) ∧ ∀ ox oy w, (do eqGuard op t ox oy vx vy; binOp op t vx vy : Sem Value).run P w = .ok (.bool b) w := by
  have fin : ∀ r : Bool, plainEq vx vy = true → (∀ w, (Op.equalIn 10000 t vx vy).run P w = .ok r w) → (∀ ox oy w, (eqGuard op t ox oy vx vy).run P w = .ok () w) → (op = .eql ∧ K (.c (.v (.bool r))) ∨ op = .neq ∧ K (.c (.v (.bool (!r))))) →
      ∃ b : Bool, K (.c (.v (.bool b))) ∧ ∀ ox oy w, (do eqGuard op t ox oy vx vy; binOp op t vx vy : Sem Value).run P w = .ok (.bool b) w := fun r h1 h2 h3 h4 => by
    rcases h4 with ⟨rfl, h4⟩ | ⟨rfl, h4⟩
    · exact ⟨_, h4, fun ox oy w => by simp only [Sem.run_bind, h3 ox oy w, Result.andThen_ok]; exact (eql_run h1 (h2 w)).1⟩
    · exact ⟨_, h4, fun ox oy w => by simp only [Sem.run_bind, h3 ox oy w, Result.andThen_ok]; exact (eql_run h1 (h2 w)).2⟩
  have hK : ∀ (r : Bool) (n : Nat), (r = true → n = 0) → nilP op (.mayBe n) K → (op = .eql ∧ K (.c (.v (.bool r))) ∨ op = .neq ∧ K (.c (.v (.bool (!r))))) := fun r n hr hp => by
    clear fin
    cases op <;> first | exact (show False from hp).elim | exact .inl ⟨rfl, hp r hr⟩ | exact .inr ⟨rfl, hp r hr⟩
  have hN : nilP op .never K → (op = .eql ∧ K (.c (.v (.bool false))) ∨ op = .neq ∧ K (.c (.v (.bool (!false))))) := fun hp => by
    clear fin
    cases op <;> first | exact (show False from hp).elim | exact .inl ⟨rfl, hp⟩ | exact .inr ⟨rfl, hp⟩
  have hno : ∀ {X : Prop}, nilP op .no K → X := fun hp => by
    clear fin
    cases op <;> exact (show False from hp).elim
  unfold nilT at hp
  split at hp
  · exact hno hp
  · rename_i ti hl
    have hd := (hT _ _ hl).und
    split at hp
    · rename_i e sz n f hde
      rw [hde] at hd
      obtain rfl := den_one hy
      have hx : Den L h _ _ := hx
      cases hx with
      | sl _ _ _ A c ad g hc hmx hA =>
      refine fin A.isNone rfl (fun w => ?_) (fun ox oy w => by unfold eqGuard; cases op <;> simp) (hK _ n (fun e => ?_) hp)
      · have : ∀ d w, (Op.equalIn (d + 1) t (.slice A n c) (.slice none 0 0)).run P w = .ok A.isNone w := fun d w => by cases A <;> simp [Op.equalIn, run_underlying hd]
        exact this 9999 w
      · rcases Nat.eq_zero_or_pos n with h0 | hp
        · exact h0
        · rw [hA hp] at e; cases e
    · rename_i e i hde
      rw [hde] at hd
      split at hp
      · rename_i e' sz n f ho
        obtain rfl := den_one hy
        have hx : Den L h _ _ := hx
        cases hx with
        | row _ A n' c h1 h2 =>
        obtain ⟨A', c', vs, e1, e2, e3, e4, e5⟩ := row_mem (hm.obs i _ ho)
        rw [h2] at e1
        cases e1
        refine fin A.isNone rfl (fun w => ?_) (fun ox oy w => by unfold eqGuard; cases op <;> simp) (hK _ _ (fun e => ?_) hp)
        · have : ∀ d w, (Op.equalIn (d + 1) t (.slice A n c) (.slice none 0 0)).run P w = .ok A.isNone w := fun d w => by cases A <;> simp [Op.equalIn, run_underlying hd]
          exact this 9999 w
        · rcases Nat.eq_zero_or_pos n with h0 | hp
          · exact h0
          · obtain ⟨g, rfl, _⟩ := e5 hp; cases e
      · exact hno hp
    · rename_i e i sz k n c hde
      rw [hde] at hd
      obtain rfl := den_one hy
      have hx : Den L h _ _ := hx
      cases hx with
      | view _ _ _ _ _ a b =>
      refine fin false rfl (fun w => ?_) (fun ox oy w => by unfold eqGuard; cases op <;> simp) (hN hp)
      have : ∀ d w, (Op.equalIn (d + 1) t (.slice (some b) n c) (.slice none 0 0)).run P w = .ok false w := fun d w => by simp [Op.equalIn, run_underlying hd]
      exact this 9999 w
    · rename_i e cs hde
      rw [hde] at hd
      obtain rfl := den_one hy
      have hx : Den L h _ _ := hx
      cases hx with
      | fp _ ad =>
      refine fin false rfl (fun w => ?_) (fun ox oy w => by unfold eqGuard; cases op <;> simp) (hN hp)
      have : ∀ d w, (Op.equalIn (d + 1) t (.pointer (some ad)) (.pointer none)).run P w = .ok false w := fun d w => by simp [Op.equalIn, run_underlying hd]
      exact this 9999 w
    · rename_i e i off hde
      rw [hde] at hd
      obtain rfl := den_one hy
      have hx : Den L h _ _ := hx
      cases hx with
      | own _ _ ad =>
      refine fin false rfl (fun w => ?_) (fun ox oy w => by unfold eqGuard; cases op <;> simp) (hN hp)
      have : ∀ d w, (Op.equalIn (d + 1) t (.pointer (some (ad.add off))) (.pointer none)).run P w = .ok false w := fun d w => by simp [Op.equalIn, run_underlying hd]
      exact this 9999 w
    · rename_i e i sz k off hde
      rw [hde] at hd
      obtain rfl := den_one hy
      have hx : Den L h _ _ := hx
      cases hx with
      | rel _ _ _ _ ad =>
      refine fin false rfl (fun w => ?_) (fun ox oy w => by unfold eqGuard; cases op <;> simp) (hN hp)
      have : ∀ d w, (Op.equalIn (d + 1) t (.pointer (some (ad.add (k * sz + off)))) (.pointer none)).run P w = .ok false w := fun d w => by simp [Op.equalIn, run_underlying hd]
      exact this 9999 w
    · rename_i e tt c hde
      rw [hde] at hd
      obtain rfl := den_one hy
      have hx : Den L h _ _ := hx
      cases hx with
      | ifc _ _ u hr =>
      refine fin false rfl (fun w => ?_) (fun ox oy w => by unfold eqGuard; cases op <;> simp) (hN hp)
      have : ∀ d w, (Op.equalIn (d + 1) t (.iface tt u) .nilIface).run P w = .ok false w := fun d w => by simp [Op.equalIn, run_underlying hd]
      exact this 9999 w
    · rename_i e tt c t' u' hde
      rw [hde] at hd
      split at hp
      · rename_i hne
        have hne : tt ≠ t' := fun e => by rw [e] at hne; simp at hne
        obtain rfl := den_one hy
        have hx : Den L h _ _ := hx
        cases hx with
        | ifc _ _ u hr =>
        refine fin false rfl (fun w => ?_) (fun ox oy w => by unfold eqGuard; cases op <;> simp) (hN hp)
        have : ∀ d w, (Op.equalIn (d + 1) t (.iface tt u) (.iface t' u')).run P w = .ok false w := fun d w => by simp [Op.equalIn, run_underlying hd, hne]
        exact this 9999 w
      · exact hno hp
    · rename_i e f cs hde
      rw [hde] at hd
      obtain rfl := den_one hy
      have hx : Den L h _ _ := hx
      cases hx with
      | fn _ _ vs =>
      refine fin false rfl (fun w => ?_) (fun ox oy w => by unfold eqGuard; cases op <;> simp) (hN hp)
      have : ∀ d w, (Op.equalIn (d + 1) t (.func (.func f) #[] vs.toArray) .nilFunc).run P w = .ok false w := fun d w => by simp [Op.equalIn, run_underlying hd]
      exact this 9999 w
    · exact hno hp
end
end Go.Eng
