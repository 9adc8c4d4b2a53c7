/- A part of the proof: what the functions of the program come to, told by a small reckoner of states. -/
import Derived.Test.YteglopjljejjkaaDoorA11v
set_option linter.unusedVariables false
set_option linter.unusedSimpArgs false
namespace Go.Eng
open Go Go.RowKit
section
variable {P : Program} {T : TT} {FF : FL} {mine may : Nat → Prop} {L : Nat → Value} {F : Nat → Nat → Prop} {h : Hp} {st : St} {a : Act} {w w0 : World}
theorem runes_eq (s : ByteArray) : Conv.runesFrom s s.size 0 #[] = ((runesL s).map (Value.int .i32)).toArray := by
  have key : ∀ (b i : Nat) (acc : Array Value), (∃ l : List Int, acc = (l.map (Value.int .i32)).toArray) → ∃ l : List Int, Conv.runesFrom s b i acc = (l.map (Value.int .i32)).toArray := by
    intro b
    induction b with
    | zero => intro i acc h; exact h
    | succ b ih =>
      intro i acc h
      unfold Conv.runesFrom
      split
      · refine ih _ _ ?_
        obtain ⟨l, rfl⟩ := h
        exact ⟨l ++ [_], by rw [List.map_append, List.push_toArray]; rfl⟩
      · exact h
  obtain ⟨l, hl⟩ := key s.size 0 #[] ⟨[], rfl⟩
  have : runesL s = l := by
    unfold runesL
    rw [hl]
    simp only [List.map_map]
    exact List.map_id' l
  rw [this]; exact hl
theorem runes_size (s : ByteArray) : (Conv.runesFrom s s.size 0 #[]).size = (runesL s).length := by rw [runes_eq]; simp
theorem iter_sat (hm : Mem (mineOf may w0) L F h st.own w) (hk : Keep may w0 w) {i : Nat} {s : ByteArray} {pos p' : Nat} (hi : st.own[i]? = some (some (.iter s pos))) {v : Value} (hv : Den L h (.own i 0) v) :
    ∃ b, v = .pointer (some ⟨b, 0, none⟩) ∧ w.heap[b]? = some (.stringIter s pos) ∧ Mem (mineOf may w0) L F h (st.own.set i (some (.iter s p'))) { w with heap := w.heap.setIfInBounds b (.stringIter s p') } ∧ Keep may w0 { w with heap := w.heap.setIfInBounds b (.stringIter s p') } := by
  obtain ⟨b, e1, e2, e3⟩ := hm.obs i _ hi
  cases hv with
  | own _ _ ad h1 h2 =>
  rw [e1] at h2
  cases h2
  have hne : ∀ k, k ≠ b → (w.heap.setIfInBounds b (.stringIter s p'))[k]? = w.heap[k]? := fun k hk => by rw [Array.getElem?_setIfInBounds, if_neg (Ne.symm hk)]
  have hlt := (Array.getElem?_eq_some_iff.1 e3).1
  refine ⟨b, by rw [addr_plain], e3, mem_set hm hi (by simp) (fun k hk => hne k (fun e => hk (by rw [e]; exact e2))) ⟨b, e1, e2, by show (w.heap.setIfInBounds b (.stringIter s p'))[b]? = _; simp [hlt]⟩, ⟨hk.os, hk.tape, hk.output, by simpa using hk.size, fun k hlt2 hno => ?_⟩⟩
  show (w.heap.setIfInBounds b (.stringIter s p'))[k]? = _
  rw [hne k (fun e => by
    subst e
    rcases (hm.foot i _ k hi e2).2.2 with h3 | h3
    · exact hno h3
    · omega)]
  exact hk.block k hlt2 hno
theorem info_of {e : TypeId} {te : TI} (hte : TF P e te) : ∃ ie, P.info? e = some ie ∧ ie.zero = some te.zero ∧ ie.size = te.size ∧ ie.bytes = te.bytes := by
  have hi := hte.info
  cases hinfo : P.info? e with
  | none => rw [hinfo] at hi; cases hi
  | some ie =>
    rw [hinfo] at hi
    simp only [Option.map_some, Option.some.injEq, Prod.mk.injEq] at hi
    exact ⟨ie, rfl, hi.1, hi.2.1, hi.2.2⟩
theorem ownsRow_lit' {w : World} {g : Nat} {e : TypeId} {sz n : Nat} {cs : List Value} (hg : w.heap[g]? = some (.cells cs.toArray e (0, 0))) (hl : cs.length = n * sz) (hn : n ≤ maxLen) : w.ownsRow 0 e sz (.slice (some ⟨g, 0, none⟩) n n) n cs :=
  ⟨hl, .inr ⟨g, n, _, rfl, Nat.zero_le _, hg, Nat.le_refl _, hn, by simp [hl], by rw [← hl]; exact List.take_of_length_le (Nat.le_refl _)⟩⟩
theorem set_own [HasGl P] {h0 : Base P} {own' : List (Option Ob)} (hm : Mem (mineOf may w0) L F h own' w) (ha : Agree L h st a) (hsub : SubB h0 st.k L h) (hnew : ∀ k, h.m k ≠ none → h0.h.m k ≠ none ∨ mineOf may w0 k) (hk : Keep may w0 w) : Sat may w0 h0 ⟨st.n, st.k, st.env, own'⟩ a w := ⟨⟨L, F, h, hm, ⟨ha.size, ha.env, ha.defers⟩, hsub, hnew⟩, hk⟩
theorem step_ok [HasGl P] {h0 : Base P} (hT : TTok P T) (hF : FTok P FF) {o : Oper} {K : St → Prop} {Q : Exit → Act → World → Prop} (hp : stepP P T FF o st K) (hs : Sat may w0 h0 st a w) : o.wp P a w (fun a' w' => ∃ st', Sat may w0 h0 st' a' w' ∧ K st') Q := by
  have hs0 := hs
  obtain ⟨⟨L, F, h, hm, ha, hsub, hnew⟩, hk⟩ := hs
  obtain ⟨dst, op, ty, pos, after, guard⟩ := o
  unfold stepP at hp
  simp only at hp
  split at hp
  · split at hp
    · rename_i ti hl
      obtain ⟨hz, hp⟩ := ifD_and hp
      rw [forceL_eq] at hp
      have := alloc_sat hm ha hsub hnew hk (o := .cells ti.zero.cells _) (v := .pointer (some ⟨w.heap.size, 0, none⟩)) (ob := .cells _ _) (fun L' h' hs hL => ⟨w.heap.size, ti.zero.cells.toList, rfl, rfl, by rw [Array.toArray_toList]; exact heap_alloc_at w _, zero_den hz⟩)
        (fun L' h' h1 h2 => by have := Den.own st.own.length 0 ⟨w.heap.size, 0, none⟩ h1 h2; rw [addr_plain] at this; exact this) hp
      refine value_upon (v := .pointer (some ⟨w.heap.size, 0, none⟩)) ?_ this
      simp [execOp, Instr.alloc, (hT _ _ hl).zero, newVar, newRow, run_newObj_alloc]
    · exact hp.elim
  · split at hp
    · rename_i av hx
      split at hp
      · rename_i cs hc
        rw [forceL_eq] at hp
        have hd := cellsOf_all hc (ev_eval ha hx)
        have := alloc_sat hm ha hsub hnew hk (o := .cells (a.eval _).cells _) (v := .pointer (some ⟨w.heap.size, 0, none⟩)) (ob := .cells _ _) (fun L' h' hs hL => ⟨w.heap.size, _, rfl, rfl, by rw [Array.toArray_toList]; exact heap_alloc_at w _, hd.mono hs hL⟩)
          (fun L' h' h1 h2 => by have := Den.own st.own.length 0 ⟨w.heap.size, 0, none⟩ h1 h2; rw [addr_plain] at this; exact this) hp
        refine value_upon (v := .pointer (some ⟨w.heap.size, 0, none⟩)) ?_ this
        simp [execOp, Instr.box, newVar, newRow, run_newObj_alloc]
      · exact hp.elim
    · exact hp.elim
  · rename_i t p x
    split at hp
    · rename_i i off av ti hx hy hl
      split at hp
      · rename_i u cs vs ho hc
        obtain ⟨hlen, hp⟩ := ifD_and hp
        obtain ⟨hle, hp⟩ := ifD_and hp
        obtain ⟨hd0, hp4⟩ := ifD_and hp
        rw [forceL_eq] at hp4
        obtain ⟨n, k, env, own⟩ := st
        simp only [forceL_eq] at hp4
        obtain ⟨us, hce, hd⟩ := cellsOf_den hc (ev_eval ha hy)
        obtain ⟨b, ws, e1, e2, e3, e4⟩ := hm.obs i _ ho
        have hpv : Den L h (.own i off) (a.eval p) := ev_eval ha hx
        generalize hz : a.eval p = z at hpv
        cases hpv with
        | own _ _ ad h1 h2 =>
        rw [e1] at h2
        cases h2
        have hul : us.length = vs.length := hd.1.symm
        have hwl : ws.length = cs.length := e4.1.symm
        have hm' := mem_set (w' := w.setRow b (ws.take off ++ us ++ ws.drop (off + us.length)).toArray) hm ho (size_setRow ..) (fun k hk => setRow_other w b k _ (fun e => hk (by rw [e]; exact e2))) (ob := .cells u (cs.take off ++ vs ++ cs.drop (off + vs.length)))
          ⟨b, _, e1, e2, setRow_heap w b _ _ u (0, 0) e3, denL_set e4 hd off⟩
        refine skip_upon (w' := w.setRow b (ws.take off ++ us ++ ws.drop (off + us.length)).toArray) ?_ ?_
        · have hrun := run_storeCells_at (P := P) b off u us 0 _ w e3 (by simp; omega) hd.one
          simp only [execOp, hz, Instr.storeAt, Instr.sureAddr, storeVar, Sem.run_bind, Sem.run_pure, Result.andThen_ok, (hT _ _ hl).size, hce]
          simp only [List.size_toArray, hul, hlen, ne_eq, not_true_eq_false, if_false]
          simp [hrun, addr_plain, hul, hlen]
        · subst hd0
          exact ⟨_, set_own (st := ⟨n, k, env, own⟩) hm' ha hsub hnew (keep_row hk (hm.foot i _ b ho e2).2.2 _), hp4⟩
      · exact hp.elim
    · rename_i i sz kx off av ti hx hy hl
      split at hp
      · rename_i e sz' nn f vs ho hc
        obtain ⟨hlen, hp⟩ := ifD_and hp
        obtain ⟨hsz, hp⟩ := ifD_and hp
        obtain ⟨hle, hp⟩ := ifD_and hp
        obtain ⟨hd0, f', hf, hp4⟩ := ifD_and hp
        subst hsz
        obtain ⟨n, k, env, own⟩ := st
        simp only [forceL_eq] at hp4
        obtain ⟨us, hce, hd⟩ := cellsOf_den hc (ev_eval ha hy)
        have hul : us.length = vs.length := hd.1.symm
        obtain ⟨g, cur, hg, hh, hb1, hfit, hm'⟩ := row_store hm ho (ev_eval ha hx) hd hle hf
        refine skip_upon (w' := w.setRow g (cur.toList.take (kx * sz + off) ++ us ++ cur.toList.drop (kx * sz + off + us.length)).toArray) ?_ ?_
        · have hrun := run_storeCells_at (P := P) g (kx * sz + off) e us 0 cur w hh (by omega) hd.one
          simp only [execOp, hg, Instr.storeAt, Instr.sureAddr, storeVar, Sem.run_bind, Sem.run_pure, Result.andThen_ok, (hT _ _ hl).size, hce]
          simp only [List.size_toArray, hul, hlen, ne_eq, not_true_eq_false, if_false]
          simp [hrun, hul, hlen]
        · subst hd0
          exact ⟨_, set_own (st := ⟨n, k, env, own⟩) hm' ha hsub hnew (keep_row hk (hm.foot i _ g ho hb1).2.2 _), hp4⟩
      · rename_i e sz' cap nn f vs ho hc
        obtain ⟨hlen, hp⟩ := ifD_and hp
        obtain ⟨hsz, hp⟩ := ifD_and hp
        obtain ⟨hof, hp⟩ := ifD_and hp
        obtain ⟨hd0, hkn, f', hf, hp4⟩ := ifD_and hp
        obtain ⟨hof0, hvl⟩ := hof
        subst hsz hof0
        obtain ⟨n, k, env, own⟩ := st
        simp only [forceL_eq] at hp4
        obtain ⟨us, hce, hd⟩ := cellsOf_den hc (ev_eval ha hy)
        have hul : us.length = vs.length := hd.1.symm
        obtain ⟨b0, cur0, g1, g2, g3, g4, g5, g6, g7⟩ := hm.obs i _ ho
        have hR : RowD L h sz 1 (fun _ => vs) us := ⟨fun _ _ => hvl, fun q hq j c hc => by
          obtain rfl : q = 0 := by omega
          have hlt : j < us.length := by rw [hul]; exact (List.getElem?_eq_some_iff.1 hc).1
          refine ⟨us[j], ?_, hd.2 j c _ hc (List.getElem?_eq_getElem hlt)⟩
          rw [Nat.zero_mul, Nat.zero_add]; exact List.getElem?_eq_getElem hlt⟩
        obtain ⟨b, cur, k1, k2, k3, k4, k5⟩ := arr_write (f' := f') (N' := nn) hm ho hR (by rw [hul, hvl]; omega) (kd := kx) (by omega) (fun q hq => by
          have := hf q hq
          by_cases e : q = kx
          · rw [if_pos e] at this; exact .inl ⟨by omega, by omega, this⟩
          · rw [if_neg e] at this; exact .inr ⟨by omega, hq, this⟩)
        have hpv : Den L h (.rel i sz kx 0) (a.eval p) := ev_eval ha hx
        generalize hz : a.eval p = z at hpv
        cases hpv with
        | rel _ _ _ _ ad h1 h2 h3 =>
        rw [k1] at h2
        cases h2
        refine skip_upon (w' := w.setRow b (cur.toList.take (kx * sz) ++ us ++ cur.toList.drop (kx * sz + us.length)).toArray) ?_ ?_
        · have hfit : kx * sz + us.length ≤ cur.size := by
            have : (kx + 1) * sz ≤ cap * sz := Nat.mul_le_mul_right _ (by omega)
            rw [Nat.succ_mul] at this
            omega
          have hrun := run_storeCells_at (P := P) b (kx * sz) e us 0 cur w k2 (by omega) hd.one
          simp only [execOp, hz, Instr.storeAt, Instr.sureAddr, storeVar, Sem.run_bind, Sem.run_pure, Result.andThen_ok, (hT _ _ hl).size, hce]
          simp only [List.size_toArray, hul, hlen, ne_eq, not_true_eq_false, if_false]
          simp [hrun, addr_plain, hul, hlen]
        · subst hd0
          exact ⟨_, set_own (st := ⟨n, k, env, own⟩) k5 ha hsub hnew (keep_row hk (hm.foot i _ b ho k3).2.2 _), hp4⟩
      · exact hp.elim
    · exact hp.elim
  · rename_i x args ts
    split at hp
    · rename_i avs0 f caps0 hx0 hfn0
      split at hp
      · rename_i fz hf
        obtain ⟨st, hs, hp⟩ := frzL_sat _ st hp hs0
        split at hp
        · rename_i avs f2 caps hx hfn
          obtain ⟨hff, hc⟩ := ifD_and hp
          subst hff
          clear hm ha hsub hnew hk hp
          obtain ⟨⟨L, F, h, hm, ha, hsub, hnew⟩, hk⟩ := hs
          obtain ⟨n, k, env, own⟩ := st
          simp only at hc
          have h1 := argsOf_ok ha hx
          obtain ⟨cv, g1, g2⟩ := fnOf_ok (L := L) ha hfn
          have hargs : args.map a.eval ++ cv.toArray = (args.toList.map a.eval ++ cv).toArray := by
            apply Array.ext'
            simp
          have hfoot : ∀ b, footOf F own b → mineOf may w0 b := fun b ⟨i, ob, hi, hb⟩ => (hm.foot i ob b hi hb).2.2
          have hmine : ∀ b, mineOf (footOf F own) w b → mineOf may w0 b := fun b hb => by
            rcases hb with hb | hb
            · exact hfoot b hb
            · exact .inr (Nat.le_trans hk.size hb)
          have hglo : HasGl.ok P h.m := HasGl.mono h0.gl hsub.sub.m
          cases fz with
          | some fz =>
            have hcall := hc.out (mineOf may w0) L F h w _ hglo hm (h1.append g2)
            have hrun : (execOp a.eval { dst := dst, op := .call { callee := .value x, args := args, argTypes := ts }, type := ty, pos := pos, after := after, guard := guard }).run P w = .ok (.enter f (args.toList.map a.eval ++ cv).toArray) w := by
              have he := hF f fz hf (args.toList.map a.eval ++ cv).toArray w
              rw [← hargs] at he ⊢
              unfold execOp
              simp [resolve, g1, Deferred.ofValue, invoke]
              simpa using he
            unfold Oper.wp
            rw [hrun, Oper.upon_enter]
            refine hcall.mono ?_
            rintro e w' ⟨r, v, L', F', h', own', rfl, k1, k2, k3, k4, k5, k6, k7⟩
            have hm2 : Mem (mineOf may w0) L' F' h' own' w' := k3.mine_mono (fun b ⟨i, ob, hi, hb⟩ => hmine b (k3.foot i ob b hi hb).2.2)
            exact put_sat (st := ⟨n, k, env, own'⟩) hm2 (agree_more ha k2 k5 rfl rfl) (hsub.step k2 k5) (fun b hb => by
              rcases k6 b hb with h3 | h3
              · exact hnew b h3
              · exact .inr (hmine b h3)) (hk.trans k4 hfoot) k1 k7
          | none =>
            obtain ⟨v, w', hcall, r, L', F', h', own', k1, k2, k3, k4, k5, k6, k7⟩ := hc.out (mineOf may w0) L F h w _ hglo hm (h1.append g2)
            have hrun : (execOp a.eval { dst := dst, op := .call { callee := .value x, args := args, argTypes := ts }, type := ty, pos := pos, after := after, guard := guard }).run P w = .ok (.value v) w' := by
              rw [← hargs] at hcall
              unfold execOp
              simp [resolve, g1, Deferred.ofValue, invoke]
              simpa using hcall
            have hm2 : Mem (mineOf may w0) L' F' h' own' w' := k3.mine_mono (fun b ⟨i, ob, hi, hb⟩ => hmine b (k3.foot i ob b hi hb).2.2)
            refine value_upon hrun (put_sat (st := ⟨n, k, env, own'⟩) hm2 (agree_more ha k2 k5 rfl rfl) (hsub.step k2 k5) (fun b hb => by
              rcases k6 b hb with h3 | h3
              · exact hnew b h3
              · exact .inr (hmine b h3)) (hk.trans k4 hfoot) k1 k7)
        · exact hp.elim
      · exact hp.elim
    · exact hp.elim
  · rename_i t len parts
    split at hp
    · rename_i ti l0 hl hl0
      split at hp
      · rename_i e hd
        split at hp
        · rename_i te hle
          have hte := hT _ _ hle
          have hu := (hT _ _ hl).und
          rw [hd] at hu
          split at hp
          · rename_i hparts
            have hpa : parts = #[] := by apply Array.ext'; simpa using hparts
            subst hpa
            have := alloc_sat hm ha hsub hnew hk (o := .cells #[] e) (v := .slice (some ⟨w.heap.size, 0, none⟩) 0 0) (ob := .row _ _ _ _) (fun L' h' hs hL => ⟨[], ⟨by simp, .inr ⟨w.heap.size, 0, #[], rfl, Nat.zero_le _, heap_alloc_at w _, Nat.le_refl _, Nat.zero_le _, by simp, by simp⟩⟩, (fun b hb => by cases hb; rfl), ⟨fun k hk => by omega, fun k hk => by omega⟩⟩)
              (fun L' h' h1 h2 => .row _ _ _ _ h1 h2) hp
            refine value_upon ?_ this
            simp [execOp, Instr.buildSlice, run_underlying hu, hte.size, Instr.fill, newRow]
            rw [show Array.range 0 = #[] from (by apply Array.ext'; simp)]
            simp
          · rename_i len len2 xx hne
            obtain ⟨st, hs, hp⟩ := frzL_sat _ st hp hs0
            split at hp
            · rename_i l hpl
              split at hp
              · rename_i xs hrc
                obtain ⟨q1, hp⟩ := ifD_and hp
                obtain ⟨q2, hp⟩ := ifD_and hp
                obtain ⟨q3, hp⟩ := ifD_and hp
                obtain ⟨q4, f, hf, hp⟩ := ifD_and hp
                clear hm ha hsub hnew hk
                obtain ⟨⟨L, F, h, hm, ha, hsub, hnew⟩, hk⟩ := hs
                have p1 := partsOf_ok ha hpl
                obtain ⟨r1, r2, r3, r4, r5⟩ := rowC_ok hrc p1
                obtain ⟨ie, hinfo, i1, i2, i3⟩ := info_of hte
                have hszp : 0 < te.size := by
                  rcases Nat.eq_zero_or_pos te.size with h0 | h0
                  · rw [h0] at q2; simp at q2
                  · exact h0
                have hvl : (parts.toList.map fun x => (x.1, a.eval x.2)).length = l.length := by
                  have : ∀ {l : List (Nat × AV)} {vs : List (Nat × Value)}, DenP L h l vs → vs.length = l.length := fun hd => by induction hd with | nil => rfl | cons _ _ ih => simp [ih]
                  exact this p1
                have hpe : (parts.map fun (i, x) => (i, a.eval x)).toList = (((parts.toList.map fun x => (x.1, a.eval x.2)).map (·.2)).zipIdx 0).map fun x => (x.2, x.1) := by
                  rw [Array.toList_map, ← r2]
                have hfill := Go.Great.fill_whole (s := te.size) hszp ((parts.toList.map fun x => (x.1, a.eval x.2)).map (·.2)) ((Array.range (len * te.size)).map (te.zero.cells[· % te.zero.cells.size]!)) r3 (by simp [← q1, ← hvl])
                have hrun := run_buildSlice (P := P) w t e len (parts.map fun (i, x) => (i, a.eval x)) (((parts.toList.map fun x => (x.1, a.eval x.2)).map (·.2)).flatMap fun v => v.cells.toList).toArray ie te.zero hu hinfo i1 (by rw [i2]; omega) (by rw [i2]; omega) (by rw [i2, hpe, hfill])
                have hfl := flatten_len r4
                have hxl : xs.length = len := by rw [r1, q1]
                have hlen : len ≤ len * te.size := Nat.le_mul_of_pos_right _ hszp
                have := alloc_sat hm ha hsub hnew hk (o := .cells (((parts.toList.map fun x => (x.1, a.eval x.2)).map (·.2)).flatMap fun v => v.cells.toList).toArray e) (v := .slice (some ⟨w.heap.size, 0, none⟩) len len) (ob := .row _ _ _ _)
                  (fun L' h' hs hL => ⟨_, ownsRow_lit' (heap_alloc_at w _) (by rw [← r5.1, hfl, hxl]) (by unfold maxLen; omega), (fun b hb => by cases hb; rfl), rowD_flat r4 hxl hf (r5.mono hs hL)⟩)
                  (fun L' h' h1 h2 => .row _ _ _ _ h1 h2) hp
                refine value_upon ?_ this
                unfold execOp
                simp only [Sem.run_bind, hrun, Result.andThen_ok]
                rfl
              · exact hp.elim
            · exact hp.elim
        · exact hp.elim
      · exact hp.elim
    · exact hp.elim
  · rename_i args ts
    split at hp
    · rename_i x y t tx hargs hts
      have hargs' : args = #[x, y] := by apply Array.ext'; simpa using hargs
      have hts' : ts = #[t, tx] := by apply Array.ext'; simpa using hts
      subst hargs' hts'
      split at hp
      · rename_i ti tj av aw hl hlx hx hy
        split at hp
        · rename_i e hd
          split at hp
          · rename_i te hle
            split at hp
            · rename_i i sz k n c
              have hu := (hT _ _ hl).und
              rw [hd] at hu
              obtain ⟨v, w', hrun, hfin⟩ := vapp_ok hT hm ha hsub hnew hk (ty := ty) (hT _ _ hle) hu (hT _ _ hlx) (show Den L h (.view i sz k n c) (a.eval x) from ev_eval ha hx) (ev_eval ha hy) hp
              refine value_upon ?_ hfin
              simp only [execOp, resolve, invoke, builtin, Sem.run_bind, Sem.run_pure, Result.andThen_ok, List.map_toArray, List.map_cons, List.map_nil, hrun]
            split at hp
            · rename_i oi n f m g ho hn
              obtain ⟨⟨b1, b2⟩, hp⟩ := hp
              obtain ⟨hz, n', f', hn', hf1, hf2, hp⟩ := ifD_and hp
              obtain ⟨sn, k, env, own⟩ := st
              have hu := (hT _ _ hl).und
              rw [hd] at hu
              obtain ⟨v', w', G', r1, r2, r3, r4, r5, r6, ⟨A, c, r7⟩, r8⟩ := append_ok hT hm (fun b hb => .inr (Nat.le_trans hk.size hb)) (ty := ty) (hT _ _ hle) hu (hT _ _ hlx).und hz (ev_eval ha hx) (ev_eval ha hy) ho hn b1 b2 hn' hf1 hf2
              have hnn := hm.hn
              have := push_sat (st := ⟨sn, k, env, own⟩) r2 (⟨ha.size, ha.env, ha.defers⟩) hsub hnew (r8 may w0 rfl hk) (v := v') (c := .row) (r3 _ _ (sub_more h 1) (fun i hi => upd_lt (by simp only at hnn r6 ⊢; rw [r6]; omega))) r4 r5 (fun L' h' h1 h2 => by rw [r7] at h2 ⊢; exact .row _ _ _ _ h1 h2) hp
              refine value_upon ?_ this
              simp only [execOp, resolve, invoke, builtin, Sem.run_bind, Sem.run_pure, Result.andThen_ok, List.map_toArray, List.map_cons, List.map_nil, r1]
            · exact hp.elim
          · exact hp.elim
        · exact hp.elim
      · exact hp.elim
    · exact hp.elim
  · rename_i args ts
    split at hp
    · rename_i x y t tx hargs hts
      have hargs' : args = #[x, y] := by apply Array.ext'; simpa using hargs
      have hts' : ts = #[t, tx] := by apply Array.ext'; simpa using hts
      subst hargs' hts'
      split at hp
      · rename_i ti tj i sz k n c aw hl hlx hx hy
        split at hp
        · rename_i e hd
          split at hp
          · rename_i te hle
            have hu := (hT _ _ hl).und
            rw [hd] at hu
            obtain ⟨v, w', hrun, hfin⟩ := vcopy_ok hT hm ha hsub hnew hk (ty := ty) (hT _ _ hle) hu (hT _ _ hlx) (show Den L h (.view i sz k n c) (a.eval x) from ev_eval ha hx) (ev_eval ha hy) hp
            refine value_upon ?_ hfin
            simp only [execOp, resolve, invoke, builtin, Sem.run_bind, Sem.run_pure, Result.andThen_ok, List.map_toArray, List.map_cons, List.map_nil, hrun]
          · exact hp.elim
        · exact hp.elim
      · exact hp.elim
    · exact hp.elim
  · rename_i args ts
    split at hp
    · rename_i x t hargs hts
      have hargs' : args = #[x] := by apply Array.ext'; simpa using hargs
      have hts' : ts = #[t] := by apply Array.ext'; simpa using hts
      subst hargs' hts'
      split at hp
      · rename_i ti i sz k n c hl hx
        split at hp
        · rename_i e hd
          split at hp
          · rename_i te hle
            have hu := (hT _ _ hl).und
            rw [hd] at hu
            obtain ⟨w', hrun, hfin⟩ := vclear_ok hT hm ha hsub hnew hk (ty := ty) (hT _ _ hle) hu (show Den L h (.view i sz k n c) (a.eval x) from ev_eval ha hx) hp
            refine value_upon ?_ hfin
            simp only [execOp, resolve, invoke, builtin, Sem.run_bind, Sem.run_pure, Result.andThen_ok, List.map_toArray, List.map_cons, List.map_nil, hrun]
          · exact hp.elim
        · exact hp.elim
      · exact hp.elim
    · exact hp.elim
  · rename_i t x y
    split at hp
    · rename_i ti ka na kb nb hl hx hy
      split at hp
      · rename_i e hd
        split at hp
        · rename_i te hle
          obtain ⟨q0, hp⟩ := ifD_and hp
          obtain ⟨q1, hp⟩ := ifD_and hp
          obtain ⟨q2, ⟨b1, b2, b3, b4⟩, n, f, hn, hf, hp⟩ := ifD_and hp
          have hu := (hT _ _ hl).und
          rw [hd] at hu
          obtain ⟨ie, hinfo, i1, i2, i3⟩ := info_of (hT _ _ hle)
          subst b2 hn
          have e1 := idxOf_eval ha hx
          have e2 := idxOf_eval ha hy
          have hrun := run_make (P := P) w t e ie te.zero hu hinfo i1 ka kb na na b1 (Int.le_refl _) (by rw [i3, Int.mul_comm]; omega) (by omega)
          have hmc : (madeCells te.zero.cells (na.toNat * ie.size)).toList.length = na.toNat * te.size := by simp [madeCells, i2]
          have hrow : ∀ L' h', RowD L' h' te.size na.toNat f (madeCells te.zero.cells (na.toNat * ie.size)).toList := fun L' h' => by
            refine ⟨fun k hk => by rw [hf k hk]; simp [q1], fun k hk j c hc => ?_⟩
            rw [hf k hk] at hc
            rw [List.getElem?_map] at hc
            cases hz : te.zero.cells.toList[j]? with
            | none => rw [hz] at hc; cases hc
            | some u =>
              rw [hz] at hc
              cases hc
              have hj : j < te.size := by have := (List.getElem?_eq_some_iff.1 hz).1; rw [Array.length_toList, q1] at this; exact this
              refine ⟨u, ?_, .v u (List.all_eq_true.1 q0 u (List.mem_of_getElem? hz))⟩
              have hlt : k * te.size + j < na.toNat * te.size := by
                have : (k + 1) * te.size ≤ na.toNat * te.size := Nat.mul_le_mul_right _ hk
                rw [Nat.succ_mul] at this
                omega
              have hmod : (k * te.size + j) % te.size = j := by rw [Nat.mul_comm, Nat.mul_add_mod, Nat.mod_eq_of_lt hj]
              have hj2 : j < te.zero.cells.size := by omega
              have hu2 : te.zero.cells[j]? = some u := by rw [← Array.getElem?_toList]; exact hz
              simp [madeCells, i2, hlt, q1, hmod]
              have hj2 : j < te.zero.cells.size := by omega
              rw [getElem!_pos te.zero.cells j hj2]
              rw [Array.getElem?_eq_getElem hj2] at hu2
              exact Option.some.inj hu2
          have := alloc_sat hm ha hsub hnew hk (o := .cells (madeCells te.zero.cells (na.toNat * ie.size)) e) (v := .slice (some ⟨w.heap.size, 0, none⟩) na.toNat na.toNat) (ob := .row _ _ _ _)
            (fun L' h' hs hL => ⟨(madeCells te.zero.cells (na.toNat * ie.size)).toList, ownsRow_lit' (by rw [Array.toArray_toList]; exact heap_alloc_at w _) hmc (by unfold maxLen; omega), (fun b hb => by cases hb; rfl), hrow L' h'⟩)
            (fun L' h' h1 h2 => .row _ _ _ _ h1 h2) hp
          refine value_upon ?_ this
          unfold execOp
          simp only [e1, e2, Sem.run_bind, hrun, Result.andThen_ok]
          rfl
        · exact hp.elim
      · exact hp.elim
    · exact hp.elim
  · rename_i t x
    split at hp
    · rename_i ti s hl hx
      have ex := ev_v ha hx
      split at hp
      · rename_i hd
        have hu := (hT _ _ hl).und
        rw [hd] at hu
        have := alloc_sat hm ha hsub hnew hk (o := .stringIter s 0) (v := .pointer (some ⟨w.heap.size, 0, none⟩)) (ob := .iter _ _) (fun L' h' hs hL => ⟨w.heap.size, rfl, rfl, heap_alloc_at w _⟩)
          (fun L' h' h1 h2 => by have := Den.own st.own.length 0 ⟨w.heap.size, 0, none⟩ h1 h2; rw [addr_plain] at this; exact this) hp
        refine value_upon ?_ this
        unfold execOp
        simp only [ex, Sem.run_bind, run_range_string w t s hu, Result.andThen_ok]
        rfl
      · exact hp.elim
    · exact hp.elim
  · rename_i x
    split at hp
    · rename_i i hx
      split at hp
      · rename_i s pos hi
        have hv : Den L h (.own i 0) (a.eval x) := ev_eval ha hx
        unfold stepP.onIter at hp
        split at hp
        · rename_i hlt
          have hlt := of_decide_eq_true hlt
          obtain ⟨n, k, env, own⟩ := st
          simp only [forceL_eq] at hp
          obtain ⟨b, e1, e2, e3, e4⟩ := iter_sat (p' := pos + (Utf8.decode s pos).2) hm hk hi hv
          have hd : DenA L h (.tup [.c (.v (.bool true)), .c (.v (.int .i64 pos)), .c (.v (.int .i32 (Utf8.decode s pos).1))]) (.tuple #[.bool true, .int .i64 pos, .int .i32 (Utf8.decode s pos).1]) := by
            refine ⟨[_, _, _], rfl, rfl, fun j a' u ha' hu => ?_⟩
            match j with
            | 0 => simp at ha' hu; subst ha' hu; exact Den.v _ rfl
            | 1 => simp at ha' hu; subst ha' hu; exact Den.v _ rfl
            | 2 => simp at ha' hu; subst ha' hu; exact Den.v _ rfl
            | j + 3 => simp at ha'
          have := put_sat (st := ⟨n, k, env, own.set i (some (.iter s (pos + (Utf8.decode s pos).2)))⟩) e3 ⟨ha.size, ha.env, ha.defers⟩ hsub hnew e4 hd hp
          refine value_upon ?_ this
          simp [execOp, e1, Instr.next, getObj, setObj, Sem.run, e2, hlt, goInt]
        · rename_i hlt
          have hlt := of_decide_eq_false hlt
          obtain ⟨b, e1, e2, e3, e4⟩ := iter_sat (p' := pos) hm hk hi hv
          have hd : DenA L h (.tup [.c (.v (.bool false))]) (.tuple #[.bool false]) := by
            refine ⟨[_], rfl, rfl, fun j a' u ha' hu => ?_⟩
            match j with
            | 0 => simp at ha' hu; subst ha' hu; exact Den.v _ rfl
            | j + 1 => simp at ha'
          have := put_sat hm ha hsub hnew hk hd hp
          refine value_upon ?_ this
          simp [execOp, e1, Instr.next, getObj, Sem.run, e2, hlt]
      · exact hp.elim
    · exact hp.elim
  · rename_i src dst' x
    split at hp
    · rename_i ts td s hl1 hl2 hx
      have ex := ev_v ha hx
      have hu1 := (hT _ _ hl1).und
      have hu2 := (hT _ _ hl2).und
      split at hp
      · rename_i e hd1 hd2
        rw [hd1] at hu1
        rw [hd2] at hu2
        split at hp
        · rename_i te hle
          have hu3 := (hT _ _ hle).und
          split at hp
          · rename_i hde
            rw [hde] at hu3
            obtain ⟨hsz, hlen, hp⟩ := ifD_and hp
            have hrun := run_runes_of_string (P := P) w src dst' e s hu1 hu2 hu3 (by rw [runes_size]; exact hlen)
            rw [runes_size, runes_eq] at hrun
            have hcap := grownCap_ge w (runesL s).length 0 e
            have hcm := grownCap_le_maxLen w (runesL s).length 0 e (by unfold maxLen; omega)
            generalize grownCap w (runesL s).length 0 e = cap at hrun hcap hcm
            have := alloc_sat (w := w.drew) (mem_drew hm) ha hsub hnew (keep_drew hk) (o := .cells (((runesL s).map (Value.int .i32)).toArray ++ Array.replicate (cap - (runesL s).length) (.int .i32 0)) e) (v := .slice (some ⟨w.heap.size, 0, none⟩) (runesL s).length cap) (ob := .row e 1 (runesL s).length fun k => [.v (.int .i32 ((runesL s).getD k 0))])
              (fun L' h' hs hL => ⟨(runesL s).map (Value.int .i32), ⟨by simp, .inr ⟨w.heap.size, cap, _, rfl, Nat.zero_le _, heap_alloc_at w.drew _, hcap, hcm, by simp; omega, by
                rw [Array.toList_append, Nat.mul_one]
                simp⟩⟩, (fun b hb => by cases hb; rfl), ⟨fun k hk => rfl, fun k hk j c hc => by
                  have hj : j = 0 := by have := (List.getElem?_eq_some_iff.1 hc).1; simp at this; exact this
                  subst hj
                  simp only [List.getElem?_cons_zero, Option.some.injEq] at hc
                  subst hc
                  refine ⟨_, ?_, .v _ rfl⟩
                  simp [List.getD_eq_getElem?_getD, hk]⟩⟩)
              (fun L' h' h1 h2 => .row _ _ _ _ h1 h2) hp
            refine value_upon ?_ this
            unfold execOp
            simp only [ex, Sem.run_bind, hrun, Result.andThen_ok]
            rfl
          · rename_i hde
            rw [hde] at hu3
            obtain ⟨hlen, hp⟩ := hp
            have hrun := run_bytes_of_string (P := P) w src dst' e s hu1 hu2 hu3
            have hcap := grownCap_ge w s.size 0 e
            generalize grownCap w s.size 0 e = cap at hrun hcap
            generalize hob : Obj.cells (bytesRow s cap) e ((bytesRow s cap).size, (bytesRow s cap).size + 1) = ob at hrun
            have hb := below_alloc w.drew ob
            have hm1 := mem_drew hm
            have hm2 := mem_same hm1 (same_below hm1 hb) hb.size
            have hat : (w.drew.alloc ob).heap[w.heap.size]? = some ob := heap_alloc_at w.drew ob
            have hno : h.m w.heap.size = none := hp_new hm.hsub (Nat.le_refl _)
            let h' : Hp := ⟨fun k => if k = w.heap.size then some ob else h.m k, h.n⟩
            have hs' : Sub h h' := ⟨fun k o hk => by
              show (if k = w.heap.size then _ else _) = _
              by_cases ek : k = w.heap.size
              · subst ek; rw [hno] at hk; cases hk
              · rw [if_neg ek]; exact hk, Nat.le_refl _⟩
            have hm3 : Mem (mineOf may w0) L F h' st.own (w.drew.alloc ob) := by
              refine ⟨hm2.hn, fun k o hk => ?_, fun i oi hi => obOk_move (hm2.obs i oi hi) (fun _ _ => rfl) (fun _ _ => rfl) hs', fun i oi b hi hb => ?_, hm2.dis⟩
              · have hk : (if k = w.heap.size then some ob else h.m k) = some o := hk
                by_cases ek : k = w.heap.size
                · subst ek; rw [if_pos rfl] at hk; cases hk; exact hat
                · rw [if_neg ek] at hk; exact hm2.hsub k o hk
              · obtain ⟨f1, f2, f3⟩ := hm2.foot i oi b hi hb
                have hlt := (hm.foot i oi b hi hb).1
                refine ⟨f1, ?_, f3⟩
                show (if b = w.heap.size then _ else _) = _
                rw [if_neg (by omega)]; exact f2
            have hd : Den L h' (.sl 1 s.size fun k => [.v (.int .u8 ((s.data.toList.getD k 0).toNat : Int))]) (.slice (some ⟨w.heap.size, 0, none⟩) s.size cap) := by
              refine .sl _ _ _ _ _ ⟨w.heap.size, 0, none⟩ (fun k _ => .int .u8 ((s.data.toList.getD k 0).toNat : Int)) hcap (by omega) (fun _ => rfl) (fun k hk j hj => ?_) (fun _ _ => rfl) (fun _ _ => rfl) (fun k hk j c hc => ?_)
              · obtain rfl : j = 0 := by omega
                rw [addr_plain, Nat.zero_add]
                have : h'.m w.heap.size = some ob := by show (if w.heap.size = w.heap.size then _ else _) = _; rw [if_pos rfl]
                rw [← hob] at this
                rw [hcell_at this]
                have hk2 : k < s.data.size := hk
                have := bytesRow_at s cap k hk2
                rw [Array.getElem?_toList, Nat.mul_one, Nat.add_zero, this]
                simp only [List.getD_eq_getElem?_getD, Array.getElem?_toList]
                rw [Array.getElem?_eq_getElem hk2]
                rfl
              · have hj : j = 0 := by have := (List.getElem?_eq_some_iff.1 hc).1; simp at this; exact this
                subst hj
                simp only [List.getElem?_cons_zero, Option.some.injEq] at hc
                subst hc
                exact .v _ rfl
            have := put_sat (dst := dst) hm3 (agree_more (st' := st) ha (fun _ _ => rfl) hs' rfl rfl) (hsub.step (fun _ _ => rfl) hs') (fun k hk2 => by
              have hk2 : (if k = w.heap.size then some ob else h.m k) ≠ none := hk2
              by_cases ek : k = w.heap.size
              · subst ek; exact .inr (.inr hk.size)
              · rw [if_neg ek] at hk2; exact hnew k hk2) (keep_below (keep_drew hk) hb) (show DenA L h' (.c _) _ from hd) hp
            refine value_upon ?_ this
            unfold execOp
            simp only [ex, Sem.run_bind, hrun, Result.andThen_ok]
            rfl
          · exact hp.elim
        · exact hp.elim
      · obtain ⟨av, v, h1, h2, h3⟩ := aop_ok hT hm ha (o := ⟨dst, _, ty, pos, after, guard⟩) hp
        exact value_upon (h3 w (fun _ _ => rfl)) (put_sat hm ha hsub hnew hk h2 h1)
    · obtain ⟨st, hs, hp⟩ := frzL_sat _ st hp hs0
      clear hm ha hsub hnew hk
      obtain ⟨⟨L, F, h, hm, ha, hsub, hnew⟩, hk⟩ := hs
      obtain ⟨av, v, h1, h2, h3⟩ := aop_ok hT hm ha (o := ⟨dst, _, ty, pos, after, guard⟩) hp
      exact value_upon (h3 w (fun _ _ => rfl)) (put_sat hm ha hsub hnew hk h2 h1)
    · exact hp.elim
  · obtain ⟨st, hs, hp⟩ := frzL_sat _ st hp hs0
    clear hm ha hsub hnew hk
    obtain ⟨⟨L, F, h, hm, ha, hsub, hnew⟩, hk⟩ := hs
    obtain ⟨av, v, h1, h2, h3⟩ := aop_ok hT hm ha (o := ⟨dst, _, ty, pos, after, guard⟩) hp
    exact value_upon (h3 w (fun _ _ => rfl)) (put_sat hm ha hsub hnew hk h2 h1)
  · obtain ⟨av, v, h1, h2, h3⟩ := aop_ok hT hm ha (o := ⟨dst, op, ty, pos, after, guard⟩) hp
    exact value_upon (h3 w (fun _ _ => rfl)) (put_sat hm ha hsub hnew hk h2 h1)
end
end Go.Eng
