/- A part of the proof: what the functions of the program come to, told by a small reckoner of states. -/
import Derived.Test.YteglopjljejjkacGA7TA11v
import Derived.Tactics
import Derived.Orders
set_option linter.unusedVariables false
set_option linter.unusedSimpArgs false
namespace Go.Eng
open Go Go.RowKit
section
variable {P : Program} {T : TT} {FF : FL} {mine may : Nat → Prop} {L : Nat → Value} {F : Nat → Nat → Prop} {h : Hp} {st : St} {a : Act} {w w0 : World}
theorem runes_eq (s : ByteArray) : Conv.runesFrom s s.size 0 #[] = ((runesL s).map (Value.int .i32)).toArray := by
  have key : ∀ (b i : Nat) (acc : Array Value), (∃ l : List Int, acc = (l.map (Value.int .i32)).toArray) → ∃ l : List Int, Conv.runesFrom s b i acc = (l.map (Value.int .i32)).toArray := by
    intro b
    induction b with
    | zero => intro i acc h; exact h
    | succ b ih =>
      intro i acc h
      unfold Conv.runesFrom
      split
      · refine ih _ _ ?_
        obtain ⟨l, rfl⟩ := h
        exact ⟨l ++ [_], by rw [List.map_append, List.push_toArray]; rfl⟩
      · exact h
  obtain ⟨l, hl⟩ := key s.size 0 #[] ⟨[], rfl⟩
  have : runesL s = l := by
    unfold runesL
    rw [hl]
    simp only [List.map_map]
    exact List.map_id' l
  rw [this]; exact hl
theorem runes_size (s : ByteArray) : (Conv.runesFrom s s.size 0 #[]).size = (runesL s).length := by rw [runes_eq]; simp
theorem iter_sat (hm : Mem (mineOf may w0) L F h st.own w) (hk : Keep may w0 w) {i : Nat} {s : ByteArray} {pos p' : Nat} (hi : st.own[i]? = some (some (.iter s pos))) {v : Value} (hv : Den L h (.own i 0) v) :
    ∃ b, v = .pointer (some ⟨b, 0, none⟩) ∧ w.heap[b]? = some (.stringIter s pos) ∧ Mem (mineOf may w0) L F h (st.own.set i (some (.iter s p'))) { w with heap := w.heap.setIfInBounds b (.stringIter s p') } ∧ Keep may w0 { w with heap := w.heap.setIfInBounds b (.stringIter s p') } := by
  obtain ⟨b, e1, e2, e3⟩ := hm.obs i _ hi
  cases hv with
  | own _ _ ad h1 h2 =>
  rw [e1] at h2
  cases h2
  have hne : ∀ k, k ≠ b → (w.heap.setIfInBounds b (.stringIter s p'))[k]? = w.heap[k]? := fun k hk => by rw [Array.getElem?_setIfInBounds, if_neg (Ne.symm hk)]
  have hlt := (Array.getElem?_eq_some_iff.1 e3).1
  refine ⟨b, by rw [addr_plain], e3, mem_set hm hi (by simp) (fun k hk => hne k (fun e => hk (by rw [e]; exact e2))) ⟨b, e1, e2, by show (w.heap.setIfInBounds b (.stringIter s p'))[b]? = _; simp [hlt]⟩, ⟨hk.os, hk.tape, hk.output, by simpa using hk.size, fun k hlt2 hno => ?_⟩⟩
  show (w.heap.setIfInBounds b (.stringIter s p'))[k]? = _
  rw [hne k (fun e => by
    subst e
    rcases (hm.foot i _ k hi e2).2.2 with h3 | h3
    · exact hno h3
    · omega)]
  exact hk.block k hlt2 hno
theorem info_of {e : TypeId} {te : TI} (hte : TF P e te) : ∃ ie, P.info? e = some ie ∧ ie.zero = some te.zero ∧ ie.size = te.size ∧ ie.bytes = te.bytes := by
  have hi := hte.info
  cases hinfo : P.info? e with
  | none => rw [hinfo] at hi; cases hi
  | some ie =>
    rw [hinfo] at hi
    simp only [Option.map_some, Option.some.injEq, Prod.mk.injEq] at hi
    exact ⟨ie, rfl, hi.1, hi.2.1, hi.2.2⟩
theorem ownsRow_lit' {w : World} {g : Nat} {e : TypeId} {sz n : Nat} {cs : List Value} (hg : w.heap[g]? = some (.cells cs.toArray e (0, 0))) (hl : cs.length = n * sz) (hn : n ≤ maxLen) : w.ownsRow 0 e sz (.slice (some ⟨g, 0, none⟩) n n) n cs :=
  ⟨hl, .inr ⟨g, n, _, rfl, Nat.zero_le _, hg, Nat.le_refl _, hn, by simp [hl], by rw [← hl]; exact List.take_of_length_le (Nat.le_refl _)⟩⟩
theorem set_own [HasGl P] {h0 : Base P} {own' : List (Option Ob)} (hm : Mem (mineOf may w0) L F h own' w) (ha : Agree L h st a) (hsub : SubB h0 st.k L h) (hnew : ∀ k, h.m k ≠ none → h0.h.m k ≠ none ∨ mineOf may w0 k) (hk : Keep may w0 w) : Sat may w0 h0 ⟨st.n, st.k, st.env, own'⟩ a w := ⟨⟨L, F, h, hm, ⟨ha.size, ha.env, ha.defers⟩, hsub, hnew⟩, hk⟩
theorem step_ok [HasGl P] {h0 : Base P} (hT : TTok P T) (hF : FTok P FF) {o : Oper} {K : St → Prop} {Q : Exit → Act → World → Prop} (hp : stepP P T FF o st K) (hs : Sat may w0 h0 st a w) : o.wp P a w (fun a' w' => ∃ st', Sat may w0 h0 st' a' w' ∧ K st') Q := by
  have hs0 := hs
  obtain ⟨⟨L, F, h, hm, ha, hsub, hnew⟩, hk⟩ := hs
  obtain ⟨dst, op, ty, pos, after, guard⟩ := o
  unfold stepP at hp
  simp only at hp
  split at hp
  · split at hp
    · rename_i ti hl
      obtain ⟨hz, hp⟩ := ifD_and hp
      rw [forceL_eq] at hp
      have := alloc_sat hm ha hsub hnew hk (o := .cells ti.zero.cells _) (v := .pointer (some ⟨w.heap.size, 0, none⟩)) (ob := .cells _ _) (fun L' h' hs hL => ⟨w.heap.size, ti.zero.cells.toList, rfl, rfl, by rw [Array.toArray_toList]; exact heap_alloc_at w _, zero_den hz⟩)
        (fun L' h' h1 h2 => by have := Den.own st.own.length 0 ⟨w.heap.size, 0, none⟩ h1 h2; rw [addr_plain] at this; exact this) hp
      refine value_upon (v := .pointer (some ⟨w.heap.size, 0, none⟩)) ?_ this
      simp [execOp, Instr.alloc, (hT _ _ hl).zero, newVar, newRow, run_newObj_alloc]
    · exact hp.elim
  · split at hp
    · rename_i av hx
      split at hp
      · rename_i cs hc
        rw [forceL_eq] at hp
        have hd := cellsOf_all hc (ev_eval ha hx)
        have := alloc_sat hm ha hsub hnew hk (o := .cells (a.eval _).cells _) (v := .pointer (some ⟨w.heap.size, 0, none⟩)) (ob := .cells _ _) (fun L' h' hs hL => ⟨w.heap.size, _, rfl, rfl, by rw [Array.toArray_toList]; exact heap_alloc_at w _, hd.mono hs hL⟩)
          (fun L' h' h1 h2 => by have := Den.own st.own.length 0 ⟨w.heap.size, 0, none⟩ h1 h2; rw [addr_plain] at this; exact this) hp
        refine value_upon (v := .pointer (some ⟨w.heap.size, 0, none⟩)) ?_ this
        simp [execOp, Instr.box, newVar, newRow, run_newObj_alloc]
      · exact hp.elim
    · exact hp.elim
  · rename_i t p x
    split at hp
    · rename_i i off av ti hx hy hl
      split at hp
      · rename_i u cs vs ho hc
        obtain ⟨hlen, hp⟩ := ifD_and hp
        obtain ⟨hle, hp⟩ := ifD_and hp
        obtain ⟨hd0, hp4⟩ := ifD_and hp
        rw [forceL_eq] at hp4
        obtain ⟨n, k, env, own⟩ := st
        simp only [forceL_eq] at hp4
        obtain ⟨us, hce, hd⟩ := cellsOf_den hc (ev_eval ha hy)
        obtain ⟨b, ws, e1, e2, e3, e4⟩ := hm.obs i _ ho
        have hpv : Den L h (.own i off) (a.eval p) := ev_eval ha hx
        generalize hz : a.eval p = z at hpv
        cases hpv with
        | own _ _ ad h1 h2 =>
        rw [e1] at h2
        cases h2
        have hul : us.length = vs.length := hd.1.symm
        have hwl : ws.length = cs.length := e4.1.symm
        have hm' := mem_set (w' := w.setRow b (ws.take off ++ us ++ ws.drop (off + us.length)).toArray) hm ho (size_setRow ..) (fun k hk => setRow_other w b k _ (fun e => hk (by rw [e]; exact e2))) (ob := .cells u (cs.take off ++ vs ++ cs.drop (off + vs.length)))
          ⟨b, _, e1, e2, setRow_heap w b _ _ u (0, 0) e3, denL_set e4 hd off⟩
        refine skip_upon (w' := w.setRow b (ws.take off ++ us ++ ws.drop (off + us.length)).toArray) ?_ ?_
        · have hrun := run_storeCells_at (P := P) b off u us 0 _ w e3 (by simp; omega) hd.one
          simp only [execOp, hz, Instr.storeAt, Instr.sureAddr, storeVar, Sem.run_bind, Sem.run_pure, Result.andThen_ok, (hT _ _ hl).size, hce]
          simp only [List.size_toArray, hul, hlen, ne_eq, not_true_eq_false, if_false]
          simp [hrun, addr_plain, hul, hlen]
        · subst hd0
          exact ⟨_, set_own (st := ⟨n, k, env, own⟩) hm' ha hsub hnew (keep_row hk (hm.foot i _ b ho e2).2.2 _), hp4⟩
      · exact hp.elim
    · rename_i i sz kx off av ti hx hy hl
      split at hp
      · rename_i e sz' nn f vs ho hc
        obtain ⟨hlen, hp⟩ := ifD_and hp
        obtain ⟨hsz, hp⟩ := ifD_and hp
        obtain ⟨hle, hp⟩ := ifD_and hp
        obtain ⟨hd0, f', hf, hp4⟩ := ifD_and hp
        subst hsz
        obtain ⟨n, k, env, own⟩ := st
        simp only [forceL_eq] at hp4
        obtain ⟨us, hce, hd⟩ := cellsOf_den hc (ev_eval ha hy)
        have hul : us.length = vs.length := hd.1.symm
        obtain ⟨g, cur, hg, hh, hb1, hfit, hm'⟩ := row_store hm ho (ev_eval ha hx) hd hle hf
        refine skip_upon (w' := w.setRow g (cur.toList.take (kx * sz + off) ++ us ++ cur.toList.drop (kx * sz + off + us.length)).toArray) ?_ ?_
        · have hrun := run_storeCells_at (P := P) g (kx * sz + off) e us 0 cur w hh (by omega) hd.one
          simp only [execOp, hg, Instr.storeAt, Instr.sureAddr, storeVar, Sem.run_bind, Sem.run_pure, Result.andThen_ok, (hT _ _ hl).size, hce]
          simp only [List.size_toArray, hul, hlen, ne_eq, not_true_eq_false, if_false]
          simp [hrun, hul, hlen]
        · subst hd0
          exact ⟨_, set_own (st := ⟨n, k, env, own⟩) hm' ha hsub hnew (keep_row hk (hm.foot i _ g ho hb1).2.2 _), hp4⟩
      · rename_i e sz' cap nn f vs ho hc
        obtain ⟨hlen, hp⟩ := ifD_and hp
        obtain ⟨hsz, hp⟩ := ifD_and hp
        obtain ⟨hof, hp⟩ := ifD_and hp
        obtain ⟨hd0, hkn, f', hf, hp4⟩ := ifD_and hp
        obtain ⟨hof0, hvl⟩ := hof
        subst hsz hof0
        obtain ⟨n, k, env, own⟩ := st
        simp only [forceL_eq] at hp4
        obtain ⟨us, hce, hd⟩ := cellsOf_den hc (ev_eval ha hy)
        have hul : us.length = vs.length := hd.1.symm
        obtain ⟨b0, cur0, g1, g2, g3, g4, g5, g6, g7⟩ := hm.obs i _ ho
        have hR : RowD L h sz 1 (fun _ => vs) us := ⟨fun _ _ => hvl, fun q hq j c hc => by
          obtain rfl : q = 0 := by omega
          have hlt : j < us.length := by rw [hul]; exact (List.getElem?_eq_some_iff.1 hc).1
          refine ⟨us[j], ?_, hd.2 j c _ hc (List.getElem?_eq_getElem hlt)⟩
          rw [Nat.zero_mul, Nat.zero_add]; exact List.getElem?_eq_getElem hlt⟩
        obtain ⟨b, cur, k1, k2, k3, k4, k5⟩ := arr_write (f' := f') (N' := nn) hm ho hR (by rw [hul, hvl]; omega) (kd := kx) (by omega) (fun q hq => by
          have := hf q hq
          by_cases e : q = kx
          · rw [if_pos e] at this; exact .inl ⟨by omega, by omega, this⟩
          · rw [if_neg e] at this; exact .inr ⟨by omega, hq, this⟩)
        have hpv : Den L h (.rel i sz kx 0) (a.eval p) := ev_eval ha hx
        generalize hz : a.eval p = z at hpv
        cases hpv with
        | rel _ _ _ _ ad h1 h2 h3 =>
        rw [k1] at h2
        cases h2
        refine skip_upon (w' := w.setRow b (cur.toList.take (kx * sz) ++ us ++ cur.toList.drop (kx * sz + us.length)).toArray) ?_ ?_
        · have hfit : kx * sz + us.length ≤ cur.size := by
            have : (kx + 1) * sz ≤ cap * sz := Nat.mul_le_mul_right _ (by omega)
            rw [Nat.succ_mul] at this
            omega
          have hrun := run_storeCells_at (P := P) b (kx * sz) e us 0 cur w k2 (by omega) hd.one
          simp only [execOp, hz, Instr.storeAt, Instr.sureAddr, storeVar, Sem.run_bind, Sem.run_pure, Result.andThen_ok, (hT _ _ hl).size, hce]
          simp only [List.size_toArray, hul, hlen, ne_eq, not_true_eq_false, if_false]
          simp [hrun, addr_plain, hul, hlen]
        · subst hd0
          exact ⟨_, set_own (st := ⟨n, k, env, own⟩) k5 ha hsub hnew (keep_row hk (hm.foot i _ b ho k3).2.2 _), hp4⟩
      · exact hp.elim
    · exact hp.elim
  · rename_i x args ts
    split at hp
    · rename_i avs0 f caps0 hx0 hfn0
      split at hp
      · rename_i fz hf
        obtain ⟨st, hs, hp⟩ := frzL_sat _ st hp hs0
        split at hp
        · rename_i avs f2 caps hx hfn
          obtain ⟨hff, hc⟩ := ifD_and hp
          subst hff
          clear hm ha hsub hnew hk hp
          obtain ⟨⟨L, F, h, hm, ha, hsub, hnew⟩, hk⟩ := hs
          obtain ⟨n, k, env, own⟩ := st
          simp only at hc
          have h1 := argsOf_ok ha hx
          obtain ⟨cv, g1, g2⟩ := fnOf_ok (L := L) ha hfn
          have hargs : args.map a.eval ++ cv.toArray = (args.toList.map a.eval ++ cv).toArray := by
            apply Array.ext'
            simp
          have hfoot : ∀ b, footOf F own b → mineOf may w0 b := fun b ⟨i, ob, hi, hb⟩ => (hm.foot i ob b hi hb).2.2
          have hmine : ∀ b, mineOf (footOf F own) w b → mineOf may w0 b := fun b hb => by
            rcases hb with hb | hb
            · exact hfoot b hb
            · exact .inr (Nat.le_trans hk.size hb)
          have hglo : HasGl.ok P h.m := HasGl.mono h0.gl hsub.sub.m
          cases fz with
          | some fz =>
            have hcall := hc.out (mineOf may w0) L F h w _ hglo hm (h1.append g2)
            have hrun : (execOp a.eval { dst := dst, op := .call { callee := .value x, args := args, argTypes := ts }, type := ty, pos := pos, after := after, guard := guard }).run P w = .ok (.enter f (args.toList.map a.eval ++ cv).toArray) w := by
              have he := hF f fz hf (args.toList.map a.eval ++ cv).toArray w
              rw [← hargs] at he ⊢
              unfold execOp
              simp [resolve, g1, Deferred.ofValue, invoke]
              simpa using he
            unfold Oper.wp
            rw [hrun, Oper.upon_enter]
            refine hcall.mono ?_
            rintro e w' ⟨r, v, L', F', h', own', rfl, k1, k2, k3, k4, k5, k6, k7⟩
            have hm2 : Mem (mineOf may w0) L' F' h' own' w' := k3.mine_mono (fun b ⟨i, ob, hi, hb⟩ => hmine b (k3.foot i ob b hi hb).2.2)
            exact put_sat (st := ⟨n, k, env, own'⟩) hm2 (agree_more ha k2 k5 rfl rfl) (hsub.step k2 k5) (fun b hb => by
              rcases k6 b hb with h3 | h3
              · exact hnew b h3
              · exact .inr (hmine b h3)) (hk.trans k4 hfoot) k1 k7
          | none =>
            obtain ⟨v, w', hcall, r, L', F', h', own', k1, k2, k3, k4, k5, k6, k7⟩ := hc.out (mineOf may w0) L F h w _ hglo hm (h1.append g2)
            have hrun : (execOp a.eval { dst := dst, op := .call { callee := .value x, args := args, argTypes := ts }, type := ty, pos := pos, after := after, guard := guard }).run P w = .ok (.value v) w' := by
              rw [← hargs] at hcall
              unfold execOp
              simp [resolve, g1, Deferred.ofValue, invoke]
              simpa using hcall
            have hm2 : Mem (mineOf may w0) L' F' h' own' w' := k3.mine_mono (fun b ⟨i, ob, hi, hb⟩ => hmine b (k3.foot i ob b hi hb).2.2)
            refine value_upon hrun (put_sat (st := ⟨n, k, env, own'⟩) hm2 (agree_more ha k2 k5 rfl rfl) (hsub.step k2 k5) (fun b hb => by
              rcases k6 b hb with h3 | h3
              · exact hnew b h3
              · exact .inr (hmine b h3)) (hk.trans k4 hfoot) k1 k7)
        · exact hp.elim
      · exact hp.elim
    · exact hp.elim
  · rename_i t len parts
    split at hp
    · rename_i ti l0 hl hl0
      split at hp
      · rename_i e hd
        split at hp
        · rename_i te hle
          have hte := hT _ _ hle
          have hu := (hT _ _ hl).und
          rw [hd] at hu
          split at hp
          · rename_i hparts
            have hpa : parts = #[] := by apply Array.ext'; simpa using hparts
            subst hpa
            have := alloc_sat hm ha hsub hnew hk (o := .cells #[] e) (v := .slice (some ⟨w.heap.size, 0, none⟩) 0 0) (ob := .row _ _ _ _) (fun L' h' hs hL => ⟨[], ⟨by simp, .inr ⟨w.heap.size, 0, #[], rfl, Nat.zero_le _, heap_alloc_at w _, Nat.le_refl _, Nat.zero_le _, by simp, by simp⟩⟩, (fun b hb => by cases hb; rfl), ⟨fun k hk => by omega, fun k hk => by omega⟩⟩)
              (fun L' h' h1 h2 => .row _ _ _ _ h1 h2) hp
            refine value_upon ?_ this
            simp [execOp, Instr.buildSlice, run_underlying hu, hte.size, Instr.fill, newRow]
            rw [show Array.range 0 = #[] from (by apply Array.ext'; simp)]
            simp
          · rename_i len len2 xx hne
            obtain ⟨st, hs, hp⟩ := frzL_sat _ st hp hs0
            split at hp
            · rename_i l hpl
              split at hp
              · rename_i xs hrc
                obtain ⟨q1, hp⟩ := ifD_and hp
                obtain ⟨q2, hp⟩ := ifD_and hp
                obtain ⟨q3, hp⟩ := ifD_and hp
                obtain ⟨q4, f, hf, hp⟩ := ifD_and hp
                clear hm ha hsub hnew hk
                obtain ⟨⟨L, F, h, hm, ha, hsub, hnew⟩, hk⟩ := hs
                have p1 := partsOf_ok ha hpl
                obtain ⟨r1, r2, r3, r4, r5⟩ := rowC_ok hrc p1
                obtain ⟨ie, hinfo, i1, i2, i3⟩ := info_of hte
                have hszp : 0 < te.size := by
                  rcases Nat.eq_zero_or_pos te.size with h0 | h0
                  · rw [h0] at q2; simp at q2
                  · exact h0
                have hvl : (parts.toList.map fun x => (x.1, a.eval x.2)).length = l.length := by
                  have : ∀ {l : List (Nat × AV)} {vs : List (Nat × Value)}, DenP L h l vs → vs.length = l.length := fun hd => by induction hd with | nil => rfl | cons _ _ ih => simp [ih]
                  exact this p1
                have hpe : (parts.map fun (i, x) => (i, a.eval x)).toList = (((parts.toList.map fun x => (x.1, a.eval x.2)).map (·.2)).zipIdx 0).map fun x => (x.2, x.1) := by
                  rw [Array.toList_map, ← r2]
                have hfill := Go.Great.fill_whole (s := te.size) hszp ((parts.toList.map fun x => (x.1, a.eval x.2)).map (·.2)) ((Array.range (len * te.size)).map (te.zero.cells[· % te.zero.cells.size]!)) r3 (by simp [← q1, ← hvl])
                have hrun := run_buildSlice (P := P) w t e len (parts.map fun (i, x) => (i, a.eval x)) (((parts.toList.map fun x => (x.1, a.eval x.2)).map (·.2)).flatMap fun v => v.cells.toList).toArray ie te.zero hu hinfo i1 (by rw [i2]; omega) (by rw [i2]; omega) (by rw [i2, hpe, hfill])
                have hfl := flatten_len r4
                have hxl : xs.length = len := by rw [r1, q1]
                have hlen : len ≤ len * te.size := Nat.le_mul_of_pos_right _ hszp
                have := alloc_sat hm ha hsub hnew hk (o := .cells (((parts.toList.map fun x => (x.1, a.eval x.2)).map (·.2)).flatMap fun v => v.cells.toList).toArray e) (v := .slice (some ⟨w.heap.size, 0, none⟩) len len) (ob := .row _ _ _ _)
                  (fun L' h' hs hL => ⟨_, ownsRow_lit' (heap_alloc_at w _) (by rw [← r5.1, hfl, hxl]) (by unfold maxLen; omega), (fun b hb => by cases hb; rfl), rowD_flat r4 hxl hf (r5.mono hs hL)⟩)
                  (fun L' h' h1 h2 => .row _ _ _ _ h1 h2) hp
                refine value_upon ?_ this
                unfold execOp
                simp only [Sem.run_bind, hrun, Result.andThen_ok]
                rfl
              · exact hp.elim
            · exact hp.elim
        · exact hp.elim
      · exact hp.elim
    · exact hp.elim
  · rename_i args ts
    split at hp
    · rename_i x y t tx hargs hts
      have hargs' : args = #[x, y] := by apply Array.ext'; simpa using hargs
      have hts' : ts = #[t, tx] := by apply Array.ext'; simpa using hts
      subst hargs' hts'
      split at hp
      · rename_i ti tj av aw hl hlx hx hy
        split at hp
        · rename_i e hd
          split at hp
          · rename_i te hle
            split at hp
            · rename_i i sz k n c
              have hu := (hT _ _ hl).und
              rw [hd] at hu
              obtain ⟨v, w', hrun, hfin⟩ := vapp_ok hT hm ha hsub hnew hk (ty := ty) (hT _ _ hle) hu (hT _ _ hlx) (show Den L h (.view i sz k n c) (a.eval x) from ev_eval ha hx) (ev_eval ha hy) hp
              refine value_upon ?_ hfin
              simp only [execOp, resolve, invoke, builtin, Sem.run_bind, Sem.run_pure, Result.andThen_ok, List.map_toArray, List.map_cons, List.map_nil, hrun]
            split at hp
            · rename_i oi n f m g ho hn
              obtain ⟨⟨b1, b2⟩, hp⟩ := hp
              obtain ⟨hz, n', f', hn', hf1, hf2, hp⟩ := ifD_and hp
              obtain ⟨sn, k, env, own⟩ := st
              have hu := (hT _ _ hl).und
              rw [hd] at hu
              obtain ⟨v', w', G', r1, r2, r3, r4, r5, r6, ⟨A, c, r7⟩, r8⟩ := append_ok hT hm (fun b hb => .inr (Nat.le_trans hk.size hb)) (ty := ty) (hT _ _ hle) hu (hT _ _ hlx).und hz (ev_eval ha hx) (ev_eval ha hy) ho hn b1 b2 hn' hf1 hf2
              have hnn := hm.hn
              have := push_sat (st := ⟨sn, k, env, own⟩) r2 (⟨ha.size, ha.env, ha.defers⟩) hsub hnew (r8 may w0 rfl hk) (v := v') (c := .row) (r3 _ _ (sub_more h 1) (fun i hi => upd_lt (by simp only at hnn r6 ⊢; rw [r6]; omega))) r4 r5 (fun L' h' h1 h2 => by rw [r7] at h2 ⊢; exact .row _ _ _ _ h1 h2) hp
              refine value_upon ?_ this
              simp only [execOp, resolve, invoke, builtin, Sem.run_bind, Sem.run_pure, Result.andThen_ok, List.map_toArray, List.map_cons, List.map_nil, r1]
            · exact hp.elim
          · exact hp.elim
        · exact hp.elim
      · exact hp.elim
    · exact hp.elim
  · rename_i args ts
    split at hp
    · rename_i x y t tx hargs hts
      have hargs' : args = #[x, y] := by apply Array.ext'; simpa using hargs
      have hts' : ts = #[t, tx] := by apply Array.ext'; simpa using hts
      subst hargs' hts'
      split at hp
      · rename_i ti tj i sz k n c aw hl hlx hx hy
        split at hp
        · rename_i e hd
          split at hp
          · rename_i te hle
            have hu := (hT _ _ hl).und
            rw [hd] at hu
            obtain ⟨v, w', hrun, hfin⟩ := vcopy_ok hT hm ha hsub hnew hk (ty := ty) (hT _ _ hle) hu (hT _ _ hlx) (show Den L h (.view i sz k n c) (a.eval x) from ev_eval ha hx) (ev_eval ha hy) hp
            refine value_upon ?_ hfin
            simp only [execOp, resolve, invoke, builtin, Sem.run_bind, Sem.run_pure, Result.andThen_ok, List.map_toArray, List.map_cons, List.map_nil, hrun]
          · exact hp.elim
        · exact hp.elim
      · exact hp.elim
    · exact hp.elim
  · rename_i args ts
    split at hp
    · rename_i x t hargs hts
      have hargs' : args = #[x] := by apply Array.ext'; simpa using hargs
      have hts' : ts = #[t] := by apply Array.ext'; simpa using hts
      subst hargs' hts'
      split at hp
      · rename_i ti i sz k n c hl hx
        split at hp
        · rename_i e hd
          split at hp
          · rename_i te hle
            have hu := (hT _ _ hl).und
            rw [hd] at hu
            obtain ⟨w', hrun, hfin⟩ := vclear_ok hT hm ha hsub hnew hk (ty := ty) (hT _ _ hle) hu (show Den L h (.view i sz k n c) (a.eval x) from ev_eval ha hx) hp
            refine value_upon ?_ hfin
            simp only [execOp, resolve, invoke, builtin, Sem.run_bind, Sem.run_pure, Result.andThen_ok, List.map_toArray, List.map_cons, List.map_nil, hrun]
          · exact hp.elim
        · exact hp.elim
      · exact hp.elim
    · exact hp.elim
  · rename_i t x y
    split at hp
    · rename_i ti ka na kb nb hl hx hy
      split at hp
      · rename_i e hd
        split at hp
        · rename_i te hle
          obtain ⟨q0, hp⟩ := ifD_and hp
          obtain ⟨q1, hp⟩ := ifD_and hp
          obtain ⟨q2, ⟨b1, b2, b3, b4⟩, n, f, hn, hf, hp⟩ := ifD_and hp
          have hu := (hT _ _ hl).und
          rw [hd] at hu
          obtain ⟨ie, hinfo, i1, i2, i3⟩ := info_of (hT _ _ hle)
          subst b2 hn
          have e1 := idxOf_eval ha hx
          have e2 := idxOf_eval ha hy
          have hrun := run_make (P := P) w t e ie te.zero hu hinfo i1 ka kb na na b1 (Int.le_refl _) (by rw [i3, Int.mul_comm]; omega) (by omega)
          have hmc : (madeCells te.zero.cells (na.toNat * ie.size)).toList.length = na.toNat * te.size := by simp [madeCells, i2]
          have hrow : ∀ L' h', RowD L' h' te.size na.toNat f (madeCells te.zero.cells (na.toNat * ie.size)).toList := fun L' h' => by
            refine ⟨fun k hk => by rw [hf k hk]; simp [q1], fun k hk j c hc => ?_⟩
            rw [hf k hk] at hc
            rw [List.getElem?_map] at hc
            cases hz : te.zero.cells.toList[j]? with
            | none => rw [hz] at hc; cases hc
            | some u =>
              rw [hz] at hc
              cases hc
              have hj : j < te.size := by have := (List.getElem?_eq_some_iff.1 hz).1; rw [Array.length_toList, q1] at this; exact this
              refine ⟨u, ?_, .v u (List.all_eq_true.1 q0 u (List.mem_of_getElem? hz))⟩
              have hlt : k * te.size + j < na.toNat * te.size := by
                have : (k + 1) * te.size ≤ na.toNat * te.size := Nat.mul_le_mul_right _ hk
                rw [Nat.succ_mul] at this
                omega
              have hmod : (k * te.size + j) % te.size = j := by rw [Nat.mul_comm, Nat.mul_add_mod, Nat.mod_eq_of_lt hj]
              have hj2 : j < te.zero.cells.size := by omega
              have hu2 : te.zero.cells[j]? = some u := by rw [← Array.getElem?_toList]; exact hz
              simp [madeCells, i2, hlt, q1, hmod]
              have hj2 : j < te.zero.cells.size := by omega
              rw [getElem!_pos te.zero.cells j hj2]
              rw [Array.getElem?_eq_getElem hj2] at hu2
              exact Option.some.inj hu2
          have := alloc_sat hm ha hsub hnew hk (o := .cells (madeCells te.zero.cells (na.toNat * ie.size)) e) (v := .slice (some ⟨w.heap.size, 0, none⟩) na.toNat na.toNat) (ob := .row _ _ _ _)
            (fun L' h' hs hL => ⟨(madeCells te.zero.cells (na.toNat * ie.size)).toList, ownsRow_lit' (by rw [Array.toArray_toList]; exact heap_alloc_at w _) hmc (by unfold maxLen; omega), (fun b hb => by cases hb; rfl), hrow L' h'⟩)
            (fun L' h' h1 h2 => .row _ _ _ _ h1 h2) hp
          refine value_upon ?_ this
          unfold execOp
          simp only [e1, e2, Sem.run_bind, hrun, Result.andThen_ok]
          rfl
        · exact hp.elim
      · exact hp.elim
    · exact hp.elim
  · rename_i t x
    split at hp
    · rename_i ti s hl hx
      have ex := ev_v ha hx
      split at hp
      · rename_i hd
        have hu := (hT _ _ hl).und
        rw [hd] at hu
        have := alloc_sat hm ha hsub hnew hk (o := .stringIter s 0) (v := .pointer (some ⟨w.heap.size, 0, none⟩)) (ob := .iter _ _) (fun L' h' hs hL => ⟨w.heap.size, rfl, rfl, heap_alloc_at w _⟩)
          (fun L' h' h1 h2 => by have := Den.own st.own.length 0 ⟨w.heap.size, 0, none⟩ h1 h2; rw [addr_plain] at this; exact this) hp
        refine value_upon ?_ this
        unfold execOp
        simp only [ex, Sem.run_bind, run_range_string w t s hu, Result.andThen_ok]
        rfl
      · exact hp.elim
    · exact hp.elim
  · rename_i x
    split at hp
    · rename_i i hx
      split at hp
      · rename_i s pos hi
        have hv : Den L h (.own i 0) (a.eval x) := ev_eval ha hx
        unfold stepP.onIter at hp
        split at hp
        · rename_i hlt
          have hlt := of_decide_eq_true hlt
          obtain ⟨n, k, env, own⟩ := st
          simp only [forceL_eq] at hp
          obtain ⟨b, e1, e2, e3, e4⟩ := iter_sat (p' := pos + (Utf8.decode s pos).2) hm hk hi hv
          have hd : DenA L h (.tup [.c (.v (.bool true)), .c (.v (.int .i64 pos)), .c (.v (.int .i32 (Utf8.decode s pos).1))]) (.tuple #[.bool true, .int .i64 pos, .int .i32 (Utf8.decode s pos).1]) := by
            refine ⟨[_, _, _], rfl, rfl, fun j a' u ha' hu => ?_⟩
            match j with
            | 0 => simp at ha' hu; subst ha' hu; exact Den.v _ rfl
            | 1 => simp at ha' hu; subst ha' hu; exact Den.v _ rfl
            | 2 => simp at ha' hu; subst ha' hu; exact Den.v _ rfl
            | j + 3 => simp at ha'
          have := put_sat (st := ⟨n, k, env, own.set i (some (.iter s (pos + (Utf8.decode s pos).2)))⟩) e3 ⟨ha.size, ha.env, ha.defers⟩ hsub hnew e4 hd hp
          refine value_upon ?_ this
          simp [execOp, e1, Instr.next, getObj, setObj, Sem.run, e2, hlt, goInt]
        · rename_i hlt
          have hlt := of_decide_eq_false hlt
          obtain ⟨b, e1, e2, e3, e4⟩ := iter_sat (p' := pos) hm hk hi hv
          have hd : DenA L h (.tup [.c (.v (.bool false))]) (.tuple #[.bool false]) := by
            refine ⟨[_], rfl, rfl, fun j a' u ha' hu => ?_⟩
            match j with
            | 0 => simp at ha' hu; subst ha' hu; exact Den.v _ rfl
            | j + 1 => simp at ha'
          have := put_sat hm ha hsub hnew hk hd hp
          refine value_upon ?_ this
          simp [execOp, e1, Instr.next, getObj, Sem.run, e2, hlt]
      · exact hp.elim
    · exact hp.elim
  · rename_i src dst' x
    split at hp
    · rename_i ts td s hl1 hl2 hx
      have ex := ev_v ha hx
      have hu1 := (hT _ _ hl1).und
      have hu2 := (hT _ _ hl2).und
      split at hp
      · rename_i e hd1 hd2
        rw [hd1] at hu1
        rw [hd2] at hu2
        split at hp
        · rename_i te hle
          have hu3 := (hT _ _ hle).und
          split at hp
          · rename_i hde
            rw [hde] at hu3
            obtain ⟨hsz, hlen, hp⟩ := ifD_and hp
            have hrun := run_runes_of_string (P := P) w src dst' e s hu1 hu2 hu3 (by rw [runes_size]; exact hlen)
            rw [runes_size, runes_eq] at hrun
            have hcap := grownCap_ge w (runesL s).length 0 e
            have hcm := grownCap_le_maxLen w (runesL s).length 0 e (by unfold maxLen; omega)
            generalize grownCap w (runesL s).length 0 e = cap at hrun hcap hcm
            have := alloc_sat (w := w.drew) (mem_drew hm) ha hsub hnew (keep_drew hk) (o := .cells (((runesL s).map (Value.int .i32)).toArray ++ Array.replicate (cap - (runesL s).length) (.int .i32 0)) e) (v := .slice (some ⟨w.heap.size, 0, none⟩) (runesL s).length cap) (ob := .row e 1 (runesL s).length fun k => [.v (.int .i32 ((runesL s).getD k 0))])
              (fun L' h' hs hL => ⟨(runesL s).map (Value.int .i32), ⟨by simp, .inr ⟨w.heap.size, cap, _, rfl, Nat.zero_le _, heap_alloc_at w.drew _, hcap, hcm, by simp; omega, by
                rw [Array.toList_append, Nat.mul_one]
                simp⟩⟩, (fun b hb => by cases hb; rfl), ⟨fun k hk => rfl, fun k hk j c hc => by
                  have hj : j = 0 := by have := (List.getElem?_eq_some_iff.1 hc).1; simp at this; exact this
                  subst hj
                  simp only [List.getElem?_cons_zero, Option.some.injEq] at hc
                  subst hc
                  refine ⟨_, ?_, .v _ rfl⟩
                  simp [List.getD_eq_getElem?_getD, hk]⟩⟩)
              (fun L' h' h1 h2 => .row _ _ _ _ h1 h2) hp
            refine value_upon ?_ this
            unfold execOp
            simp only [ex, Sem.run_bind, hrun, Result.andThen_ok]
            rfl
          · rename_i hde
            rw [hde] at hu3
            obtain ⟨hlen, hp⟩ := hp
            have hrun := run_bytes_of_string (P := P) w src dst' e s hu1 hu2 hu3
            have hcap := grownCap_ge w s.size 0 e
            generalize grownCap w s.size 0 e = cap at hrun hcap
            generalize hob : Obj.cells (bytesRow s cap) e ((bytesRow s cap).size, (bytesRow s cap).size + 1) = ob at hrun
            have hb := below_alloc w.drew ob
            have hm1 := mem_drew hm
            have hm2 := mem_same hm1 (same_below hm1 hb) hb.size
            have hat : (w.drew.alloc ob).heap[w.heap.size]? = some ob := heap_alloc_at w.drew ob
            have hno : h.m w.heap.size = none := hp_new hm.hsub (Nat.le_refl _)
            let h' : Hp := ⟨fun k => if k = w.heap.size then some ob else h.m k, h.n⟩
            have hs' : Sub h h' := ⟨fun k o hk => by
              show (if k = w.heap.size then _ else _) = _
              by_cases ek : k = w.heap.size
              · subst ek; rw [hno] at hk; cases hk
              · rw [if_neg ek]; exact hk, Nat.le_refl _⟩
            have hm3 : Mem (mineOf may w0) L F h' st.own (w.drew.alloc ob) := by
              refine ⟨hm2.hn, fun k o hk => ?_, fun i oi hi => obOk_move (hm2.obs i oi hi) (fun _ _ => rfl) (fun _ _ => rfl) hs', fun i oi b hi hb => ?_, hm2.dis⟩
              · have hk : (if k = w.heap.size then some ob else h.m k) = some o := hk
                by_cases ek : k = w.heap.size
                · subst ek; rw [if_pos rfl] at hk; cases hk; exact hat
                · rw [if_neg ek] at hk; exact hm2.hsub k o hk
              · obtain ⟨f1, f2, f3⟩ := hm2.foot i oi b hi hb
                have hlt := (hm.foot i oi b hi hb).1
                refine ⟨f1, ?_, f3⟩
                show (if b = w.heap.size then _ else _) = _
                rw [if_neg (by omega)]; exact f2
            have hd : Den L h' (.sl 1 s.size fun k => [.v (.int .u8 ((s.data.toList.getD k 0).toNat : Int))]) (.slice (some ⟨w.heap.size, 0, none⟩) s.size cap) := by
              refine .sl _ _ _ _ _ ⟨w.heap.size, 0, none⟩ (fun k _ => .int .u8 ((s.data.toList.getD k 0).toNat : Int)) hcap (by omega) (fun _ => rfl) (fun k hk j hj => ?_) (fun _ _ => rfl) (fun _ _ => rfl) (fun k hk j c hc => ?_)
              · obtain rfl : j = 0 := by omega
                rw [addr_plain, Nat.zero_add]
                have : h'.m w.heap.size = some ob := by show (if w.heap.size = w.heap.size then _ else _) = _; rw [if_pos rfl]
                rw [← hob] at this
                rw [hcell_at this]
                have hk2 : k < s.data.size := hk
                have := bytesRow_at s cap k hk2
                rw [Array.getElem?_toList, Nat.mul_one, Nat.add_zero, this]
                simp only [List.getD_eq_getElem?_getD, Array.getElem?_toList]
                rw [Array.getElem?_eq_getElem hk2]
                rfl
              · have hj : j = 0 := by have := (List.getElem?_eq_some_iff.1 hc).1; simp at this; exact this
                subst hj
                simp only [List.getElem?_cons_zero, Option.some.injEq] at hc
                subst hc
                exact .v _ rfl
            have := put_sat (dst := dst) hm3 (agree_more (st' := st) ha (fun _ _ => rfl) hs' rfl rfl) (hsub.step (fun _ _ => rfl) hs') (fun k hk2 => by
              have hk2 : (if k = w.heap.size then some ob else h.m k) ≠ none := hk2
              by_cases ek : k = w.heap.size
              · subst ek; exact .inr (.inr hk.size)
              · rw [if_neg ek] at hk2; exact hnew k hk2) (keep_below (keep_drew hk) hb) (show DenA L h' (.c _) _ from hd) hp
            refine value_upon ?_ this
            unfold execOp
            simp only [ex, Sem.run_bind, hrun, Result.andThen_ok]
            rfl
          · exact hp.elim
        · exact hp.elim
      · obtain ⟨av, v, h1, h2, h3⟩ := aop_ok hT hm ha (o := ⟨dst, _, ty, pos, after, guard⟩) hp
        exact value_upon (h3 w (fun _ _ => rfl)) (put_sat hm ha hsub hnew hk h2 h1)
    · obtain ⟨st, hs, hp⟩ := frzL_sat _ st hp hs0
      clear hm ha hsub hnew hk
      obtain ⟨⟨L, F, h, hm, ha, hsub, hnew⟩, hk⟩ := hs
      obtain ⟨av, v, h1, h2, h3⟩ := aop_ok hT hm ha (o := ⟨dst, _, ty, pos, after, guard⟩) hp
      exact value_upon (h3 w (fun _ _ => rfl)) (put_sat hm ha hsub hnew hk h2 h1)
    · exact hp.elim
  · obtain ⟨st, hs, hp⟩ := frzL_sat _ st hp hs0
    clear hm ha hsub hnew hk
    obtain ⟨⟨L, F, h, hm, ha, hsub, hnew⟩, hk⟩ := hs
    obtain ⟨av, v, h1, h2, h3⟩ := aop_ok hT hm ha (o := ⟨dst, _, ty, pos, after, guard⟩) hp
    exact value_upon (h3 w (fun _ _ => rfl)) (put_sat hm ha hsub hnew hk h2 h1)
  · obtain ⟨av, v, h1, h2, h3⟩ := aop_ok hT hm ha (o := ⟨dst, op, ty, pos, after, guard⟩) hp
    exact value_upon (h3 w (fun _ _ => rfl)) (put_sat hm ha hsub hnew hk h2 h1)
end
end Go.Eng
set_option linter.unusedVariables false
set_option linter.unusedSimpArgs false
namespace Go.Eng
open Go Go.RowKit

/-! ### '&&' and '||' without parting: what is reckoned under a guard -/
abbrev Ctx := List (Nat × Bool)
/-- Slot, guards, value. -/
abbrev GD := List (Nat × Ctx × AV)
def subCtx : Ctx → Ctx → Bool
  | [], _ => true
  | x :: r, y :: s => Nat.beq x.1 y.1 && (match x.2, y.2 with | true, true => true | false, false => true | _, _ => false) && subCtx r s
  | _ :: _, [] => false
def gEnv (C : Ctx) (env : List (Nat × AV)) : GD → List (Nat × AV)
  | [] => env
  | x :: r => match subCtx x.2.1 C with | true => (x.1, x.2.2) :: gEnv C env r | false => gEnv C env r
def ctxFree (x : Nat) : Ctx → Bool
  | [] => true
  | y :: r => match Nat.beq y.1 x with | true => false | false => ctxFree x r
def dropG (x : Nat) : GD → GD
  | [] => []
  | y :: r => match Nat.beq y.1 x with
    | true => dropG x r
    | false => match ctxFree x y.2.1 with | true => y :: dropG x r | false => dropG x r
def boolOf : Option AV → Option Bool
  | some (.c (.v (.bool b))) => some b
  | _ => none
/-- Under which guards slot d was reckoned. -/
def ctxOf (d : Nat) : GD → Ctx
  | [] => []
  | x :: r => match Nat.beq x.1 d with | true => x.2.1 | false => ctxOf d r
def condP (env : List (Nat × AV)) : Ctx → Prop → Prop
  | [], X => X
  | x :: r, X => match boolOf (env.lookup x.1) with
    | some b => b = x.2 → condP env r X
    | none => condP env r X
def isLit : Operand → Option Bool
  | .const (.bool b) => some b
  | _ => none
def pickB (b : Bool) (x y : Operand) (u v : Bool) : Bool :=
  match isLit y with
  | some false => b && u
  | _ => match isLit x with
    | some true => b || v
    | _ => match b with | true => u | false => v
/-! What an operation yields, and what it asks, told apart. -/
def intF (op : BinOp) (k : IntKind) (a b : Int) : Option Value :=
  match op with
  | .add => some (.int k (k.wrap (a + b)))
  | .sub => some (.int k (k.wrap (a - b)))
  | .mul => some (.int k (k.wrap (a * b)))
  | .eql => some (.bool (a == b))
  | .neq => some (.bool (a != b))
  | .lss => some (.bool (decide (a < b)))
  | .leq => some (.bool (decide (a ≤ b)))
  | .gtr => some (.bool (decide (a > b)))
  | .geq => some (.bool (decide (a ≥ b)))
  | .and => some (.int k (bits .and k a b))
  | .or => some (.int k (bits .or k a b))
  | .xor => some (.int k (bits .xor k a b))
  | _ => none
def ifO {α : Type} (b : Bool) (x : Option α) : Option α := match b with | true => x | false => none
theorem ifO_and {α : Type} {b : Bool} {x : Option α} {y : α} (h : ifO b x = some y) : b = true ∧ x = some y := by
  unfold ifO at h
  split at h
  · exact ⟨rfl, h⟩
  · cases h
def eqB (T : TT) (t : TypeId) (ox oy : Operand) (x y : Value) : Option Bool :=
  match eqV T 10000 t x y with
  | some r => ifO (guardOk T t ox oy x y && plainEq x y) (some r)
  | none => none
def binF (T : TT) (op : BinOp) (t : TypeId) (ox oy : Operand) (x y : Value) : Option Value :=
  match x, y with
  | .int k a, .int k' b => match op with
    | .shl => none
    | .shr => none
    | op => ifO (decide (k = k')) (intF op k a b)
  | .string a, .string b => match op with
    | .eql => some (.bool (decide (a = b)))
    | .neq => some (.bool (!(decide (a = b))))
    | _ => none
  | x, y => match op with
    | .eql => match eqB T t ox oy x y with | some r => some (.bool r) | none => none
    | .neq => match eqB T t ox oy x y with | some r => some (.bool (!r)) | none => none
    | _ => none
def ldF (T : TT) (t : TypeId) (cs : List IC) : Option AV :=
  match T.lookup t with
  | some ti => match ti.agg with
    | true => ifO (decide (ti.size ≤ cs.length)) (some (.agg (cs.take ti.size)))
    | false => match cs with
      | c :: _ => some (.c c)
      | [] => none
  | none => none
def tag (p : Option Prop) (a : Option AV) : Option (Option Prop × AV) := match a with | some a => some (p, a) | none => none
def aopC (T : TT) (st : St) (o : Op) : Option (Option Prop × AV) :=
  match o with
  | .move x | .assign x => tag none (ev st x)
  | .load t p => match ev st p with
    | some (.c (.own i off)) => match st.own[i]? with
      | some (some (.cells _ cs)) => tag none (ldF T t (cs.drop off))
      | _ => none
    | some (.c (.fp cs)) => tag none (ldF T t cs)
    | some (.c (.rel i sz k off)) => match st.own[i]? with
      | some (some (.row _ sz' n f)) => ifO (decide (sz = sz')) (tag none (ldF T t ((f k).drop off)))
      | _ => none
    | _ => none
  | .fieldAddr s x i => match fieldOff T s i, ev st x with
    | some o, some (.c (.own j off)) => some (none, .c (.own j (off + o)))
    | some o, some (.c (.fp cs)) => some (none, .c (.fp (cs.drop o)))
    | some o, some (.c (.rel j sz k off)) => some (none, .c (.rel j sz k (off + o)))
    | _, _ => none
  | .indexAddr t x i => match T.lookup t, ev st x, idxOf (ev st i) with
    | some ti, some (.c (.sl sz n f)), some (_, j) => (match ti.desc with
      | .slice e => (match T.lookup e with | some te => ifO (decide (te.size = sz)) (some (some (0 ≤ j ∧ j < n), .c (.fp (f j.toNat)))) | none => none)
      | _ => none)
    | some ti, some (.c (.row r)), some (_, j) => (match ti.desc, st.own[r]? with
      | .slice e, some (some (.row _ sz n f)) => (match T.lookup e with | some te => ifO (decide (te.size = sz)) (some (some (0 ≤ j ∧ j < n), .c (.rel r sz j.toNat 0))) | none => none)
      | _, _ => none)
    | _, _, _ => none
  | .index t x i => match T.lookup t, ev st x, idxOf (ev st i) with
    | some ti, some (.c (.v (.string s))), some (_, j) => (match ti.desc with | .string => some (some (0 ≤ j ∧ j < s.size), .c (.v (.int .u8 (s[j.toNat]!).toNat))) | _ => none)
    | _, _, _ => none
  | .binOp op t x y _ => match ev st x, ev st y with
    | some a, some b => (match avVal a, avVal b with
      | some u, some v => (match binF T op t x y u v with | some r => some (none, .c (.v r)) | none => none)
      | _, _ => (match op, nilT st T t a b with | .eql, .never => some (none, .c (.v (.bool false))) | .neq, .never => some (none, .c (.v (.bool true))) | _, _ => none))
    | _, _ => none
  | .unOp op t x => match op, ev st x with
    | .not, some (.c (.v (.bool b))) => some (none, .c (.v (.bool (!b))))
    | _, _ => none
  | .extract x i => match ev st x with
    | some (.tup as) => (match as[i]? with | some (.c y) => some (none, .c y) | some (.agg ys) => some (none, .agg ys) | _ => none)
    | _ => none
  | .nilCheck x => match ev st x with
    | some (.c (.own j off)) => some (none, .c (.own j off))
    | some (.c (.fp cs)) => some (none, .c (.fp cs))
    | some (.c (.rel i sz k off)) => some (none, .c (.rel i sz k off))
    | _ => none
  | .convert src dst x => match T.lookup dst, T.lookup src, ev st x with
    | some td, some ts, some (.c (.v (.int k n))) => (match td.desc with | .int k' => some (none, .c (.v (.int k' (k'.wrap n)))) | _ => none)
    | _, _, _ => none
  | .call { callee := .builtin .len, args := ⟨[x]⟩, argTypes := ⟨[t]⟩ } => match T.lookup t with
    | some ti => match ti.desc, ev st x with
      | .string, some (.c (.v (.string s))) => some (some (s.size ≤ 9223372036854775807), .c (.v (.int .i64 s.size)))
      | .slice _, some (.c (.sl sz n f)) => some (none, .c (.v (.int .i64 n)))
      | .slice _, some (.c (.row i)) => (match st.own[i]? with | some (some (.row e sz n f)) => some (none, .c (.v (.int .i64 n))) | _ => none)
      | _, _ => none
    | none => none
  | .call { callee := .builtin .max, args := ⟨[x, y]⟩, argTypes := ⟨[_, _]⟩ } => match ev st x, ev st y with
    | some (.c (.v (.int k a))), some (.c (.v (.int k' b))) => some (none, .c (.v (.int k (maxI a b))))
    | _, _ => none
  | .call { callee := .builtin .min, args := ⟨[x, y]⟩, argTypes := ⟨[_, _]⟩ } => match ev st x, ev st y with
    | some (.c (.v (.int k a))), some (.c (.v (.int k' b))) => some (none, .c (.v (.int k (minI a b))))
    | _, _ => none
  | _ => none
theorem ifD_mk' {p : Prop} [d : Decidable p] {x : Prop} (hp : p) (hx : x) : ifD p x := by
  unfold ifD
  rw [decide_eq_true hp]
  exact hx
theorem ldF_ok {T : TT} {t : TypeId} {cs : List IC} {p : Option Prop} {q : Option Prop × AV} (h : tag p (ldF T t cs) = some q) : q.1 = p ∧ ldP T t cs (fun a => a = q.2) := by
  unfold ldF at h
  unfold ldP
  cases hl : T.lookup t with
  | none => rw [hl] at h; cases h
  | some ti =>
    rw [hl] at h
    simp only at h ⊢
    cases ha : ti.agg with
    | true =>
      rw [ha] at h
      simp only at h ⊢
      unfold ifO at h
      split at h
      · rename_i hd
        cases h
        exact ⟨rfl, ifD_mk' (of_decide_eq_true hd) rfl⟩
      · cases h
    | false =>
      rw [ha] at h
      simp only at h ⊢
      cases cs with
      | nil => cases h
      | cons c r => cases h; exact ⟨rfl, rfl⟩
theorem eqB_ok {T : TT} {t : TypeId} {ox oy : Operand} {x y : Value} {r : Bool} (h : eqB T t ox oy x y = some r) : eqV T 10000 t x y = some r ∧ guardOk T t ox oy x y = true ∧ plainEq x y = true := by
  unfold eqB at h
  split at h
  · rename_i r' hr
    obtain ⟨h1, h2⟩ := ifO_and h
    rw [Bool.and_eq_true] at h1
    cases h2
    exact ⟨hr, h1⟩
  · cases h
theorem binF_ok {T : TT} {op : BinOp} {t : TypeId} {ox oy : Operand} {x y r : Value} {K : Value → Prop} (h : binF T op t ox oy x y = some r) (hK : K r) : binP T op t ox oy x y K := by
  unfold binF at h
  unfold binP
  split at h
  · split at h
    · cases h
    · cases h
    · rename_i k a k' b op' hs1 hs2
      obtain ⟨h1, h2⟩ := ifO_and h
      have h1 := of_decide_eq_true h1
      simp only
      refine ifD_mk' h1 ?_
      unfold intF at h2
      unfold intOp
      split at h2 <;> first | (cases h2; exact hK) | cases h2
  · simp only
    unfold strOp
    split at h <;> first | (cases h; exact hK) | cases h
  · rename_i h1 h2
    split
    · exact absurd rfl (h1 _ _ _ _ rfl)
    · exact absurd rfl (h2 _ _ rfl)
    · split at h
      · split at h
        · rename_i r' hr
          obtain ⟨e1, e2, e3⟩ := eqB_ok hr
          cases h
          simp only [e1]
          exact ifD_mk' e2 (ifD_mk' e3 hK)
        · cases h
      · split at h
        · rename_i r' hr
          obtain ⟨e1, e2, e3⟩ := eqB_ok hr
          cases h
          simp only [e1]
          exact ifD_mk' e2 (ifD_mk' e3 hK)
        · cases h
      · cases h
theorem aopC_ok {T : TT} {st : St} {o : Op} {q : Option Prop × AV} (h : aopC T st o = some q) (hq : ∀ p, q.1 = some p → p) : aopP T st o (fun a => a = q.2) := by
  unfold aopC at h
  split at h
  · cases hx : ev st _ with
    | none => rw [hx] at h; cases h
    | some v => rw [hx] at h; cases h; simp only [aopP, hx]
  · cases hx : ev st _ with
    | none => rw [hx] at h; cases h
    | some v => rw [hx] at h; cases h; simp only [aopP, hx]
  · split at h
    · rename_i i off hx
      unfold aopP
      simp only [hx, loadP]
      split at h
      · rename_i ho; simp only [ho]; exact (ldF_ok h).2
      · cases h
    · rename_i cs hx
      unfold aopP
      simp only [hx, loadP]
      exact (ldF_ok h).2
    · rename_i i sz k off hx
      unfold aopP
      simp only [hx, loadP]
      split at h
      · rename_i ho
        simp only [ho]
        obtain ⟨h1, h2⟩ := ifO_and h
        exact ifD_mk' (of_decide_eq_true h1) (ldF_ok h2).2
      · cases h
    · cases h
  · split at h
    · rename_i hf hx; unfold aopP; simp only [hf, hx]; cases h; rfl
    · rename_i hf hx; unfold aopP; simp only [hf, hx]; cases h; rfl
    · rename_i hf hx; unfold aopP; simp only [hf, hx]; cases h; rfl
    · cases h
  · split at h
    · rename_i hl hx hi
      unfold aopP
      simp only [hl, hx, hi]
      split at h
      · rename_i hd
        simp only [hd]
        split at h
        · rename_i hl2
          simp only [hl2]
          obtain ⟨h1, h2⟩ := ifO_and h
          cases h2
          exact ifD_mk' (of_decide_eq_true h1) ⟨hq _ rfl, rfl⟩
        · cases h
      · cases h
    · rename_i hl hx hi
      unfold aopP
      simp only [hl, hx, hi]
      split at h
      · rename_i hd ho
        simp only [hd, ho]
        split at h
        · rename_i hl2
          simp only [hl2]
          obtain ⟨h1, h2⟩ := ifO_and h
          cases h2
          exact ifD_mk' (of_decide_eq_true h1) ⟨hq _ rfl, rfl⟩
        · cases h
      · cases h
    · cases h
  · split at h
    · rename_i hl hx hi
      unfold aopP
      simp only [hl, hx, hi]
      split at h
      · rename_i hd
        simp only [hd]
        cases h
        exact ⟨hq _ rfl, rfl⟩
      · cases h
    · cases h
  · split at h
    · rename_i hx hy
      split at h
      · rename_i hu hv
        split at h
        · rename_i hb
          cases h
          unfold aopP
          simp only [hx, hy, hu, hv]
          exact binF_ok hb rfl
        · cases h
      · rename_i hno
        split at h
        · rename_i hn
          cases h
          unfold aopP
          simp only [hx, hy, hn, nilP]
        · rename_i hn
          cases h
          unfold aopP
          simp only [hx, hy, hn, nilP]
        · cases h
    · cases h
  · split at h
    · rename_i hx; unfold aopP; simp only [hx]; cases h; rfl
    · cases h
  · split at h
    · rename_i hx
      unfold aopP
      simp only [hx]
      split at h
      · rename_i hi; simp only [hi]; cases h; rfl
      · rename_i hi; simp only [hi]; cases h; rfl
      · cases h
    · cases h
  · split at h
    · rename_i hx; unfold aopP; simp only [hx]; cases h; rfl
    · rename_i hx; unfold aopP; simp only [hx]; cases h; rfl
    · rename_i hx; unfold aopP; simp only [hx]; cases h; rfl
    · cases h
  · split at h
    · rename_i hl hl2 hx
      split at h
      · rename_i hd
        unfold aopP
        simp only [hl, hl2, hx, convP, hd]
        cases h; rfl
      · cases h
    · cases h
  · split at h
    · rename_i hl
      split at h
      · rename_i hd hx
        unfold aopP
        simp only [builtinP, hl, hd, hx]
        cases h
        exact ⟨hq _ rfl, rfl⟩
      · rename_i hd hx
        unfold aopP
        simp only [builtinP, hl, hd, hx, lenP]
        cases h; rfl
      · rename_i hd hx
        unfold aopP
        simp only [builtinP, hl, hd, hx, lenP]
        split at h
        · rename_i ho; simp only [ho]; cases h; rfl
        · cases h
      · cases h
    · cases h
  · split at h
    · rename_i hx hy
      unfold aopP
      simp only [builtinP, hx, hy]
      cases h; rfl
    · cases h
  · split at h
    · rename_i hx hy
      unfold aopP
      simp only [builtinP, hx, hy]
      cases h; rfl
    · cases h
  · cases h
/-- A quiet operation, under the guards C. -/
def gopP (T : TT) (n k : Nat) (own : List (Option Ob)) (env : List (Nat × AV)) (gds : GD) (C : Ctx) (o : Op) (K : AV → Prop) : Prop :=
  match o with
  | .pick (.tmp c) x y => match boolOf ((gEnv C env gds).lookup c), boolOf (ev ⟨n, k, gEnv (C ++ [(c, true)]) env gds, own⟩ x), boolOf (ev ⟨n, k, gEnv (C ++ [(c, false)]) env gds, own⟩ y) with
    | some b, some u, some v => K (.c (.v (.bool (pickB b x y u v))))
    | _, _, _ => False
  | o => match C with
    | [] => aopP T ⟨n, k, env, own⟩ o K
    | C => match aopC T ⟨n, k, gEnv C env gds, own⟩ o with
      | some (none, av) => K av
      | some (some p, av) => condP (gEnv C env gds) C p ∧ K av
      | none => False
def opsG (T : TT) (ops : Array Oper) (l : List Oper) : St → GD → (St → Prop) → Prop :=
  List.rec (motive := fun _ => St → GD → (St → Prop) → Prop) (fun st _ K => K st)
    (fun o _ ih st gds K => match st, o.dst with
      | ⟨n, k, env, own⟩, some dd => match o.guard with
        | none => gopP T n k own env gds [] o.op (fun av => ifD (dd < n) (forceA av fun av => forceL (dropG dd gds) fun gds' => ih ⟨n, k, (dd, av) :: env, own⟩ gds' K))
        | some (j, want) => match (ops[j]?).bind (·.dst) with
          | some d => match boolOf ((gEnv (ctxOf d gds) env gds).lookup d) with
            | some _ => forceL (ctxOf d gds ++ [(d, want)]) fun C => ifD (ctxFree dd C = true) (gopP T n k own env gds C o.op (fun av => ifD (dd < n) (forceA av fun av => forceL (dropG dd gds) fun gds' => ih ⟨n, k, (dd, .top) :: env, own⟩ ((dd, C, av) :: gds') K)))
            | none => False
          | none => False
      | _, none => False) l
/-- Operations that may be reckoned so. -/
def isG (T : TT) : Op → Bool
  | .move _ | .assign _ | .pick .. | .load .. | .fieldAddr .. | .indexAddr .. | .index .. | .binOp .. | .unOp .. | .extract .. | .nilCheck _ | .field .. => true
  | .convert s d _ => match T.lookup s, T.lookup d with
    | some ts, some td => (match ts.desc, td.desc with | .int _, .int _ => true | _, _ => false)
    | _, _ => false
  | .call { callee := .builtin .len, .. } | .call { callee := .builtin .min, .. } | .call { callee := .builtin .max, .. } => true
  | _ => false
def allG (T : TT) : List Oper → Bool
  | [] => true
  | o :: r => match o.dst with | some _ => (match isG T o.op with | true => allG T r | false => false) | none => false
def hasG : List Oper → Bool
  | [] => false
  | o :: r => match o.guard with | some _ => true | none => hasG r
section
variable {P : Program} {T : TT} {FF : FL} {mine may : Nat → Prop} {L : Nat → Value} {F : Nat → Nat → Prop} {h : Hp} {st : St} {a : Act} {w w0 : World}
def allT (a : Act) (C : Ctx) : Prop := ∀ d b, (d, b) ∈ C → a.tmps.getD d undef = .bool b
structure GOk (L : Nat → Value) (h : Hp) (gds : GD) (a : Act) : Prop where
  out : ∀ t C av, (t, C, av) ∈ gds → (allT a C → DenA L h av (a.tmps.getD t undef)) ∧ (¬ allT a C → a.tmps.getD t undef = undef)
theorem subCtx_ok : ∀ {C D : Ctx}, subCtx C D = true → allT a D → allT a C
  | [], D, _, _ => fun d b hm => nomatch hm
  | x :: r, [], hs, _ => by cases hs
  | x :: r, y :: s, hs, hD => by
    unfold subCtx at hs
    rw [Bool.and_eq_true, Bool.and_eq_true] at hs
    have e1 := Nat.eq_of_beq_eq_true hs.1.1
    have e2 : x.2 = y.2 := by
      have := hs.1.2
      cases hx : x.2 <;> cases hy : y.2 <;> rw [hx, hy] at this <;> first | rfl | cases this
    have ih := subCtx_ok hs.2 (fun d b hm => hD d b (List.mem_cons_of_mem _ hm))
    intro d b hm
    rcases List.mem_cons.1 hm with e | hm
    · refine hD d b ?_
      rw [e]
      have : x = y := Prod.ext e1 e2
      rw [this]
      exact List.mem_cons_self ..
    · exact ih d b hm
theorem gEnv_ok {n k : Nat} {env : List (Nat × AV)} {own : List (Option Ob)} {C : Ctx} (ha : Agree L h ⟨n, k, env, own⟩ a) (hC : allT a C) : ∀ {gds : GD}, GOk L h gds a → Agree L h ⟨n, k, gEnv C env gds, own⟩ a
  | [], _ => ha
  | x :: r, hg => by
    have ih := gEnv_ok (gds := r) ha hC ⟨fun t C av hm => hg.out t C av (List.mem_cons_of_mem _ hm)⟩
    unfold gEnv
    split
    · rename_i hs
      refine ⟨ih.size, fun t av ht => ?_, ih.defers⟩
      simp only [List.lookup_cons] at ht
      by_cases e : t = x.1
      · subst e
        simp at ht
        subst ht
        exact (hg.out x.1 x.2.1 x.2.2 (by simp)).1 (subCtx_ok hs hC)
      · have e' : (t == x.1) = false := by simpa using e
        rw [e'] at ht
        exact ih.env t av ht
    · exact ih
theorem boolOf_eq {o : Option AV} {b : Bool} (hb : boolOf o = some b) : o = some (.c (.v (.bool b))) := by
  unfold boolOf at hb
  split at hb
  · cases hb; rfl
  · cases hb
theorem condP_ok {n k : Nat} {env : List (Nat × AV)} {own : List (Option Ob)} (ha : Agree L h ⟨n, k, env, own⟩ a) {X : Prop} : ∀ {C : Ctx}, allT a C → condP env C X → X
  | [], _, hx => hx
  | x :: r, hC, hx => by
    have ih := condP_ok (C := r) ha (X := X) (fun d b hm => hC d b (List.mem_cons_of_mem _ hm))
    unfold condP at hx
    split at hx
    · rename_i b hb
      refine ih (hx ?_)
      have h1 := den_one (ha.env x.1 _ (boolOf_eq hb))
      have h2 := hC x.1 x.2 (by simp)
      rw [h2] at h1
      cases h1; rfl
    · exact ih hx
theorem pick_run {b : Bool} {x y : Operand} {u v : Bool} (hx : b = true → a.eval x = .bool u) (hy : b = false → a.eval y = .bool v) : (match b with | true => a.eval x | false => a.eval y) = .bool (pickB b x y u v) := by
  have lit : ∀ (z : Operand) (c : Bool), isLit z = some c → a.eval z = .bool c := fun z c hz => by
    unfold isLit at hz
    split at hz
    · cases hz; rfl
    · cases hz
  cases b with
  | true =>
    show a.eval x = _
    unfold pickB
    split
    · simpa using hx rfl
    · split
      · rename_i hl; simpa using lit x true hl
      · exact hx rfl
  | false =>
    show a.eval y = _
    unfold pickB
    split
    · rename_i hl; simpa using lit y false hl
    · split
      · simpa using hy rfl
      · exact hy rfl
theorem gop_ok (hT : TTok P T) {n k : Nat} {env : List (Nat × AV)} {own : List (Option Ob)} (hm : Mem mine L F h own w) (ha : Agree L h ⟨n, k, env, own⟩ a) {gds : GD} (hg : GOk L h gds a) {C : Ctx} {o : Oper} {K : AV → Prop} (hp : gopP T n k own env gds C o.op K) :
    ∃ av, K av ∧ (allT a C → ∃ v, DenA L h av v ∧ ∀ w', Same F own h w w' → (execOp a.eval o).run P w' = .ok (.value v) w') := by
  obtain ⟨dst, op, ty, pos, after, guard⟩ := o
  simp only at hp
  unfold gopP at hp
  split at hp
  · rename_i c x y
    split at hp
    · rename_i b u v hb hu hv
      refine ⟨_, hp, fun hC => ⟨.bool (pickB b x y u v), Den.v _ rfl, fun w' _ => ?_⟩⟩
      have e1 : a.tmps.getD c undef = .bool b := den_one ((gEnv_ok ha hC hg).env c _ (boolOf_eq hb))
      have hext : ∀ q : Bool, b = q → allT a (C ++ [(c, q)]) := fun q hq d b' hmm => by
        rcases List.mem_append.1 hmm with hmm | hmm
        · exact hC d b' hmm
        · simp at hmm
          obtain ⟨rfl, rfl⟩ := hmm
          rw [e1, hq]
      have hx : b = true → a.eval x = .bool u := fun hq => ev_v (gEnv_ok ha (hext true hq) hg) (boolOf_eq hu)
      have hy : b = false → a.eval y = .bool v := fun hq => ev_v (gEnv_ok ha (hext false hq) hg) (boolOf_eq hv)
      have hr := pick_run (a := a) hx hy
      have ec : a.eval (.tmp c) = .bool b := e1
      cases b with
      | true => simp only at hr; simp [execOp, ec, asBool, hr]
      | false => simp only at hr; simp [execOp, ec, asBool, hr]
    · exact hp.elim
  · split at hp
    · obtain ⟨av, v, h1, h2, h3⟩ := aop_ok hT (st := ⟨n, k, env, own⟩) hm ha (o := ⟨dst, op, ty, pos, after, guard⟩) hp
      exact ⟨av, h1, fun _ => ⟨v, h2, h3⟩⟩
    · have fin : ∀ (q : Option Prop × AV), aopC T ⟨n, k, gEnv C env gds, own⟩ op = some q → (allT a C → ∀ p, q.1 = some p → p) → (allT a C → ∃ v, DenA L h q.2 v ∧ ∀ w', Same F own h w w' → (execOp a.eval { dst := dst, op := op, type := ty, pos := pos, after := after, guard := guard }).run P w' = .ok (.value v) w') := fun q hq h1 hC => by
        have hag := gEnv_ok ha hC hg
        obtain ⟨av', v, k1, k2, k3⟩ := aop_ok hT (st := ⟨n, k, gEnv C env gds, own⟩) hm hag (o := ⟨dst, op, ty, pos, after, guard⟩) (aopC_ok hq (h1 hC))
        subst k1
        exact ⟨v, k2, k3⟩
      split at hp
      · rename_i av hq
        exact ⟨av, hp, fin _ hq (fun _ p e => by cases e)⟩
      · rename_i p av hq
        exact ⟨av, hp.2, fin _ hq (fun hC p' e => by cases e; exact condP_ok (gEnv_ok ha hC hg) hC hp.1)⟩
      · exact hp.elim
theorem put_other {x t : Nat} {v : Value} (hne : t ≠ x) : (a.put (some x) v).tmps.getD t undef = a.tmps.getD t undef := by
  simp [Act.put, Array.getD_eq_getD_getElem?, Array.getElem?_setIfInBounds, Ne.symm hne]
theorem put_self {x : Nat} {v : Value} (hx : x < a.tmps.size) : (a.put (some x) v).tmps.getD x undef = v := by simp [Act.put, hx]
theorem ctxFree_ok {x : Nat} : ∀ {C : Ctx}, ctxFree x C = true → ∀ d b, (d, b) ∈ C → d ≠ x
  | [], _, d, b, hm => nomatch hm
  | y :: r, hf, d, b, hm => by
    unfold ctxFree at hf
    split at hf
    · cases hf
    · rename_i hb
      rcases List.mem_cons.1 hm with e | hm
      · have e1 : d = y.1 := by rw [← e]
        intro e2
        rw [← e1, e2] at hb
        simp at hb
      · exact ctxFree_ok hf d b hm
theorem allT_put {x : Nat} {v : Value} {C : Ctx} (hf : ctxFree x C = true) : allT (a.put (some x) v) C ↔ allT a C := by
  constructor
  · intro hC d b hm
    rw [← put_other (v := v) (ctxFree_ok hf d b hm)]
    exact hC d b hm
  · intro hC d b hm
    rw [put_other (ctxFree_ok hf d b hm)]
    exact hC d b hm
theorem dropG_mem {x : Nat} : ∀ {gds : GD} {y : Nat × Ctx × AV}, y ∈ dropG x gds → y ∈ gds ∧ y.1 ≠ x ∧ ctxFree x y.2.1 = true
  | [], y, hm => nomatch hm
  | z :: r, y, hm => by
    unfold dropG at hm
    split at hm
    · have := dropG_mem hm
      exact ⟨List.mem_cons_of_mem _ this.1, this.2⟩
    · rename_i hb
      split at hm
      · rename_i hf
        rcases List.mem_cons.1 hm with rfl | hm
        · exact ⟨by simp, fun e => by rw [e] at hb; simp at hb, hf⟩
        · have := dropG_mem hm
          exact ⟨List.mem_cons_of_mem _ this.1, this.2⟩
      · have := dropG_mem hm
        exact ⟨List.mem_cons_of_mem _ this.1, this.2⟩
theorem gok_drop {gds : GD} (hg : GOk L h gds a) (x : Nat) (v : Value) : GOk L h (dropG x gds) (a.put (some x) v) := by
  refine ⟨fun t C av hm => ?_⟩
  obtain ⟨h1, h2, h3⟩ := dropG_mem hm
  obtain ⟨k1, k2⟩ := hg.out t C av h1
  rw [put_other h2]
  exact ⟨fun hC => k1 ((allT_put h3).1 hC), fun hC => k2 (fun hC' => hC ((allT_put h3).2 hC'))⟩
theorem ctxOf_mem {d : Nat} : ∀ {gds : GD}, ctxOf d gds = [] ∨ ∃ av, (d, ctxOf d gds, av) ∈ gds
  | [] => .inl rfl
  | x :: r => by
    unfold ctxOf
    split
    · rename_i hb
      have e := Nat.eq_of_beq_eq_true hb
      obtain ⟨x1, x2, x3⟩ := x
      simp only at e
      subst e
      exact .inr ⟨x3, by simp⟩
    · rcases ctxOf_mem (gds := r) with h1 | ⟨av, h1⟩
      · exact .inl h1
      · exact .inr ⟨av, List.mem_cons_of_mem _ h1⟩
/-- One operation more. -/
theorem opsG_step (hT : TTok P T) {ops : Array Oper} {o : Oper} {r : List Oper} {K : St → Prop} (hm : Mem mine L F h st.own w) (ha : Agree L h st a) {gds : GD} (hg : GOk L h gds a) (hp : opsG T ops (o :: r) st gds K) :
    ∃ v st' gds', (Region.wanted o (yielded ops a.tmps) = true ∧ (∀ w', Same F st.own h w w' → (execOp a.eval o).run P w' = .ok (.value v) w') ∨ Region.wanted o (yielded ops a.tmps) = false ∧ v = undef) ∧
      Agree L h st' (a.put o.dst v) ∧ GOk L h gds' (a.put o.dst v) ∧ (st'.own = st.own ∧ st'.k = st.k) ∧ opsG T ops r st' gds' K := by
  obtain ⟨n, k, env, own⟩ := st
  have hp : (match (⟨n, k, env, own⟩ : St), o.dst with
      | ⟨n, k, env, own⟩, some dd => match o.guard with
        | none => gopP T n k own env gds [] o.op (fun av => ifD (dd < n) (forceA av fun av => forceL (dropG dd gds) fun gds' => opsG T ops r ⟨n, k, (dd, av) :: env, own⟩ gds' K))
        | some (j, want) => match (ops[j]?).bind (·.dst) with
          | some d => match boolOf ((gEnv (ctxOf d gds) env gds).lookup d) with
            | some _ => forceL (ctxOf d gds ++ [(d, want)]) fun C => ifD (ctxFree dd C = true) (gopP T n k own env gds C o.op (fun av => ifD (dd < n) (forceA av fun av => forceL (dropG dd gds) fun gds' => opsG T ops r ⟨n, k, (dd, .top) :: env, own⟩ ((dd, C, av) :: gds') K)))
            | none => False
          | none => False
      | _, none => False) := hp
  cases hd : o.dst with
  | none => rw [hd] at hp; exact hp.elim
  | some dd =>
    rw [hd] at hp
    simp only at hp
    have hsize : a.tmps.size = n := ha.size
    cases hgd : o.guard with
    | none =>
      rw [hgd] at hp
      simp only at hp
      obtain ⟨av, hK, hrun⟩ := gop_ok hT hm ha hg hp
      obtain ⟨v, hden, hrun⟩ := hrun (fun d b hmm => nomatch hmm)
      obtain ⟨hlt, hK⟩ := ifD_and hK
      rw [forceA_eq, forceL_eq] at hK
      exact ⟨v, _, _, .inl ⟨by unfold Region.wanted; rw [hgd], hrun⟩, agree_put ha hlt hden, gok_drop hg dd v, ⟨rfl, rfl⟩, hK⟩
    | some jw =>
      obtain ⟨j, want⟩ := jw
      rw [hgd] at hp
      simp only at hp
      split at hp
      · rename_i d hdj
        split at hp
        · rename_i b hb
          rw [forceL_eq] at hp
          obtain ⟨hfree, hp⟩ := ifD_and hp
          obtain ⟨av, hK, hrun⟩ := gop_ok hT hm ha hg hp
          obtain ⟨hlt, hK⟩ := ifD_and hK
          rw [forceA_eq, forceL_eq] at hK
          have hwant : Region.wanted o (yielded ops a.tmps) = true ↔ allT a (ctxOf d gds ++ [(d, want)]) := by
            have hy : ∀ q, yielded ops a.tmps j = some q ↔ a.tmps.getD d undef = .bool q := fun q => by
              unfold yielded
              rw [hdj]
              simp only [Option.bind_some]
              rw [Array.getD_eq_getD_getElem?]
              cases a.tmps[d]? with
              | none => simp [undef]
              | some z => cases z <;> simp
            have h1 : Region.wanted o (yielded ops a.tmps) = true ↔ a.tmps.getD d undef = .bool want := by
              unfold Region.wanted
              rw [hgd]
              simp only [beq_iff_eq]
              exact hy want
            rw [h1]
            constructor
            · intro e d' b' hmm
              rcases List.mem_append.1 hmm with hmm | hmm
              · rcases ctxOf_mem (d := d) (gds := gds) with h2 | ⟨av2, h2⟩
                · rw [h2] at hmm; exact nomatch hmm
                · obtain ⟨_, k2⟩ := hg.out d _ av2 h2
                  by_cases hC : allT a (ctxOf d gds)
                  · exact hC d' b' hmm
                  · rw [k2 hC] at e; cases e
              · simp at hmm
                obtain ⟨rfl, rfl⟩ := hmm
                exact e
            · intro hC
              exact hC d want (by simp)
          have hps : ∀ v, (a.put (some dd) v).tmps.getD dd undef = v := fun v => put_self (by rw [hsize]; exact hlt)
          by_cases hC : allT a (ctxOf d gds ++ [(d, want)])
          · obtain ⟨v, hden, hrun⟩ := hrun hC
            refine ⟨v, _, _, .inl ⟨hwant.2 hC, hrun⟩, agree_put (av := .top) ha hlt trivial, ⟨fun t C av' hmm => ?_⟩, ⟨rfl, rfl⟩, hK⟩
            rcases List.mem_cons.1 hmm with e | hmm
            · cases e
              rw [hps]
              exact ⟨fun _ => hden, fun hno => absurd ((allT_put hfree).2 hC) hno⟩
            · exact (gok_drop hg dd v).out t C av' hmm
          · refine ⟨undef, _, _, .inr ⟨?_, rfl⟩, agree_put (av := .top) ha hlt trivial, ⟨fun t C av' hmm => ?_⟩, ⟨rfl, rfl⟩, hK⟩
            · cases hx : Region.wanted o (yielded ops a.tmps) with
              | false => rfl
              | true => exact absurd (hwant.1 hx) hC
            · rcases List.mem_cons.1 hmm with e | hmm
              · cases e
                rw [hps]
                exact ⟨fun hC' => absurd ((allT_put hfree).1 hC') hC, fun _ => rfl⟩
              · exact (gok_drop hg dd undef).out t C av' hmm
        · exact hp.elim
      · exact hp.elim
theorem gok_nil : GOk L h [] a := ⟨fun t C av hm => nomatch hm⟩
end
end Go.Eng
set_option linter.unusedVariables false
set_option linter.unusedSimpArgs false
namespace Go.Eng
open Go Go.RowKit

/-- Which way, of a Bool. -/
def onB (x y : Prop) (b : Bool) : Prop := match b with | true => x | false => y
theorem onB_intro {b : Bool} {x y : Prop} (hx : b = true → x) (hy : b = false → y) : onB x y b := by cases b; exact hy rfl; exact hx rfl
/-- Has a guarded operation to run? -/
def guardP (ops : Array Oper) (o : Oper) (st : St) (x y : Prop) : Prop :=
  match o.guard with
  | none => x
  | some (j, want) => match (ops[j]?).bind (·.dst) with
    | some d => match st.env.lookup d with
      | some (.c (.v (.bool b))) => (match want with | true => onB x y b | false => onB y x b)
      | some (.tup []) => y
      | _ => False
    | none => False
def skipK (st : St) (dst : Option Nat) (K : St → Prop) : Prop := putK st dst (.tup []) K
def opsP (P : Program) [HasGl P] (T : TT) (FF : FL) (ops : Array Oper) (l : List Oper) : St → (St → Prop) → Prop :=
  List.rec (motive := fun _ => St → (St → Prop) → Prop) (fun st K => K st)
    (fun o _ ih st K => guardP ops o st (stepP P T FF o st (fun st' => ih st' K)) (skipK st o.dst (fun st' => ih st' K))) l
inductive Ex where
  | normal
  | exit (id : Nat)
  | ret
def Ex.to : Ex → Exit
  | .normal => .normal
  | .exit id => .exit id
  | .ret => .ret
section
variable {P : Program} {T : TT} {FF : FL} {may : Nat → Prop} {w0 : World} {st : St} {a : Act} {w : World}
theorem guard_wanted {L : Nat → Value} {h : Hp} (ha : Agree L h st a) {ops : Array Oper} {o : Oper} {x y : Prop} (hg : guardP ops o st x y) : (Region.wanted o (yielded ops a.tmps) = true ∧ x) ∨ (Region.wanted o (yielded ops a.tmps) = false ∧ y) := by
  unfold guardP at hg
  unfold Region.wanted
  split at hg
  · rename_i e; rw [e]; exact .inl ⟨rfl, hg⟩
  · rename_i j want e
    rw [e]
    simp only
    split at hg
    · rename_i d hd
      have key : ∀ av, st.env.lookup d = some av → DenA L h av ((a.tmps[d]?).getD undef) := fun av hl => by
        have := ha.env d av hl
        rw [Array.getD_eq_getD_getElem?] at this
        exact this
      split at hg
      · rename_i b hl
        have hk := den_one (key _ hl)
        have hy : yielded ops a.tmps j = some b := by
          unfold yielded
          rw [hd]
          simp only [Option.bind_some]
          cases ht : a.tmps[d]? with
          | none => rw [ht] at hk; simp [undef] at hk
          | some v => rw [ht] at hk; simp only [Option.getD_some] at hk; rw [hk]
        rw [hy]
        cases want <;> cases b <;> simp_all [onB]
      · rename_i hl
        obtain ⟨vs, hk, hlen, _⟩ := key _ hl
        have hvs : vs = [] := List.eq_nil_of_length_eq_zero (by simpa using hlen.symm)
        subst hvs
        have hy : yielded ops a.tmps j = none := by
          unfold yielded
          rw [hd]
          simp only [Option.bind_some]
          cases ht : a.tmps[d]? with
          | none => rfl
          | some v => rw [ht] at hk; simp only [Option.getD_some] at hk; rw [hk]
        rw [hy]
        exact .inr ⟨by simp, hg⟩
      · exact hg.elim
    · exact hg.elim
theorem tup_nil {L : Nat → Value} {h : Hp} : DenA L h (.tup []) undef := ⟨[], rfl, rfl, fun j a u ha => by simp at ha⟩
theorem ops_ok [HasGl P] {h0 : Base P} (hT : TTok P T) (hF : FTok P FF) {ops : Array Oper} {Q : Exit → Act → World → Prop} {K : St → Prop} (hQ : ∀ st a w, Sat may w0 h0 st a w → K st → Q .normal a w) : ∀ (l : List Oper) (st : St) (a : Act) (w : World), opsP P T FF ops l st K → Sat may w0 h0 st a w → wpList P ops Q l a w
  | [], st, a, w, hp, hs => by
    refine wpList_nil ?_
    exact hQ st a w hs hp
  | o :: r, st, a, w, hp, hs => by
    refine wpList_step (fun Kc hKc => ?_)
    obtain ⟨⟨L, F, h, hm, ha, hsub, hnew⟩, hk⟩ := hs
    rcases guard_wanted ha hp with ⟨hw, hp⟩ | ⟨hw, hp⟩
    · rw [if_pos hw]
      have := step_ok (Q := Q) hT hF hp ⟨⟨L, F, h, hm, ha, hsub, hnew⟩, hk⟩
      unfold Oper.wp at this ⊢
      generalize (execOp a.eval o).run P w = res at this ⊢
      have mono : ∀ a' w', (∃ st', Sat may w0 h0 st' a' w' ∧ opsP P T FF ops r st' K) → Kc a' w' := fun a' w' ⟨st', h1, h2⟩ => hKc a' w' (ops_ok hT hF hQ r st' a' w' h2 h1)
      cases res with
      | ok n w' =>
        cases n <;> simp only [Oper.upon] at this ⊢ <;> first | exact mono _ _ this | exact this | skip
        · exact this.mono (fun e w'' h => by cases e <;> first | exact mono _ _ h | exact h)
        · exact this.mono (fun v w'' h => mono _ _ h)
      | halt x w' => cases x <;> exact this
    · rw [if_neg (by rw [hw]; simp)]
      obtain ⟨st', h1, h2⟩ := put_sat hm ha hsub hnew hk (av := .tup []) tup_nil hp
      exact hKc _ _ (ops_ok hT hF hQ r st' _ w h2 h1)

theorem opsG_ok [HasGl P] {h0 : Base P} (hT : TTok P T) {ops : Array Oper} {Q : Exit → Act → World → Prop} {K : St → Prop} (hQ : ∀ st a w, Sat may w0 h0 st a w → K st → Q .normal a w) : ∀ (l : List Oper) (st : St) (gds : GD) (a : Act) (w : World), opsG T ops l st gds K → Sat may w0 h0 st a w →
    (∀ L h, Agree L h st a → GOk L h gds a) → wpList P ops Q l a w := by
  intro l st gds a w hp hs hg
  obtain ⟨⟨L, F, h, hm, ha, hsub, hnew⟩, hk⟩ := hs
  replace hg := hg L h ha
  induction l generalizing st gds a with
  | nil => exact wpList_nil (hQ st a w ⟨⟨L, F, h, hm, ha, hsub, hnew⟩, hk⟩ hp)
  | cons o r ih =>
    refine wpList_step (fun Kc hKc => ?_)
    obtain ⟨v, st', gds', hrun, h1, h2, h3, h4⟩ := opsG_step (P := P) hT hm ha hg hp
    have go : Kc (a.put o.dst v) w := hKc _ _ (ih st' gds' _ h4 (by rw [h3.1]; exact hm) h1 (by rw [h3.2]; exact hsub) h2)
    rcases hrun with ⟨hw, hrun⟩ | ⟨hw, rfl⟩
    · rw [if_pos hw]
      exact value_upon (hrun w (fun _ _ => rfl)) go
    · rw [if_neg (by rw [hw]; simp)]
      exact go
/-- What a loop comes to. -/
structure LoopV (P : Program) [HasGl P] (c : Code) (Q : Ex → St → Prop) (st : St) : Prop where
  out : ∀ (may : Nat → Prop) (w0 : World) (h0 : Base P) (a : Act) (w : World), Sat may w0 h0 st a w → (Code.loop c).wp P (fun e a' w' => ∃ e' st', e = Ex.to e' ∧ Sat may w0 h0 st' a' w' ∧ Q e' st') a w
/-- What a region that draws its order comes to. -/
structure DrawV (P : Program) [HasGl P] (id : Nat) (ops : Array Oper) (K : St → Prop) (st : St) : Prop where
  out : ∀ (may : Nat → Prop) (w0 : World) (h0 : Base P) (a : Act) (w : World), Sat may w0 h0 st a w → (Code.region id ops true).wp P (fun e a' w' => e = .normal ∧ ∃ st', Sat may w0 h0 st' a' w' ∧ K st') a w

def vc (P : Program) [HasGl P] (T : TT) (FF : FL) (c : Code) : (Ex → St → Prop) → St → Prop :=
  Code.rec (motive := fun _ => (Ex → St → Prop) → St → Prop)
    (fun Q st => Q .normal st)
    (fun id ops draw Q st => match draw with
      | false => (match hasG ops.toList && allG T ops.toList with | true => opsG T ops ops.toList st [] (Q .normal) | false => opsP P T FF ops ops.toList st (Q .normal))
      | true => DrawV P id ops (Q .normal) st)
    (fun _ _ ihx ihy Q st => ihx (fun e st' => match e with | .normal => ihy Q st' | .exit i => Q (.exit i) st' | .ret => Q .ret st') st)
    (fun c _ _ ihx ihy Q st => match ev st c with
      | some (.c (.v (.bool b))) => onB (ihx Q st) (ihy Q st) b
      | _ => False)
    (fun id _ ih Q st => ih (fun e st' => match e with | .normal => Q .normal st' | .exit i => if i = id then Q .normal st' else Q (.exit i) st' | .ret => Q .ret st') st)
    (fun c _ Q st => LoopV P c Q st)
    (fun _ _ _ _ _ _ _ _ => False)
    (fun id Q st => Q (.exit id) st)
    (fun _ _ _ _ => False)
    (fun _ _ _ => False)
    (fun _ _ _ => False)
    (fun Q st => Q .ret st)
    (fun _ _ _ => False) c
theorem vc_cond (P : Program) [HasGl P] (T : TT) (FF : FL) (c : Operand) (x y : Code) (Q : Ex → St → Prop) (st : St) : vc P T FF (.cond c x y) Q st = (match ev st c with
      | some (.c (.v (.bool b))) => onB (vc P T FF x Q st) (vc P T FF y Q st) b
      | _ => False) := rfl
theorem vc_ok [HasGl P] {h0 : Base P} (hT : TTok P T) (hF : FTok P FF) : ∀ (c : Code) (Q : Ex → St → Prop) (st : St) (a : Act) (w : World), vc P T FF c Q st → Sat may w0 h0 st a w → c.wp P (fun e a' w' => ∃ e' st', e = Ex.to e' ∧ Sat may w0 h0 st' a' w' ∧ Q e' st') a w
  | .skip, Q, st, a, w, hp, hs => wp_skip ⟨.normal, st, rfl, hs, hp⟩
  | .region id ops draw, Q, st, a, w, hp, hs => by
    cases draw with
    | false =>
      have hp : (match hasG ops.toList && allG T ops.toList with | true => opsG T ops ops.toList st [] (Q .normal) | false => opsP P T FF ops ops.toList st (Q .normal)) := hp
      split at hp
      · exact wp_region_list (opsG_ok hT (fun st' a' w' h1 h2 => ⟨.normal, st', rfl, h1, h2⟩) _ st [] a w hp hs (fun _ _ _ => gok_nil))
      · exact wp_region_list (ops_ok hT hF (fun st' a' w' h1 h2 => ⟨.normal, st', rfl, h1, h2⟩) _ st a w hp hs)
    | true => exact Code.wp_mono (fun e a' w' ⟨he, st', h1, h2⟩ => ⟨.normal, st', he, h1, h2⟩) (hp.out may w0 h0 a w hs)
  | .seq x y, Q, st, a, w, hp, hs => by
    refine wp_seq (Code.wp_mono (fun e a' w' h => ?_) (vc_ok hT hF x _ st a w hp hs))
    obtain ⟨e', st', rfl, h1, h2⟩ := h
    cases e' with
    | normal => exact vc_ok hT hF y Q st' a' w' h2 h1
    | exit i => exact ⟨.exit i, st', rfl, h1, h2⟩
    | ret => exact ⟨.ret, st', rfl, h1, h2⟩
  | .cond c x y, Q, st, a, w, hp, hs => by
    rw [vc_cond] at hp
    split at hp
    · rename_i b hc
      obtain ⟨⟨L, F, h, hm, ha, hsub, hnew⟩, hk⟩ := hs
      have hev : a.eval c = .bool b := ev_v ha hc
      cases b with
      | true => exact wp_cond_true hev (vc_ok hT hF x Q st a w hp ⟨⟨L, F, h, hm, ha, hsub, hnew⟩, hk⟩)
      | false => exact wp_cond_false hev (vc_ok hT hF y Q st a w hp ⟨⟨L, F, h, hm, ha, hsub, hnew⟩, hk⟩)
    · exact hp.elim
  | .block id c, Q, st, a, w, hp, hs => by
    refine wp_block (Code.wp_mono (fun e a' w' h => ?_) (vc_ok hT hF c _ st a w hp hs))
    obtain ⟨e', st', rfl, h1, h2⟩ := h
    cases e' with
    | normal => exact ⟨.normal, st', rfl, h1, h2⟩
    | exit i =>
      simp only at h2
      show Exit.inBlock id _ (.exit i) a' w'
      simp only [Exit.inBlock]
      split at h2
      · rename_i e; rw [if_pos e]; exact ⟨.normal, st', rfl, h1, h2⟩
      · rename_i e; rw [if_neg e]; exact ⟨.exit i, st', rfl, h1, h2⟩
    | ret => exact ⟨.ret, st', rfl, h1, h2⟩
  | .loop c, Q, st, a, w, hp, hs => hp.out may w0 h0 a w hs
  | .exit id, Q, st, a, w, hp, hs => wp_exit ⟨.exit id, st, rfl, hs, hp⟩
  | .ret, Q, st, a, w, hp, hs => wp_ret ⟨.ret, st, rfl, hs, hp⟩
  | .rangeFunc _ _ _ _, Q, st, a, w, hp, hs => hp.elim
  | .scope _, Q, st, a, w, hp, hs => hp.elim
  | .label _, Q, st, a, w, hp, hs => hp.elim
  | .goto _, Q, st, a, w, hp, hs => hp.elim
  | .refuse _, Q, st, a, w, hp, hs => hp.elim
end
theorem onB_t {x y : Prop} (h : x) : onB x y true := h
theorem onB_f {x y : Prop} (h : y) : onB x y false := h

end Go.Eng
set_option linter.unusedVariables false
set_option linter.unusedSimpArgs false
namespace Go.Eng
open Go Go.RowKit

def flat : AV → Bool
  | .tup _ => false
  | .top => false
  | _ => true
def res1 (T : TT) (st : St) (rv : ResultVar) (K : AV → Prop) : Prop :=
  match rv with
  | .tmp t => match st.env.lookup t with
    | some a => ifD (flat a = true) (K a)
    | none => False
  | .cell p ty => match st.env.lookup p with
    | some (.c c) => loadP T st ty c (fun a => ifD (flat a = true) (K a))
    | _ => False
def resL (T : TT) (st : St) (l : List ResultVar) : (List AV → Prop) → Prop :=
  List.rec (motive := fun _ => (List AV → Prop) → Prop) (fun K => K []) (fun r _ ih K => res1 T st r (fun a => ih (fun l => K (a :: l)))) l
def retV : List AV → AV
  | [a] => a
  | l => .tup l
/-- What is handed back: of one result itself, of more the tuple; it holds nothing of the call's own. -/
def retK (Q : AV → Prop) (l : List AV) : Prop :=
  match l with
  | [a] => ifD (cloA a = true) (Q a)
  | l => ifD (cloA (.tup l) = true) (Q (.tup l))
theorem retK_eq {Q : AV → Prop} {l : List AV} (h : retK Q l) : cloA (retV l) = true ∧ Q (retV l) := by
  match l, h with
  | [], h => exact ifD_and (p := cloA (.tup []) = true) h
  | [a], h => exact ifD_and (p := cloA a = true) h
  | a :: b :: r, h => exact ifD_and (p := cloA (.tup (a :: b :: r)) = true) h
/-- The own objects that cells lead to. -/
def ownsC (own : List (Option Ob)) : List IC → List Nat
  | [] => []
  | .row j :: r => j :: ownsC own r
  | .own j _ :: r => (match own[j]? with | some (some (.cells _ cs)) => rowsC cs ++ [j] | _ => []) ++ ownsC own r
  | .ifc _ (.own j _) :: r => (match own[j]? with | some (some (.cells _ cs)) => rowsC cs ++ [j] | _ => []) ++ ownsC own r
  | _ :: r => ownsC own r
def ownsA (own : List (Option Ob)) : AV → List Nat
  | .c x => ownsC own [x]
  | .agg xs => ownsC own xs
  | .tup _ => []
  | .top => []
/-- The own objects that a function's results lead to. -/
def resOwns (st : St) : List ResultVar → List Nat
  | [] => []
  | .tmp t :: r => (match st.env.lookup t with | some a => ownsA st.own a | none => []) ++ resOwns st r
  | .cell p _ :: r => (match st.env.lookup p with
    | some (.c (.own i _)) => (match st.own[i]? with | some (some (.cells _ cs)) => ownsC st.own cs | _ => [])
    | _ => []) ++ resOwns st r
def env0 (args : List AV) : List (Nat × AV) := args.zipIdx.map fun x => (x.2, x.1)
section
variable {P : Program} {T : TT} {FF : FL} {mine may : Nat → Prop} {L : Nat → Value} {F : Nat → Nat → Prop} {h : Hp} {st : St} {a : Act} {w w0 : World}
theorem ldP_mono {t : TypeId} {cs : List IC} {K K' : AV → Prop} (hk : ∀ a, K a → K' a) (h : ldP T t cs K) : ldP T t cs K' := by
  unfold ldP at *
  split at h
  · split at h
    · have := ifD_and h
      unfold ifD at *
      split <;> simp_all
    · split at h
      · exact hk _ h
      · exact h
  · exact h
theorem ifD_mk {p : Prop} [d : Decidable p] {x : Prop} (hp : p) (hx : x) : ifD p x := by
  unfold ifD
  rw [decide_eq_true hp]
  exact hx
theorem loadP_mono {t : TypeId} {c : IC} {K K' : AV → Prop} (hk : ∀ a, K a → K' a) (h : loadP T st t c K) : loadP T st t c K' := by
  unfold loadP at *
  split at h
  · split at h
    · exact ldP_mono hk h
    · exact h
  · exact ldP_mono hk h
  · split at h
    · have := ifD_and h
      exact ifD_mk this.1 (ldP_mono hk this.2)
    · have := ifD_and h
      exact ifD_mk this.1 ⟨this.2.1, ldP_mono hk this.2.2⟩
    · exact h
  · exact h
theorem res1_mono {rv : ResultVar} {K K' : AV → Prop} (hk : ∀ a, K a → K' a) (h : res1 T st rv K) : res1 T st rv K' := by
  unfold res1 at *
  split at h
  · split at h
    · have := ifD_and h
      exact ifD_mk this.1 (hk _ this.2)
    · exact h
  · split at h
    · exact loadP_mono (fun a ha => by have := ifD_and ha; exact ifD_mk this.1 (hk _ this.2)) h
    · exact h
theorem resL_mono : ∀ {rs : List ResultVar} {K K' : List AV → Prop}, (∀ l, K l → K' l) → resL T st rs K → resL T st rs K'
  | [], K, K', hk, h => hk _ h
  | r :: rs, K, K', hk, h => res1_mono (fun a ha => resL_mono (fun l hl => hk _ hl) ha) h
theorem flat_den {av : AV} {v : Value} (hf : flat av = true) (hd : DenA L h av v) : Den1 L h av v := by cases av <;> first | exact hd | cases hf
theorem den_flat {av : AV} {v : Value} (hd : Den1 L h av v) : DenA L h av v := by cases av <;> first | exact hd | exact hd.elim
theorem load_addr {c : IC} {K : AV → Prop} {p : Value} {t : TypeId} (hd : Den L h c p) (hp : loadP T st t c K) : ∃ ad, p = .pointer (some ad) := by
  unfold loadP at hp
  cases hd <;> first | exact ⟨_, rfl⟩ | exact hp.elim
theorem res1_ok (hT : TTok P T) (hm : Mem mine L F h st.own w) (ha : Agree L h st a) {rv : ResultVar} {K : AV → Prop} (hp : res1 T st rv K) : ∃ av v, K av ∧ Den1 L h av v ∧ flat av = true ∧
    ∀ (f : ResultVar → Sem Value), (∀ u, f (.tmp u) = pure (a.tmps.getD u undef)) → (∀ p t, f (.cell p t) = (do loadVar t (← asAddr (a.tmps.getD p undef)))) → (f rv).run P w = .ok v w := by
  unfold res1 at hp
  split at hp
  · split at hp
    · rename_i t av hl
      have h1 := ha.env _ _ hl
      have hp := ifD_and hp
      refine ⟨av, _, hp.2, flat_den hp.1 h1, hp.1, fun f hf _ => ?_⟩
      rw [hf]
      rfl
    · exact hp.elim
  · rename_i p ty
    split at hp
    · rename_i c hl
      have hd : Den L h c _ := ha.env _ _ hl
      obtain ⟨av, v, hK0, h2, h3⟩ := load_ok hT hm hd hp
      obtain ⟨hfl, hK⟩ := ifD_and hK0
      obtain ⟨ad, e⟩ := load_addr hd hp
      refine ⟨av, v, hK, flat_den hfl h2, hfl, fun f _ hf => ?_⟩
      have := h3 w (fun _ _ => rfl)
      rw [hf]
      rw [e] at this ⊢
      simp only [Instr.loadAt, Instr.sureAddr, Sem.run_bind, Sem.run_pure, Result.andThen_ok] at this ⊢
      simp only [asAddr, Sem.run_pure, Result.andThen_ok]
      exact this
    · exact hp.elim
theorem resL_ok (hT : TTok P T) (hm : Mem mine L F h st.own w) (ha : Agree L h st a) : ∀ (rs : List ResultVar) (K : List AV → Prop), resL T st rs K → ∃ l vs, K l ∧ l.length = vs.length ∧ (∀ (j : Nat) av v, l[j]? = some av → vs[j]? = some v → Den1 L h av v ∧ flat av = true) ∧
    ∀ (f : ResultVar → Sem Value), (∀ u, f (.tmp u) = pure (a.tmps.getD u undef)) → (∀ p t, f (.cell p t) = (do loadVar t (← asAddr (a.tmps.getD p undef)))) → (rs.mapM f).run P w = .ok vs w
  | [], K, hp => ⟨[], [], hp, rfl, (fun j av v hj => by simp at hj), fun f _ _ => by simp⟩
  | r :: rs, K, hp => by
    obtain ⟨av, v, h1, h2, h3, h4⟩ := res1_ok hT hm ha hp
    obtain ⟨l, vs, k1, k0, k2, k3⟩ := resL_ok hT hm ha rs _ h1
    refine ⟨av :: l, v :: vs, k1, by simp [k0], fun j av' v' hj hv => ?_, fun f hf hc => ?_⟩
    · cases j with
      | zero => simp at hj hv; subst hj hv; exact ⟨h2, h3⟩
      | succ j => simp at hj hv; exact k2 j av' v' hj hv
    · rw [List.mapM_cons]
      simp [h4 f hf hc, k3 f hf hc]
theorem results_ok (hT : TTok P T) (hm : Mem mine L F h st.own w) (ha : Agree L h st a) {fn : Func} {Q : AV → Prop} (hp : resL T st fn.results.toList (fun l => Q (retV l))) : ∃ r v, Q r ∧ DenA L h r v ∧ (results fn a.tmps).run P w = .ok v w := by
  obtain ⟨l, vs, h1, h0, h2, h3⟩ := resL_ok hT hm ha _ _ hp
  have hrun : (results fn a.tmps).run P w = .ok (if hl : vs.toArray.size = 1 then vs.toArray[0] else .tuple vs.toArray) w := by
    unfold results
    rw [show fn.results = fn.results.toList.toArray from by simp, List.mapM_toArray]
    simp only [Sem.run_bind, Sem.run_map]
    rw [h3]
    · simp
    · intro u; rfl
    · intro p t; rfl
  refine ⟨_, _, h1, ?_, hrun⟩
  match l, vs, h0, h2 with
  | [], [], _, _ => exact ⟨[], rfl, rfl, fun j a u ha => by simp at ha⟩
  | [x], [v], _, h2 => exact den_flat (h2 0 x v rfl rfl).1
  | x :: y :: l, v :: u :: vs, h0, h2 => exact ⟨_, rfl, h0, fun j a' u' ha hu => (h2 j a' u' ha hu).1⟩
theorem lookup_env0 (args : List AV) (t : Nat) : ∀ (k : Nat), ((args.zipIdx k).map fun x => (x.2, x.1)).lookup t = if k ≤ t then args[t - k]? else none := by
  induction args with
  | nil => intro k; simp
  | cons x r ih =>
    intro k
    rw [List.zipIdx_cons, List.map_cons, List.lookup_cons]
    by_cases e : t = k
    · subst e; simp
    · have e' : (t == k) = false := by simpa using e
      rw [e']
      simp only
      rw [ih (k + 1)]
      by_cases hk : k + 1 ≤ t
      · rw [if_pos hk, if_pos (by omega)]
        have : t - k = (t - (k + 1)) + 1 := by omega
        rw [this, List.getElem?_cons_succ]
      · rw [if_neg hk, if_neg (by omega)]
theorem agree0 {args : List AV} {vs : List Value} {n : Nat} (hn : args.length ≤ n) (hd : DenAs L h args vs) (k : Nat) (own : List (Option Ob)) : Agree L h ⟨n, k, env0 args, own⟩ { tmps := vs.toArray ++ Array.replicate (n - vs.toArray.size) undef, defers := [] } := by
  have hl := hd.len
  refine ⟨by simp; omega, fun t av hl => ?_, rfl⟩
  unfold env0 at hl
  simp only [lookup_env0 args t 0, Nat.zero_le, if_true, Nat.sub_zero] at hl
  have hlt := (List.getElem?_eq_some_iff.1 hl).1
  have hlv : t < vs.length := by omega
  rw [Array.getD_eq_getD_getElem?, Array.getElem?_append_left (by simpa using hlv)]
  simp [hlv]
  exact hd.den t av _ hl (by simp [hlv])
/-- A function that is handed own objects. -/
theorem callV_own [HasGl P] {own : List (Option Ob)} {f : FuncId} {fn : Func} {c : Code} (hf : P.funcs[f]? = some fn) (hb : fn.body = some c) (hT : TTok P T) (hF : FTok P FF) {args : List AV} {n : Nat} (hnn : fn.ntmps = n) {rs : List ResultVar} (hrs : fn.results.toList = rs) {env : List (Nat × AV)} (henv : env0 args = env) (hn : args.length ≤ n) {k : Nat} (hk : own.length = k) {Q : AV → List (Option Ob) → Prop}
    (hv : vc P T FF c (fun e st' => match e with | .exit _ => False | _ => ∃ st1, Weak st' st1 ∧ resL T st1 rs (fun l => ∃ ob, headOk k ob = true ∧ nodupB ob = true ∧ Q (sbA (up (renT ob)) (retV l)) (ob.map (pickOwn st1.own (up (renT ob)))))) ⟨n, k, env, own⟩) : CallV P f args own Q := by
  subst hnn hrs henv hk
  refine ⟨fun mine L F h w vs hgl hm hden => ?_⟩
  have hm0 : Mem (mineOf (footOf F own) w) L F h own w := hm.mine_mono (fun b hb => .inl hb)
  have hs : Sat (footOf F own) w (⟨h, L, hgl⟩ : Base P) ⟨fn.ntmps, own.length, env0 args, own⟩ { tmps := vs.toArray ++ Array.replicate (fn.ntmps - vs.toArray.size) undef, defers := [] } w :=
    ⟨⟨L, F, h, hm0, agree0 hn hden own.length own, ⟨Sub.refl h, fun _ _ => rfl, hm.hn.symm⟩, fun k hk => .inl hk⟩, Keep.refl _ w⟩
  refine calls_of_wp hf hb (Code.wp_mono (fun e a' w' hh => ?_) (vc_ok hT hF c _ _ _ _ hv hs))
  obtain ⟨e', st0, rfl, hs1, he⟩ := hh
  have hr : ∃ st1, Weak st0 st1 ∧ resL T st1 fn.results.toList (fun l => ∃ ob, headOk own.length ob = true ∧ nodupB ob = true ∧ Q (sbA (up (renT ob)) (retV l)) (ob.map (pickOwn st1.own (up (renT ob))))) := by
    cases e' with
    | normal => exact he
    | exit i => exact he.elim
    | ret => exact he
  obtain ⟨st1, hw, hr⟩ := hr
  obtain ⟨⟨L', F', h', hm', ha', hsub, hnew'⟩, hk⟩ := hw.out _ _ _ _ _ hs1
  obtain ⟨r, v, ⟨ob, ho1, ho2, hQ⟩, hd, hrun⟩ := results_ok (Q := fun r => ∃ ob, headOk own.length ob = true ∧ nodupB ob = true ∧ Q (sbA (up (renT ob)) r) (ob.map (pickOwn st1.own (up (renT ob))))) hT hm' ha' hr
  have hkk : st1.k = own.length := by rw [hsub.kk]; exact hm.hn
  have hsub2 := subB_norm (by rw [hkk]; exact ho1) hsub
  have fin : a'.defers = [] ∧ ∃ v, (results fn a'.tmps).run P w' = .ok v w' ∧ ∃ (r : AV) (u : Value) (L' : Nat → Value) (F' : Nat → Nat → Prop) (h' : Hp) (own' : List (Option Ob)), Ending.returned v = .returned u ∧ DenA L' h' r u ∧ (∀ i, i < h.n → L' i = L i) ∧ Mem (mineOf (footOf F own) w) L' F' h' own' w' ∧
      Keep (footOf F own) w w' ∧ Sub h h' ∧ (∀ k, h'.m k ≠ none → h.m k ≠ none ∨ mineOf (footOf F own) w k) ∧ Q r own' :=
    ⟨ha'.defers, _, hrun, _, v, _, _, _, _, rfl, (renU_ok L' h' ob).denA hd, hsub2.at_, mem_norm ho2 hm', hk, hsub2.sub, hnew', hQ⟩
  cases e' with
  | normal => exact fin
  | exit i => exact he.elim
  | ret => exact fin
/-- A function that is handed nothing of its own, and hands back nothing of its own. -/
theorem callV_pure [HasGl P] {f : FuncId} {fn : Func} {c : Code} (hf : P.funcs[f]? = some fn) (hb : fn.body = some c) (hT : TTok P T) (hF : FTok P FF) {args : List AV} {n : Nat} (hnn : fn.ntmps = n) {rs : List ResultVar} (hrs : fn.results.toList = rs) {env : List (Nat × AV)} (henv : env0 args = env) (hn : args.length ≤ n) {Q : AV → Prop}
    (hv : vc P T FF c (fun e st' => match e with | .exit _ => False | _ => frzL (resOwns st' rs) st' fun st' => resL T st' rs (retK Q)) ⟨n, 0, env, []⟩) : CallV P f args [] (fun r own' => own' = [] ∧ Q r) := by
  subst hnn hrs henv
  refine ⟨fun mine L F h w vs hgl hm hden => ?_⟩
  have hm0 : Mem (mineOf (footOf F []) w) L F h [] w := hm.mine_mono (fun b hb => .inl hb)
  have hs : Sat (footOf F []) w (⟨h, L, hgl⟩ : Base P) ⟨fn.ntmps, 0, env0 args, []⟩ { tmps := vs.toArray ++ Array.replicate (fn.ntmps - vs.toArray.size) undef, defers := [] } w :=
    ⟨⟨L, F, h, hm0, agree0 hn hden 0 [], ⟨Sub.refl h, fun _ _ => rfl, hm.hn.symm⟩, fun k hk => .inl hk⟩, Keep.refl _ w⟩
  refine calls_of_wp hf hb (Code.wp_mono (fun e a' w' hh => ?_) (vc_ok hT hF c _ _ _ _ hv hs))
  obtain ⟨e', st0, rfl, hs1, he⟩ := hh
  have hr0 : frzL (resOwns st0 fn.results.toList) st0 (fun st' => resL T st' fn.results.toList (retK Q)) := by
    cases e' with
    | normal => exact he
    | exit i => exact he.elim
    | ret => exact he
  obtain ⟨st', ⟨⟨L', F', h', hm', ha', hsub, hnew'⟩, hk⟩, hr⟩ := frzL_sat _ st0 hr0 hs1
  obtain ⟨r, v, ⟨hcl, hQ⟩, hd, hrun⟩ := results_ok (Q := fun r => cloA r = true ∧ Q r) hT hm' ha' (resL_mono (fun l h => retK_eq h) hr)
  have h0n : h.n = 0 := hm.hn
  have fin : a'.defers = [] ∧ ∃ v, (results fn a'.tmps).run P w' = .ok v w' ∧ ∃ (r : AV) (u : Value) (L' : Nat → Value) (F' : Nat → Nat → Prop) (h' : Hp) (own' : List (Option Ob)), Ending.returned v = .returned u ∧ DenA L' h' r u ∧ (∀ i, i < h.n → L' i = L i) ∧ Mem (mineOf (footOf F []) w) L' F' h' own' w' ∧
      Keep (footOf F []) w w' ∧ Sub h h' ∧ (∀ k, h'.m k ≠ none → h.m k ≠ none ∨ mineOf (footOf F []) w k) ∧ own' = [] ∧ Q r :=
    ⟨ha'.defers, _, hrun, r, v, L', F', ⟨h'.m, 0⟩, [], rfl, hd.clo 0 hcl, fun i hi => by omega, ⟨rfl, hm'.hsub, fun i ob hi => by simp at hi, fun i ob b hi => by simp at hi, fun i j oi oj b hi => by simp at hi⟩, hk, ⟨hsub.sub.m, by rw [h0n]; exact Nat.le_refl _⟩, hnew', rfl, hQ⟩
  cases e' with
  | normal => exact fin
  | exit i => exact he.elim
  | ret => exact fin
theorem not_foot_nil {b : Nat} : ¬ footOf F [] b := fun ⟨i, ob, hi, _⟩ => by simp at hi
theorem denAs_clo {args : List AV} {vs : List Value} {L' : Nat → Value} (hd : DenAs L h args vs) (n' : Nat) (hcl : args.all cloA = true) : DenAs L' ⟨h.m, n'⟩ args vs :=
  ⟨hd.len, fun j a v hj hv => (hd.den j a v hj hv).clo n' (List.all_eq_true.1 hcl a (List.mem_of_getElem? hj))⟩
/-- A call of a function that changes nothing, beside own objects. -/
theorem call_pure [HasGl P] {f : FuncId} {args : List AV} {Q : AV → Prop} (hc : CallV P f args [] (fun r own' => own' = [] ∧ Q r)) (hcl : args.all cloA = true) {own : List (Option Ob)} {K : AV → List (Option Ob) → Prop} (hK : ∀ r, Q r → K r own) : CallV P f args own K := by
  refine ⟨fun mine L F h w vs hgl hm hden => ?_⟩
  have := hc.out mine L F ⟨h.m, 0⟩ w vs hgl ⟨rfl, hm.hsub, fun i ob hi => by simp at hi, fun i ob b hi => by simp at hi, fun i j oi oj b hi => by simp at hi⟩ (denAs_clo hden 0 hcl)
  refine this.mono ?_
  rintro e w' ⟨r, v, L', F', h', own', h1, h2, h3, h4, h5, h6, h7, rfl, hQ⟩
  have hn0 : h'.n = 0 := h4.hn
  have hkeep : ∀ k, k < w.heap.size → w'.heap[k]? = w.heap[k]? := fun k hk => h5.block k hk not_foot_nil
  have hsub : Sub h ⟨h'.m, h.n⟩ := ⟨h6.m, Nat.le_refl _⟩
  have hs2 : Sub h' ⟨h'.m, h.n⟩ := ⟨fun _ _ e => e, by rw [hn0]; exact Nat.zero_le _⟩
  refine ⟨r, v, L, F, ⟨h'.m, h.n⟩, own, h1, h2.mono hs2 (fun i hi => by omega), fun _ _ => rfl, ⟨hm.hn, h4.hsub, fun i ob hi => obOk_move (hm.obs i ob hi) (fun b hb => hkeep b (hm.foot i ob b hi hb).1) (fun _ _ => rfl) hsub, fun i ob b hi hb => ?_, hm.dis⟩, ⟨h5.os, h5.tape, h5.output, h5.size, fun k hk _ => hkeep k hk⟩, hsub, (fun k hk2 => by
      rcases h7 k hk2 with h9 | h9 | h9
      · exact .inl h9
      · exact absurd h9 not_foot_nil
      · exact .inr (.inr h9)), hK r hQ⟩
  have hlt := (hm.foot i ob b hi hb)
  refine ⟨Nat.lt_of_lt_of_le hlt.1 h5.size, ?_, .inl ⟨i, ob, hi, hb⟩⟩
  cases hx : h'.m b with
  | none => rfl
  | some o =>
    rcases h7 b (by rw [hx]; simp) with h9 | h9 | h9
    · exact absurd hlt.2.1 h9
    · exact absurd h9 not_foot_nil
    · omega
/-- The world is left as it was but for what is new. -/
theorem pure_calls [HasGl P] {f : FuncId} {args : List AV} {Q : AV → Prop} (hc : CallV P f args [] (fun r own' => own' = [] ∧ Q r)) (m : Nat → Option Obj) (hgl : HasGl.ok P m) (w : World) (hs : ∀ k o, m k = some o → w.heap[k]? = some o) {vs : List Value} (hd : DenAs (fun _ => undef) ⟨m, 0⟩ args vs) :
    Calls P f vs.toArray w fun e w' => ∃ (r : AV) (v : Value) (L : Nat → Value) (h' : Hp), e = .returned v ∧ DenA L h' r v ∧ Below w.heap.size w w' ∧ Sub ⟨m, 0⟩ h' ∧ (∀ k o, h'.m k = some o → w'.heap[k]? = some o) ∧ Q r := by
  have := hc.out (fun _ => True) (fun _ => undef) (fun _ _ => False) ⟨m, 0⟩ w vs hgl ⟨rfl, hs, fun i ob hi => by simp at hi, fun i ob b hi => by simp at hi, fun i j oi oj b hi => by simp at hi⟩ hd
  refine this.mono ?_
  rintro e w' ⟨r, v, L', F', h', own', h1, h2, h3, h4, h5, h6, h7, rfl, hQ⟩
  exact ⟨r, v, L', h', h1, h2, ⟨h5.os, h5.tape, h5.output, h5.size, fun k hk => h5.block k hk not_foot_nil⟩, h6, h4.hsub, hQ⟩
end
end Go.Eng
set_option linter.unusedVariables false
set_option linter.unusedSimpArgs false
namespace Go.Eng
open Go Go.RowKit

/-! ### A region that draws its order: operations that only read, calls that hand back plain values -/
def scalC : IC → Bool
  | .v x => x.oneCell'
  | _ => false
def scal1 : AV → Bool
  | .c x => scalC x
  | .agg xs => xs.all scalC
  | .tup _ => false
  | .top => false
def scalA : AV → Bool
  | .tup as => as.all scal1
  | a => scal1 a
def detV : AV → Option Value
  | .tup as => (as.mapM avVal).map fun vs => .tuple vs.toArray
  | a => avVal a
structure CallQ (P : Program) [HasGl P] (f : FuncId) (args : List AV) (K : AV → Prop) : Prop where
  out : ∃ r u, CallV P f args [] (fun r' own' => own' = [] ∧ r' = r) ∧ detV r = some u ∧ scalA r = true ∧ K r
theorem callQ {P : Program} [HasGl P] {f : FuncId} {args : List AV} {K : AV → Prop} {r : AV} {u : Value} (hc : CallV P f args [] (fun r' own' => own' = [] ∧ r' = r)) (hd : detV r = some u) (hs : scalA r = true) (hk : K r) : CallQ P f args K := ⟨⟨r, u, hc, hd, hs, hk⟩⟩
def qstepP (P : Program) [HasGl P] (T : TT) (F : FL) (o : Oper) (st : St) (K : St → Prop) : Prop :=
  match o.op with
  | .call { callee := .value x, args, argTypes := _ } => match argsOf st args.toList, fnOf (ev st x) with
    | some avs, some (f, caps) => ifD ((match F.lookup f with | some (some _) => true | _ => false) = true) (ifD ((avs ++ caps).all cloA = true) (CallQ P f (avs ++ caps) (fun r => putK st o.dst r K)))
    | _, _ => False
  | _ => aopP T st o.op (fun av => putK st o.dst av K)
def qopsP (P : Program) [HasGl P] (T : TT) (F : FL) (ops : Array Oper) (l : List Oper) : St → (St → Prop) → Prop :=
  List.rec (motive := fun _ => St → (St → Prop) → Prop) (fun st K => K st)
    (fun o _ ih st K => guardP ops o st (qstepP P T F o st (fun st' => ih st' K)) (skipK st o.dst (fun st' => ih st' K))) l
section
variable {P : Program} {T : TT} {FF : FL} {mine may : Nat → Prop} {L : Nat → Value} {F : Nat → Nat → Prop} {h : Hp} {st : St} {a : Act} {w w0 : World}
theorem mapM_cons_some {α β : Type} {f : α → Option β} {x : α} {xs : List α} {us : List β} (e : (x :: xs).mapM f = some us) : ∃ u r, us = u :: r ∧ f x = some u ∧ xs.mapM f = some r := by
  rw [List.mapM_cons] at e
  cases h1 : f x with
  | none => rw [h1] at e; cases e
  | some u =>
    rw [h1] at e
    cases h2 : xs.mapM f with
    | none => rw [h2] at e; cases e
    | some r => rw [h2] at e; cases e; exact ⟨u, r, rfl, rfl, rfl⟩
theorem scalL_den : ∀ {xs : List IC} {us : List Value}, xs.mapM cellV = some us → xs.all scalC = true → DenL L h xs us
  | [], us, e, _ => by simp at e; subst e; exact DenL.nil
  | x :: xs, us, e, hs => by
    obtain ⟨u, r, rfl, h1, h2⟩ := mapM_cons_some e
    rw [List.all_cons, Bool.and_eq_true] at hs
    cases x <;> first | cases h1 | skip
    exact DenL.cons (.v _ hs.1) (scalL_den h2 hs.2)
theorem scal1_den {r : AV} {u : Value} (hs : scal1 r = true) (hd : avVal r = some u) : Den1 L h r u := by
  cases r with
  | c x => cases x <;> first | cases hs | skip
           cases hd
           exact Den.v _ hs
  | agg xs =>
    simp only [avVal] at hd
    cases hx : xs.mapM cellV with
    | none => rw [hx] at hd; cases hd
    | some us => rw [hx] at hd; cases hd; exact ⟨us, rfl, scalL_den hx hs⟩
  | tup as => cases hs
  | top => cases hs
theorem scalT_den : ∀ {as : List AV} {us : List Value}, as.mapM avVal = some us → as.all scal1 = true → as.length = us.length ∧ ∀ (j : Nat) a u, as[j]? = some a → us[j]? = some u → Den1 L h a u
  | [], us, e, _ => by simp at e; subst e; exact ⟨rfl, fun j a u ha => by simp at ha⟩
  | x :: xs, us, e, hs => by
    obtain ⟨u, r, rfl, h1, h2⟩ := mapM_cons_some e
    rw [List.all_cons, Bool.and_eq_true] at hs
    obtain ⟨k1, k2⟩ := scalT_den h2 hs.2
    refine ⟨by simp [k1], fun j a v ha hv => ?_⟩
    cases j with
    | zero => simp at ha hv; subst ha hv; exact scal1_den hs.1 h1
    | succ j => simp at ha hv; exact k2 j a v ha hv
theorem det_den {r : AV} {u : Value} (hs : scalA r = true) (hd : detV r = some u) : DenA L h r u := by
  cases r with
  | c x => exact scal1_den (r := .c x) hs hd
  | agg xs => exact scal1_den (r := .agg xs) hs hd
  | tup as =>
    simp only [detV] at hd
    cases hx : as.mapM avVal with
    | none => rw [hx] at hd; cases hd
    | some us =>
      rw [hx] at hd
      cases hd
      obtain ⟨k1, k2⟩ := scalT_den hx hs
      exact ⟨us, rfl, k1, k2⟩
  | top => cases hs
theorem detT : ∀ {as : List AV} {us vs : List Value}, as.mapM avVal = some us → as.length = vs.length → (∀ (j : Nat) a u, as[j]? = some a → vs[j]? = some u → Den1 L h a u) → vs = us
  | [], us, vs, e, hl, _ => by simp at e; subst e; exact List.eq_nil_of_length_eq_zero (by simpa using hl.symm)
  | x :: xs, us, [], e, hl, _ => by simp at hl
  | x :: xs, us, v :: vs, e, hl, hd => by
    obtain ⟨u, r, rfl, h1, h2⟩ := mapM_cons_some e
    have e1 := avVal_den h1 (den_flat (hd 0 x v rfl rfl))
    have e2 := detT h2 (vs := vs) (by simpa using hl) (fun j a u ha hu => hd (j + 1) a u (by simpa using ha) (by simpa using hu))
    rw [e1, e2]
theorem det_val {r : AV} {u v : Value} (hd : detV r = some u) (hr : DenA L h r v) : v = u := by
  cases r with
  | c x => exact avVal_den (a := .c x) hd hr
  | agg xs => exact avVal_den (a := .agg xs) hd hr
  | tup as =>
    simp only [detV] at hd
    cases hx : as.mapM avVal with
    | none => rw [hx] at hd; cases hd
    | some us =>
      rw [hx] at hd
      cases hd
      obtain ⟨vs, rfl, hl, hd⟩ := hr
      rw [detT hx hl hd]
  | top => cases hd
theorem put_agree (ha : Agree L h st a) {dst : Option Nat} {av : AV} {v : Value} (hok : DenA L h av v) {K : St → Prop} (hp : putK st dst av K) : ∃ st', Agree L h st' (a.put dst v) ∧ (st'.own = st.own ∧ st'.k = st.k) ∧ K st' := by
  cases dst with
  | none => exact ⟨st, ha, ⟨rfl, rfl⟩, hp⟩
  | some d => exact ⟨st.put (some d) av, agree_put ha (putK_some hp).1 hok, ⟨rfl, rfl⟩, (putK_some hp).2⟩
theorem wpQuiet_mono {ops : Array Oper} {C : World → Prop} {Q Q' : Act → Prop} (hq : ∀ a, Q a → Q' a) : ∀ (l : List Oper) (a : Act), wpQuiet P ops C Q l a → wpQuiet P ops C Q' l a
  | [], a, hw => hq a hw
  | o :: r, a, hw => by
    unfold wpQuiet at *
    split
    · rename_i e
      rw [if_pos e] at hw
      exact Oper.quiet_mono (fun a ha => wpQuiet_mono hq r a ha) hw
    · rename_i e
      rw [if_neg e] at hw
      exact wpQuiet_mono hq r _ hw
theorem quiet_ops [HasGl P] (hgl : HasGl.ok P h.m) (hT : TTok P T) (hF : FTok P FF) {kk : Nat} {own : List (Option Ob)} (hm : Mem mine L F h own w) {ops : Array Oper} {K : St → Prop} : ∀ (l : List Oper) (st : St) (a : Act), (st.own = own ∧ st.k = kk) → qopsP P T FF ops l st K → Agree L h st a →
    wpQuiet P ops (fun w' => Below w.heap.size w w') (fun a' => ∃ st', Agree L h st' a' ∧ (st'.own = own ∧ st'.k = kk) ∧ K st') l a
  | [], st, a, ho, hp, ha => wpQuiet_nil ⟨st, ha, ho, hp⟩
  | o :: r, st, a, ho, hp, ha => by
    refine wpQuiet_step (fun Kc hKc => ?_)
    have go : ∀ st' a', (st'.own = own ∧ st'.k = kk) → qopsP P T FF ops r st' K → Agree L h st' a' → Kc a' := fun st' a' h1 h2 h3 => hKc a' (quiet_ops hgl hT hF hm r st' a' h1 h2 h3)
    rcases guard_wanted ha hp with ⟨hw, hp⟩ | ⟨hw, hp⟩
    · rw [if_pos hw]
      obtain ⟨dst, op, ty, pos, after, guard⟩ := o
      unfold qstepP at hp
      simp only at hp
      split at hp
      · rename_i x args ts _
        split at hp
        · rename_i avs f caps hx hfn
          obtain ⟨hf, hp⟩ := ifD_and hp
          obtain ⟨hcl, hp⟩ := ifD_and hp
          obtain ⟨rv, u, hc, hdet, hs, hk⟩ := hp.out
          have h1 := argsOf_ok ha hx
          obtain ⟨cv, g1, g2⟩ := fnOf_ok (L := L) ha hfn
          have h12 := h1.append g2
          obtain ⟨st', k1, k2, k3⟩ := put_agree ha (det_den (L := L) (h := h) hs hdet) hk
          refine ⟨u, fun w' hw' => ?_, go st' _ ⟨k2.1.trans ho.1, k2.2.trans ho.2⟩ k3 k1⟩
          have hargs : args.map a.eval ++ cv.toArray = (args.toList.map a.eval ++ cv).toArray := by
            apply Array.ext'
            simp
          have hrun : (execOp a.eval { dst := dst, op := .call { callee := .value x, args := args, argTypes := ts }, type := ty, pos := pos, after := after, guard := guard }).run P w' = .ok (.enter f (args.toList.map a.eval ++ cv).toArray) w' := by
            obtain ⟨fz, hfz⟩ : ∃ fz, FF.lookup f = some (some fz) := by
              split at hf
              · rename_i fz e; exact ⟨fz, e⟩
              · cases hf
            have he := hF f fz hfz (args.toList.map a.eval ++ cv).toArray w'
            rw [← hargs] at he ⊢
            unfold execOp
            simp [resolve, g1, Deferred.ofValue, invoke]
            simpa using he
          unfold Oper.quietAt
          rw [hrun]
          refine ⟨rfl, ?_⟩
          have hm' := mem_same hm (same_below hm hw') hw'.size
          have hcall := hc.out mine L F ⟨h.m, 0⟩ w' _ hgl ⟨rfl, hm'.hsub, fun i ob hi => by simp at hi, fun i ob b hi => by simp at hi, fun i j oi oj b hi => by simp at hi⟩ (denAs_clo h12 0 hcl)
          refine hcall.mono ?_
          rintro e w'' ⟨r', v', L', F', h', own', e1, e2, e3, e4, e5, e6, e7, rfl, rfl⟩
          have := det_val hdet e2
          refine ⟨by rw [e1, this], hw'.trans ⟨e5.os, e5.tape, e5.output, e5.size, fun k hk2 => e5.block k (Nat.lt_of_lt_of_le hk2 hw'.size) not_foot_nil⟩⟩
        · exact hp.elim
      · rw [← ho.1] at hm
        obtain ⟨av, v, h1, h2, h3⟩ := aop_ok hT hm ha (o := ⟨dst, op, ty, pos, after, guard⟩) hp
        obtain ⟨st', k1, k2, k3⟩ := put_agree ha h2 h1
        refine ⟨v, fun w' hw' => ?_, go st' _ ⟨k2.1.trans ho.1, k2.2.trans ho.2⟩ k3 k1⟩
        unfold Oper.quietAt
        rw [h3 w' (same_below hm hw')]
        exact ⟨rfl, rfl⟩
    · rw [if_neg (by rw [hw]; simp)]
      obtain ⟨st', k1, k2, k3⟩ := put_agree (av := .tup []) ha tup_nil hp
      exact go st' _ ⟨k2.1.trans ho.1, k2.2.trans ho.2⟩ k3 k1
theorem quiet_G (hT : TTok P T) {kk : Nat} {own : List (Option Ob)} (hm : Mem mine L F h own w) {ops : Array Oper} {K : St → Prop} : ∀ (l : List Oper) (st : St) (gds : GD) (a : Act), (st.own = own ∧ st.k = kk) → opsG T ops l st gds K → Agree L h st a → GOk L h gds a →
    wpQuiet P ops (fun w' => Below w.heap.size w w') (fun a' => ∃ st', Agree L h st' a' ∧ (st'.own = own ∧ st'.k = kk) ∧ K st') l a
  | [], st, gds, a, ho, hp, ha, hg => wpQuiet_nil ⟨st, ha, ho, hp⟩
  | o :: r, st, gds, a, ho, hp, ha, hg => by
    refine wpQuiet_step (fun Kc hKc => ?_)
    rw [← ho.1] at hm
    obtain ⟨v, st', gds', hrun, h1, h2, h3, h4⟩ := opsG_step (P := P) hT hm ha hg hp
    have go : Kc (a.put o.dst v) := hKc _ (quiet_G hT (ho.1 ▸ hm) r st' gds' _ ⟨h3.1.trans ho.1, h3.2.trans ho.2⟩ h4 h1 h2)
    rcases hrun with ⟨hw, hrun⟩ | ⟨hw, rfl⟩
    · rw [if_pos hw]
      refine ⟨v, fun w' hw' => ?_, go⟩
      unfold Oper.quietAt
      rw [hrun w' (same_below hm hw')]
      exact ⟨rfl, rfl⟩
    · rw [if_neg (by rw [hw]; simp)]
      exact go
/-- **A region that draws its order and only reads**, its '&&' and '||' not parted. -/
theorem drawV_join [HasGl P] {id : Nat} {ops : Array Oper} {K : St → Prop} (hmx : P.follows .mixedOrders = true) (hB : Region.lexB .any ops = true) (hT : TTok P T) (hp : opsG T ops ops.toList st [] K) : DrawV P id ops K st := by
  refine ⟨fun may w0 h0 a w hs => ?_⟩
  obtain ⟨⟨L, F, h, hm, ha, hsub, hnew⟩, hk⟩ := hs
  refine wp_region_quiet (C := fun w' => Below w.heap.size w w') hmx hB ⟨rfl, rfl, rfl, Nat.le_refl _, fun _ _ => rfl⟩ ?_
  refine wpQuiet_mono (fun a' hq w' hw' => ?_) _ _ (quiet_G hT hm ops.toList st [] a ⟨rfl, rfl⟩ hp ha gok_nil)
  obtain ⟨st', k1, k2, k3⟩ := hq
  refine ⟨rfl, st', ⟨⟨L, F, h, ?_, k1, by rw [k2.2]; exact hsub, hnew⟩, keep_below hk hw'⟩, k3⟩
  rw [k2.1]
  exact mem_same hm (same_below hm hw') hw'.size
/-- Lay own objects still ahead of a region that draws. -/
theorem drawV_frz [HasGl P] (l : List Nat) {id : Nat} {ops : Array Oper} {K : St → Prop} (hp : frzL l st fun st => DrawV P id ops K st) : DrawV P id ops K st := by
  refine ⟨fun may w0 h0 a w hs => ?_⟩
  obtain ⟨st', h1, h2⟩ := frzL_sat l st hp hs
  exact h2.out may w0 h0 a w h1
/-- **A region that draws its order and only reads**: by its text's order. -/
theorem drawV_quiet [HasGl P] {id : Nat} {ops : Array Oper} {K : St → Prop} (hmx : P.follows .mixedOrders = true) (hB : Region.lexB .any ops = true) (hT : TTok P T) (hF : FTok P FF) (hp : qopsP P T FF ops ops.toList st K) : DrawV P id ops K st := by
  refine ⟨fun may w0 h0 a w hs => ?_⟩
  obtain ⟨⟨L, F, h, hm, ha, hsub, hnew⟩, hk⟩ := hs
  refine wp_region_quiet (C := fun w' => Below w.heap.size w w') hmx hB ⟨rfl, rfl, rfl, Nat.le_refl _, fun _ _ => rfl⟩ ?_
  refine wpQuiet_mono (fun a' hq w' hw' => ?_) _ _ (quiet_ops (HasGl.mono h0.gl hsub.sub.m) hT hF hm ops.toList st a ⟨rfl, rfl⟩ hp ha)
  obtain ⟨st', k1, k2, k3⟩ := hq
  refine ⟨rfl, st', ⟨⟨L, F, h, ?_, k1, by rw [k2.2]; exact hsub, hnew⟩, keep_below hk hw'⟩, k3⟩
  rw [k2.1]
  exact mem_same hm (same_below hm hw') hw'.size
end
/-! ### A region that draws its order: first operations that only read, in any order; then the others, whose order is forced -/
def depsOf (md : Region.Mode) (ops : Array Oper) (i : Nat) : List Nat := match ops[i]? with
  | some o => (o.after.toList.filter (fun e => Region.binds md e)).map (fun e => e.on)
  | none => []
def clos (md : Region.Mode) (ops : Array Oper) : Nat → List Nat → List Nat
  | 0, S => S
  | f + 1, S => clos md ops f ((S ++ S.flatMap (depsOf md ops)).eraseDups)
def tailB (md : Region.Mode) (ops : Array Oper) (k : Nat) : Bool :=
  (List.range ops.size).all fun i => (depsOf md ops i).all (fun j => decide (j < i)) && (decide (i < k) || (List.range i).all (fun j => (clos md ops i (depsOf md ops i)).contains j))
def lexPre (md : Region.Mode) (ops : Array Oper) : Nat → Nat → Array Bool → Bool
  | 0, p, listed => (List.range p).all (fun j => listed.getD j false)
  | fuel + 1, p, listed => (Region.ready md ops listed).contains p && Region.free md ops listed p && lexPre md ops fuel (p + 1) (listed.setIfInBounds p true)
def mixB (ops : Array Oper) (k : Nat) : Bool := Region.noSelect ops && decide (k ≤ ops.size) && tailB .any ops k && lexPre .any ops k 0 (Array.replicate ops.size false)
def Lclosed (md : Region.Mode) (ops : Array Oper) (listed : Array Bool) : Prop := ∀ i, i < ops.size → listed.getD i false = true → ∀ j, j ∈ depsOf md ops i → listed.getD j false = true
section
variable {P : Program} {ops : Array Oper} {md : Region.Mode} {C : World → Prop} {k : Nat}
theorem mem_deps {i j : Nat} {o : Oper} (ho : ops[i]? = some o) : j ∈ depsOf md ops i ↔ ∃ e, e ∈ o.after ∧ Region.binds md e = true ∧ e.on = j := by
  unfold depsOf
  rw [ho]
  simp only [List.mem_map, List.mem_filter, Array.mem_toList_iff]
  exact ⟨fun ⟨e, ⟨h1, h2⟩, h3⟩ => ⟨e, h1, h2, h3⟩, fun ⟨e, h1, h2, h3⟩ => ⟨e, ⟨h1, h2⟩, h3⟩⟩
theorem ready_deps {i : Nat} {listed : Array Bool} (hr : i ∈ Region.ready md ops listed) : i < ops.size ∧ listed.getD i true = false ∧ ∀ j, j ∈ depsOf md ops i → listed.getD j false = true := by
  obtain ⟨h1, o, ho, h2⟩ := mem_ready.1 hr
  refine ⟨(Array.getElem?_eq_some_iff.1 ho).1, h1, fun j hj => ?_⟩
  obtain ⟨e, he, hb, rfl⟩ := (mem_deps ho).1 hj
  exact h2 e he hb
theorem ready_of {i : Nat} {listed : Array Bool} (hi : i < ops.size) (h1 : listed.getD i true = false) (h2 : ∀ j, j ∈ depsOf md ops i → listed.getD j false = true) : i ∈ Region.ready md ops listed := by
  have ho : ops[i]? = some ops[i] := Array.getElem?_eq_getElem hi
  exact mem_ready.2 ⟨h1, _, ho, fun e he hb => h2 _ ((mem_deps ho).2 ⟨e, he, hb, rfl⟩)⟩
theorem clos_listed {listed : Array Bool} (hc : Lclosed md ops listed) : ∀ (f : Nat) (S : List Nat), (∀ j, j ∈ S → listed.getD j false = true) → ∀ j, j ∈ clos md ops f S → listed.getD j false = true
  | 0, S, hS, j, hj => hS j hj
  | f + 1, S, hS, j, hj => by
    refine clos_listed hc f _ (fun i hi => ?_) j hj
    rw [List.mem_eraseDups, List.mem_append, List.mem_flatMap] at hi
    rcases hi with hi | ⟨x, hx, hi⟩
    · exact hS i hi
    · by_cases hlt : x < ops.size
      · exact hc x hlt (hS x hx) i hi
      · unfold depsOf at hi
        rw [Array.getElem?_eq_none (by omega)] at hi
        cases hi
theorem tailB_spec (h : tailB md ops k = true) (i : Nat) (hi : i < ops.size) : (∀ j, j ∈ depsOf md ops i → j < i) ∧ (k ≤ i → ∀ j, j < i → j ∈ clos md ops i (depsOf md ops i)) := by
  have := List.all_eq_true.1 h i (List.mem_range.2 hi)
  rw [Bool.and_eq_true, Bool.or_eq_true] at this
  refine ⟨fun j hj => by simpa using List.all_eq_true.1 this.1 j hj, fun hk j hj => ?_⟩
  rcases this.2 with h2 | h2
  · simp at h2; omega
  · simpa using List.all_eq_true.1 h2 j (List.mem_range.2 hj)
theorem ready_tail (h : tailB md ops k = true) {listed : Array Bool} (hc : Lclosed md ops listed) {i : Nat} (hr : i ∈ Region.ready md ops listed) (hk : k ≤ i) : ∀ j, j < i → listed.getD j false = true := by
  obtain ⟨h1, h2, h3⟩ := ready_deps hr
  exact fun j hj => clos_listed hc i _ h3 j ((tailB_spec h i h1).2 hk j hj)
theorem getD_flip {listed : Array Bool} {j : Nat} (h1 : listed.getD j true = false) (h2 : listed.getD j false = true) : False := by
  rcases Nat.lt_or_ge j listed.size with h | h
  · simp [h] at h1 h2; rw [h1] at h2; cases h2
  · simp [Array.getElem?_eq_none h] at h2
theorem closed_set {listed : Array Bool} (hc : Lclosed md ops listed) {i : Nat} (hr : i ∈ Region.ready md ops listed) : Lclosed md ops (listed.setIfInBounds i true) := by
  intro x hx hl j hj
  obtain ⟨h1, h2, h3⟩ := ready_deps hr
  by_cases e : i = x
  · subst e
    exact getD_set_true (h3 j hj)
  · rw [getD_set_ne false e] at hl
    exact getD_set_true (hc x hx hl j hj)
/-- Whatever order the first k come up in. -/
def wpAnyT (P : Program) (md : Region.Mode) (ops : Array Oper) (C : World → Prop) (k : Nat) (R : Act → Prop) : Nat → Array Bool → Act → Prop
  | 0, listed, a => (∀ j, j < k → listed.getD j false = true) ∧ R a
  | fuel + 1, listed, a => (∃ j, j < k ∧ listed.getD j true = false) ∧ ∀ i, i ∈ Region.ready md ops listed → i < k → qOp P ops C i (wpAnyT P md ops C k R fuel (listed.setIfInBounds i true)) a
theorem wpAnyT_first {R : Act → Prop} {i : Nat} {oi : Oper} {v : Value} (hik : i < k) (hi : ops[i]? = some oi) (hsel : ∀ (j : Nat) (o : Oper) cs b, ops[j]? = some o → o.op ≠ .select cs b) :
    ∀ (fuel : Nat) (listed : Array Bool) (a : Act),
      (∀ j oj, ops[j]? = some oj → j ≠ i → listed.getD j true = false → (∀ e ∈ oj.after, Region.binds md e = true → e.on ≠ i) → oi.apart ops oj = true) →
      i ∈ Region.ready md ops listed → YieldsIn P ops C oi v a →
      wpAnyT P md ops C k R fuel (listed.setIfInBounds i true) (a.put oi.dst v) → wpAnyT P md ops C k R (fuel + 1) listed a := by
  intro fuel
  induction fuel with
  | zero =>
    intro listed a _ hr hy H
    refine ⟨⟨i, hik, (mem_ready.1 hr).1⟩, fun j hj hjk => ?_⟩
    by_cases hji : j = i
    · subst hji; exact hy.qOp hi H
    · have h1 := (mem_ready.1 (ready_mono hj hji)).1
      exact (getD_flip h1 (H.1 j hjk)).elim
  | succ fuel ih =>
    intro listed a hfree hr hy H
    refine ⟨⟨i, hik, (mem_ready.1 hr).1⟩, fun j hj hjk => ?_⟩
    by_cases hji : j = i
    · subst hji; exact hy.qOp hi H
    · have h1 := H.2 j (ready_mono hj hji) hjk
      obtain ⟨hjun, oj, hoj, hall⟩ := mem_ready.1 hj
      have hnot : ∀ e ∈ oj.after, Region.binds md e = true → e.on ≠ i := fun e he hb heq => by
        have h1 := hall e he hb
        have h0 := (mem_ready.1 hr).1
        rw [heq] at h1
        exact getD_flip h0 h1
      have h2 := qOp_put hoj (hfree j oj hoj hji hjun hnot) (fun cs b => hsel i oi cs b hi) (fun cs b => hsel j oj cs b hoj) hy h1
      have hfree' : ∀ m om, ops[m]? = some om → m ≠ i → (listed.setIfInBounds j true).getD m true = false →
          (∀ e ∈ om.after, Region.binds md e = true → e.on ≠ i) → oi.apart ops om = true := fun m om hm hmi hun hno => by
        refine hfree m om hm hmi ?_ hno
        by_cases hjm : j = m
        · subst hjm; exact hjun
        · rw [getD_set_ne true hjm] at hun; exact hun
      refine qOp_mono (fun a' h3 => ih (listed.setIfInBounds j true) a' hfree' (ready_mono hr (Ne.symm hji)) h3.1 ?_) h2
      rw [Array.setIfInBounds_comm _ _ hji]
      exact h3.2
theorem wpAnyT_lex {R : Act → Prop} (hs : Region.noSelect ops = true) : ∀ (l : List Oper) (p : Nat) (listed : Array Bool) (a : Act), (∀ j, j < l.length → l[j]? = ops[p + j]?) → p + l.length = k →
    lexPre md ops l.length p listed = true → wpQuiet P ops C R l a → wpAnyT P md ops C k R l.length listed a
  | [], p, listed, a, _, hk, hB, h => by
    refine ⟨fun j hj => ?_, h⟩
    simp at hk
    exact List.all_eq_true.1 hB j (List.mem_range.2 (by omega))
  | o :: l, p, listed, a, hl, hk, hB, h => by
    have h0 : ops[p]? = some o := by simpa using (hl 0 (by simp)).symm
    simp only [List.length_cons] at hk
    simp only [List.length_cons, lexPre, Bool.and_eq_true] at hB
    obtain ⟨⟨hr, hf⟩, hB'⟩ := hB
    have hst : qOp P ops C p (wpQuiet P ops C R l) a := by unfold qOp; simp only [h0]; exact h
    obtain ⟨v, hy, hK⟩ := yieldsIn_of_qOp h0 hst
    exact wpAnyT_first (by omega) h0 (Region.noSelect_spec hs) l.length listed a (Region.free_spec h0 hf) (by simpa using hr) hy
      (wpAnyT_lex hs l (p + 1) _ _ (fun j hj => by have := hl (j + 1) (by simp; omega); simpa [Nat.add_assoc, Nat.add_comm 1 j] using this) (by omega) hB' hK)
theorem least_ready (h : tailB md ops k = true) (hk : k ≤ ops.size) {listed : Array Bool} (hex : ∃ j, j < k ∧ listed.getD j true = false) : Region.ready md ops listed ≠ [] := by
  have key : ∀ n, ∀ j, j < n → j < k → listed.getD j true = false → ∃ i, i ∈ Region.ready md ops listed := by
    intro n
    induction n with
    | zero => intro j hj; omega
    | succ n ih =>
      intro j hj hjk hun
      by_cases hall : ∀ x, x < j → listed.getD x false = true
      · exact ⟨j, ready_of (by omega) hun (fun x hx => hall x ((tailB_spec h j (by omega)).1 x hx))⟩
      · obtain ⟨x, hx⟩ := Classical.not_forall.1 hall
        obtain ⟨hxj, hxu⟩ := Classical.not_imp.1 hx
        rcases Nat.lt_or_ge x listed.size with hs | hs
        · refine ih x (by omega) (by omega) ?_
          simp [hs] at hxu ⊢
          exact hxu
        · have hj2 : listed.getD j true = true := by simp [Array.getElem?_eq_none (show listed.size ≤ j by omega)]
          rw [hj2] at hun; cases hun
  obtain ⟨j, hjk, hun⟩ := hex
  obtain ⟨i, hi⟩ := key (j + 1) j (by omega) hjk hun
  intro e
  rw [e] at hi
  cases hi
theorem wpAny_of_T {R : Act → Prop} {Q : Exit → Act → World → Prop} (ht : tailB md ops k = true) (hk : k ≤ ops.size) (m : Nat)
    (hR : ∀ (listed : Array Bool) (a : Act) (w : World), C w → R a → listed.size = ops.size → (∀ j, j < k → listed.getD j false = true) → (∀ j, k ≤ j → j < ops.size → listed.getD j true = false) → Lclosed md ops listed → wpAny P md ops Q m listed a w) :
    ∀ (fuel : Nat) (listed : Array Bool) (a : Act) (w : World), C w → listed.size = ops.size → (∀ j, k ≤ j → j < ops.size → listed.getD j true = false) → Lclosed md ops listed → wpAnyT P md ops C k R fuel listed a → wpAny P md ops Q (fuel + m) listed a w
  | 0, listed, a, w, hw, hsz, hun, hc, H => by rw [Nat.zero_add]; exact hR listed a w hw H.2 hsz H.1 hun hc
  | fuel + 1, listed, a, w, hw, hsz, hun, hc, H => by
    rw [show fuel + 1 + m = (fuel + m) + 1 by omega]
    refine ⟨fun e => absurd e (least_ready ht hk H.1), fun i hi => ?_⟩
    have hik : i < k := by
      rcases Nat.lt_or_ge i k with h | h
      · exact h
      · obtain ⟨j, hjk, hju⟩ := H.1
        exact (getD_flip hju (ready_tail ht hc hi h j (by omega))).elim
    refine wpOp_of_qOp hw (fun a' w' hw' h => wpAny_of_T ht hk m hR fuel _ a' w' hw' (by simp [hsz]) (fun j h1 h2 => ?_) (closed_set hc hi) h) (H.2 i hi hik)
    rw [getD_set_ne true (by omega)]
    exact hun j h1 h2
theorem wpAny_tail {Q : Exit → Act → World → Prop} (ht : tailB md ops k = true) : ∀ (l : List Oper) (m : Nat) (listed : Array Bool) (a : Act) (w : World), (∀ j, l[j]? = ops[m + j]?) → m + l.length = ops.size → k ≤ m → listed.size = ops.size → (∀ j, j < m → listed.getD j false = true) →
    (∀ j, m ≤ j → j < ops.size → listed.getD j true = false) → Lclosed md ops listed → wpList P ops Q l a w → wpAny P md ops Q l.length listed a w
  | [], m, listed, a, w, hl, hm, hk, hsz, h1, h2, hc, hw => by
    refine ⟨?_, hw⟩
    refine List.eq_nil_iff_forall_not_mem.2 (fun i hi => ?_)
    obtain ⟨hi1, hi2, _⟩ := ready_deps hi
    simp at hm
    exact getD_flip hi2 (h1 i (by omega))
  | o :: l, m, listed, a, w, hl, hm, hk, hsz, h1, h2, hc, hw => by
    have h0 : ops[m]? = some o := by simpa using (hl 0).symm
    simp only [List.length_cons] at hm
    have hml : m < ops.size := by omega
    have hmr : m ∈ Region.ready md ops listed := ready_of hml (h2 m (Nat.le_refl _) hml) (fun j hj => h1 j ((tailB_spec ht m hml).1 j hj))
    refine ⟨(fun e => by rw [e] at hmr; cases hmr), fun i hi => ?_⟩
    have him : i = m := by
      obtain ⟨hi1, hi2, _⟩ := ready_deps hi
      rcases Nat.lt_trichotomy i m with h | h | h
      · exact (getD_flip hi2 (h1 i h)).elim
      · exact h
      · exact (getD_flip (h2 m (Nat.le_refl _) hml) (ready_tail ht hc hi (by omega) m h)).elim
    subst him
    have hop : wpOp P ops Q i (wpList P ops Q l) a w := by
      unfold wpOp
      simp only [h0]
      exact hw
    refine wpOp_mono (fun a' w' h => wpAny_tail ht l (i + 1) _ a' w' (fun j => by have := hl (j + 1); simpa [Nat.add_assoc, Nat.add_comm 1 j] using this) (by omega) (by omega) (by simp [hsz]) (fun j hj => ?_) (fun j hj1 hj2 => ?_) (closed_set hc hi) h) hop
    · by_cases e : i = j
      · subst e
        simp [hsz, hml]
      · rw [getD_set_ne false e]; exact h1 j (by omega)
    · rw [getD_set_ne true (by omega)]; exact h2 j (by omega) hj2
/-- The first k in any order, then the others. -/
theorem wp_region_mix {id : Nat} {Q : Exit → Act → World → Prop} {a : Act} {w : World} (hmx : P.follows .mixedOrders = true) (hB : mixB ops k = true) (hC : C { w with drawn := w.drawn + 1 })
    (h : wpQuiet P ops C (fun a' => ∀ w', C w' → wpList P ops Q (ops.toList.drop k) a' w') (ops.toList.take k) a) : (Code.region id ops true).wp P Q a w := by
  unfold mixB at hB
  simp only [Bool.and_eq_true, decide_eq_true_eq] at hB
  obtain ⟨⟨⟨hs, hk⟩, ht⟩, hl⟩ := hB
  refine wp_region_any hmx ?_
  have hlen : (ops.toList.take k).length = k := by simp; omega
  have hT := wpAnyT_lex (P := P) (md := .any) (C := C) (k := k) hs (ops.toList.take k) 0 (Array.replicate ops.size false) a (fun j hj => by
    rw [hlen] at hj
    rw [List.getElem?_take, if_pos hj, Nat.zero_add, Array.getElem?_toList]) (by omega) (by rw [hlen]; exact hl) h
  rw [hlen] at hT
  have hsz : ops.size = k + (ops.toList.drop k).length := by simp; omega
  have hcl : Lclosed .any ops (Array.replicate ops.size false) := fun i hi hx => by simp [hi] at hx
  have key := wpAny_of_T (Q := Q) ht hk (ops.toList.drop k).length (fun listed a' w' hw' hR hz h1 h2 hc =>
    wpAny_tail ht (ops.toList.drop k) k listed a' w' (fun j => by rw [List.getElem?_drop, Array.getElem?_toList]) (by simp; omega) (Nat.le_refl _) hz h1 h2 hc (hR w' hw')) k _ a _ hC (by simp) (fun j _ hj => by simp [hj]) hcl hT
  rw [← hsz] at key
  exact key
end
section
variable {P : Program} {T : TT} {FF : FL} {st : St}
/-- **A region that draws its order**: k operations that only read, then the others in the text's order. -/
theorem drawV_mix [HasGl P] (k : Nat) {id : Nat} {ops : Array Oper} {K : St → Prop} (hmx : P.follows .mixedOrders = true) (hB : mixB ops k = true) (hT : TTok P T) (hF : FTok P FF)
    (hp : qopsP P T FF ops (ops.toList.take k) st (fun st' => opsP P T FF ops (ops.toList.drop k) st' K)) : DrawV P id ops K st := by
  refine ⟨fun may w0 h0 a w hs => ?_⟩
  obtain ⟨⟨L, F, h, hm, ha, hsub, hnew⟩, hk⟩ := hs
  refine wp_region_mix (k := k) (C := fun w' => Below w.heap.size w w') hmx hB ⟨rfl, rfl, rfl, Nat.le_refl _, fun _ _ => rfl⟩ ?_
  refine wpQuiet_mono (fun a' hq w' hw' => ?_) _ _ (quiet_ops (HasGl.mono h0.gl hsub.sub.m) hT hF hm (ops.toList.take k) st a ⟨rfl, rfl⟩ hp ha)
  obtain ⟨st', k1, k2, k3⟩ := hq
  refine ops_ok (may := may) (w0 := w0) (h0 := h0) (K := K) hT hF (fun st'' a'' w'' h1 h2 => ⟨rfl, st'', h1, h2⟩) _ st' a' w' k3 ⟨⟨L, F, h, ?_, k1, by rw [k2.2]; exact hsub, hnew⟩, keep_below hk hw'⟩
  rw [k2.1]
  exact mem_same hm (same_below hm hw') hw'.size
end
section
variable {P : Program} {T : TT} {FF : FL} {may : Nat → Prop} {st : St} {a : Act} {w w0 : World}
theorem exists_least {R : Nat → Prop} (h : ∃ n, R n) : ∃ n, R n ∧ ∀ m, R m → n ≤ m := by
  obtain ⟨n, hn⟩ := h
  induction n using Nat.strongRecOn with
  | ind n ih =>
    by_cases hl : ∃ m, m < n ∧ R m
    · obtain ⟨m, h1, h2⟩ := hl
      exact ih m h1 h2
    · exact ⟨n, hn, fun m hm => Nat.le_of_not_lt (fun h => hl ⟨m, h, hm⟩)⟩
theorem least_ex (R : Nat → Prop) : ∃ n, (∃ m, R m) → R n ∧ ∀ m, R m → n ≤ m := by
  by_cases h : ∃ m, R m
  · obtain ⟨n, hn⟩ := exists_least h
    exact ⟨n, fun _ => hn⟩
  · exact ⟨0, fun k => absurd k h⟩
/-- **A loop**, by what holds at the head of each round (n goes down). -/
theorem loopV [HasGl P] (hT : TTok P T) (hF : FTok P FF) {c : Code} {Q : Ex → St → Prop} (I : Nat → St → Prop) {n : Nat} {st st1 : St} (hw : Weak st st1) (hI : I n st1)
    (hs : ∀ n st, I n st → vc P T FF c (fun e st' => match e with | .normal => ∃ m st'', m < n ∧ Weak st' st'' ∧ I m st'' | .exit i => Q (.exit i) st' | .ret => Q .ret st') st) : LoopV P c Q st := by
  refine ⟨fun may w0 h0 a w hsat => ?_⟩
  let R : Nat → Act → World → Prop := fun n a w => ∃ st, I n st ∧ Sat may w0 h0 st a w
  have hR : ∃ n, R n a w := ⟨n, st1, hI, hw.out _ _ _ _ _ hsat⟩
  refine wp_loop (fun a w => ∃ n, R n a w) (fun a w => Classical.choose (least_ex fun n => R n a w)) hR (fun a w hex => ?_)
  obtain ⟨st2, h1, h2⟩ := (Classical.choose_spec (least_ex fun n => R n a w) hex).1
  refine Code.wp_mono (fun e a' w' hh => ?_) (vc_ok hT hF c _ st2 a w (hs _ st2 h1) h2)
  obtain ⟨e', st', rfl, k1, k2⟩ := hh
  cases e' with
  | normal =>
    obtain ⟨m, st'', hlt, hwk, hI2⟩ := k2
    have hm : R m a' w' := ⟨st'', hI2, hwk.out _ _ _ _ _ k1⟩
    exact ⟨⟨m, hm⟩, Nat.lt_of_le_of_lt ((Classical.choose_spec (least_ex fun n => R n a' w') ⟨m, hm⟩).2 m hm) hlt⟩
  | exit i => exact ⟨.exit i, st', rfl, k1, k2⟩
  | ret => exact ⟨.ret, st', rfl, k1, k2⟩

/-- A loop that goes round fewer than n times. -/
def vcR (P : Program) [HasGl P] (T : TT) (FF : FL) (c : Code) (Q : Ex → St → Prop) (n : Nat) : St → Prop :=
  Nat.rec (motive := fun _ => St → Prop) (fun _ => False)
    (fun _ ih st => vc P T FF c (fun e st' => match e with | .normal => ih st' | .exit i => Q (.exit i) st' | .ret => Q .ret st') st) n
theorem loop_rounds [HasGl P] (n : Nat) (hT : TTok P T) (hF : FTok P FF) {c : Code} {Q : Ex → St → Prop} {st : St} (hp : vcR P T FF c Q n st) : LoopV P c Q st := by
  refine ⟨fun may w0 h0 a w hsat => wp_loop_rounds n ?_⟩
  induction n generalizing st a w with
  | zero => exact hp.elim
  | succ n ih =>
    refine Code.wp_mono (fun e a' w' hh => ?_) (vc_ok hT hF c _ st a w hp hsat)
    obtain ⟨e', st', rfl, k1, k2⟩ := hh
    cases e' with
    | normal => exact ih k2 a' w' k1
    | exit i => exact ⟨.exit i, st', rfl, k1, k2⟩
    | ret => exact ⟨.ret, st', rfl, k1, k2⟩
/-- Lay own objects still ahead of a loop. -/
theorem loopV_frz [HasGl P] (l : List Nat) {c : Code} {Q : Ex → St → Prop} {st : St} (hp : frzL l st fun st => LoopV P c Q st) : LoopV P c Q st := by
  refine ⟨fun may w0 h0 a w hs => ?_⟩
  obtain ⟨st', h1, h2⟩ := frzL_sat l st hp hs
  exact h2.out may w0 h0 a w h1
/-- A loop whose ways out meet: J holds behind it. -/
theorem loopV_cut [HasGl P] (id : Nat) (J : St → Prop) {c : Code} {Q : Ex → St → Prop} {st : St} (h1 : LoopV P c (fun e st' => match e with | .exit i => i = id ∧ ∃ st1, Weak st' st1 ∧ J st1 | .normal => False | .ret => Q .ret st') st) (h2 : ∀ st1, J st1 → Q (.exit id) st1) : LoopV P c Q st := by
  refine ⟨fun may w0 h0 a w hs => ?_⟩
  refine Code.wp_mono (fun e a' w' hh => ?_) (h1.out may w0 h0 a w hs)
  obtain ⟨e', st', rfl, k1, k2⟩ := hh
  cases e' with
  | normal => exact k2.elim
  | exit i =>
    obtain ⟨rfl, st1, q1, q2⟩ := k2
    exact ⟨.exit i, st1, rfl, q1.out _ _ _ _ _ k1, h2 st1 q2⟩
  | ret => exact ⟨.ret, st', rfl, k1, k2⟩
end
end Go.Eng
