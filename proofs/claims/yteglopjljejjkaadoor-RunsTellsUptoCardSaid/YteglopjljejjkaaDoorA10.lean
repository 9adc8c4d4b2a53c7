/- A part of the proof: what the functions of the program come to, told by a small reckoner of states. -/
import Derived.Test.YteglopjljejjkaaDoorA9
set_option linter.unusedVariables false
set_option linter.unusedSimpArgs false
namespace Go.Eng
open Go Go.RowKit
section
variable {P : Program} (w : World)
theorem run_append_src_own (base : Nat) (t tx ty e : TypeId) (i : TypeInfo) (z : Value) (ht : P.underlying t = some (.slice e)) (hi : P.info? e = some i) (hz : i.zero = some z) (hzs : z.cells.size = i.size)
    (v : Value) (n : Nat) (xs : List Value) (hown : w.ownsRow base e i.size v n xs) (x : Value) (m : Nat) (news : List Value) (hs : Src P i.size tx x m news w)
    (h63 : n + m ≤ maxLen) (hbytes : (n + m) * i.bytes ≤ 140737488355328) (hbase : base ≤ w.heap.size) :
    ∃ v' w', (Builtin.append_ #[t, tx] ty #[v, x]).run P w = .ok v' w' ∧ w'.ownsRow base e i.size v' (n + m) (xs ++ news) ∧ w.grownBy w' v.ownBlock ∧
      (v'.ownBlock = none ∨ v'.ownBlock = v.ownBlock ∨ v'.ownBlock = some w.heap.size) := by
  have hsmall : n + m ≤ 9223372036854775807 := by simp only [maxLen] at h63; omega
  have hl := hs.newsLen
  have hlen : (xs ++ news).length = (n + m) * i.size := by rw [List.length_append, hown.1, hl, Nat.add_mul]
  have grown : ∀ (old : Nat), old < n + m → ∀ (row : Option Nat),
      (w.drew.alloc (.cells ((xs ++ news).toArray ++ Builtin.zeroCells z.cells (grownCap w (n + m) old e - (n + m))) e)).ownsRow base e i.size
        (.slice (some ⟨w.heap.size, 0, none⟩) (n + m) (grownCap w (n + m) old e)) (n + m) (xs ++ news) ∧
      w.grownBy (w.drew.alloc (.cells ((xs ++ news).toArray ++ Builtin.zeroCells z.cells (grownCap w (n + m) old e - (n + m))) e)) row := by
    intro old ho row
    have hge := grownCap_ge w (n + m) old e
    have hcm : grownCap w (n + m) old e ≤ maxLen := grownCap_le_maxLen w (n + m) old e h63
    refine ⟨⟨hlen, .inr ⟨w.heap.size, _, _, rfl, hbase, _root_.Go.heap_alloc_new w.drew _, hge, hcm, ?_, ?_⟩⟩, ⟨rfl, rfl, rfl, by simp, fun k hk _ => heap_alloc_old w.drew _ hk⟩⟩
    · simp only [Array.size_append, List.size_toArray, size_zeroCells, hzs, hlen, ← Nat.add_mul]
      congr 1
      omega
    · simp only [Array.toList_append]
      rw [← hlen]
      exact List.take_left
  rcases hown.2 with ⟨rfl, rfl⟩ | ⟨g, cap, cur, rfl, hbg, hg, hnc, hcm, hcs, htake⟩
  · have hx : xs = [] := List.eq_nil_of_length_eq_zero (by simpa using hown.1)
    subst hx
    by_cases hm : m = 0
    · subst hm
      have hn : news = [] := List.eq_nil_of_length_eq_zero (by simpa using hl)
      subst hn
      exact ⟨.slice none 0 0, w, run_append_nothing w t tx ty e i ht hi none 0 0 (Nat.le_refl _) x hs, World.ownsRow_nil w base e i.size, ⟨rfl, rfl, rfl, Nat.le_refl _, fun _ _ _ => rfl⟩, .inl rfl⟩
    · have hr := run_append_grow_src (P := P) w t tx ty e i z ht hi hz none 0 0 [] (run_firstCells_none w.drew i.size 0 0 0) x m news hs (by omega) (by omega) (growslice_fits (by omega) hbytes)
      have hgr := grown 0 (by omega) (Value.ownBlock (.slice none 0 0))
      exact ⟨_, _, hr, hgr.1, hgr.2, .inr (.inr rfl)⟩
  · by_cases hroom : n + m ≤ cap
    · have hfit : n * i.size + news.length ≤ cur.size := by rw [hl, hcs, ← Nat.add_mul]; exact Nat.mul_le_mul_right _ hroom
      have hst := run_storeCells_at (P := P) g (n * i.size) e news 0 cur w hg (by omega) hs.one
      simp only [Nat.add_zero] at hst
      have hr : (Builtin.append_ #[t, tx] ty #[.slice (some ⟨g, 0, none⟩) n cap, x]).run P w = .ok (.slice (some ⟨g, 0, none⟩) (n + m) cap) (w.setRow g (cur.toList.take (n * i.size) ++ news ++ cur.toList.drop (n * i.size + news.length)).toArray) := by
        rcases hs.kind with ⟨e', hk⟩ | hk <;> simp [Builtin.append_, run_underlying ht, run_underlying hk, sizeOf, typeInfo, hi, hs.len, hroom, hs.cells, Addr.add_lit, hst]
      refine ⟨_, _, hr, ⟨hlen, .inr ⟨g, cap, _, rfl, hbg, setRow_heap w g cur _ e _ hg, hroom, hcm, ?_, ?_⟩⟩, ⟨rfl, rfl, rfl, by simp, fun k _ hk => setRow_other w g k _ (fun e => hk (by simp [Value.ownBlock, e]))⟩, .inr (.inl rfl)⟩
      · simp only [List.size_toArray, List.length_append, List.length_take, List.length_drop, Array.length_toList]
        omega
      · rw [htake, ← hlen]
        exact List.take_left
    · have holds : ∀ j u, xs[j]? = some u → w.cell? ((⟨g, 0, none⟩ : Addr).add j) = some u := hown.cells (g := g) rfl
      have hr := run_append_grow_src (P := P) w t tx ty e i z ht hi hz (some ⟨g, 0, none⟩) n cap xs (run_firstCells_some w.drew i.size n _ n cap xs hown.1 (by simpa using holds)) x m news hs (by omega) (by omega) (growslice_fits (by omega) hbytes)
      have hgr := grown cap (by omega) (Value.ownBlock (.slice (some ⟨g, 0, none⟩) n cap))
      exact ⟨_, _, hr, hgr.1, hgr.2, .inr (.inr rfl)⟩
end

section
variable {P : Program} {T : TT} {FF : FL} {mine may : Nat → Prop} {L : Nat → Value} {F : Nat → Nat → Prop} {h : Hp} {st : St} {a : Act} {w w0 : World}
theorem value_upon {o : Oper} {v : Value} {w' : World} {Kc : Act → World → Prop} {Q : Exit → Act → World → Prop} (hr : (execOp a.eval o).run P w = .ok (.value v) w') (hk : Kc (a.put o.dst v) w') : o.wp P a w Kc Q := by
  unfold Oper.wp
  rw [hr]
  exact hk
theorem skip_upon {o : Oper} {w' : World} {Kc : Act → World → Prop} {Q : Exit → Act → World → Prop} (hr : (execOp a.eval o).run P w = .ok .skip w') (hk : Kc (a.put o.dst undef) w') : o.wp P a w Kc Q := by
  unfold Oper.wp
  rw [hr]
  exact hk
theorem keep_row (hk : Keep may w0 w) {b : Nat} (hb : mineOf may w0 b) (cs : Array Value) : Keep may w0 (w.setRow b cs) :=
  ⟨hk.os, hk.tape, hk.output, by rw [size_setRow]; exact hk.size, fun k hlt hn => by
    have hne : k ≠ b := fun e => by subst e; rcases hb with h | h; exact hn h; omega
    rw [setRow_other w b k _ hne]
    exact hk.block k hlt hn⟩
theorem denL_set {cs xs : List IC} {vs us : List Value} (h1 : DenL L h cs vs) (h2 : DenL L h xs us) (off : Nat) : DenL L h (cs.take off ++ xs ++ cs.drop (off + xs.length)) (vs.take off ++ us ++ vs.drop (off + us.length)) := by
  rw [h2.1]
  exact ((h1.take _).append h2).append (h1.drop _)
theorem blk_slice {v : Value} (hs : (∃ A n c, v = .slice A n c)) : blk v = v.ownBlock := by
  obtain ⟨A, n, c, rfl⟩ := hs
  cases A <;> rfl
theorem ownsRow_slice {w : World} {base e size n : Nat} {v : Value} {xs : List Value} (h : w.ownsRow base e size v n xs) : ∃ A n c, v = .slice A n c := by
  rcases h.2 with ⟨h, _⟩ | ⟨g, cap, cur, h, _⟩
  · exact ⟨_, _, _, h⟩
  · exact ⟨_, _, _, h⟩
/-- The values of n elements of sz cells, one behind the other. -/
def valsOf (n sz : Nat) (g : Nat → Nat → Value) : List Value := (List.range (n * sz)).map fun q => g (q / sz) (q % sz)
theorem valsOf_len (n sz : Nat) (g : Nat → Nat → Value) : (valsOf n sz g).length = n * sz := by simp [valsOf]
theorem valsOf_get {n sz : Nat} {g : Nat → Nat → Value} {k j : Nat} (hk : k < n) (hj : j < sz) : (valsOf n sz g)[k * sz + j]? = some (g k j) := by
  have hlt : k * sz + j < n * sz := by
    have : (k + 1) * sz ≤ n * sz := Nat.mul_le_mul_right _ hk
    rw [Nat.succ_mul] at this
    omega
  have hpos : 0 < sz := by omega
  have e1 : (k * sz + j) / sz = k := by rw [Nat.mul_comm, Nat.mul_add_div hpos, Nat.div_eq_of_lt hj, Nat.add_zero]
  have e2 : (k * sz + j) % sz = j := by rw [Nat.mul_comm, Nat.mul_add_mod, Nat.mod_eq_of_lt hj]
  simp [valsOf, hlt, e1, e2]
theorem valsOf_inv {n sz : Nat} {g : Nat → Nat → Value} {q : Nat} {u : Value} (hq : (valsOf n sz g)[q]? = some u) : ∃ k j, k < n ∧ j < sz ∧ q = k * sz + j ∧ u = g k j := by
  have hlt : q < n * sz := by have := (List.getElem?_eq_some_iff.1 hq).1; rwa [valsOf_len] at this
  have hpos : 0 < sz := by
    rcases Nat.eq_zero_or_pos sz with h0 | h0
    · subst h0; simp at hlt
    · exact h0
  refine ⟨q / sz, q % sz, ?_, Nat.mod_lt _ hpos, ?_, ?_⟩
  · exact (Nat.div_lt_iff_lt_mul hpos).2 hlt
  · rw [Nat.mul_comm]; exact (Nat.div_add_mod q sz).symm
  · simp [valsOf, hlt] at hq; exact hq.symm
theorem rowD_valsOf {n sz : Nat} {f : Nat → List IC} {g : Nat → Nat → Value} (hl : ∀ k, k < n → (f k).length = sz) (hr : ∀ k, k < n → ∀ (j : Nat) c, (f k)[j]? = some c → Den L h c (g k j)) : RowD L h sz n f (valsOf n sz g) := by
  refine ⟨hl, fun k hk j c hc => ⟨g k j, valsOf_get hk ?_, hr k hk j c hc⟩⟩
  have := (List.getElem?_eq_some_iff.1 hc).1
  rw [hl k hk] at this
  exact this
theorem newsOf_ok (hm : Mem mine L F h st.own w) {tx : TypeId} {d : TypeDesc} (hu : P.underlying tx = some d) {sz : Nat} {av : AV} {x : Value} (hd : DenA L h av x) {m : Nat} {g : Nat → List IC} (hn : newsOf st d sz av = some (m, g)) :
    ∃ vs, Src P sz tx x m vs w ∧ RowD L h sz m g vs := by
  unfold newsOf at hn
  split at hn
  · split at hn
    · rename_i e'
      cases hn
      obtain rfl := den_one hd
      exact ⟨[], Src.ofNil w hu 0, ⟨fun k hk => by omega, fun k hk => by omega⟩⟩
    · cases hn
  · rename_i j
    split at hn
    · rename_i e' e sz' n f ho
      split at hn
      · rename_i es
        have es := Nat.eq_of_beq_eq_true es
        subst es
        cases hn
        have hd : Den L h _ _ := hd
        cases hd with
        | row _ A n' c h1 h2 =>
        obtain ⟨vs, ⟨hl, hr⟩, hG, hR⟩ := hm.obs j _ ho
        rw [h2] at hr
        rcases hr with ⟨e1, e2⟩ | ⟨gb, cap, cur, e1, e2, e3, e4, e5, e6, e7⟩
        · cases e1
          refine ⟨[], ?_, ⟨fun k hk => by omega, fun k hk => by omega⟩⟩
          rw [e2]
          exact Src.ofNil w hu 0
        · cases e1
          refine ⟨vs, Src.ofSlice w hu ⟨gb, 0, none⟩ _ _ vs hl (fun q u hq => ?_) (fun u hu2 => ?_), hR⟩
          · rw [addr_plain, Nat.zero_add, blk_cell_at' e3]
            rw [← e7, List.getElem?_take] at hq
            split at hq
            · exact hq
            · cases hq
          · obtain ⟨q, hq, rfl⟩ := List.getElem_of_mem hu2
            have hlt : q < m * sz := by rw [← hl]; exact hq
            have hpos : 0 < sz := by
              rcases Nat.eq_zero_or_pos sz with h0 | h0
              · subst h0; simp at hlt
              · exact h0
            have hk : q / sz < m := (Nat.div_lt_iff_lt_mul hpos).2 hlt
            have hj : q % sz < (g (q / sz)).length := by rw [hR.len _ hk]; exact Nat.mod_lt _ hpos
            obtain ⟨u, h1, h2⟩ := hR.den _ hk (q % sz) (g (q / sz))[q % sz] (by simp [hj])
            have eq : q / sz * sz + q % sz = q := by rw [Nat.mul_comm]; exact Nat.div_add_mod q sz
            rw [eq, List.getElem?_eq_getElem hq] at h1
            cases h1
            exact h2.one
      · cases hn
    · cases hn
  · rename_i sz' n f
    split at hn
    · rename_i e'
      split at hn
      · rename_i es
        have es := Nat.eq_of_beq_eq_true es
        subst es
        cases hn
        have hd : Den L h _ _ := hd
        cases hd with
        | sl _ _ _ A c ad g' hc hmx hA hg hl hclo hr =>
        rcases Nat.eq_zero_or_pos m with h0 | hp
        · subst h0
          cases A with
          | none => exact ⟨[], Src.ofNil w hu c, ⟨fun k hk => by omega, fun k hk => by omega⟩⟩
          | some a2 => exact ⟨[], Src.ofSlice w hu a2 0 c [] (by simp) (fun j u hj => by simp at hj) (fun u hu => by simp at hu), ⟨fun k hk => by omega, fun k hk => by omega⟩⟩
        · obtain rfl := hA hp
          refine ⟨valsOf m sz g', Src.ofSlice w hu ad m c _ (valsOf_len _ _ _) (fun q u hq => ?_) (fun u hu2 => ?_), rowD_valsOf hl hr⟩
          · obtain ⟨k, j, hk, hj, rfl, rfl⟩ := valsOf_inv hq
            exact hcell_cell hm.hsub (hg k hk j hj)
          · obtain ⟨q, hq, e⟩ := List.getElem_of_mem hu2
            obtain ⟨k, j, hk, hj, rfl, rfl⟩ := valsOf_inv (q := q) (by rw [List.getElem?_eq_getElem hq, e])
            have hjl : j < (g k).length := by rw [hl k hk]; exact hj
            exact (hr k hk j (g k)[j] (by simp [hjl])).one
      · cases hn
    · cases hn
  · rename_i s
    split at hn
    · rename_i es
      have es := Nat.eq_of_beq_eq_true es
      subst es
      cases hn
      obtain rfl := den_one hd
      refine ⟨byteCells s, Src.ofString w hu s, ⟨fun k hk => rfl, fun k hk j c hc => ?_⟩⟩
      have hj : j = 0 := by have := (List.getElem?_eq_some_iff.1 hc).1; simp at this; exact this
      subst hj
      simp only [List.getElem?_cons_zero, Option.some.injEq] at hc
      subst hc
      refine ⟨.int .u8 ((s.data.toList.getD k 0).toNat : Int), ?_, .v _ rfl⟩
      have hk : k < s.data.toList.length := by simpa using hk
      have hk2 : k < s.data.size := by simpa using hk
      simp [byteCells, List.getD_eq_getElem?_getD]
      refine ⟨_, Array.getElem?_eq_getElem hk2, ?_⟩
      rw [Array.getElem?_eq_getElem hk2]
      rfl
    · cases hn
  · cases hn
theorem oldOf_ok (hm : Mem mine L F h st.own w) {e sz : Nat} {av : AV} {x : Value} (hd : DenA L h av x) {oi : Option Nat} {n : Nat} {f : Nat → List IC} (ho : oldOf st e sz av = some (oi, n, f)) :
    ∃ (vs : List Value) (G : Nat → Prop), w.ownsRow 0 e sz x n vs ∧ (∀ b, blk x = some b → G b) ∧ RowD L h sz n f vs ∧ (∀ b, G b → b < w.heap.size ∧ h.m b = none ∧ mine b) ∧ Mem mine L F h (without st.own oi) w ∧ (without st.own oi).length = st.own.length ∧ (∀ b, G b → ¬ footOf F (without st.own oi) b) := by
  unfold oldOf at ho
  split at ho
  · cases ho
    obtain rfl := den_one hd
    exact ⟨[], fun _ => False, World.ownsRow_nil w 0 e sz, (fun b hb => by cases hb), ⟨fun k hk => by omega, fun k hk => by omega⟩, (fun b hb => hb.elim), hm, rfl, fun b hb => hb.elim⟩
  · rename_i i
    split at ho
    · rename_i e' sz' n' f' hoi
      split at ho
      · rename_i es
        rw [Bool.and_eq_true] at es
        have e1 := Nat.eq_of_beq_eq_true es.1
        have e2 := Nat.eq_of_beq_eq_true es.2
        subst e1 e2
        cases ho
        have hd : Den L h _ _ := hd
        cases hd with
        | row _ A n' c h1 h2 =>
        obtain ⟨vs, k1, k2, k3⟩ := hm.obs i _ hoi
        rw [h2] at k1 k2
        refine ⟨vs, F i, k1, k2, k3, fun b hb => hm.foot i _ b hoi hb, mem_drop hm i, List.length_set .., fun b hb => ?_⟩
        rintro ⟨j, oj, hj, hF⟩
        obtain ⟨q1, q2⟩ := set_none_get hj
        exact q2 (hm.dis j i oj _ b q1 hoi hF hb)
      · cases ho
    · cases ho
  · cases ho
theorem append_ok (hT : TTok P T) (hm : Mem mine L F h st.own w) (hmine : ∀ b, w.heap.size ≤ b → mine b) {t tx ty e : TypeId} {te : TI} {d : TypeDesc} (hte : TF P e te) (ht : P.underlying t = some (.slice e)) (htx : P.underlying tx = some d) (hz : te.zero.cells.size = te.size)
    {av aw : AV} {vx vy : Value} (hx : DenA L h av vx) (hy : DenA L h aw vy) {oi : Option Nat} {n m : Nat} {f g : Nat → List IC} (ho : oldOf st e te.size av = some (oi, n, f)) (hn : newsOf st d te.size aw = some (m, g))
    (h63 : n + m ≤ 9223372036854775807) (hb : (n + m) * te.bytes ≤ 140737488355328) {n' : Nat} {f' : Nat → List IC} (hn' : n' = n + m) (hf1 : ∀ k, k < n → f' k = f k) (hf2 : ∀ k, k < m → f' (n + k) = g k) :
    ∃ v' w' G', (Builtin.append_ #[t, tx] ty #[vx, vy]).run P w = .ok v' w' ∧ Mem mine L F h (without st.own oi) w' ∧ (∀ L' h', Sub h h' → (∀ i, i < h.n → L' i = L i) → ObOk L' h' w' v' G' (.row e te.size n' f')) ∧ (∀ b, G' b → b < w'.heap.size ∧ h.m b = none ∧ mine b) ∧ (∀ b, G' b → ¬ footOf F (without st.own oi) b) ∧
      (without st.own oi).length = st.own.length ∧ (∃ A c, v' = .slice A n' c) ∧ (∀ may w0, mine = mineOf may w0 → Keep may w0 w → Keep may w0 w') := by
  subst hn'
  have hi := hte.info
  cases hinfo : P.info? e with
  | none => rw [hinfo] at hi; cases hi
  | some ie =>
  rw [hinfo] at hi
  simp only [Option.map_some, Option.some.injEq, Prod.mk.injEq] at hi
  obtain ⟨i1, i2, i3⟩ := hi
  have hml : maxLen = 9223372036854775807 := rfl
  obtain ⟨vs, G, q1, q2, q3, q4, q5, q6, q7⟩ := oldOf_ok hm hx ho
  obtain ⟨us, s1, s2⟩ := newsOf_ok hm htx hy hn
  have hsz : te.size = ie.size := i2.symm
  have q1' := q1
  have s1' := s1
  rw [hsz] at q1 s1
  obtain ⟨v', w', r1, r2, r3, r4⟩ := run_append_src_own (P := P) w 0 t tx ty e ie te.zero ht hinfo i1 (by rw [hz, hsz]) vx n vs q1 vy m us s1 (by rw [hml]; exact h63) (by rw [i3]; exact hb) (Nat.zero_le _)
  have hblk : blk vx = vx.ownBlock := blk_slice (ownsRow_slice q1)
  have hblk' : blk v' = v'.ownBlock := blk_slice (ownsRow_slice r2)
  have hw' : ∀ k, k < w.heap.size → ¬ G k → w'.heap[k]? = w.heap[k]? := fun k hk hn => r3.block k hk (fun e => hn (q2 k (by rw [hblk, ← e])))
  have hm1 : Mem mine L F h (without st.own oi) w' := by
    refine mem_move q5 r3.size (fun k o hk => ?_) (fun b hb => ?_)
    · refine hw' k (Array.getElem?_eq_some_iff.1 (hm.hsub k o hk)).1 (fun hG => ?_)
      have := (q4 k hG).2.1
      rw [this] at hk; cases hk
    · obtain ⟨j, oj, hj, hF⟩ := hb
      exact hw' b (q5.foot j oj b hj hF).1 (fun hG => q7 b hG ⟨j, oj, hj, hF⟩)
  have hnb : ∀ b, blk v' = some b → h.m b = none ∧ mine b ∧ ¬ footOf F (without st.own oi) b ∧ b < w'.heap.size := fun b hb => by
    have hlt : b < w'.heap.size := by
      rcases r2.2 with ⟨e1, _⟩ | ⟨g, cap, cur, e1, e2, e3, _⟩
      · rw [e1] at hb; cases hb
      · rw [e1] at hb; cases hb; exact (Array.getElem?_eq_some_iff.1 e3).1
    rw [hblk'] at hb
    rcases r4 with r4 | r4 | r4
    · rw [r4] at hb; cases hb
    · rw [r4, ← hblk] at hb
      have := q4 b (q2 b hb)
      exact ⟨this.2.1, this.2.2, q7 b (q2 b hb), hlt⟩
    · rw [r4] at hb
      cases hb
      refine ⟨hp_new hm.hsub (Nat.le_refl _), hmine _ (Nat.le_refl _), fun ⟨j, oj, hj, hF⟩ => ?_, hlt⟩
      have := (q5.foot j oj _ hj hF).1
      omega
  refine ⟨v', w', fun b => blk v' = some b, r1, hm1, fun L' h' hs hL => ⟨vs ++ us, by rw [hsz]; exact r2, fun b hb => hb, ?_⟩, fun b hb => ⟨(hnb b hb).2.2.2, (hnb b hb).1, (hnb b hb).2.1⟩, fun b hb => (hnb b hb).2.2.1, q6, ?_, fun may w0 hme hk => ?_⟩
  · have hR : RowD L h te.size (n + m) f' (vs ++ us) := by
      have hlen : vs.length = n * te.size := q1'.1
      refine ⟨fun k hk => ?_, fun k hk j c hc => ?_⟩
      · rcases Nat.lt_or_ge k n with hlt | hge
        · rw [hf1 k hlt]; exact q3.len k hlt
        · have := hf2 (k - n) (by omega)
          rw [show n + (k - n) = k by omega] at this
          rw [this]; exact s2.len _ (by omega)
      · rcases Nat.lt_or_ge k n with hlt | hge
        · rw [hf1 k hlt] at hc
          obtain ⟨u, h1, h2⟩ := q3.den k hlt j c hc
          refine ⟨u, ?_, h2⟩
          rw [List.getElem?_append_left (List.getElem?_eq_some_iff.1 h1).1]
          exact h1
        · have e1 := hf2 (k - n) (by omega)
          rw [show n + (k - n) = k by omega] at e1
          rw [e1] at hc
          obtain ⟨u, h1, h2⟩ := s2.den _ (by omega) j c hc
          refine ⟨u, ?_, h2⟩
          have e2 : k * te.size + j = vs.length + ((k - n) * te.size + j) := by
            rw [hlen]
            have : k * te.size = n * te.size + (k - n) * te.size := by rw [← Nat.add_mul]; congr 1; omega
            omega
          rw [e2, List.getElem?_append_right (by omega), Nat.add_sub_cancel_left]
          exact h1
    exact hR.mono hs hL
  · rcases r2.2 with ⟨e1, e2⟩ | ⟨g, cap, cur, e1, _⟩
    · exact ⟨none, 0, by rw [e1, e2]⟩
    · exact ⟨_, _, e1⟩
  · refine ⟨r3.os.trans hk.os, r3.tape.trans hk.tape, r3.output.trans hk.output, Nat.le_trans hk.size r3.size, fun k hlt hno => ?_⟩
    rw [hw' k (Nat.lt_of_lt_of_le hlt hk.size) (fun hG => by
      have := (q4 k hG).2.2
      rw [hme] at this
      rcases this with h3 | h3
      · exact hno h3
      · omega)]
    exact hk.block k hlt hno
end
end Go.Eng
