/- A part of the proof: what the functions of the program come to, told by a small reckoner of states. -/
import Derived.Test.YteglopjljejjkaaDoorA11
import Derived.Lib.AppendZerosOnto
set_option linter.unusedVariables false
set_option linter.unusedSimpArgs false
namespace Go.Eng
open Go Go.RowKit
section
variable {P : Program} {T : TT} {FF : FL} {mine may : Nat → Prop} {L : Nat → Value} {F : Nat → Nat → Prop} {h : Hp} {st : St} {a : Act} {w w0 : World}
theorem mem_drew {own : List (Option Ob)} (hm : Mem mine L F h own w) : Mem mine L F h own w.drew := mem_move hm (Nat.le_refl _) (fun _ _ _ => rfl) (fun _ _ => rfl)
theorem keep_drew (hk : Keep may w0 w) : Keep may w0 w.drew := ⟨hk.os, hk.tape, hk.output, hk.size, hk.block⟩
/-- What is read of a row, or a part of an array, for copy and append: its values; and the run of the model's reads. -/
structure VSrc (P : Program) (L : Nat → Value) (h : Hp) (w : World) (sz : Nat) (x : Value) (m r : Nat) (g : Nat → List IC) (vs : List Value) : Prop where
  sl : ∃ A c, x = .slice A m c
  len : vs.length = r * sz
  first : ∀ k, k ≤ r → (Builtin.firstCells sz k x).run P w = .ok (vs.take (k * sz)).toArray w
  row : RowD L h sz r g vs
  one : ∀ u ∈ vs, u.oneCell' = true
theorem rowD_one {sz m : Nat} {g : Nat → List IC} {vs : List Value} (hl : vs.length = m * sz) (hR : RowD L h sz m g vs) : ∀ u ∈ vs, u.oneCell' = true := fun u hu2 => by
  obtain ⟨q, hq, rfl⟩ := List.getElem_of_mem hu2
  have hlt : q < m * sz := by rw [← hl]; exact hq
  have hpos : 0 < sz := by
    rcases Nat.eq_zero_or_pos sz with h0 | h0
    · subst h0; simp at hlt
    · exact h0
  have hk : q / sz < m := (Nat.div_lt_iff_lt_mul hpos).2 hlt
  have hj : q % sz < (g (q / sz)).length := by rw [hR.len _ hk]; exact Nat.mod_lt _ hpos
  obtain ⟨u, h1, h2⟩ := hR.den _ hk (q % sz) (g (q / sz))[q % sz] (by simp [hj])
  have eq : q / sz * sz + q % sz = q := by rw [Nat.mul_comm]; exact Nat.div_add_mod q sz
  rw [eq, List.getElem?_eq_getElem hq] at h1
  cases h1
  exact h2.one
theorem VSrc.mk' {sz m r c : Nat} {A : Option Addr} {ad : Addr} {g : Nat → List IC} {vs : List Value} (hl : vs.length = r * sz) (hA : 0 < r → A = some ad) (hc : ∀ (j : Nat) u, vs[j]? = some u → w.cell? (ad.add j) = some u) (hR : RowD L h sz r g vs) :
    VSrc P L h w sz (.slice A m c) m r g vs := by
  refine ⟨⟨A, c, rfl⟩, hl, fun k hk => ?_, hR, rowD_one hl hR⟩
  have hlen : (vs.take (k * sz)).length = k * sz := by
    rw [List.length_take, hl]; exact Nat.min_eq_left (Nat.mul_le_mul_right _ hk)
  cases A with
  | none =>
    have hm : r = 0 := by
      rcases Nat.eq_zero_or_pos r with h0 | h0
      · exact h0
      · have := hA h0; cases this
    subst hm
    have : vs = [] := List.eq_nil_of_length_eq_zero (by rw [hl]; simp)
    subst this
    simp [Builtin.firstCells]
  | some a2 =>
    rcases Nat.eq_zero_or_pos r with h0 | h0
    · subst h0
      have : vs = [] := List.eq_nil_of_length_eq_zero (by rw [hl]; simp)
      subst this
      obtain rfl : k = 0 := by omega
      simp [Builtin.firstCells, loadCells, loadCellsFrom]
    · obtain e := hA h0
      cases e
      have := run_loadCells_list (P := P) w ad (vs.take (k * sz)) (fun j v hj => hc j v (by
        rw [List.getElem?_take] at hj
        split at hj
        · exact hj
        · cases hj))
      rw [hlen] at this
      simpa [Builtin.firstCells] using this
/-- .. as the kit's words for append. -/
theorem VSrc.src {tx e' : TypeId} (hk : P.underlying tx = some (.slice e')) {sz m : Nat} {x : Value} {g : Nat → List IC} {vs : List Value} (hv : VSrc P L h w sz x m m g vs) (hd : VSrc P L h w.drew sz x m m g vs) : Src P sz tx x m vs w := by
  obtain ⟨A, c, rfl⟩ := hv.sl
  have e : vs.take (m * sz) = vs := by rw [← hv.len]; exact List.take_length ..
  refine ⟨.inl ⟨e', hk⟩, fun _ => rfl, ?_, ?_, hv.len, hv.one⟩
  · have := hv.first m (Nat.le_refl _); rw [e] at this; exact this
  · have := hd.first m (Nat.le_refl _); rw [e] at this; exact this
/-- What copy and append read. -/
theorem rowD_take {sz m : Nat} {g : Nat → List IC} {vs : List Value} (hR : RowD L h sz m g vs) {k : Nat} (hk : k ≤ m) : RowD L h sz k g (vs.take (k * sz)) := by
  refine ⟨fun q hq => hR.len q (by omega), fun q hq j c hc => ?_⟩
  obtain ⟨u, h1, h2⟩ := hR.den q (by omega) j c hc
  have hj : j < sz := by have := (List.getElem?_eq_some_iff.1 hc).1; rw [hR.len q (by omega)] at this; exact this
  refine ⟨u, ?_, h2⟩
  have : (q + 1) * sz ≤ k * sz := Nat.mul_le_mul_right _ hq
  rw [Nat.succ_mul] at this
  rw [List.getElem?_take, if_pos (by omega)]
  exact h1
theorem VSrc.less {sz m r : Nat} {x : Value} {g : Nat → List IC} {vs : List Value} (hv : VSrc P L h w sz x m m g vs) (hr : r ≤ m) : VSrc P L h w sz x m r g (vs.take (r * sz)) := by
  have hle : r * sz ≤ m * sz := Nat.mul_le_mul_right _ hr
  refine ⟨hv.sl, by rw [List.length_take, hv.len]; exact Nat.min_eq_left hle, fun k hk => ?_, rowD_take hv.row hr, fun u hu => hv.one u (List.mem_of_mem_take hu)⟩
  rw [List.take_take, Nat.min_eq_left (Nat.mul_le_mul_right _ hk)]
  exact hv.first k (Nat.le_trans hk hr)
theorem vsrc_ok (hm : Mem mine L F h st.own w) {d : TypeDesc} {sz : Nat} {av : AV} {x : Value} (hd : DenA L h av x) {pre : Nat → Prop} {m : Nat} {g : Nat → List IC} (hn : vsrc st d sz av = some (pre, m, g)) {r : Nat} (hr0 : r ≤ m) (hp : pre r) :
    (∃ e, d = .slice e) ∧ ∃ vs, ∀ w', (∀ b, (h.m b ≠ none ∨ footOf F st.own b) → w'.heap[b]? = w.heap[b]?) → VSrc P L h w' sz x m r g vs := by
  unfold vsrc at hn
  split at hn
  · split at hn
    · rename_i e'
      cases hn
      obtain rfl := den_one hd
      exact ⟨⟨_, rfl⟩, List.take (r * sz) [], fun w' _ => (VSrc.mk' (vs := []) (ad := ⟨0, 0, none⟩) (by simp) (fun hp => by omega) (fun j u hj => by simp at hj) ⟨fun k hk => by omega, fun k hk => by omega⟩).less hr0⟩
    · cases hn
  · rename_i j
    split at hn
    · rename_i e' e sz' n f ho
      split at hn
      · rename_i es
        have es := Nat.eq_of_beq_eq_true es
        subst es
        cases hn
        have hd : Den L h _ _ := hd
        cases hd with
        | row _ A n' c h1 h2 =>
        obtain ⟨vs, ⟨hl, hr⟩, hG, hR⟩ := hm.obs j _ ho
        rw [h2] at hr hG
        rcases hr with ⟨e1, e2⟩ | ⟨gb, cap, cur, e1, e2, e3, e4, e5, e6, e7⟩
        · cases e1
          refine ⟨⟨_, rfl⟩, List.take (r * sz) [], fun w' _ => ?_⟩
          subst e2
          exact (VSrc.mk' (vs := []) (ad := ⟨0, 0, none⟩) (by simp) (fun hp => by omega) (fun j u hj => by simp at hj) ⟨fun k hk => by omega, fun k hk => by omega⟩).less hr0
        · cases e1
          refine ⟨⟨_, rfl⟩, List.take (r * sz) vs, fun w' hw => (VSrc.mk' (vs := vs) (ad := ⟨gb, 0, none⟩) hl (fun _ => rfl) (fun q u hq => ?_) hR).less hr0⟩
          have hF : F j gb := hG gb rfl
          rw [addr_plain, Nat.zero_add, blk_cell_at' ((hw gb (.inr ⟨j, _, ho, hF⟩)).trans e3)]
          rw [← e7, List.getElem?_take] at hq
          split at hq
          · exact hq
          · cases hq
      · cases hn
    · cases hn
  · rename_i sz' n f
    split at hn
    · rename_i e'
      split at hn
      · rename_i es
        have es := Nat.eq_of_beq_eq_true es
        subst es
        cases hn
        have hd : Den L h _ _ := hd
        cases hd with
        | sl _ _ _ A c ad g' hc hmx hA hg hl hclo hr =>
        refine ⟨⟨_, rfl⟩, List.take (r * sz) (valsOf m sz g'), fun w' hw => (VSrc.mk' (vs := valsOf m sz g') (valsOf_len _ _ _) hA (fun q u hq => ?_) (rowD_valsOf hl hr)).less hr0⟩
        obtain ⟨k, j, hk, hj, rfl, rfl⟩ := valsOf_inv hq
        exact same_cell (F := F) (st := st) hm (fun b hb => hw b hb) (hg k hk j hj)
      · cases hn
    · cases hn
  · rename_i j sz' k n c
    split at hn
    · rename_i e' e sz'' cap N f ho
      split at hn
      · rename_i es
        rw [Bool.and_eq_true] at es
        have es1 := Nat.eq_of_beq_eq_true es.1
        have es2 := Nat.eq_of_beq_eq_true es.2
        subst es1 es2
        cases hn
        have hd : Den L h _ _ := hd
        cases hd with
        | view _ _ _ _ _ a0 b0 h1 h2 h3 h4 h5 =>
        obtain ⟨b, cur, e1, e2, e3, e4, e5, e6, e7⟩ := hm.obs j _ ho
        rw [e1] at h2
        cases h2
        have hle : (k + r) * sz ≤ cur.size := by rw [e6]; exact Nat.mul_le_mul_right _ (by omega)
        have hs : (k + r) * sz = k * sz + r * sz := Nat.add_mul ..
        refine ⟨⟨_, rfl⟩, (cur.toList.drop (k * sz)).take (r * sz), fun w' hw => VSrc.mk' (ad := ⟨b, k * sz, none⟩) ?_ (fun hp => ?_) (fun q u hq => ?_) ⟨fun q hq => e7.len _ (by omega), fun q hq i c hc => ?_⟩⟩
        · rw [List.length_take, List.length_drop, Array.length_toList]; omega
        · rw [h3 (.inl (by omega)), addr_plain, Nat.zero_add]
        · rw [addr_plain, blk_cell_at' ((hw b (.inr ⟨j, _, ho, e2⟩)).trans e3)]
          rw [List.getElem?_take] at hq
          split at hq
          · rw [List.getElem?_drop] at hq; exact hq
          · cases hq
        · obtain ⟨u, q1, q2⟩ := e7.den (k + q) (by omega) i c hc
          have hi : i < sz := by have := (List.getElem?_eq_some_iff.1 hc).1; rw [e7.len _ (by omega)] at this; exact this
          refine ⟨u, ?_, q2⟩
          have : (q + 1) * sz ≤ r * sz := Nat.mul_le_mul_right _ hq
          rw [Nat.succ_mul] at this
          rw [List.getElem?_take, if_pos (by omega), List.getElem?_drop, ← Nat.add_assoc, ← Nat.add_mul]
          exact q1
      · cases hn
    · cases hn
  · cases hn
/-- Elements written into an own array. -/
theorem arr_write (hm : Mem mine L F h st.own w) {i : Nat} {e : TypeId} {sz cap N : Nat} {f : Nat → List IC} (hi : st.own[i]? = some (some (.arr e sz cap N f))) {kd m : Nat} {g : Nat → List IC} {us : List Value} (hu : RowD L h sz m g us) (hul : us.length = m * sz) (hfit : kd + m ≤ cap)
    {N' : Nat} {f' : Nat → List IC} (hf : ∀ q, q < N' → (kd ≤ q ∧ q < kd + m ∧ f' q = g (q - kd)) ∨ ((q < kd ∨ kd + m ≤ q) ∧ q < N ∧ f' q = f q)) :
    ∃ b cur, L i = .pointer (some ⟨b, 0, none⟩) ∧ w.heap[b]? = some (.cells cur e (0, 0)) ∧ F i b ∧ cur.size = cap * sz ∧
      Mem mine L F h (st.own.set i (some (.arr e sz cap N' f'))) (w.setRow b (cur.toList.take (kd * sz) ++ us ++ cur.toList.drop (kd * sz + us.length)).toArray) := by
  obtain ⟨b, cur, e1, e2, e3, e4, e5, e6, e7⟩ := hm.obs i _ hi
  have hN : N' ≤ cap := by
    rcases Nat.lt_or_ge cap N' with h1 | h1
    · rcases hf cap h1 with h2 | h2
      · omega
      · omega
    · exact h1
  have hle : kd * sz + us.length ≤ cap * sz := by
    have : (kd + m) * sz ≤ cap * sz := Nat.mul_le_mul_right _ hfit
    rw [Nat.add_mul] at this
    omega
  refine ⟨b, cur, e1, e3, e2, e6, mem_set hm hi (size_setRow ..) (fun k hk => setRow_other w b k _ (fun e => hk (by rw [e]; exact e2))) ⟨b, _, e1, e2, setRow_heap w b cur _ e (0, 0) e3, hN, e5, ?_, ⟨fun q hq => ?_, fun q hq j c hc => ?_⟩⟩⟩
  · simp only [List.size_toArray, List.length_append, List.length_take, List.length_drop, Array.length_toList]; omega
  · rcases hf q hq with ⟨h1, h2, h3⟩ | ⟨h1, h2, h3⟩
    · rw [h3]; exact hu.len _ (by omega)
    · rw [h3]; exact e7.len _ h2
  · rcases hf q hq with ⟨h1, h2, h3⟩ | ⟨h1, h2, h3⟩
    · rw [h3] at hc
      obtain ⟨u, q1, q2⟩ := hu.den _ (by omega) j c hc
      refine ⟨u, ?_, q2⟩
      have e8 : q * sz + j = kd * sz + ((q - kd) * sz + j) := by
        have : q * sz = kd * sz + (q - kd) * sz := by rw [← Nat.add_mul]; congr 1; omega
        omega
      have e9 : (q - kd) * sz + j < us.length := (List.getElem?_eq_some_iff.1 q1).1
      have hmin : min (kd * sz) cur.toList.length = kd * sz := Nat.min_eq_left (by rw [Array.length_toList]; omega)
      rw [List.append_assoc, List.getElem?_append_right (by rw [List.length_take, hmin, e8]; omega), List.length_take, hmin, e8, Nat.add_sub_cancel_left, List.getElem?_append_left e9]
      exact q1
    · rw [h3] at hc
      obtain ⟨u, q1, q2⟩ := e7.den _ h2 j c hc
      refine ⟨u, ?_, q2⟩
      have hj : j < sz := by have := (List.getElem?_eq_some_iff.1 hc).1; rw [e7.len _ h2] at this; exact this
      rcases h1 with h1 | h1
      · have : (q + 1) * sz ≤ kd * sz := Nat.mul_le_mul_right _ h1
        rw [Nat.succ_mul] at this
        rw [List.append_assoc, List.getElem?_append_left (by rw [List.length_take, Array.length_toList]; omega), List.getElem?_take, if_pos (by omega)]
        exact q1
      · have : (kd + m) * sz ≤ q * sz := Nat.mul_le_mul_right _ h1
        rw [Nat.add_mul] at this
        have e8 : (cur.toList.take (kd * sz) ++ us).length = kd * sz + us.length := by rw [List.length_append, List.length_take, Array.length_toList]; omega
        rw [List.getElem?_append_right (by omega), e8, List.getElem?_drop, show kd * sz + us.length + (q * sz + j - (kd * sz + us.length)) = q * sz + j by omega]
        exact q1
/-- .. of none. -/
theorem arr_less (hm : Mem mine L F h st.own w) {i : Nat} {e : TypeId} {sz cap N : Nat} {f : Nat → List IC} (hi : st.own[i]? = some (some (.arr e sz cap N f))) {N' : Nat} {f' : Nat → List IC} (hf : ∀ q, q < N' → q < N ∧ f' q = f q) :
    Mem mine L F h (st.own.set i (some (.arr e sz cap N' f'))) w := by
  obtain ⟨b, cur, e1, e2, e3, e4, e5, e6, e7⟩ := hm.obs i _ hi
  have hN : N' ≤ cap := by
    rcases Nat.lt_or_ge cap N' with h1 | h1
    · have := hf cap h1; omega
    · exact h1
  exact mem_set hm hi rfl (fun _ _ => rfl) ⟨b, cur, e1, e2, e3, hN, e5, e6, ⟨fun q hq => by rw [(hf q hq).2]; exact e7.len _ (hf q hq).1, fun q hq j c hc => by rw [(hf q hq).2] at hc; exact e7.den _ (hf q hq).1 j c hc⟩⟩
theorem view_at (hm : Mem mine L F h st.own w) {i : Nat} {e : TypeId} {sz cap N k n c : Nat} {f : Nat → List IC} (hi : st.own[i]? = some (some (.arr e sz cap N f))) {x : Value} (hx : Den L h (.view i sz k n c) x) {b : Nat} (hb : L i = .pointer (some ⟨b, 0, none⟩)) :
    ∃ ad, x = .slice (some ad) n c ∧ n ≤ c ∧ (0 < c ∨ k = 0 → ad = ⟨b, k * sz, none⟩) := by
  cases hx with
  | view _ _ _ _ _ a0 b0 h1 h2 h3 h4 h5 =>
  rw [hb] at h2
  cases h2
  exact ⟨b0, rfl, h4, fun hc => by rw [h3 hc, addr_plain, Nat.zero_add]⟩
theorem run_copy_seg {dT sT ty e : TypeId} {sz : Nat} (hu : P.underlying dT = some (.slice e)) (hs : ∀ w, (Go.sizeOf e).run P w = .ok sz w) {ad : Addr} {n c m : Nat} {x : Value} {g : Nat → List IC} {vs : List Value} (hv : VSrc P L h w sz x m (min m n) g vs)
    {b o : Nat} {cur : Array Value} {t : TypeId} (hb : w.heap[b]? = some (.cells cur t (0, 0))) (had : 0 < min m n → ad = ⟨b, o, none⟩) (hfit : o + min m n * sz ≤ cur.size) :
    (Builtin.copy_ #[dT, sT] ty #[.slice (some ad) n c, x]).run P w = .ok (.int .i64 ((min m n : Nat) : Int)) (w.setRow b (cur.toList.take o ++ vs.take (min m n * sz) ++ cur.toList.drop (o + (vs.take (min m n * sz)).length)).toArray) := by
  obtain ⟨A, c', rfl⟩ := hv.sl
  have h1 := hv.first (min m n) (Nat.le_refl _)
  have hone : ∀ u ∈ vs.take (min m n * sz), u.oneCell' = true := fun u hu => hv.one u (List.mem_of_mem_take hu)
  have hlen : (vs.take (min m n * sz)).length = min m n * sz := by
    rw [List.length_take, hv.len, Nat.min_self]
  have hst : (storeCells ad (vs.take (min m n * sz))).run P w = .ok () (w.setRow b (cur.toList.take o ++ vs.take (min m n * sz) ++ cur.toList.drop (o + (vs.take (min m n * sz)).length)).toArray) := by
    rcases Nat.eq_zero_or_pos (min m n) with h0 | h0
    · simp only [h0, Nat.zero_mul, List.take_zero, storeCells, List.append_nil, List.length_nil, Nat.add_zero, List.take_append_drop, Array.toArray_toList]
      rw [setRow_self w b cur t (0, 0) hb]
      rfl
    · rw [had h0]
      have := run_storeCells_at (P := P) b o t (vs.take (min m n * sz)) 0 cur w hb (by simp only [hlen]; omega) hone
      simpa using this
  have hmin : Nat.min m n = min m n := rfl
  simp [Builtin.copy_, run_underlying hu, Builtin.lenOf, hs, hmin, h1, hst, goInt]
theorem rowD_zero {z : Array Value} (hz : z.toList.all (·.oneCell') = true) (n : Nat) : RowD L h z.size n (fun _ => z.toList.map IC.v) (Builtin.zeroCells z n).toList := by
  refine ⟨fun k hk => by simp, fun k hk j c hc => ?_⟩
  rw [List.getElem?_map] at hc
  cases hq : z.toList[j]? with
  | none => rw [hq] at hc; cases hc
  | some u =>
    rw [hq] at hc
    cases hc
    have hj : j < z.size := by have := (List.getElem?_eq_some_iff.1 hq).1; rw [Array.length_toList] at this; exact this
    refine ⟨u, ?_, .v u (List.all_eq_true.1 hz u (List.mem_of_getElem? hq))⟩
    have hlt : k * z.size + j < n * z.size := by
      have : (k + 1) * z.size ≤ n * z.size := Nat.mul_le_mul_right _ hk
      rw [Nat.succ_mul] at this
      omega
    have hmod : (k * z.size + j) % z.size = j := by rw [Nat.mul_comm, Nat.mul_add_mod, Nat.mod_eq_of_lt hj]
    have hu2 : z[j]? = some u := by rw [← Array.getElem?_toList]; exact hq
    simp only [Builtin.zeroCells, Array.toList_map, Array.toList_range, List.getElem?_map]
    rw [List.getElem?_range hlt]
    simp only [Option.map_some, hmod, Option.some.injEq]
    rw [getElem!_pos z j hj]
    rw [Array.getElem?_eq_getElem hj] at hu2
    exact Option.some.inj hu2
theorem zeroCells_len (z : Array Value) (n : Nat) : (Builtin.zeroCells z n).toList.length = n * z.size := by simp [Builtin.zeroCells]
theorem zeroCells_one {z : Array Value} (hz : z.toList.all (·.oneCell') = true) (n : Nat) : ∀ u ∈ (Builtin.zeroCells z n).toList, u.oneCell' = true := by
  refine rowD_one (L := fun _ => undef) (h := ⟨fun _ => none, 0⟩) (zeroCells_len z n) (rowD_zero hz n)
theorem vcopy_ok [HasGl P] {h0 : Base P} (hT : TTok P T) (hm : Mem (mineOf may w0) L F h st.own w) (ha : Agree L h st a) (hs : SubB h0 st.k L h) (hn : ∀ k, h.m k ≠ none → h0.h.m k ≠ none ∨ mineOf may w0 k) (hk : Keep may w0 w)
    {t tx ty e : TypeId} {te tj : TI} (hte : TF P e te) (ht : P.underlying t = some (.slice e)) (htx : TF P tx tj) {i sz k n c : Nat} {aw : AV} {vx vy : Value} (hx : Den L h (.view i sz k n c) vx) (hy : DenA L h aw vy) {dst : Option Nat} {K : St → Prop}
    (hp : vcopyP st te tj i sz k n c aw dst K) : ∃ v w', (Builtin.copy_ #[t, tx] ty #[vx, vy]).run P w = .ok v w' ∧ ∃ st', Sat may w0 h0 st' (a.put dst v) w' ∧ K st' := by
  unfold vcopyP at hp
  split at hp
  · rename_i e' sz' cap N f hi
    obtain ⟨hcond, hp2⟩ := ifD_and hp
    clear hp
    obtain ⟨q1, q2⟩ := hcond
    subst q2
    have hp := hp2
    clear hp2
    split at hp
    · rename_i pre m g hv
      obtain ⟨hpre, hfit, N', f', hw, hp⟩ := hp
      obtain ⟨_, vs, hvs⟩ := vsrc_ok (P := P) hm hy hv (Nat.min_le_left m n) hpre
      have hv1 := hvs w (fun _ _ => rfl)
      have hl : (vs.take (min m n * sz)).length = min m n * sz := by
        rw [List.length_take, hv1.len, Nat.min_self]
      obtain ⟨b, cur, g1, g2, g3, g4, g5⟩ := arr_write hm hi (rowD_take hv1.row (Nat.le_refl _)) hl (by omega) hw
      obtain ⟨ad, rfl, r2, r3⟩ := view_at hm hi hx g1
      have hle : k * sz + min m n * sz ≤ cur.size := by rw [g4, ← Nat.add_mul]; exact Nat.mul_le_mul_right _ (by omega)
      have hrun := run_copy_seg (dT := t) (sT := tx) (ty := ty) (n := n) (c := c) ht (by rw [← q1]; exact hte.size) hv1 g2 (ad := ad) (fun h0 => r3 (.inl (by omega))) hle
      refine ⟨_, _, hrun, ?_⟩
      rw [setK_eq] at hp
      exact put_sat (st := ⟨st.n, st.k, st.env, _⟩) g5 ⟨ha.size, ha.env, ha.defers⟩ hs hn (keep_row hk (hm.foot i _ b hi g3).2.2 _) (av := .c (.v (.int .i64 ((min m n : Nat) : Int)))) (show DenA L h (.c (.v _)) _ from Den.v (.int .i64 ((min m n : Nat) : Int)) rfl) hp
    · exact hp.elim
  · exact hp.elim
theorem vclear_ok [HasGl P] {h0 : Base P} (hT : TTok P T) (hm : Mem (mineOf may w0) L F h st.own w) (ha : Agree L h st a) (hs : SubB h0 st.k L h) (hn : ∀ k, h.m k ≠ none → h0.h.m k ≠ none ∨ mineOf may w0 k) (hk : Keep may w0 w)
    {t ty e : TypeId} {te : TI} (hte : TF P e te) (ht : P.underlying t = some (.slice e)) {i sz k n c : Nat} {vx : Value} (hx : Den L h (.view i sz k n c) vx) {dst : Option Nat} {K : St → Prop}
    (hp : vclearP st te i sz k n c dst K) : ∃ w', (Builtin.clear_ #[t] ty #[vx]).run P w = .ok (.tuple #[]) w' ∧ ∃ st', Sat may w0 h0 st' (a.put dst (.tuple #[])) w' ∧ K st' := by
  unfold vclearP at hp
  split at hp
  · rename_i e' sz' cap N f hi
    obtain ⟨hcond, hp2⟩ := ifD_and hp
    clear hp
    obtain ⟨q1, q0, q2, q3⟩ := hcond
    subst q0
    obtain ⟨hfit, N', f', hw, hp⟩ := hp2
    have hzs : te.zero.cells.size = sz := q2.trans q1
    have hz := rowD_zero (L := L) (h := h) q3 n
    rw [hzs] at hz
    have hl : (Builtin.zeroCells te.zero.cells n).toList.length = n * sz := by rw [zeroCells_len, hzs]
    obtain ⟨b, cur, g1, g2, g3, g4, g5⟩ := arr_write hm hi hz hl hfit hw
    obtain ⟨ad, rfl, r2, r3⟩ := view_at hm hi hx g1
    rw [setK_eq] at hp
    refine ⟨_, ?_, put_sat (st := ⟨st.n, st.k, st.env, _⟩) g5 ⟨ha.size, ha.env, ha.defers⟩ hs hn (keep_row hk (hm.foot i _ b hi g3).2.2 _) (av := .tup []) ⟨[], rfl, rfl, fun j a u hj => by simp at hj⟩ hp⟩
    cases n with
    | zero =>
      have e0 : (Builtin.zeroCells te.zero.cells 0).toList = [] := List.eq_nil_of_length_eq_zero (by rw [hl]; simp)
      rw [e0]
      simp only [List.append_nil, List.length_nil, Nat.add_zero, List.take_append_drop, Array.toArray_toList]
      rw [setRow_self w b cur _ (0, 0) g2]
      simp [Builtin.clear_, run_underlying ht]
    | succ n =>
      have hle : k * sz + (n + 1) * sz ≤ cur.size := by rw [g4, ← Nat.add_mul]; exact Nat.mul_le_mul_right _ hfit
      have hst := run_storeCells_at (P := P) b (k * sz) _ (Builtin.zeroCells te.zero.cells (n + 1)).toList 0 cur w g2 (by simp only [hl]; omega) (zeroCells_one q3 _)
      rw [← r3 (.inl (by omega))] at hst
      simp [Builtin.clear_, run_underlying ht, hte.zero, hst]
  · exact hp.elim
theorem vapp_ok [HasGl P] {h0 : Base P} (hT : TTok P T) (hm : Mem (mineOf may w0) L F h st.own w) (ha : Agree L h st a) (hs : SubB h0 st.k L h) (hn : ∀ k, h.m k ≠ none → h0.h.m k ≠ none ∨ mineOf may w0 k) (hk : Keep may w0 w)
    {t tx ty e : TypeId} {te tj : TI} (hte : TF P e te) (ht : P.underlying t = some (.slice e)) (htx : TF P tx tj) {i sz k n c : Nat} {aw : AV} {vx vy : Value} (hx : Den L h (.view i sz k n c) vx) (hy : DenA L h aw vy) {dst : Option Nat} {K : St → Prop}
    (hp : vappP st e te tj i sz k n c aw dst K) : ∃ v w', (Builtin.append_ #[t, tx] ty #[vx, vy]).run P w = .ok v w' ∧ ∃ st', Sat may w0 h0 st' (a.put dst v) w' ∧ K st' := by
  unfold vappP at hp
  split at hp
  · rename_i e' sz' cap N f hi
    obtain ⟨hcond, hp2⟩ := ifD_and hp
    clear hp
    obtain ⟨q1, q2, q3, q4⟩ := hcond
    subst q2 q4
    have hp := hp2
    clear hp2
    have hml : maxLen = 9223372036854775807 := rfl
    obtain ⟨b, cur, e1, e2, e3, e4, e5, e6, e7⟩ := hm.obs i _ hi
    obtain ⟨ad, rfl, r2, r3⟩ := view_at hm hi hx e1
    have hinf := hte.info
    cases hinfo : P.info? e with
    | none => rw [hinfo] at hinf; cases hinf
    | some ie =>
    rw [hinfo] at hinf
    simp only [Option.map_some, Option.some.injEq, Prod.mk.injEq] at hinf
    obtain ⟨i1, i2, i3⟩ := hinf
    have hszi : ie.size = sz := i2.trans q1
    have holdV : k + n ≤ N → VSrc P L h w.drew sz (.slice (some ad) n c) n n (fun q => f (k + q)) ((cur.toList.drop (k * sz)).take (n * sz)) := fun hkn => by
      have hle : (k + n) * sz ≤ cur.size := by rw [e6]; exact Nat.mul_le_mul_right _ (by omega)
      have hadd : (k + n) * sz = k * sz + n * sz := Nat.add_mul ..
      refine VSrc.mk' (ad := ⟨b, k * sz, none⟩) ?_ (fun hp => by rw [r3 (.inl (by omega))]) (fun q u hq => ?_) ⟨fun q hq => e7.len _ (by omega), fun q hq i c hc => ?_⟩
      · rw [List.length_take, List.length_drop, Array.length_toList]; omega
      · rw [addr_plain, blk_cell_at' (show w.drew.heap[b]? = _ from e3)]
        rw [List.getElem?_take] at hq
        split at hq
        · rw [List.getElem?_drop] at hq; exact hq
        · cases hq
      · obtain ⟨u, h1, h2⟩ := e7.den (k + q) (by omega) i c hc
        have hi : i < sz := by have := (List.getElem?_eq_some_iff.1 hc).1; rw [e7.len _ (by omega)] at this; exact this
        refine ⟨u, ?_, h2⟩
        have : (q + 1) * sz ≤ n * sz := Nat.mul_le_mul_right _ hq
        rw [Nat.succ_mul] at this
        rw [List.getElem?_take, if_pos (by omega), List.getElem?_drop, ← Nat.add_assoc, ← Nat.add_mul]
        exact h1
    have hnew : ∀ (m : Nat) (g f' : Nat → List IC) (us : List Value), k + n ≤ N → c < n + m → n + m ≤ 9223372036854775807 → us.length = m * sz → RowD L h sz m g us → (∀ q, q < n → f' q = f (k + q)) → (∀ q, q < m → f' (n + q) = g q) → 
        (∀ cap', n + m ≤ cap' → pushK st (.arr e sz cap' (n + m) f') (fun l => .view l sz 0 (n + m) cap') dst K) → 
        ∃ st', Sat may w0 h0 st' (a.put dst (.slice (some ⟨w.heap.size, 0, none⟩) (n + m) (grownCap w (n + m) c e))) (w.drew.alloc (.cells (((cur.toList.drop (k * sz)).take (n * sz) ++ us).toArray ++ Builtin.zeroCells te.zero.cells (grownCap w (n + m) c e - (n + m))) e)) ∧ K st' := fun m g f' us hkn hg h63 hul hus hf1 hf2 hp => by
      have hge := grownCap_ge w (n + m) c e
      have hcm : grownCap w (n + m) c e ≤ maxLen := grownCap_le_maxLen w (n + m) c e (by omega)
      have hov := holdV hkn
      have hlen : (((cur.toList.drop (k * sz)).take (n * sz)) ++ us).length = (n + m) * sz := by rw [List.length_append, hov.len, hul, Nat.add_mul]
      refine allocV_sat (w := w.drew) (mem_drew hm) ha hs hn (keep_drew hk) (o := .cells (((((cur.toList.drop (k * sz)).take (n * sz)) ++ us).toArray ++ Builtin.zeroCells te.zero.cells (grownCap w (n + m) c e - (n + m)))) e) (ob := .arr e sz (grownCap w (n + m) c e) (n + m) f') (c := fun l => .view l sz 0 (n + m) (grownCap w (n + m) c e)) (u := .slice (some ⟨w.heap.size, 0, none⟩) (n + m) (grownCap w (n + m) c e)) (fun L' h' hs hL => ⟨w.heap.size, _, rfl, rfl, heap_alloc_at w.drew _, hge, hcm, ?_, ⟨fun q hq => ?_, fun q hq j cc hc => ?_⟩⟩) (fun L' h' h1 h2 => ?_) (hp _ hge)
      · simp only [Array.size_append, List.size_toArray, size_zeroCells, q3, q1, hlen, ← Nat.add_mul]
        congr 1
        omega
      · rcases Nat.lt_or_ge q n with hlt | hge2
        · rw [hf1 q hlt]; exact hov.row.len q hlt
        · have := hf2 (q - n) (by omega)
          rw [show n + (q - n) = q by omega] at this
          rw [this]; exact hus.len _ (by omega)
      · rw [Array.toList_append]
        have pre : ∀ x u, (((cur.toList.drop (k * sz)).take (n * sz)) ++ us)[x]? = some u → ((((cur.toList.drop (k * sz)).take (n * sz)) ++ us).toArray.toList ++ (Builtin.zeroCells te.zero.cells (grownCap w (n + m) c e - (n + m))).toList)[x]? = some u := fun x u hx => by
          rw [List.getElem?_append_left (List.getElem?_eq_some_iff.1 hx).1]; exact hx
        rcases Nat.lt_or_ge q n with hlt | hge2
        · rw [hf1 q hlt] at hc
          obtain ⟨u, h1, h2⟩ := hov.row.den q hlt j cc hc
          refine ⟨u, pre _ _ ?_, h2.mono hs hL⟩
          rw [List.getElem?_append_left (List.getElem?_eq_some_iff.1 h1).1]
          exact h1
        · have e1 := hf2 (q - n) (by omega)
          rw [show n + (q - n) = q by omega] at e1
          rw [e1] at hc
          obtain ⟨u, h1, h2⟩ := hus.den _ (by omega) j cc hc
          refine ⟨u, pre _ _ ?_, h2.mono hs hL⟩
          have e2 : q * sz + j = n * sz + ((q - n) * sz + j) := by
            have : q * sz = n * sz + (q - n) * sz := by rw [← Nat.add_mul]; congr 1; omega
            omega
          have hl2 := hov.len
          rw [e2, List.getElem?_append_right (by omega), hl2, Nat.add_sub_cancel_left]
          exact h1
      · exact Den.view _ sz 0 (n + m) _ ⟨w.heap.size, 0, none⟩ ⟨w.heap.size, 0, none⟩ h1 h2 (fun _ => by rw [addr_plain]; simp) hge (by unfold maxLen at hcm; omega)
    have hfirst : k + n ≤ N → (Builtin.firstCells ie.size n (.slice (some ad) n c)).run P w.drew = .ok ((cur.toList.drop (k * sz)).take (n * sz)).toArray w.drew := fun hkn => by
      have := (holdV hkn).first n (Nat.le_refl _)
      rw [List.take_take, Nat.min_self] at this
      rw [hszi]
      exact this
    split at hp
    · rename_i ki m kn hdj
      obtain ⟨⟨z1, z2⟩, hkn, ⟨m1, m2, m3, m4⟩, f', hf1, hf2, hp⟩ := ifD_and hp
      obtain rfl : vy = .int ki m := den_one hy
      obtain ⟨m, rfl⟩ : ∃ k : Nat, m = k := ⟨m.toNat, by omega⟩
      simp only [Int.toNat_natCast] at *
      have hu2 := htx.und
      rw [hdj] at hu2
      have hrun := Go.Lib.run_append_grow_zeros (P := P) w t tx ty e ie te.zero ki kn ht hu2 hinfo i1 (some ad) n c _ (hfirst hkn) m (by omega) (by omega) (by omega) (by omega) (by
        have : ((n + m : Nat) : Int) * te.bytes ≤ 140737488355328 := by simpa using m4
        have h4 : (n + m) * te.bytes ≤ 140737488355328 := by rw [← Int.natCast_mul] at this; omega
        rw [Nat.add_mul] at h4
        rw [i3]; omega) (growslice_fits (by omega) (by
        have : ((n + m : Nat) : Int) * te.bytes ≤ 140737488355328 := by simpa using m4
        rw [← Int.natCast_mul] at this
        rw [i3]; omega))
      refine ⟨_, _, hrun, ?_⟩
      have hz := rowD_zero (L := L) (h := h) z1 m
      rw [q3, q1] at hz
      have := hnew m _ f' (Builtin.zeroCells te.zero.cells m).toList hkn (by omega) (by omega) (by rw [zeroCells_len, q3, q1]) hz hf1 hf2 hp
      have e9 : ∀ xs : List Value, (xs ++ (Builtin.zeroCells te.zero.cells m).toList).toArray = xs.toArray ++ Builtin.zeroCells te.zero.cells m := fun xs => by apply Array.ext'; simp
      rw [e9] at this
      exact this
    · split at hp
      · rename_i pre m g hv
        obtain ⟨hpre, ⟨hkn, hkc⟩, hp1, hp2⟩ := hp
        obtain ⟨⟨e', hde⟩, vs, hvs⟩ := vsrc_ok (P := P) hm hy hv (Nat.le_refl _) hpre
        have hv1 := hvs w (fun _ _ => rfl)
        have hv2 := hvs w.drew (fun _ _ => rfl)
        have hu2 := htx.und
        rw [hde] at hu2
        have hsrc := VSrc.src (P := P) hu2 hv1 hv2
        rw [← hszi] at hsrc
        rcases Nat.lt_or_ge c (n + m) with hlt | hge
        · obtain ⟨⟨b1, b2⟩, f', hf1, hf2, hp⟩ := hp2 hlt
          have hrun := run_append_grow_src (P := P) w t tx ty e ie te.zero ht hinfo i1 (some ad) n c _ (hfirst hkn) vy m vs hsrc hlt (by omega) (growslice_fits hlt (by rw [i3]; exact b2))
          exact ⟨_, _, hrun, hnew m g f' vs hkn hlt b1 hv1.len hv1.row hf1 hf2 hp⟩
        · obtain ⟨N', f', hw, hp⟩ := hp1 hge
          obtain ⟨b', cur', g1, g2, g3, g4, g5⟩ := arr_write hm hi hv1.row hv1.len (by omega) hw
          rw [e1] at g1
          cases g1
          rw [e3] at g2
          cases g2
          rw [setK_eq] at hp
          have hmd : (k + n) * sz = k * sz + n * sz := Nat.add_mul ..
          have hview : Den L h (.view i sz k (n + m) c) (.slice (some ad) (n + m) c) := by
            cases hx with
            | view _ _ _ _ _ a0 b0 h1 h2 h3 h4 h5 => exact Den.view _ _ _ _ _ a0 ad h1 h2 h3 hge h5
          have hfin := put_sat (st := ⟨st.n, st.k, st.env, _⟩) g5 ⟨ha.size, ha.env, ha.defers⟩ hs hn (keep_row hk (hm.foot i _ b hi g3).2.2 _) (av := .c (.view i sz k (n + m) c)) hview hp
          refine ⟨_, _, ?_, hfin⟩
          rcases Nat.eq_zero_or_pos m with h0 | h0
          · subst h0
            have e0 : vs = [] := List.eq_nil_of_length_eq_zero (by rw [hv1.len]; simp)
            subst e0
            simp only [List.append_nil, List.length_nil, Nat.add_zero, List.take_append_drop, Array.toArray_toList]
            rw [setRow_self w b cur _ (0, 0) e3]
            exact run_append_nothing w t tx ty e ie ht hinfo (some ad) n c r2 vy hsrc
          · have had := r3 (.inl (by omega))
            subst had
            have hfit : k * sz + n * sz + vs.length ≤ cur.size := by
              have : (k + n + m) * sz ≤ cap * sz := Nat.mul_le_mul_right _ (by omega)
              rw [Nat.add_mul, hmd, ← hv1.len, ← e6] at this
              exact this
            have hst := run_storeCells_at (P := P) b (k * sz + n * sz) e vs 0 cur w e3 (by omega) hv1.one
            simp only [Nat.add_zero] at hst
            rw [hmd]
            rcases hsrc.kind with ⟨e', hk⟩ | hk <;> simp [Builtin.append_, run_underlying ht, run_underlying hk, sizeOf, typeInfo, hinfo, hszi, hsrc.len, hge, hv1.first m (Nat.le_refl _), Addr.add_lit, hst, List.take_of_length_le (Nat.le_of_eq hv1.len)]
      · exact hp.elim
  · exact hp.elim
end
end Go.Eng
