/- A part of the proof: what the functions of the program come to, told by a small reckoner of states. -/
import Derived.Test.YteglopjljejjkabGA7TA11
import Derived.Lib.AppendZerosOnto
import Derived.Tactics
set_option linter.unusedVariables false
set_option linter.unusedSimpArgs false
namespace Go.Eng
open Go Go.RowKit
section
variable {P : Program} {T : TT} {FF : FL} {mine may : Nat → Prop} {L : Nat → Value} {F : Nat → Nat → Prop} {h : Hp} {st : St} {a : Act} {w w0 : World}
theorem mem_drew {own : List (Option Ob)} (hm : Mem mine L F h own w) : Mem mine L F h own w.drew := mem_move hm (Nat.le_refl _) (fun _ _ _ => rfl) (fun _ _ => rfl)
theorem keep_drew (hk : Keep may w0 w) : Keep may w0 w.drew := ⟨hk.os, hk.tape, hk.output, hk.size, hk.block⟩
/-- What is read of a row, or a part of an array, for copy and append: its values; and the run of the model's reads. -/
structure VSrc (P : Program) (L : Nat → Value) (h : Hp) (w : World) (sz : Nat) (x : Value) (m r : Nat) (g : Nat → List IC) (vs : List Value) : Prop where
  sl : ∃ A c, x = .slice A m c
  len : vs.length = r * sz
  first : ∀ k, k ≤ r → (Builtin.firstCells sz k x).run P w = .ok (vs.take (k * sz)).toArray w
  row : RowD L h sz r g vs
  one : ∀ u ∈ vs, u.oneCell' = true
theorem rowD_one {sz m : Nat} {g : Nat → List IC} {vs : List Value} (hl : vs.length = m * sz) (hR : RowD L h sz m g vs) : ∀ u ∈ vs, u.oneCell' = true := fun u hu2 => by
  obtain ⟨q, hq, rfl⟩ := List.getElem_of_mem hu2
  have hlt : q < m * sz := by rw [← hl]; exact hq
  have hpos : 0 < sz := by
    rcases Nat.eq_zero_or_pos sz with h0 | h0
    · subst h0; simp at hlt
    · exact h0
  have hk : q / sz < m := (Nat.div_lt_iff_lt_mul hpos).2 hlt
  have hj : q % sz < (g (q / sz)).length := by rw [hR.len _ hk]; exact Nat.mod_lt _ hpos
  obtain ⟨u, h1, h2⟩ := hR.den _ hk (q % sz) (g (q / sz))[q % sz] (by simp [hj])
  have eq : q / sz * sz + q % sz = q := by rw [Nat.mul_comm]; exact Nat.div_add_mod q sz
  rw [eq, List.getElem?_eq_getElem hq] at h1
  cases h1
  exact h2.one
theorem VSrc.mk' {sz m r c : Nat} {A : Option Addr} {ad : Addr} {g : Nat → List IC} {vs : List Value} (hl : vs.length = r * sz) (hA : 0 < r → A = some ad) (hc : ∀ (j : Nat) u, vs[j]? = some u → w.cell? (ad.add j) = some u) (hR : RowD L h sz r g vs) :
    VSrc P L h w sz (.slice A m c) m r g vs := by
  refine ⟨⟨A, c, rfl⟩, hl, fun k hk => ?_, hR, rowD_one hl hR⟩
  have hlen : (vs.take (k * sz)).length = k * sz := by
    rw [List.length_take, hl]; exact Nat.min_eq_left (Nat.mul_le_mul_right _ hk)
  cases A with
  | none =>
    have hm : r = 0 := by
      rcases Nat.eq_zero_or_pos r with h0 | h0
      · exact h0
      · have := hA h0; cases this
    subst hm
    have : vs = [] := List.eq_nil_of_length_eq_zero (by rw [hl]; simp)
    subst this
    simp [Builtin.firstCells]
  | some a2 =>
    rcases Nat.eq_zero_or_pos r with h0 | h0
    · subst h0
      have : vs = [] := List.eq_nil_of_length_eq_zero (by rw [hl]; simp)
      subst this
      obtain rfl : k = 0 := by omega
      simp [Builtin.firstCells, loadCells, loadCellsFrom]
    · obtain e := hA h0
      cases e
      have := run_loadCells_list (P := P) w ad (vs.take (k * sz)) (fun j v hj => hc j v (by
        rw [List.getElem?_take] at hj
        split at hj
        · exact hj
        · cases hj))
      rw [hlen] at this
      simpa [Builtin.firstCells] using this
/-- .. as the kit's words for append. -/
theorem VSrc.src {tx e' : TypeId} (hk : P.underlying tx = some (.slice e')) {sz m : Nat} {x : Value} {g : Nat → List IC} {vs : List Value} (hv : VSrc P L h w sz x m m g vs) (hd : VSrc P L h w.drew sz x m m g vs) : Src P sz tx x m vs w := by
  obtain ⟨A, c, rfl⟩ := hv.sl
  have e : vs.take (m * sz) = vs := by rw [← hv.len]; exact List.take_length ..
  refine ⟨.inl ⟨e', hk⟩, fun _ => rfl, ?_, ?_, hv.len, hv.one⟩
  · have := hv.first m (Nat.le_refl _); rw [e] at this; exact this
  · have := hd.first m (Nat.le_refl _); rw [e] at this; exact this
/-- What copy and append read. -/
theorem rowD_take {sz m : Nat} {g : Nat → List IC} {vs : List Value} (hR : RowD L h sz m g vs) {k : Nat} (hk : k ≤ m) : RowD L h sz k g (vs.take (k * sz)) := by
  refine ⟨fun q hq => hR.len q (by omega), fun q hq j c hc => ?_⟩
  obtain ⟨u, h1, h2⟩ := hR.den q (by omega) j c hc
  have hj : j < sz := by have := (List.getElem?_eq_some_iff.1 hc).1; rw [hR.len q (by omega)] at this; exact this
  refine ⟨u, ?_, h2⟩
  have : (q + 1) * sz ≤ k * sz := Nat.mul_le_mul_right _ hq
  rw [Nat.succ_mul] at this
  rw [List.getElem?_take, if_pos (by omega)]
  exact h1
theorem VSrc.less {sz m r : Nat} {x : Value} {g : Nat → List IC} {vs : List Value} (hv : VSrc P L h w sz x m m g vs) (hr : r ≤ m) : VSrc P L h w sz x m r g (vs.take (r * sz)) := by
  have hle : r * sz ≤ m * sz := Nat.mul_le_mul_right _ hr
  refine ⟨hv.sl, by rw [List.length_take, hv.len]; exact Nat.min_eq_left hle, fun k hk => ?_, rowD_take hv.row hr, fun u hu => hv.one u (List.mem_of_mem_take hu)⟩
  rw [List.take_take, Nat.min_eq_left (Nat.mul_le_mul_right _ hk)]
  exact hv.first k (Nat.le_trans hk hr)
theorem vsrc_ok (hm : Mem mine L F h st.own w) {d : TypeDesc} {sz : Nat} {av : AV} {x : Value} (hd : DenA L h av x) {pre : Nat → Prop} {m : Nat} {g : Nat → List IC} (hn : vsrc st d sz av = some (pre, m, g)) {r : Nat} (hr0 : r ≤ m) (hp : pre r) :
    (∃ e, d = .slice e) ∧ ∃ vs, ∀ w', (∀ b, (h.m b ≠ none ∨ footOf F st.own b) → w'.heap[b]? = w.heap[b]?) → VSrc P L h w' sz x m r g vs := by
  unfold vsrc at hn
  split at hn
  · split at hn
    · rename_i e'
      cases hn
      obtain rfl := den_one hd
      exact ⟨⟨_, rfl⟩, List.take (r * sz) [], fun w' _ => (VSrc.mk' (vs := []) (ad := ⟨0, 0, none⟩) (by simp) (fun hp => by omega) (fun j u hj => by simp at hj) ⟨fun k hk => by omega, fun k hk => by omega⟩).less hr0⟩
    · cases hn
  · rename_i j
    split at hn
    · rename_i e' e sz' n f ho
      split at hn
      · rename_i es
        have es := Nat.eq_of_beq_eq_true es
        subst es
        cases hn
        have hd : Den L h _ _ := hd
        cases hd with
        | row _ A n' c h1 h2 =>
        obtain ⟨vs, ⟨hl, hr⟩, hG, hR⟩ := hm.obs j _ ho
        rw [h2] at hr hG
        rcases hr with ⟨e1, e2⟩ | ⟨gb, cap, cur, e1, e2, e3, e4, e5, e6, e7⟩
        · cases e1
          refine ⟨⟨_, rfl⟩, List.take (r * sz) [], fun w' _ => ?_⟩
          subst e2
          exact (VSrc.mk' (vs := []) (ad := ⟨0, 0, none⟩) (by simp) (fun hp => by omega) (fun j u hj => by simp at hj) ⟨fun k hk => by omega, fun k hk => by omega⟩).less hr0
        · cases e1
          refine ⟨⟨_, rfl⟩, List.take (r * sz) vs, fun w' hw => (VSrc.mk' (vs := vs) (ad := ⟨gb, 0, none⟩) hl (fun _ => rfl) (fun q u hq => ?_) hR).less hr0⟩
          have hF : F j gb := hG gb rfl
          rw [addr_plain, Nat.zero_add, blk_cell_at' ((hw gb (.inr ⟨j, _, ho, hF⟩)).trans e3)]
          rw [← e7, List.getElem?_take] at hq
          split at hq
          · exact hq
          · cases hq
      · cases hn
    · cases hn
  · rename_i sz' n f
    split at hn
    · rename_i e'
      split at hn
      · rename_i es
        have es := Nat.eq_of_beq_eq_true es
        subst es
        cases hn
        have hd : Den L h _ _ := hd
        cases hd with
        | sl _ _ _ A c ad g' hc hmx hA hg hl hclo hr =>
        refine ⟨⟨_, rfl⟩, List.take (r * sz) (valsOf m sz g'), fun w' hw => (VSrc.mk' (vs := valsOf m sz g') (valsOf_len _ _ _) hA (fun q u hq => ?_) (rowD_valsOf hl hr)).less hr0⟩
        obtain ⟨k, j, hk, hj, rfl, rfl⟩ := valsOf_inv hq
        exact same_cell (F := F) (st := st) hm (fun b hb => hw b hb) (hg k hk j hj)
      · cases hn
    · cases hn
  · rename_i j sz' k n c
    split at hn
    · rename_i e' e sz'' cap N f ho
      split at hn
      · rename_i es
        rw [Bool.and_eq_true] at es
        have es1 := Nat.eq_of_beq_eq_true es.1
        have es2 := Nat.eq_of_beq_eq_true es.2
        subst es1 es2
        cases hn
        have hd : Den L h _ _ := hd
        cases hd with
        | view _ _ _ _ _ a0 b0 h1 h2 h3 h4 h5 =>
        obtain ⟨b, cur, e1, e2, e3, e4, e5, e6, e7⟩ := hm.obs j _ ho
        rw [e1] at h2
        cases h2
        have hle : (k + r) * sz ≤ cur.size := by rw [e6]; exact Nat.mul_le_mul_right _ (by omega)
        have hs : (k + r) * sz = k * sz + r * sz := Nat.add_mul ..
        refine ⟨⟨_, rfl⟩, (cur.toList.drop (k * sz)).take (r * sz), fun w' hw => VSrc.mk' (ad := ⟨b, k * sz, none⟩) ?_ (fun hp => ?_) (fun q u hq => ?_) ⟨fun q hq => e7.len _ (by omega), fun q hq i c hc => ?_⟩⟩
        · rw [List.length_take, List.length_drop, Array.length_toList]; omega
        · rw [h3 (.inl (by omega)), addr_plain, Nat.zero_add]
        · rw [addr_plain, blk_cell_at' ((hw b (.inr ⟨j, _, ho, e2⟩)).trans e3)]
          rw [List.getElem?_take] at hq
          split at hq
          · rw [List.getElem?_drop] at hq; exact hq
          · cases hq
        · obtain ⟨u, q1, q2⟩ := e7.den (k + q) (by omega) i c hc
          have hi : i < sz := by have := (List.getElem?_eq_some_iff.1 hc).1; rw [e7.len _ (by omega)] at this; exact this
          refine ⟨u, ?_, q2⟩
          have : (q + 1) * sz ≤ r * sz := Nat.mul_le_mul_right _ hq
          rw [Nat.succ_mul] at this
          rw [List.getElem?_take, if_pos (by omega), List.getElem?_drop, ← Nat.add_assoc, ← Nat.add_mul]
          exact q1
      · cases hn
    · cases hn
  · cases hn
/-- Elements written into an own array. -/
theorem arr_write (hm : Mem mine L F h st.own w) {i : Nat} {e : TypeId} {sz cap N : Nat} {f : Nat → List IC} (hi : st.own[i]? = some (some (.arr e sz cap N f))) {kd m : Nat} {g : Nat → List IC} {us : List Value} (hu : RowD L h sz m g us) (hul : us.length = m * sz) (hfit : kd + m ≤ cap)
    {N' : Nat} {f' : Nat → List IC} (hf : ∀ q, q < N' → (kd ≤ q ∧ q < kd + m ∧ f' q = g (q - kd)) ∨ ((q < kd ∨ kd + m ≤ q) ∧ q < N ∧ f' q = f q)) :
    ∃ b cur, L i = .pointer (some ⟨b, 0, none⟩) ∧ w.heap[b]? = some (.cells cur e (0, 0)) ∧ F i b ∧ cur.size = cap * sz ∧
      Mem mine L F h (st.own.set i (some (.arr e sz cap N' f'))) (w.setRow b (cur.toList.take (kd * sz) ++ us ++ cur.toList.drop (kd * sz + us.length)).toArray) := by
  obtain ⟨b, cur, e1, e2, e3, e4, e5, e6, e7⟩ := hm.obs i _ hi
  have hN : N' ≤ cap := by
    rcases Nat.lt_or_ge cap N' with h1 | h1
    · rcases hf cap h1 with h2 | h2
      · omega
      · omega
    · exact h1
  have hle : kd * sz + us.length ≤ cap * sz := by
    have : (kd + m) * sz ≤ cap * sz := Nat.mul_le_mul_right _ hfit
    rw [Nat.add_mul] at this
    omega
  refine ⟨b, cur, e1, e3, e2, e6, mem_set hm hi (size_setRow ..) (fun k hk => setRow_other w b k _ (fun e => hk (by rw [e]; exact e2))) ⟨b, _, e1, e2, setRow_heap w b cur _ e (0, 0) e3, hN, e5, ?_, ⟨fun q hq => ?_, fun q hq j c hc => ?_⟩⟩⟩
  · simp only [List.size_toArray, List.length_append, List.length_take, List.length_drop, Array.length_toList]; omega
  · rcases hf q hq with ⟨h1, h2, h3⟩ | ⟨h1, h2, h3⟩
    · rw [h3]; exact hu.len _ (by omega)
    · rw [h3]; exact e7.len _ h2
  · rcases hf q hq with ⟨h1, h2, h3⟩ | ⟨h1, h2, h3⟩
    · rw [h3] at hc
      obtain ⟨u, q1, q2⟩ := hu.den _ (by omega) j c hc
      refine ⟨u, ?_, q2⟩
      have e8 : q * sz + j = kd * sz + ((q - kd) * sz + j) := by
        have : q * sz = kd * sz + (q - kd) * sz := by rw [← Nat.add_mul]; congr 1; omega
        omega
      have e9 : (q - kd) * sz + j < us.length := (List.getElem?_eq_some_iff.1 q1).1
      have hmin : min (kd * sz) cur.toList.length = kd * sz := Nat.min_eq_left (by rw [Array.length_toList]; omega)
      rw [List.append_assoc, List.getElem?_append_right (by rw [List.length_take, hmin, e8]; omega), List.length_take, hmin, e8, Nat.add_sub_cancel_left, List.getElem?_append_left e9]
      exact q1
    · rw [h3] at hc
      obtain ⟨u, q1, q2⟩ := e7.den _ h2 j c hc
      refine ⟨u, ?_, q2⟩
      have hj : j < sz := by have := (List.getElem?_eq_some_iff.1 hc).1; rw [e7.len _ h2] at this; exact this
      rcases h1 with h1 | h1
      · have : (q + 1) * sz ≤ kd * sz := Nat.mul_le_mul_right _ h1
        rw [Nat.succ_mul] at this
        rw [List.append_assoc, List.getElem?_append_left (by rw [List.length_take, Array.length_toList]; omega), List.getElem?_take, if_pos (by omega)]
        exact q1
      · have : (kd + m) * sz ≤ q * sz := Nat.mul_le_mul_right _ h1
        rw [Nat.add_mul] at this
        have e8 : (cur.toList.take (kd * sz) ++ us).length = kd * sz + us.length := by rw [List.length_append, List.length_take, Array.length_toList]; omega
        rw [List.getElem?_append_right (by omega), e8, List.getElem?_drop, show kd * sz + us.length + (q * sz + j - (kd * sz + us.length)) = q * sz + j by omega]
        exact q1
/-- .. of none. -/
theorem arr_less (hm : Mem mine L F h st.own w) {i : Nat} {e : TypeId} {sz cap N : Nat} {f : Nat → List IC} (hi : st.own[i]? = some (some (.arr e sz cap N f))) {N' : Nat} {f' : Nat → List IC} (hf : ∀ q, q < N' → q < N ∧ f' q = f q) :
    Mem mine L F h (st.own.set i (some (.arr e sz cap N' f'))) w := by
  obtain ⟨b, cur, e1, e2, e3, e4, e5, e6, e7⟩ := hm.obs i _ hi
  have hN : N' ≤ cap := by
    rcases Nat.lt_or_ge cap N' with h1 | h1
    · have := hf cap h1; omega
    · exact h1
  exact mem_set hm hi rfl (fun _ _ => rfl) ⟨b, cur, e1, e2, e3, hN, e5, e6, ⟨fun q hq => by rw [(hf q hq).2]; exact e7.len _ (hf q hq).1, fun q hq j c hc => by rw [(hf q hq).2] at hc; exact e7.den _ (hf q hq).1 j c hc⟩⟩
theorem view_at (hm : Mem mine L F h st.own w) {i : Nat} {e : TypeId} {sz cap N k n c : Nat} {f : Nat → List IC} (hi : st.own[i]? = some (some (.arr e sz cap N f))) {x : Value} (hx : Den L h (.view i sz k n c) x) {b : Nat} (hb : L i = .pointer (some ⟨b, 0, none⟩)) :
    ∃ ad, x = .slice (some ad) n c ∧ n ≤ c ∧ (0 < c ∨ k = 0 → ad = ⟨b, k * sz, none⟩) := by
  cases hx with
  | view _ _ _ _ _ a0 b0 h1 h2 h3 h4 h5 =>
  rw [hb] at h2
  cases h2
  exact ⟨b0, rfl, h4, fun hc => by rw [h3 hc, addr_plain, Nat.zero_add]⟩
theorem run_copy_seg {dT sT ty e : TypeId} {sz : Nat} (hu : P.underlying dT = some (.slice e)) (hs : ∀ w, (Go.sizeOf e).run P w = .ok sz w) {ad : Addr} {n c m : Nat} {x : Value} {g : Nat → List IC} {vs : List Value} (hv : VSrc P L h w sz x m (min m n) g vs)
    {b o : Nat} {cur : Array Value} {t : TypeId} (hb : w.heap[b]? = some (.cells cur t (0, 0))) (had : 0 < min m n → ad = ⟨b, o, none⟩) (hfit : o + min m n * sz ≤ cur.size) :
    (Builtin.copy_ #[dT, sT] ty #[.slice (some ad) n c, x]).run P w = .ok (.int .i64 ((min m n : Nat) : Int)) (w.setRow b (cur.toList.take o ++ vs.take (min m n * sz) ++ cur.toList.drop (o + (vs.take (min m n * sz)).length)).toArray) := by
  obtain ⟨A, c', rfl⟩ := hv.sl
  have h1 := hv.first (min m n) (Nat.le_refl _)
  have hone : ∀ u ∈ vs.take (min m n * sz), u.oneCell' = true := fun u hu => hv.one u (List.mem_of_mem_take hu)
  have hlen : (vs.take (min m n * sz)).length = min m n * sz := by
    rw [List.length_take, hv.len, Nat.min_self]
  have hst : (storeCells ad (vs.take (min m n * sz))).run P w = .ok () (w.setRow b (cur.toList.take o ++ vs.take (min m n * sz) ++ cur.toList.drop (o + (vs.take (min m n * sz)).length)).toArray) := by
    rcases Nat.eq_zero_or_pos (min m n) with h0 | h0
    · simp only [h0, Nat.zero_mul, List.take_zero, storeCells, List.append_nil, List.length_nil, Nat.add_zero, List.take_append_drop, Array.toArray_toList]
      rw [setRow_self w b cur t (0, 0) hb]
      rfl
    · rw [had h0]
      have := run_storeCells_at (P := P) b o t (vs.take (min m n * sz)) 0 cur w hb (by simp only [hlen]; omega) hone
      simpa using this
  have hmin : Nat.min m n = min m n := rfl
  simp [Builtin.copy_, run_underlying hu, Builtin.lenOf, hs, hmin, h1, hst, goInt]
theorem rowD_zero {z : Array Value} (hz : z.toList.all (·.oneCell') = true) (n : Nat) : RowD L h z.size n (fun _ => z.toList.map IC.v) (Builtin.zeroCells z n).toList := by
  refine ⟨fun k hk => by simp, fun k hk j c hc => ?_⟩
  rw [List.getElem?_map] at hc
  cases hq : z.toList[j]? with
  | none => rw [hq] at hc; cases hc
  | some u =>
    rw [hq] at hc
    cases hc
    have hj : j < z.size := by have := (List.getElem?_eq_some_iff.1 hq).1; rw [Array.length_toList] at this; exact this
    refine ⟨u, ?_, .v u (List.all_eq_true.1 hz u (List.mem_of_getElem? hq))⟩
    have hlt : k * z.size + j < n * z.size := by
      have : (k + 1) * z.size ≤ n * z.size := Nat.mul_le_mul_right _ hk
      rw [Nat.succ_mul] at this
      omega
    have hmod : (k * z.size + j) % z.size = j := by rw [Nat.mul_comm, Nat.mul_add_mod, Nat.mod_eq_of_lt hj]
    have hu2 : z[j]? = some u := by rw [← Array.getElem?_toList]; exact hq
    simp only [Builtin.zeroCells, Array.toList_map, Array.toList_range, List.getElem?_map]
    rw [List.getElem?_range hlt]
    simp only [Option.map_some, hmod, Option.some.injEq]
    rw [getElem!_pos z j hj]
    rw [Array.getElem?_eq_getElem hj] at hu2
    exact Option.some.inj hu2
theorem zeroCells_len (z : Array Value) (n : Nat) : (Builtin.zeroCells z n).toList.length = n * z.size := by simp [Builtin.zeroCells]
theorem zeroCells_one {z : Array Value} (hz : z.toList.all (·.oneCell') = true) (n : Nat) : ∀ u ∈ (Builtin.zeroCells z n).toList, u.oneCell' = true := by
  refine rowD_one (L := fun _ => undef) (h := ⟨fun _ => none, 0⟩) (zeroCells_len z n) (rowD_zero hz n)
theorem vcopy_ok [HasGl P] {h0 : Base P} (hT : TTok P T) (hm : Mem (mineOf may w0) L F h st.own w) (ha : Agree L h st a) (hs : SubB h0 st.k L h) (hn : ∀ k, h.m k ≠ none → h0.h.m k ≠ none ∨ mineOf may w0 k) (hk : Keep may w0 w)
    {t tx ty e : TypeId} {te tj : TI} (hte : TF P e te) (ht : P.underlying t = some (.slice e)) (htx : TF P tx tj) {i sz k n c : Nat} {aw : AV} {vx vy : Value} (hx : Den L h (.view i sz k n c) vx) (hy : DenA L h aw vy) {dst : Option Nat} {K : St → Prop}
    (hp : vcopyP st te tj i sz k n c aw dst K) : ∃ v w', (Builtin.copy_ #[t, tx] ty #[vx, vy]).run P w = .ok v w' ∧ ∃ st', Sat may w0 h0 st' (a.put dst v) w' ∧ K st' := by
  unfold vcopyP at hp
  split at hp
  · rename_i e' sz' cap N f hi
    obtain ⟨hcond, hp2⟩ := ifD_and hp
    clear hp
    obtain ⟨q1, q2⟩ := hcond
    subst q2
    have hp := hp2
    clear hp2
    split at hp
    · rename_i pre m g hv
      obtain ⟨hpre, hfit, N', f', hw, hp⟩ := hp
      obtain ⟨_, vs, hvs⟩ := vsrc_ok (P := P) hm hy hv (Nat.min_le_left m n) hpre
      have hv1 := hvs w (fun _ _ => rfl)
      have hl : (vs.take (min m n * sz)).length = min m n * sz := by
        rw [List.length_take, hv1.len, Nat.min_self]
      obtain ⟨b, cur, g1, g2, g3, g4, g5⟩ := arr_write hm hi (rowD_take hv1.row (Nat.le_refl _)) hl (by omega) hw
      obtain ⟨ad, rfl, r2, r3⟩ := view_at hm hi hx g1
      have hle : k * sz + min m n * sz ≤ cur.size := by rw [g4, ← Nat.add_mul]; exact Nat.mul_le_mul_right _ (by omega)
      have hrun := run_copy_seg (dT := t) (sT := tx) (ty := ty) (n := n) (c := c) ht (by rw [← q1]; exact hte.size) hv1 g2 (ad := ad) (fun h0 => r3 (.inl (by omega))) hle
      refine ⟨_, _, hrun, ?_⟩
      rw [setK_eq] at hp
      exact put_sat (st := ⟨st.n, st.k, st.env, _⟩) g5 ⟨ha.size, ha.env, ha.defers⟩ hs hn (keep_row hk (hm.foot i _ b hi g3).2.2 _) (av := .c (.v (.int .i64 ((min m n : Nat) : Int)))) (show DenA L h (.c (.v _)) _ from Den.v (.int .i64 ((min m n : Nat) : Int)) rfl) hp
    · exact hp.elim
  · exact hp.elim
theorem vclear_ok [HasGl P] {h0 : Base P} (hT : TTok P T) (hm : Mem (mineOf may w0) L F h st.own w) (ha : Agree L h st a) (hs : SubB h0 st.k L h) (hn : ∀ k, h.m k ≠ none → h0.h.m k ≠ none ∨ mineOf may w0 k) (hk : Keep may w0 w)
    {t ty e : TypeId} {te : TI} (hte : TF P e te) (ht : P.underlying t = some (.slice e)) {i sz k n c : Nat} {vx : Value} (hx : Den L h (.view i sz k n c) vx) {dst : Option Nat} {K : St → Prop}
    (hp : vclearP st te i sz k n c dst K) : ∃ w', (Builtin.clear_ #[t] ty #[vx]).run P w = .ok (.tuple #[]) w' ∧ ∃ st', Sat may w0 h0 st' (a.put dst (.tuple #[])) w' ∧ K st' := by
  unfold vclearP at hp
  split at hp
  · rename_i e' sz' cap N f hi
    obtain ⟨hcond, hp2⟩ := ifD_and hp
    clear hp
    obtain ⟨q1, q0, q2, q3⟩ := hcond
    subst q0
    obtain ⟨hfit, N', f', hw, hp⟩ := hp2
    have hzs : te.zero.cells.size = sz := q2.trans q1
    have hz := rowD_zero (L := L) (h := h) q3 n
    rw [hzs] at hz
    have hl : (Builtin.zeroCells te.zero.cells n).toList.length = n * sz := by rw [zeroCells_len, hzs]
    obtain ⟨b, cur, g1, g2, g3, g4, g5⟩ := arr_write hm hi hz hl hfit hw
    obtain ⟨ad, rfl, r2, r3⟩ := view_at hm hi hx g1
    rw [setK_eq] at hp
    refine ⟨_, ?_, put_sat (st := ⟨st.n, st.k, st.env, _⟩) g5 ⟨ha.size, ha.env, ha.defers⟩ hs hn (keep_row hk (hm.foot i _ b hi g3).2.2 _) (av := .tup []) ⟨[], rfl, rfl, fun j a u hj => by simp at hj⟩ hp⟩
    cases n with
    | zero =>
      have e0 : (Builtin.zeroCells te.zero.cells 0).toList = [] := List.eq_nil_of_length_eq_zero (by rw [hl]; simp)
      rw [e0]
      simp only [List.append_nil, List.length_nil, Nat.add_zero, List.take_append_drop, Array.toArray_toList]
      rw [setRow_self w b cur _ (0, 0) g2]
      simp [Builtin.clear_, run_underlying ht]
    | succ n =>
      have hle : k * sz + (n + 1) * sz ≤ cur.size := by rw [g4, ← Nat.add_mul]; exact Nat.mul_le_mul_right _ hfit
      have hst := run_storeCells_at (P := P) b (k * sz) _ (Builtin.zeroCells te.zero.cells (n + 1)).toList 0 cur w g2 (by simp only [hl]; omega) (zeroCells_one q3 _)
      rw [← r3 (.inl (by omega))] at hst
      simp [Builtin.clear_, run_underlying ht, hte.zero, hst]
  · exact hp.elim
theorem vapp_ok [HasGl P] {h0 : Base P} (hT : TTok P T) (hm : Mem (mineOf may w0) L F h st.own w) (ha : Agree L h st a) (hs : SubB h0 st.k L h) (hn : ∀ k, h.m k ≠ none → h0.h.m k ≠ none ∨ mineOf may w0 k) (hk : Keep may w0 w)
    {t tx ty e : TypeId} {te tj : TI} (hte : TF P e te) (ht : P.underlying t = some (.slice e)) (htx : TF P tx tj) {i sz k n c : Nat} {aw : AV} {vx vy : Value} (hx : Den L h (.view i sz k n c) vx) (hy : DenA L h aw vy) {dst : Option Nat} {K : St → Prop}
    (hp : vappP st e te tj i sz k n c aw dst K) : ∃ v w', (Builtin.append_ #[t, tx] ty #[vx, vy]).run P w = .ok v w' ∧ ∃ st', Sat may w0 h0 st' (a.put dst v) w' ∧ K st' := by
  unfold vappP at hp
  split at hp
  · rename_i e' sz' cap N f hi
    obtain ⟨hcond, hp2⟩ := ifD_and hp
    clear hp
    obtain ⟨q1, q2, q3, q4⟩ := hcond
    subst q2 q4
    have hp := hp2
    clear hp2
    have hml : maxLen = 9223372036854775807 := rfl
    obtain ⟨b, cur, e1, e2, e3, e4, e5, e6, e7⟩ := hm.obs i _ hi
    obtain ⟨ad, rfl, r2, r3⟩ := view_at hm hi hx e1
    have hinf := hte.info
    cases hinfo : P.info? e with
    | none => rw [hinfo] at hinf; cases hinf
    | some ie =>
    rw [hinfo] at hinf
    simp only [Option.map_some, Option.some.injEq, Prod.mk.injEq] at hinf
    obtain ⟨i1, i2, i3⟩ := hinf
    have hszi : ie.size = sz := i2.trans q1
    have holdV : k + n ≤ N → VSrc P L h w.drew sz (.slice (some ad) n c) n n (fun q => f (k + q)) ((cur.toList.drop (k * sz)).take (n * sz)) := fun hkn => by
      have hle : (k + n) * sz ≤ cur.size := by rw [e6]; exact Nat.mul_le_mul_right _ (by omega)
      have hadd : (k + n) * sz = k * sz + n * sz := Nat.add_mul ..
      refine VSrc.mk' (ad := ⟨b, k * sz, none⟩) ?_ (fun hp => by rw [r3 (.inl (by omega))]) (fun q u hq => ?_) ⟨fun q hq => e7.len _ (by omega), fun q hq i c hc => ?_⟩
      · rw [List.length_take, List.length_drop, Array.length_toList]; omega
      · rw [addr_plain, blk_cell_at' (show w.drew.heap[b]? = _ from e3)]
        rw [List.getElem?_take] at hq
        split at hq
        · rw [List.getElem?_drop] at hq; exact hq
        · cases hq
      · obtain ⟨u, h1, h2⟩ := e7.den (k + q) (by omega) i c hc
        have hi : i < sz := by have := (List.getElem?_eq_some_iff.1 hc).1; rw [e7.len _ (by omega)] at this; exact this
        refine ⟨u, ?_, h2⟩
        have : (q + 1) * sz ≤ n * sz := Nat.mul_le_mul_right _ hq
        rw [Nat.succ_mul] at this
        rw [List.getElem?_take, if_pos (by omega), List.getElem?_drop, ← Nat.add_assoc, ← Nat.add_mul]
        exact h1
    have hnew : ∀ (m : Nat) (g f' : Nat → List IC) (us : List Value), k + n ≤ N → c < n + m → n + m ≤ 9223372036854775807 → us.length = m * sz → RowD L h sz m g us → (∀ q, q < n → f' q = f (k + q)) → (∀ q, q < m → f' (n + q) = g q) → 
        (∀ cap', n + m ≤ cap' → pushK st (.arr e sz cap' (n + m) f') (fun l => .view l sz 0 (n + m) cap') dst K) → 
        ∃ st', Sat may w0 h0 st' (a.put dst (.slice (some ⟨w.heap.size, 0, none⟩) (n + m) (grownCap w (n + m) c e))) (w.drew.alloc (.cells (((cur.toList.drop (k * sz)).take (n * sz) ++ us).toArray ++ Builtin.zeroCells te.zero.cells (grownCap w (n + m) c e - (n + m))) e)) ∧ K st' := fun m g f' us hkn hg h63 hul hus hf1 hf2 hp => by
      have hge := grownCap_ge w (n + m) c e
      have hcm : grownCap w (n + m) c e ≤ maxLen := grownCap_le_maxLen w (n + m) c e (by omega)
      have hov := holdV hkn
      have hlen : (((cur.toList.drop (k * sz)).take (n * sz)) ++ us).length = (n + m) * sz := by rw [List.length_append, hov.len, hul, Nat.add_mul]
      refine allocV_sat (w := w.drew) (mem_drew hm) ha hs hn (keep_drew hk) (o := .cells (((((cur.toList.drop (k * sz)).take (n * sz)) ++ us).toArray ++ Builtin.zeroCells te.zero.cells (grownCap w (n + m) c e - (n + m)))) e) (ob := .arr e sz (grownCap w (n + m) c e) (n + m) f') (c := fun l => .view l sz 0 (n + m) (grownCap w (n + m) c e)) (u := .slice (some ⟨w.heap.size, 0, none⟩) (n + m) (grownCap w (n + m) c e)) (fun L' h' hs hL => ⟨w.heap.size, _, rfl, rfl, heap_alloc_at w.drew _, hge, hcm, ?_, ⟨fun q hq => ?_, fun q hq j cc hc => ?_⟩⟩) (fun L' h' h1 h2 => ?_) (hp _ hge)
      · simp only [Array.size_append, List.size_toArray, size_zeroCells, q3, q1, hlen, ← Nat.add_mul]
        congr 1
        omega
      · rcases Nat.lt_or_ge q n with hlt | hge2
        · rw [hf1 q hlt]; exact hov.row.len q hlt
        · have := hf2 (q - n) (by omega)
          rw [show n + (q - n) = q by omega] at this
          rw [this]; exact hus.len _ (by omega)
      · rw [Array.toList_append]
        have pre : ∀ x u, (((cur.toList.drop (k * sz)).take (n * sz)) ++ us)[x]? = some u → ((((cur.toList.drop (k * sz)).take (n * sz)) ++ us).toArray.toList ++ (Builtin.zeroCells te.zero.cells (grownCap w (n + m) c e - (n + m))).toList)[x]? = some u := fun x u hx => by
          rw [List.getElem?_append_left (List.getElem?_eq_some_iff.1 hx).1]; exact hx
        rcases Nat.lt_or_ge q n with hlt | hge2
        · rw [hf1 q hlt] at hc
          obtain ⟨u, h1, h2⟩ := hov.row.den q hlt j cc hc
          refine ⟨u, pre _ _ ?_, h2.mono hs hL⟩
          rw [List.getElem?_append_left (List.getElem?_eq_some_iff.1 h1).1]
          exact h1
        · have e1 := hf2 (q - n) (by omega)
          rw [show n + (q - n) = q by omega] at e1
          rw [e1] at hc
          obtain ⟨u, h1, h2⟩ := hus.den _ (by omega) j cc hc
          refine ⟨u, pre _ _ ?_, h2.mono hs hL⟩
          have e2 : q * sz + j = n * sz + ((q - n) * sz + j) := by
            have : q * sz = n * sz + (q - n) * sz := by rw [← Nat.add_mul]; congr 1; omega
            omega
          have hl2 := hov.len
          rw [e2, List.getElem?_append_right (by omega), hl2, Nat.add_sub_cancel_left]
          exact h1
      · exact Den.view _ sz 0 (n + m) _ ⟨w.heap.size, 0, none⟩ ⟨w.heap.size, 0, none⟩ h1 h2 (fun _ => by rw [addr_plain]; simp) hge (by unfold maxLen at hcm; omega)
    have hfirst : k + n ≤ N → (Builtin.firstCells ie.size n (.slice (some ad) n c)).run P w.drew = .ok ((cur.toList.drop (k * sz)).take (n * sz)).toArray w.drew := fun hkn => by
      have := (holdV hkn).first n (Nat.le_refl _)
      rw [List.take_take, Nat.min_self] at this
      rw [hszi]
      exact this
    split at hp
    · rename_i ki m kn hdj
      obtain ⟨⟨z1, z2⟩, hkn, ⟨m1, m2, m3, m4⟩, f', hf1, hf2, hp⟩ := ifD_and hp
      obtain rfl : vy = .int ki m := den_one hy
      obtain ⟨m, rfl⟩ : ∃ k : Nat, m = k := ⟨m.toNat, by omega⟩
      simp only [Int.toNat_natCast] at *
      have hu2 := htx.und
      rw [hdj] at hu2
      have hrun := Go.Lib.run_append_grow_zeros (P := P) w t tx ty e ie te.zero ki kn ht hu2 hinfo i1 (some ad) n c _ (hfirst hkn) m (by omega) (by omega) (by omega) (by omega) (by
        have : ((n + m : Nat) : Int) * te.bytes ≤ 140737488355328 := by simpa using m4
        have h4 : (n + m) * te.bytes ≤ 140737488355328 := by rw [← Int.natCast_mul] at this; omega
        rw [Nat.add_mul] at h4
        rw [i3]; omega) (growslice_fits (by omega) (by
        have : ((n + m : Nat) : Int) * te.bytes ≤ 140737488355328 := by simpa using m4
        rw [← Int.natCast_mul] at this
        rw [i3]; omega))
      refine ⟨_, _, hrun, ?_⟩
      have hz := rowD_zero (L := L) (h := h) z1 m
      rw [q3, q1] at hz
      have := hnew m _ f' (Builtin.zeroCells te.zero.cells m).toList hkn (by omega) (by omega) (by rw [zeroCells_len, q3, q1]) hz hf1 hf2 hp
      have e9 : ∀ xs : List Value, (xs ++ (Builtin.zeroCells te.zero.cells m).toList).toArray = xs.toArray ++ Builtin.zeroCells te.zero.cells m := fun xs => by apply Array.ext'; simp
      rw [e9] at this
      exact this
    · split at hp
      · rename_i pre m g hv
        obtain ⟨hpre, ⟨hkn, hkc⟩, hp1, hp2⟩ := hp
        obtain ⟨⟨e', hde⟩, vs, hvs⟩ := vsrc_ok (P := P) hm hy hv (Nat.le_refl _) hpre
        have hv1 := hvs w (fun _ _ => rfl)
        have hv2 := hvs w.drew (fun _ _ => rfl)
        have hu2 := htx.und
        rw [hde] at hu2
        have hsrc := VSrc.src (P := P) hu2 hv1 hv2
        rw [← hszi] at hsrc
        rcases Nat.lt_or_ge c (n + m) with hlt | hge
        · obtain ⟨⟨b1, b2⟩, f', hf1, hf2, hp⟩ := hp2 hlt
          have hrun := run_append_grow_src (P := P) w t tx ty e ie te.zero ht hinfo i1 (some ad) n c _ (hfirst hkn) vy m vs hsrc hlt (by omega) (growslice_fits hlt (by rw [i3]; exact b2))
          exact ⟨_, _, hrun, hnew m g f' vs hkn hlt b1 hv1.len hv1.row hf1 hf2 hp⟩
        · obtain ⟨N', f', hw, hp⟩ := hp1 hge
          obtain ⟨b', cur', g1, g2, g3, g4, g5⟩ := arr_write hm hi hv1.row hv1.len (by omega) hw
          rw [e1] at g1
          cases g1
          rw [e3] at g2
          cases g2
          rw [setK_eq] at hp
          have hmd : (k + n) * sz = k * sz + n * sz := Nat.add_mul ..
          have hview : Den L h (.view i sz k (n + m) c) (.slice (some ad) (n + m) c) := by
            cases hx with
            | view _ _ _ _ _ a0 b0 h1 h2 h3 h4 h5 => exact Den.view _ _ _ _ _ a0 ad h1 h2 h3 hge h5
          have hfin := put_sat (st := ⟨st.n, st.k, st.env, _⟩) g5 ⟨ha.size, ha.env, ha.defers⟩ hs hn (keep_row hk (hm.foot i _ b hi g3).2.2 _) (av := .c (.view i sz k (n + m) c)) hview hp
          refine ⟨_, _, ?_, hfin⟩
          rcases Nat.eq_zero_or_pos m with h0 | h0
          · subst h0
            have e0 : vs = [] := List.eq_nil_of_length_eq_zero (by rw [hv1.len]; simp)
            subst e0
            simp only [List.append_nil, List.length_nil, Nat.add_zero, List.take_append_drop, Array.toArray_toList]
            rw [setRow_self w b cur _ (0, 0) e3]
            exact run_append_nothing w t tx ty e ie ht hinfo (some ad) n c r2 vy hsrc
          · have had := r3 (.inl (by omega))
            subst had
            have hfit : k * sz + n * sz + vs.length ≤ cur.size := by
              have : (k + n + m) * sz ≤ cap * sz := Nat.mul_le_mul_right _ (by omega)
              rw [Nat.add_mul, hmd, ← hv1.len, ← e6] at this
              exact this
            have hst := run_storeCells_at (P := P) b (k * sz + n * sz) e vs 0 cur w e3 (by omega) hv1.one
            simp only [Nat.add_zero] at hst
            rw [hmd]
            rcases hsrc.kind with ⟨e', hk⟩ | hk <;> simp [Builtin.append_, run_underlying ht, run_underlying hk, sizeOf, typeInfo, hinfo, hszi, hsrc.len, hge, hv1.first m (Nat.le_refl _), Addr.add_lit, hst, List.take_of_length_le (Nat.le_of_eq hv1.len)]
      · exact hp.elim
  · exact hp.elim
end
end Go.Eng
set_option linter.unusedVariables false
set_option linter.unusedSimpArgs false
namespace Go.Eng
open Go Go.RowKit
section
variable {P : Program} {T : TT} {FF : FL} {mine may : Nat → Prop} {L : Nat → Value} {F : Nat → Nat → Prop} {h : Hp} {st : St} {a : Act} {w w0 : World}
theorem runes_eq (s : ByteArray) : Conv.runesFrom s s.size 0 #[] = ((runesL s).map (Value.int .i32)).toArray := by
  have key : ∀ (b i : Nat) (acc : Array Value), (∃ l : List Int, acc = (l.map (Value.int .i32)).toArray) → ∃ l : List Int, Conv.runesFrom s b i acc = (l.map (Value.int .i32)).toArray := by
    intro b
    induction b with
    | zero => intro i acc h; exact h
    | succ b ih =>
      intro i acc h
      unfold Conv.runesFrom
      split
      · refine ih _ _ ?_
        obtain ⟨l, rfl⟩ := h
        exact ⟨l ++ [_], by rw [List.map_append, List.push_toArray]; rfl⟩
      · exact h
  obtain ⟨l, hl⟩ := key s.size 0 #[] ⟨[], rfl⟩
  have : runesL s = l := by
    unfold runesL
    rw [hl]
    simp only [List.map_map]
    exact List.map_id' l
  rw [this]; exact hl
theorem runes_size (s : ByteArray) : (Conv.runesFrom s s.size 0 #[]).size = (runesL s).length := by rw [runes_eq]; simp
theorem iter_sat (hm : Mem (mineOf may w0) L F h st.own w) (hk : Keep may w0 w) {i : Nat} {s : ByteArray} {pos p' : Nat} (hi : st.own[i]? = some (some (.iter s pos))) {v : Value} (hv : Den L h (.own i 0) v) :
    ∃ b, v = .pointer (some ⟨b, 0, none⟩) ∧ w.heap[b]? = some (.stringIter s pos) ∧ Mem (mineOf may w0) L F h (st.own.set i (some (.iter s p'))) { w with heap := w.heap.setIfInBounds b (.stringIter s p') } ∧ Keep may w0 { w with heap := w.heap.setIfInBounds b (.stringIter s p') } := by
  obtain ⟨b, e1, e2, e3⟩ := hm.obs i _ hi
  cases hv with
  | own _ _ ad h1 h2 =>
  rw [e1] at h2
  cases h2
  have hne : ∀ k, k ≠ b → (w.heap.setIfInBounds b (.stringIter s p'))[k]? = w.heap[k]? := fun k hk => by rw [Array.getElem?_setIfInBounds, if_neg (Ne.symm hk)]
  have hlt := (Array.getElem?_eq_some_iff.1 e3).1
  refine ⟨b, by rw [addr_plain], e3, mem_set hm hi (by simp) (fun k hk => hne k (fun e => hk (by rw [e]; exact e2))) ⟨b, e1, e2, by show (w.heap.setIfInBounds b (.stringIter s p'))[b]? = _; simp [hlt]⟩, ⟨hk.os, hk.tape, hk.output, by simpa using hk.size, fun k hlt2 hno => ?_⟩⟩
  show (w.heap.setIfInBounds b (.stringIter s p'))[k]? = _
  rw [hne k (fun e => by
    subst e
    rcases (hm.foot i _ k hi e2).2.2 with h3 | h3
    · exact hno h3
    · omega)]
  exact hk.block k hlt2 hno
theorem info_of {e : TypeId} {te : TI} (hte : TF P e te) : ∃ ie, P.info? e = some ie ∧ ie.zero = some te.zero ∧ ie.size = te.size ∧ ie.bytes = te.bytes := by
  have hi := hte.info
  cases hinfo : P.info? e with
  | none => rw [hinfo] at hi; cases hi
  | some ie =>
    rw [hinfo] at hi
    simp only [Option.map_some, Option.some.injEq, Prod.mk.injEq] at hi
    exact ⟨ie, rfl, hi.1, hi.2.1, hi.2.2⟩
theorem ownsRow_lit' {w : World} {g : Nat} {e : TypeId} {sz n : Nat} {cs : List Value} (hg : w.heap[g]? = some (.cells cs.toArray e (0, 0))) (hl : cs.length = n * sz) (hn : n ≤ maxLen) : w.ownsRow 0 e sz (.slice (some ⟨g, 0, none⟩) n n) n cs :=
  ⟨hl, .inr ⟨g, n, _, rfl, Nat.zero_le _, hg, Nat.le_refl _, hn, by simp [hl], by rw [← hl]; exact List.take_of_length_le (Nat.le_refl _)⟩⟩
theorem set_own [HasGl P] {h0 : Base P} {own' : List (Option Ob)} (hm : Mem (mineOf may w0) L F h own' w) (ha : Agree L h st a) (hsub : SubB h0 st.k L h) (hnew : ∀ k, h.m k ≠ none → h0.h.m k ≠ none ∨ mineOf may w0 k) (hk : Keep may w0 w) : Sat may w0 h0 ⟨st.n, st.k, st.env, own'⟩ a w := ⟨⟨L, F, h, hm, ⟨ha.size, ha.env, ha.defers⟩, hsub, hnew⟩, hk⟩
theorem step_ok [HasGl P] {h0 : Base P} (hT : TTok P T) (hF : FTok P FF) {o : Oper} {K : St → Prop} {Q : Exit → Act → World → Prop} (hp : stepP P T FF o st K) (hs : Sat may w0 h0 st a w) : o.wp P a w (fun a' w' => ∃ st', Sat may w0 h0 st' a' w' ∧ K st') Q := by
  have hs0 := hs
  obtain ⟨⟨L, F, h, hm, ha, hsub, hnew⟩, hk⟩ := hs
  obtain ⟨dst, op, ty, pos, after, guard⟩ := o
  unfold stepP at hp
  simp only at hp
  split at hp
  · split at hp
    · rename_i ti hl
      obtain ⟨hz, hp⟩ := ifD_and hp
      rw [forceL_eq] at hp
      have := alloc_sat hm ha hsub hnew hk (o := .cells ti.zero.cells _) (v := .pointer (some ⟨w.heap.size, 0, none⟩)) (ob := .cells _ _) (fun L' h' hs hL => ⟨w.heap.size, ti.zero.cells.toList, rfl, rfl, by rw [Array.toArray_toList]; exact heap_alloc_at w _, zero_den hz⟩)
        (fun L' h' h1 h2 => by have := Den.own st.own.length 0 ⟨w.heap.size, 0, none⟩ h1 h2; rw [addr_plain] at this; exact this) hp
      refine value_upon (v := .pointer (some ⟨w.heap.size, 0, none⟩)) ?_ this
      simp [execOp, Instr.alloc, (hT _ _ hl).zero, newVar, newRow, run_newObj_alloc]
    · exact hp.elim
  · split at hp
    · rename_i av hx
      split at hp
      · rename_i cs hc
        rw [forceL_eq] at hp
        have hd := cellsOf_all hc (ev_eval ha hx)
        have := alloc_sat hm ha hsub hnew hk (o := .cells (a.eval _).cells _) (v := .pointer (some ⟨w.heap.size, 0, none⟩)) (ob := .cells _ _) (fun L' h' hs hL => ⟨w.heap.size, _, rfl, rfl, by rw [Array.toArray_toList]; exact heap_alloc_at w _, hd.mono hs hL⟩)
          (fun L' h' h1 h2 => by have := Den.own st.own.length 0 ⟨w.heap.size, 0, none⟩ h1 h2; rw [addr_plain] at this; exact this) hp
        refine value_upon (v := .pointer (some ⟨w.heap.size, 0, none⟩)) ?_ this
        simp [execOp, Instr.box, newVar, newRow, run_newObj_alloc]
      · exact hp.elim
    · exact hp.elim
  · rename_i t p x
    split at hp
    · rename_i i off av ti hx hy hl
      split at hp
      · rename_i u cs vs ho hc
        obtain ⟨hlen, hp⟩ := ifD_and hp
        obtain ⟨hle, hp⟩ := ifD_and hp
        obtain ⟨hd0, hp4⟩ := ifD_and hp
        rw [forceL_eq] at hp4
        obtain ⟨n, k, env, own⟩ := st
        simp only [forceL_eq] at hp4
        obtain ⟨us, hce, hd⟩ := cellsOf_den hc (ev_eval ha hy)
        obtain ⟨b, ws, e1, e2, e3, e4⟩ := hm.obs i _ ho
        have hpv : Den L h (.own i off) (a.eval p) := ev_eval ha hx
        generalize hz : a.eval p = z at hpv
        cases hpv with
        | own _ _ ad h1 h2 =>
        rw [e1] at h2
        cases h2
        have hul : us.length = vs.length := hd.1.symm
        have hwl : ws.length = cs.length := e4.1.symm
        have hm' := mem_set (w' := w.setRow b (ws.take off ++ us ++ ws.drop (off + us.length)).toArray) hm ho (size_setRow ..) (fun k hk => setRow_other w b k _ (fun e => hk (by rw [e]; exact e2))) (ob := .cells u (cs.take off ++ vs ++ cs.drop (off + vs.length)))
          ⟨b, _, e1, e2, setRow_heap w b _ _ u (0, 0) e3, denL_set e4 hd off⟩
        refine skip_upon (w' := w.setRow b (ws.take off ++ us ++ ws.drop (off + us.length)).toArray) ?_ ?_
        · have hrun := run_storeCells_at (P := P) b off u us 0 _ w e3 (by simp; omega) hd.one
          simp only [execOp, hz, Instr.storeAt, Instr.sureAddr, storeVar, Sem.run_bind, Sem.run_pure, Result.andThen_ok, (hT _ _ hl).size, hce]
          simp only [List.size_toArray, hul, hlen, ne_eq, not_true_eq_false, if_false]
          simp [hrun, addr_plain, hul, hlen]
        · subst hd0
          exact ⟨_, set_own (st := ⟨n, k, env, own⟩) hm' ha hsub hnew (keep_row hk (hm.foot i _ b ho e2).2.2 _), hp4⟩
      · exact hp.elim
    · rename_i i sz kx off av ti hx hy hl
      split at hp
      · rename_i e sz' nn f vs ho hc
        obtain ⟨hlen, hp⟩ := ifD_and hp
        obtain ⟨hsz, hp⟩ := ifD_and hp
        obtain ⟨hle, hp⟩ := ifD_and hp
        obtain ⟨hd0, f', hf, hp4⟩ := ifD_and hp
        subst hsz
        obtain ⟨n, k, env, own⟩ := st
        simp only [forceL_eq] at hp4
        obtain ⟨us, hce, hd⟩ := cellsOf_den hc (ev_eval ha hy)
        have hul : us.length = vs.length := hd.1.symm
        obtain ⟨g, cur, hg, hh, hb1, hfit, hm'⟩ := row_store hm ho (ev_eval ha hx) hd hle hf
        refine skip_upon (w' := w.setRow g (cur.toList.take (kx * sz + off) ++ us ++ cur.toList.drop (kx * sz + off + us.length)).toArray) ?_ ?_
        · have hrun := run_storeCells_at (P := P) g (kx * sz + off) e us 0 cur w hh (by omega) hd.one
          simp only [execOp, hg, Instr.storeAt, Instr.sureAddr, storeVar, Sem.run_bind, Sem.run_pure, Result.andThen_ok, (hT _ _ hl).size, hce]
          simp only [List.size_toArray, hul, hlen, ne_eq, not_true_eq_false, if_false]
          simp [hrun, hul, hlen]
        · subst hd0
          exact ⟨_, set_own (st := ⟨n, k, env, own⟩) hm' ha hsub hnew (keep_row hk (hm.foot i _ g ho hb1).2.2 _), hp4⟩
      · rename_i e sz' cap nn f vs ho hc
        obtain ⟨hlen, hp⟩ := ifD_and hp
        obtain ⟨hsz, hp⟩ := ifD_and hp
        obtain ⟨hof, hp⟩ := ifD_and hp
        obtain ⟨hd0, hkn, f', hf, hp4⟩ := ifD_and hp
        obtain ⟨hof0, hvl⟩ := hof
        subst hsz hof0
        obtain ⟨n, k, env, own⟩ := st
        simp only [forceL_eq] at hp4
        obtain ⟨us, hce, hd⟩ := cellsOf_den hc (ev_eval ha hy)
        have hul : us.length = vs.length := hd.1.symm
        obtain ⟨b0, cur0, g1, g2, g3, g4, g5, g6, g7⟩ := hm.obs i _ ho
        have hR : RowD L h sz 1 (fun _ => vs) us := ⟨fun _ _ => hvl, fun q hq j c hc => by
          obtain rfl : q = 0 := by omega
          have hlt : j < us.length := by rw [hul]; exact (List.getElem?_eq_some_iff.1 hc).1
          refine ⟨us[j], ?_, hd.2 j c _ hc (List.getElem?_eq_getElem hlt)⟩
          rw [Nat.zero_mul, Nat.zero_add]; exact List.getElem?_eq_getElem hlt⟩
        obtain ⟨b, cur, k1, k2, k3, k4, k5⟩ := arr_write (f' := f') (N' := nn) hm ho hR (by rw [hul, hvl]; omega) (kd := kx) (by omega) (fun q hq => by
          have := hf q hq
          by_cases e : q = kx
          · rw [if_pos e] at this; exact .inl ⟨by omega, by omega, this⟩
          · rw [if_neg e] at this; exact .inr ⟨by omega, hq, this⟩)
        have hpv : Den L h (.rel i sz kx 0) (a.eval p) := ev_eval ha hx
        generalize hz : a.eval p = z at hpv
        cases hpv with
        | rel _ _ _ _ ad h1 h2 h3 =>
        rw [k1] at h2
        cases h2
        refine skip_upon (w' := w.setRow b (cur.toList.take (kx * sz) ++ us ++ cur.toList.drop (kx * sz + us.length)).toArray) ?_ ?_
        · have hfit : kx * sz + us.length ≤ cur.size := by
            have : (kx + 1) * sz ≤ cap * sz := Nat.mul_le_mul_right _ (by omega)
            rw [Nat.succ_mul] at this
            omega
          have hrun := run_storeCells_at (P := P) b (kx * sz) e us 0 cur w k2 (by omega) hd.one
          simp only [execOp, hz, Instr.storeAt, Instr.sureAddr, storeVar, Sem.run_bind, Sem.run_pure, Result.andThen_ok, (hT _ _ hl).size, hce]
          simp only [List.size_toArray, hul, hlen, ne_eq, not_true_eq_false, if_false]
          simp [hrun, addr_plain, hul, hlen]
        · subst hd0
          exact ⟨_, set_own (st := ⟨n, k, env, own⟩) k5 ha hsub hnew (keep_row hk (hm.foot i _ b ho k3).2.2 _), hp4⟩
      · exact hp.elim
    · exact hp.elim
  · rename_i x args ts
    split at hp
    · rename_i avs0 f caps0 hx0 hfn0
      split at hp
      · rename_i fz hf
        obtain ⟨st, hs, hp⟩ := frzL_sat _ st hp hs0
        split at hp
        · rename_i avs f2 caps hx hfn
          obtain ⟨hff, hc⟩ := ifD_and hp
          subst hff
          clear hm ha hsub hnew hk hp
          obtain ⟨⟨L, F, h, hm, ha, hsub, hnew⟩, hk⟩ := hs
          obtain ⟨n, k, env, own⟩ := st
          simp only at hc
          have h1 := argsOf_ok ha hx
          obtain ⟨cv, g1, g2⟩ := fnOf_ok (L := L) ha hfn
          have hargs : args.map a.eval ++ cv.toArray = (args.toList.map a.eval ++ cv).toArray := by
            apply Array.ext'
            simp
          have hfoot : ∀ b, footOf F own b → mineOf may w0 b := fun b ⟨i, ob, hi, hb⟩ => (hm.foot i ob b hi hb).2.2
          have hmine : ∀ b, mineOf (footOf F own) w b → mineOf may w0 b := fun b hb => by
            rcases hb with hb | hb
            · exact hfoot b hb
            · exact .inr (Nat.le_trans hk.size hb)
          have hglo : HasGl.ok P h.m := HasGl.mono h0.gl hsub.sub.m
          cases fz with
          | some fz =>
            have hcall := hc.out (mineOf may w0) L F h w _ hglo hm (h1.append g2)
            have hrun : (execOp a.eval { dst := dst, op := .call { callee := .value x, args := args, argTypes := ts }, type := ty, pos := pos, after := after, guard := guard }).run P w = .ok (.enter f (args.toList.map a.eval ++ cv).toArray) w := by
              have he := hF f fz hf (args.toList.map a.eval ++ cv).toArray w
              rw [← hargs] at he ⊢
              unfold execOp
              simp [resolve, g1, Deferred.ofValue, invoke]
              simpa using he
            unfold Oper.wp
            rw [hrun, Oper.upon_enter]
            refine hcall.mono ?_
            rintro e w' ⟨r, v, L', F', h', own', rfl, k1, k2, k3, k4, k5, k6, k7⟩
            have hm2 : Mem (mineOf may w0) L' F' h' own' w' := k3.mine_mono (fun b ⟨i, ob, hi, hb⟩ => hmine b (k3.foot i ob b hi hb).2.2)
            exact put_sat (st := ⟨n, k, env, own'⟩) hm2 (agree_more ha k2 k5 rfl rfl) (hsub.step k2 k5) (fun b hb => by
              rcases k6 b hb with h3 | h3
              · exact hnew b h3
              · exact .inr (hmine b h3)) (hk.trans k4 hfoot) k1 k7
          | none =>
            obtain ⟨v, w', hcall, r, L', F', h', own', k1, k2, k3, k4, k5, k6, k7⟩ := hc.out (mineOf may w0) L F h w _ hglo hm (h1.append g2)
            have hrun : (execOp a.eval { dst := dst, op := .call { callee := .value x, args := args, argTypes := ts }, type := ty, pos := pos, after := after, guard := guard }).run P w = .ok (.value v) w' := by
              rw [← hargs] at hcall
              unfold execOp
              simp [resolve, g1, Deferred.ofValue, invoke]
              simpa using hcall
            have hm2 : Mem (mineOf may w0) L' F' h' own' w' := k3.mine_mono (fun b ⟨i, ob, hi, hb⟩ => hmine b (k3.foot i ob b hi hb).2.2)
            refine value_upon hrun (put_sat (st := ⟨n, k, env, own'⟩) hm2 (agree_more ha k2 k5 rfl rfl) (hsub.step k2 k5) (fun b hb => by
              rcases k6 b hb with h3 | h3
              · exact hnew b h3
              · exact .inr (hmine b h3)) (hk.trans k4 hfoot) k1 k7)
        · exact hp.elim
      · exact hp.elim
    · exact hp.elim
  · rename_i t len parts
    split at hp
    · rename_i ti l0 hl hl0
      split at hp
      · rename_i e hd
        split at hp
        · rename_i te hle
          have hte := hT _ _ hle
          have hu := (hT _ _ hl).und
          rw [hd] at hu
          split at hp
          · rename_i hparts
            have hpa : parts = #[] := by apply Array.ext'; simpa using hparts
            subst hpa
            have := alloc_sat hm ha hsub hnew hk (o := .cells #[] e) (v := .slice (some ⟨w.heap.size, 0, none⟩) 0 0) (ob := .row _ _ _ _) (fun L' h' hs hL => ⟨[], ⟨by simp, .inr ⟨w.heap.size, 0, #[], rfl, Nat.zero_le _, heap_alloc_at w _, Nat.le_refl _, Nat.zero_le _, by simp, by simp⟩⟩, (fun b hb => by cases hb; rfl), ⟨fun k hk => by omega, fun k hk => by omega⟩⟩)
              (fun L' h' h1 h2 => .row _ _ _ _ h1 h2) hp
            refine value_upon ?_ this
            simp [execOp, Instr.buildSlice, run_underlying hu, hte.size, Instr.fill, newRow]
            rw [show Array.range 0 = #[] from (by apply Array.ext'; simp)]
            simp
          · rename_i len len2 xx hne
            obtain ⟨st, hs, hp⟩ := frzL_sat _ st hp hs0
            split at hp
            · rename_i l hpl
              split at hp
              · rename_i xs hrc
                obtain ⟨q1, hp⟩ := ifD_and hp
                obtain ⟨q2, hp⟩ := ifD_and hp
                obtain ⟨q3, hp⟩ := ifD_and hp
                obtain ⟨q4, f, hf, hp⟩ := ifD_and hp
                clear hm ha hsub hnew hk
                obtain ⟨⟨L, F, h, hm, ha, hsub, hnew⟩, hk⟩ := hs
                have p1 := partsOf_ok ha hpl
                obtain ⟨r1, r2, r3, r4, r5⟩ := rowC_ok hrc p1
                obtain ⟨ie, hinfo, i1, i2, i3⟩ := info_of hte
                have hszp : 0 < te.size := by
                  rcases Nat.eq_zero_or_pos te.size with h0 | h0
                  · rw [h0] at q2; simp at q2
                  · exact h0
                have hvl : (parts.toList.map fun x => (x.1, a.eval x.2)).length = l.length := by
                  have : ∀ {l : List (Nat × AV)} {vs : List (Nat × Value)}, DenP L h l vs → vs.length = l.length := fun hd => by induction hd with | nil => rfl | cons _ _ ih => simp [ih]
                  exact this p1
                have hpe : (parts.map fun (i, x) => (i, a.eval x)).toList = (((parts.toList.map fun x => (x.1, a.eval x.2)).map (·.2)).zipIdx 0).map fun x => (x.2, x.1) := by
                  rw [Array.toList_map, ← r2]
                have hfill := Go.Great.fill_whole (s := te.size) hszp ((parts.toList.map fun x => (x.1, a.eval x.2)).map (·.2)) ((Array.range (len * te.size)).map (te.zero.cells[· % te.zero.cells.size]!)) r3 (by simp [← q1, ← hvl])
                have hrun := run_buildSlice (P := P) w t e len (parts.map fun (i, x) => (i, a.eval x)) (((parts.toList.map fun x => (x.1, a.eval x.2)).map (·.2)).flatMap fun v => v.cells.toList).toArray ie te.zero hu hinfo i1 (by rw [i2]; omega) (by rw [i2]; omega) (by rw [i2, hpe, hfill])
                have hfl := flatten_len r4
                have hxl : xs.length = len := by rw [r1, q1]
                have hlen : len ≤ len * te.size := Nat.le_mul_of_pos_right _ hszp
                have := alloc_sat hm ha hsub hnew hk (o := .cells (((parts.toList.map fun x => (x.1, a.eval x.2)).map (·.2)).flatMap fun v => v.cells.toList).toArray e) (v := .slice (some ⟨w.heap.size, 0, none⟩) len len) (ob := .row _ _ _ _)
                  (fun L' h' hs hL => ⟨_, ownsRow_lit' (heap_alloc_at w _) (by rw [← r5.1, hfl, hxl]) (by unfold maxLen; omega), (fun b hb => by cases hb; rfl), rowD_flat r4 hxl hf (r5.mono hs hL)⟩)
                  (fun L' h' h1 h2 => .row _ _ _ _ h1 h2) hp
                refine value_upon ?_ this
                unfold execOp
                simp only [Sem.run_bind, hrun, Result.andThen_ok]
                rfl
              · exact hp.elim
            · exact hp.elim
        · exact hp.elim
      · exact hp.elim
    · exact hp.elim
  · rename_i args ts
    split at hp
    · rename_i x y t tx hargs hts
      have hargs' : args = #[x, y] := by apply Array.ext'; simpa using hargs
      have hts' : ts = #[t, tx] := by apply Array.ext'; simpa using hts
      subst hargs' hts'
      split at hp
      · rename_i ti tj av aw hl hlx hx hy
        split at hp
        · rename_i e hd
          split at hp
          · rename_i te hle
            split at hp
            · rename_i i sz k n c
              have hu := (hT _ _ hl).und
              rw [hd] at hu
              obtain ⟨v, w', hrun, hfin⟩ := vapp_ok hT hm ha hsub hnew hk (ty := ty) (hT _ _ hle) hu (hT _ _ hlx) (show Den L h (.view i sz k n c) (a.eval x) from ev_eval ha hx) (ev_eval ha hy) hp
              refine value_upon ?_ hfin
              simp only [execOp, resolve, invoke, builtin, Sem.run_bind, Sem.run_pure, Result.andThen_ok, List.map_toArray, List.map_cons, List.map_nil, hrun]
            split at hp
            · rename_i oi n f m g ho hn
              obtain ⟨⟨b1, b2⟩, hp⟩ := hp
              obtain ⟨hz, n', f', hn', hf1, hf2, hp⟩ := ifD_and hp
              obtain ⟨sn, k, env, own⟩ := st
              have hu := (hT _ _ hl).und
              rw [hd] at hu
              obtain ⟨v', w', G', r1, r2, r3, r4, r5, r6, ⟨A, c, r7⟩, r8⟩ := append_ok hT hm (fun b hb => .inr (Nat.le_trans hk.size hb)) (ty := ty) (hT _ _ hle) hu (hT _ _ hlx).und hz (ev_eval ha hx) (ev_eval ha hy) ho hn b1 b2 hn' hf1 hf2
              have hnn := hm.hn
              have := push_sat (st := ⟨sn, k, env, own⟩) r2 (⟨ha.size, ha.env, ha.defers⟩) hsub hnew (r8 may w0 rfl hk) (v := v') (c := .row) (r3 _ _ (sub_more h 1) (fun i hi => upd_lt (by simp only at hnn r6 ⊢; rw [r6]; omega))) r4 r5 (fun L' h' h1 h2 => by rw [r7] at h2 ⊢; exact .row _ _ _ _ h1 h2) hp
              refine value_upon ?_ this
              simp only [execOp, resolve, invoke, builtin, Sem.run_bind, Sem.run_pure, Result.andThen_ok, List.map_toArray, List.map_cons, List.map_nil, r1]
            · exact hp.elim
          · exact hp.elim
        · exact hp.elim
      · exact hp.elim
    · exact hp.elim
  · rename_i args ts
    split at hp
    · rename_i x y t tx hargs hts
      have hargs' : args = #[x, y] := by apply Array.ext'; simpa using hargs
      have hts' : ts = #[t, tx] := by apply Array.ext'; simpa using hts
      subst hargs' hts'
      split at hp
      · rename_i ti tj i sz k n c aw hl hlx hx hy
        split at hp
        · rename_i e hd
          split at hp
          · rename_i te hle
            have hu := (hT _ _ hl).und
            rw [hd] at hu
            obtain ⟨v, w', hrun, hfin⟩ := vcopy_ok hT hm ha hsub hnew hk (ty := ty) (hT _ _ hle) hu (hT _ _ hlx) (show Den L h (.view i sz k n c) (a.eval x) from ev_eval ha hx) (ev_eval ha hy) hp
            refine value_upon ?_ hfin
            simp only [execOp, resolve, invoke, builtin, Sem.run_bind, Sem.run_pure, Result.andThen_ok, List.map_toArray, List.map_cons, List.map_nil, hrun]
          · exact hp.elim
        · exact hp.elim
      · exact hp.elim
    · exact hp.elim
  · rename_i args ts
    split at hp
    · rename_i x t hargs hts
      have hargs' : args = #[x] := by apply Array.ext'; simpa using hargs
      have hts' : ts = #[t] := by apply Array.ext'; simpa using hts
      subst hargs' hts'
      split at hp
      · rename_i ti i sz k n c hl hx
        split at hp
        · rename_i e hd
          split at hp
          · rename_i te hle
            have hu := (hT _ _ hl).und
            rw [hd] at hu
            obtain ⟨w', hrun, hfin⟩ := vclear_ok hT hm ha hsub hnew hk (ty := ty) (hT _ _ hle) hu (show Den L h (.view i sz k n c) (a.eval x) from ev_eval ha hx) hp
            refine value_upon ?_ hfin
            simp only [execOp, resolve, invoke, builtin, Sem.run_bind, Sem.run_pure, Result.andThen_ok, List.map_toArray, List.map_cons, List.map_nil, hrun]
          · exact hp.elim
        · exact hp.elim
      · exact hp.elim
    · exact hp.elim
  · rename_i t x y
    split at hp
    · rename_i ti ka na kb nb hl hx hy
      split at hp
      · rename_i e hd
        split at hp
        · rename_i te hle
          obtain ⟨q0, hp⟩ := ifD_and hp
          obtain ⟨q1, hp⟩ := ifD_and hp
          obtain ⟨q2, ⟨b1, b2, b3, b4⟩, n, f, hn, hf, hp⟩ := ifD_and hp
          have hu := (hT _ _ hl).und
          rw [hd] at hu
          obtain ⟨ie, hinfo, i1, i2, i3⟩ := info_of (hT _ _ hle)
          subst b2 hn
          have e1 := idxOf_eval ha hx
          have e2 := idxOf_eval ha hy
          have hrun := run_make (P := P) w t e ie te.zero hu hinfo i1 ka kb na na b1 (Int.le_refl _) (by rw [i3, Int.mul_comm]; omega) (by omega)
          have hmc : (madeCells te.zero.cells (na.toNat * ie.size)).toList.length = na.toNat * te.size := by simp [madeCells, i2]
          have hrow : ∀ L' h', RowD L' h' te.size na.toNat f (madeCells te.zero.cells (na.toNat * ie.size)).toList := fun L' h' => by
            refine ⟨fun k hk => by rw [hf k hk]; simp [q1], fun k hk j c hc => ?_⟩
            rw [hf k hk] at hc
            rw [List.getElem?_map] at hc
            cases hz : te.zero.cells.toList[j]? with
            | none => rw [hz] at hc; cases hc
            | some u =>
              rw [hz] at hc
              cases hc
              have hj : j < te.size := by have := (List.getElem?_eq_some_iff.1 hz).1; rw [Array.length_toList, q1] at this; exact this
              refine ⟨u, ?_, .v u (List.all_eq_true.1 q0 u (List.mem_of_getElem? hz))⟩
              have hlt : k * te.size + j < na.toNat * te.size := by
                have : (k + 1) * te.size ≤ na.toNat * te.size := Nat.mul_le_mul_right _ hk
                rw [Nat.succ_mul] at this
                omega
              have hmod : (k * te.size + j) % te.size = j := by rw [Nat.mul_comm, Nat.mul_add_mod, Nat.mod_eq_of_lt hj]
              have hj2 : j < te.zero.cells.size := by omega
              have hu2 : te.zero.cells[j]? = some u := by rw [← Array.getElem?_toList]; exact hz
              simp [madeCells, i2, hlt, q1, hmod]
              have hj2 : j < te.zero.cells.size := by omega
              rw [getElem!_pos te.zero.cells j hj2]
              rw [Array.getElem?_eq_getElem hj2] at hu2
              exact Option.some.inj hu2
          have := alloc_sat hm ha hsub hnew hk (o := .cells (madeCells te.zero.cells (na.toNat * ie.size)) e) (v := .slice (some ⟨w.heap.size, 0, none⟩) na.toNat na.toNat) (ob := .row _ _ _ _)
            (fun L' h' hs hL => ⟨(madeCells te.zero.cells (na.toNat * ie.size)).toList, ownsRow_lit' (by rw [Array.toArray_toList]; exact heap_alloc_at w _) hmc (by unfold maxLen; omega), (fun b hb => by cases hb; rfl), hrow L' h'⟩)
            (fun L' h' h1 h2 => .row _ _ _ _ h1 h2) hp
          refine value_upon ?_ this
          unfold execOp
          simp only [e1, e2, Sem.run_bind, hrun, Result.andThen_ok]
          rfl
        · exact hp.elim
      · exact hp.elim
    · exact hp.elim
  · rename_i t x
    split at hp
    · rename_i ti s hl hx
      have ex := ev_v ha hx
      split at hp
      · rename_i hd
        have hu := (hT _ _ hl).und
        rw [hd] at hu
        have := alloc_sat hm ha hsub hnew hk (o := .stringIter s 0) (v := .pointer (some ⟨w.heap.size, 0, none⟩)) (ob := .iter _ _) (fun L' h' hs hL => ⟨w.heap.size, rfl, rfl, heap_alloc_at w _⟩)
          (fun L' h' h1 h2 => by have := Den.own st.own.length 0 ⟨w.heap.size, 0, none⟩ h1 h2; rw [addr_plain] at this; exact this) hp
        refine value_upon ?_ this
        unfold execOp
        simp only [ex, Sem.run_bind, run_range_string w t s hu, Result.andThen_ok]
        rfl
      · exact hp.elim
    · exact hp.out _ _ _ _ _ _ hs0
    · exact hp.elim
  · rename_i x
    split at hp
    · rename_i i hx
      split at hp
      · rename_i s pos hi
        have hv : Den L h (.own i 0) (a.eval x) := ev_eval ha hx
        unfold stepP.onIter at hp
        split at hp
        · rename_i hlt
          have hlt := of_decide_eq_true hlt
          obtain ⟨n, k, env, own⟩ := st
          simp only [forceL_eq] at hp
          obtain ⟨b, e1, e2, e3, e4⟩ := iter_sat (p' := pos + (Utf8.decode s pos).2) hm hk hi hv
          have hd : DenA L h (.tup [.c (.v (.bool true)), .c (.v (.int .i64 pos)), .c (.v (.int .i32 (Utf8.decode s pos).1))]) (.tuple #[.bool true, .int .i64 pos, .int .i32 (Utf8.decode s pos).1]) := by
            refine ⟨[_, _, _], rfl, rfl, fun j a' u ha' hu => ?_⟩
            match j with
            | 0 => simp at ha' hu; subst ha' hu; exact Den.v _ rfl
            | 1 => simp at ha' hu; subst ha' hu; exact Den.v _ rfl
            | 2 => simp at ha' hu; subst ha' hu; exact Den.v _ rfl
            | j + 3 => simp at ha'
          have := put_sat (st := ⟨n, k, env, own.set i (some (.iter s (pos + (Utf8.decode s pos).2)))⟩) e3 ⟨ha.size, ha.env, ha.defers⟩ hsub hnew e4 hd hp
          refine value_upon ?_ this
          simp [execOp, e1, Instr.next, getObj, setObj, Sem.run, e2, hlt, goInt]
        · rename_i hlt
          have hlt := of_decide_eq_false hlt
          obtain ⟨b, e1, e2, e3, e4⟩ := iter_sat (p' := pos) hm hk hi hv
          have hd : DenA L h (.tup [.c (.v (.bool false))]) (.tuple #[.bool false]) := by
            refine ⟨[_], rfl, rfl, fun j a' u ha' hu => ?_⟩
            match j with
            | 0 => simp at ha' hu; subst ha' hu; exact Den.v _ rfl
            | j + 1 => simp at ha'
          have := put_sat hm ha hsub hnew hk hd hp
          refine value_upon ?_ this
          simp [execOp, e1, Instr.next, getObj, Sem.run, e2, hlt]
      · exact hp.elim
    · exact hp.elim
  · rename_i src dst' x
    split at hp
    · rename_i ts td s hl1 hl2 hx
      have ex := ev_v ha hx
      have hu1 := (hT _ _ hl1).und
      have hu2 := (hT _ _ hl2).und
      split at hp
      · rename_i e hd1 hd2
        rw [hd1] at hu1
        rw [hd2] at hu2
        split at hp
        · rename_i te hle
          have hu3 := (hT _ _ hle).und
          split at hp
          · rename_i hde
            rw [hde] at hu3
            obtain ⟨hsz, hlen, hp⟩ := ifD_and hp
            have hrun := run_runes_of_string (P := P) w src dst' e s hu1 hu2 hu3 (by rw [runes_size]; exact hlen)
            rw [runes_size, runes_eq] at hrun
            have hcap := grownCap_ge w (runesL s).length 0 e
            have hcm := grownCap_le_maxLen w (runesL s).length 0 e (by unfold maxLen; omega)
            generalize grownCap w (runesL s).length 0 e = cap at hrun hcap hcm
            have := alloc_sat (w := w.drew) (mem_drew hm) ha hsub hnew (keep_drew hk) (o := .cells (((runesL s).map (Value.int .i32)).toArray ++ Array.replicate (cap - (runesL s).length) (.int .i32 0)) e) (v := .slice (some ⟨w.heap.size, 0, none⟩) (runesL s).length cap) (ob := .row e 1 (runesL s).length fun k => [.v (.int .i32 ((runesL s).getD k 0))])
              (fun L' h' hs hL => ⟨(runesL s).map (Value.int .i32), ⟨by simp, .inr ⟨w.heap.size, cap, _, rfl, Nat.zero_le _, heap_alloc_at w.drew _, hcap, hcm, by simp; omega, by
                rw [Array.toList_append, Nat.mul_one]
                simp⟩⟩, (fun b hb => by cases hb; rfl), ⟨fun k hk => rfl, fun k hk j c hc => by
                  have hj : j = 0 := by have := (List.getElem?_eq_some_iff.1 hc).1; simp at this; exact this
                  subst hj
                  simp only [List.getElem?_cons_zero, Option.some.injEq] at hc
                  subst hc
                  refine ⟨_, ?_, .v _ rfl⟩
                  simp [List.getD_eq_getElem?_getD, hk]⟩⟩)
              (fun L' h' h1 h2 => .row _ _ _ _ h1 h2) hp
            refine value_upon ?_ this
            unfold execOp
            simp only [ex, Sem.run_bind, hrun, Result.andThen_ok]
            rfl
          · rename_i hde
            rw [hde] at hu3
            obtain ⟨hlen, hp⟩ := hp
            have hrun := run_bytes_of_string (P := P) w src dst' e s hu1 hu2 hu3
            have hcap := grownCap_ge w s.size 0 e
            generalize grownCap w s.size 0 e = cap at hrun hcap
            generalize hob : Obj.cells (bytesRow s cap) e ((bytesRow s cap).size, (bytesRow s cap).size + 1) = ob at hrun
            have hb := below_alloc w.drew ob
            have hm1 := mem_drew hm
            have hm2 := mem_same hm1 (same_below hm1 hb) hb.size
            have hat : (w.drew.alloc ob).heap[w.heap.size]? = some ob := heap_alloc_at w.drew ob
            have hno : h.m w.heap.size = none := hp_new hm.hsub (Nat.le_refl _)
            let h' : Hp := ⟨fun k => if k = w.heap.size then some ob else h.m k, h.n⟩
            have hs' : Sub h h' := ⟨fun k o hk => by
              show (if k = w.heap.size then _ else _) = _
              by_cases ek : k = w.heap.size
              · subst ek; rw [hno] at hk; cases hk
              · rw [if_neg ek]; exact hk, Nat.le_refl _⟩
            have hm3 : Mem (mineOf may w0) L F h' st.own (w.drew.alloc ob) := by
              refine ⟨hm2.hn, fun k o hk => ?_, fun i oi hi => obOk_move (hm2.obs i oi hi) (fun _ _ => rfl) (fun _ _ => rfl) hs', fun i oi b hi hb => ?_, hm2.dis⟩
              · have hk : (if k = w.heap.size then some ob else h.m k) = some o := hk
                by_cases ek : k = w.heap.size
                · subst ek; rw [if_pos rfl] at hk; cases hk; exact hat
                · rw [if_neg ek] at hk; exact hm2.hsub k o hk
              · obtain ⟨f1, f2, f3⟩ := hm2.foot i oi b hi hb
                have hlt := (hm.foot i oi b hi hb).1
                refine ⟨f1, ?_, f3⟩
                show (if b = w.heap.size then _ else _) = _
                rw [if_neg (by omega)]; exact f2
            have hd : Den L h' (.sl 1 s.size fun k => [.v (.int .u8 ((s.data.toList.getD k 0).toNat : Int))]) (.slice (some ⟨w.heap.size, 0, none⟩) s.size cap) := by
              refine .sl _ _ _ _ _ ⟨w.heap.size, 0, none⟩ (fun k _ => .int .u8 ((s.data.toList.getD k 0).toNat : Int)) hcap (by omega) (fun _ => rfl) (fun k hk j hj => ?_) (fun _ _ => rfl) (fun _ _ => rfl) (fun k hk j c hc => ?_)
              · obtain rfl : j = 0 := by omega
                rw [addr_plain, Nat.zero_add]
                have : h'.m w.heap.size = some ob := by show (if w.heap.size = w.heap.size then _ else _) = _; rw [if_pos rfl]
                rw [← hob] at this
                rw [hcell_at this]
                have hk2 : k < s.data.size := hk
                have := bytesRow_at s cap k hk2
                rw [Array.getElem?_toList, Nat.mul_one, Nat.add_zero, this]
                simp only [List.getD_eq_getElem?_getD, Array.getElem?_toList]
                rw [Array.getElem?_eq_getElem hk2]
                rfl
              · have hj : j = 0 := by have := (List.getElem?_eq_some_iff.1 hc).1; simp at this; exact this
                subst hj
                simp only [List.getElem?_cons_zero, Option.some.injEq] at hc
                subst hc
                exact .v _ rfl
            have := put_sat (dst := dst) hm3 (agree_more (st' := st) ha (fun _ _ => rfl) hs' rfl rfl) (hsub.step (fun _ _ => rfl) hs') (fun k hk2 => by
              have hk2 : (if k = w.heap.size then some ob else h.m k) ≠ none := hk2
              by_cases ek : k = w.heap.size
              · subst ek; exact .inr (.inr hk.size)
              · rw [if_neg ek] at hk2; exact hnew k hk2) (keep_below (keep_drew hk) hb) (show DenA L h' (.c _) _ from hd) hp
            refine value_upon ?_ this
            unfold execOp
            simp only [ex, Sem.run_bind, hrun, Result.andThen_ok]
            rfl
          · exact hp.elim
        · exact hp.elim
      · obtain ⟨av, v, h1, h2, h3⟩ := aop_ok hT hm ha (o := ⟨dst, _, ty, pos, after, guard⟩) hp
        exact value_upon (h3 w (fun _ _ => rfl)) (put_sat hm ha hsub hnew hk h2 h1)
    · obtain ⟨st, hs, hp⟩ := frzL_sat _ st hp hs0
      clear hm ha hsub hnew hk
      obtain ⟨⟨L, F, h, hm, ha, hsub, hnew⟩, hk⟩ := hs
      obtain ⟨av, v, h1, h2, h3⟩ := aop_ok hT hm ha (o := ⟨dst, _, ty, pos, after, guard⟩) hp
      exact value_upon (h3 w (fun _ _ => rfl)) (put_sat hm ha hsub hnew hk h2 h1)
    · exact hp.elim
  · obtain ⟨st, hs, hp⟩ := frzL_sat _ st hp hs0
    clear hm ha hsub hnew hk
    obtain ⟨⟨L, F, h, hm, ha, hsub, hnew⟩, hk⟩ := hs
    obtain ⟨av, v, h1, h2, h3⟩ := aop_ok hT hm ha (o := ⟨dst, _, ty, pos, after, guard⟩) hp
    exact value_upon (h3 w (fun _ _ => rfl)) (put_sat hm ha hsub hnew hk h2 h1)
  · exact hp.out _ _ _ _ _ _ hs0
  · exact hp.out _ _ _ _ _ _ hs0
  · exact hp.out _ _ _ _ _ _ hs0
  · exact hp.out _ _ _ _ _ _ hs0
  · exact hp.out _ _ _ _ _ _ hs0
  · exact hp.out _ _ _ _ _ _ hs0
  · exact hp.out _ _ _ _ _ _ hs0
  · obtain ⟨av, v, h1, h2, h3⟩ := aop_ok hT hm ha (o := ⟨dst, op, ty, pos, after, guard⟩) hp
    exact value_upon (h3 w (fun _ _ => rfl)) (put_sat hm ha hsub hnew hk h2 h1)
end
end Go.Eng
set_option linter.unusedVariables false
set_option linter.unusedSimpArgs false
namespace Go.Eng
open Go Go.RowKit

/-! ### '&&' and '||' without parting: what is reckoned under a guard -/
abbrev Ctx := List (Nat × Bool)
/-- Slot, guards, value. -/
abbrev GD := List (Nat × Ctx × AV)
def subCtx : Ctx → Ctx → Bool
  | [], _ => true
  | x :: r, y :: s => Nat.beq x.1 y.1 && (match x.2, y.2 with | true, true => true | false, false => true | _, _ => false) && subCtx r s
  | _ :: _, [] => false
def gEnv (C : Ctx) (env : List (Nat × AV)) : GD → List (Nat × AV)
  | [] => env
  | x :: r => match subCtx x.2.1 C with | true => (x.1, x.2.2) :: gEnv C env r | false => gEnv C env r
def ctxFree (x : Nat) : Ctx → Bool
  | [] => true
  | y :: r => match Nat.beq y.1 x with | true => false | false => ctxFree x r
def dropG (x : Nat) : GD → GD
  | [] => []
  | y :: r => match Nat.beq y.1 x with
    | true => dropG x r
    | false => match ctxFree x y.2.1 with | true => y :: dropG x r | false => dropG x r
def boolOf : Option AV → Option Bool
  | some (.c (.v (.bool b))) => some b
  | _ => none
/-- Under which guards slot d was reckoned. -/
def ctxOf (d : Nat) : GD → Ctx
  | [] => []
  | x :: r => match Nat.beq x.1 d with | true => x.2.1 | false => ctxOf d r
def condP (env : List (Nat × AV)) : Ctx → Prop → Prop
  | [], X => X
  | x :: r, X => match boolOf (env.lookup x.1) with
    | some b => b = x.2 → condP env r X
    | none => condP env r X
def isLit : Operand → Option Bool
  | .const (.bool b) => some b
  | _ => none
def pickB (b : Bool) (x y : Operand) (u v : Bool) : Bool :=
  match isLit y with
  | some false => b && u
  | _ => match isLit x with
    | some true => b || v
    | _ => match b with | true => u | false => v
/-! What an operation yields, and what it asks, told apart. -/
def intF (op : BinOp) (k : IntKind) (a b : Int) : Option Value :=
  match op with
  | .add => some (.int k (k.wrap (a + b)))
  | .sub => some (.int k (k.wrap (a - b)))
  | .mul => some (.int k (k.wrap (a * b)))
  | .eql => some (.bool (a == b))
  | .neq => some (.bool (a != b))
  | .lss => some (.bool (decide (a < b)))
  | .leq => some (.bool (decide (a ≤ b)))
  | .gtr => some (.bool (decide (a > b)))
  | .geq => some (.bool (decide (a ≥ b)))
  | .and => some (.int k (bits .and k a b))
  | .or => some (.int k (bits .or k a b))
  | .xor => some (.int k (bits .xor k a b))
  | _ => none
def ifO {α : Type} (b : Bool) (x : Option α) : Option α := match b with | true => x | false => none
theorem ifO_and {α : Type} {b : Bool} {x : Option α} {y : α} (h : ifO b x = some y) : b = true ∧ x = some y := by
  unfold ifO at h
  split at h
  · exact ⟨rfl, h⟩
  · cases h
def eqB (T : TT) (t : TypeId) (ox oy : Operand) (x y : Value) : Option Bool :=
  match eqV T 10000 t x y with
  | some r => ifO (guardOk T t ox oy x y && plainEq x y) (some r)
  | none => none
def binF (T : TT) (op : BinOp) (t : TypeId) (ox oy : Operand) (x y : Value) : Option Value :=
  match x, y with
  | .int k a, .int k' b => match op with
    | .shl => none
    | .shr => none
    | op => ifO (decide (k = k')) (intF op k a b)
  | .string a, .string b => match op with
    | .eql => some (.bool (decide (a = b)))
    | .neq => some (.bool (!(decide (a = b))))
    | _ => none
  | x, y => match op with
    | .eql => match eqB T t ox oy x y with | some r => some (.bool r) | none => none
    | .neq => match eqB T t ox oy x y with | some r => some (.bool (!r)) | none => none
    | _ => none
def ldF (T : TT) (t : TypeId) (cs : List IC) : Option AV :=
  match T.lookup t with
  | some ti => match ti.agg with
    | true => ifO (decide (ti.size ≤ cs.length)) (some (.agg (cs.take ti.size)))
    | false => match cs with
      | c :: _ => some (.c c)
      | [] => none
  | none => none
def tag (p : Option Prop) (a : Option AV) : Option (Option Prop × AV) := match a with | some a => some (p, a) | none => none
def aopC (T : TT) (st : St) (o : Op) : Option (Option Prop × AV) :=
  match o with
  | .move x | .assign x => tag none (ev st x)
  | .load t p => match ev st p with
    | some (.c (.own i off)) => match st.own[i]? with
      | some (some (.cells _ cs)) => tag none (ldF T t (cs.drop off))
      | _ => none
    | some (.c (.fp cs)) => tag none (ldF T t cs)
    | some (.c (.rel i sz k off)) => match st.own[i]? with
      | some (some (.row _ sz' n f)) => ifO (decide (sz = sz')) (tag none (ldF T t ((f k).drop off)))
      | _ => none
    | _ => none
  | .fieldAddr s x i => match fieldOff T s i, ev st x with
    | some o, some (.c (.own j off)) => some (none, .c (.own j (off + o)))
    | some o, some (.c (.fp cs)) => some (none, .c (.fp (cs.drop o)))
    | some o, some (.c (.rel j sz k off)) => some (none, .c (.rel j sz k (off + o)))
    | _, _ => none
  | .indexAddr t x i => match T.lookup t, ev st x, idxOf (ev st i) with
    | some ti, some (.c (.sl sz n f)), some (_, j) => (match ti.desc with
      | .slice e => (match T.lookup e with | some te => ifO (decide (te.size = sz)) (some (some (0 ≤ j ∧ j < n), .c (.fp (f j.toNat)))) | none => none)
      | _ => none)
    | some ti, some (.c (.row r)), some (_, j) => (match ti.desc, st.own[r]? with
      | .slice e, some (some (.row _ sz n f)) => (match T.lookup e with | some te => ifO (decide (te.size = sz)) (some (some (0 ≤ j ∧ j < n), .c (.rel r sz j.toNat 0))) | none => none)
      | _, _ => none)
    | _, _, _ => none
  | .index t x i => match T.lookup t, ev st x, idxOf (ev st i) with
    | some ti, some (.c (.v (.string s))), some (_, j) => (match ti.desc with | .string => some (some (0 ≤ j ∧ j < s.size), .c (.v (.int .u8 (s[j.toNat]!).toNat))) | _ => none)
    | _, _, _ => none
  | .binOp op t x y _ => match ev st x, ev st y with
    | some a, some b => (match avVal a, avVal b with
      | some u, some v => (match binF T op t x y u v with | some r => some (none, .c (.v r)) | none => none)
      | _, _ => (match op, nilT st T t a b with | .eql, .never => some (none, .c (.v (.bool false))) | .neq, .never => some (none, .c (.v (.bool true))) | _, _ => none))
    | _, _ => none
  | .unOp op t x => match op, ev st x with
    | .not, some (.c (.v (.bool b))) => some (none, .c (.v (.bool (!b))))
    | _, _ => none
  | .extract x i => match ev st x with
    | some (.tup as) => (match as[i]? with | some (.c y) => some (none, .c y) | some (.agg ys) => some (none, .agg ys) | _ => none)
    | _ => none
  | .nilCheck x => match ev st x with
    | some (.c (.own j off)) => some (none, .c (.own j off))
    | some (.c (.fp cs)) => some (none, .c (.fp cs))
    | some (.c (.rel i sz k off)) => some (none, .c (.rel i sz k off))
    | _ => none
  | .convert src dst x => match T.lookup dst, T.lookup src, ev st x with
    | some td, some ts, some (.c (.v (.int k n))) => (match td.desc with | .int k' => some (none, .c (.v (.int k' (k'.wrap n)))) | _ => none)
    | _, _, _ => none
  | .call { callee := .builtin .len, args := ⟨[x]⟩, argTypes := ⟨[t]⟩ } => match T.lookup t with
    | some ti => match ti.desc, ev st x with
      | .string, some (.c (.v (.string s))) => some (some (s.size ≤ 9223372036854775807), .c (.v (.int .i64 s.size)))
      | .slice _, some (.c (.sl sz n f)) => some (none, .c (.v (.int .i64 n)))
      | .slice _, some (.c (.row i)) => (match st.own[i]? with | some (some (.row e sz n f)) => some (none, .c (.v (.int .i64 n))) | _ => none)
      | _, _ => none
    | none => none
  | .call { callee := .builtin .max, args := ⟨[x, y]⟩, argTypes := ⟨[_, _]⟩ } => match ev st x, ev st y with
    | some (.c (.v (.int k a))), some (.c (.v (.int k' b))) => some (none, .c (.v (.int k (maxI a b))))
    | _, _ => none
  | .call { callee := .builtin .min, args := ⟨[x, y]⟩, argTypes := ⟨[_, _]⟩ } => match ev st x, ev st y with
    | some (.c (.v (.int k a))), some (.c (.v (.int k' b))) => some (none, .c (.v (.int k (minI a b))))
    | _, _ => none
  | _ => none
theorem ifD_mk' {p : Prop} [d : Decidable p] {x : Prop} (hp : p) (hx : x) : ifD p x := by
  unfold ifD
  rw [decide_eq_true hp]
  exact hx
theorem ldF_ok {T : TT} {t : TypeId} {cs : List IC} {p : Option Prop} {q : Option Prop × AV} (h : tag p (ldF T t cs) = some q) : q.1 = p ∧ ldP T t cs (fun a => a = q.2) := by
  unfold ldF at h
  unfold ldP
  cases hl : T.lookup t with
  | none => rw [hl] at h; cases h
  | some ti =>
    rw [hl] at h
    simp only at h ⊢
    cases ha : ti.agg with
    | true =>
      rw [ha] at h
      simp only at h ⊢
      unfold ifO at h
      split at h
      · rename_i hd
        cases h
        exact ⟨rfl, ifD_mk' (of_decide_eq_true hd) rfl⟩
      · cases h
    | false =>
      rw [ha] at h
      simp only at h ⊢
      cases cs with
      | nil => cases h
      | cons c r => cases h; exact ⟨rfl, rfl⟩
theorem eqB_ok {T : TT} {t : TypeId} {ox oy : Operand} {x y : Value} {r : Bool} (h : eqB T t ox oy x y = some r) : eqV T 10000 t x y = some r ∧ guardOk T t ox oy x y = true ∧ plainEq x y = true := by
  unfold eqB at h
  split at h
  · rename_i r' hr
    obtain ⟨h1, h2⟩ := ifO_and h
    rw [Bool.and_eq_true] at h1
    cases h2
    exact ⟨hr, h1⟩
  · cases h
theorem binF_ok {T : TT} {op : BinOp} {t : TypeId} {ox oy : Operand} {x y r : Value} {K : Value → Prop} (h : binF T op t ox oy x y = some r) (hK : K r) : binP T op t ox oy x y K := by
  unfold binF at h
  unfold binP
  split at h
  · split at h
    · cases h
    · cases h
    · rename_i k a k' b op' hs1 hs2
      obtain ⟨h1, h2⟩ := ifO_and h
      have h1 := of_decide_eq_true h1
      simp only
      refine ifD_mk' h1 ?_
      unfold intF at h2
      unfold intOp
      split at h2 <;> first | (cases h2; exact hK) | cases h2
  · simp only
    unfold strOp
    split at h <;> first | (cases h; exact hK) | cases h
  · rename_i h1 h2
    split
    · exact absurd rfl (h1 _ _ _ _ rfl)
    · exact absurd rfl (h2 _ _ rfl)
    · split at h
      · split at h
        · rename_i r' hr
          obtain ⟨e1, e2, e3⟩ := eqB_ok hr
          cases h
          simp only [e1]
          exact ifD_mk' e2 (ifD_mk' e3 hK)
        · cases h
      · split at h
        · rename_i r' hr
          obtain ⟨e1, e2, e3⟩ := eqB_ok hr
          cases h
          simp only [e1]
          exact ifD_mk' e2 (ifD_mk' e3 hK)
        · cases h
      · cases h
theorem aopC_ok {T : TT} {st : St} {o : Op} {q : Option Prop × AV} (h : aopC T st o = some q) (hq : ∀ p, q.1 = some p → p) : aopP T st o (fun a => a = q.2) := by
  unfold aopC at h
  split at h
  · cases hx : ev st _ with
    | none => rw [hx] at h; cases h
    | some v => rw [hx] at h; cases h; simp only [aopP, hx]
  · cases hx : ev st _ with
    | none => rw [hx] at h; cases h
    | some v => rw [hx] at h; cases h; simp only [aopP, hx]
  · split at h
    · rename_i i off hx
      unfold aopP
      simp only [hx, loadP]
      split at h
      · rename_i ho; simp only [ho]; exact (ldF_ok h).2
      · cases h
    · rename_i cs hx
      unfold aopP
      simp only [hx, loadP]
      exact (ldF_ok h).2
    · rename_i i sz k off hx
      unfold aopP
      simp only [hx, loadP]
      split at h
      · rename_i ho
        simp only [ho]
        obtain ⟨h1, h2⟩ := ifO_and h
        exact ifD_mk' (of_decide_eq_true h1) (ldF_ok h2).2
      · cases h
    · cases h
  · split at h
    · rename_i hf hx; unfold aopP; simp only [hf, hx]; cases h; rfl
    · rename_i hf hx; unfold aopP; simp only [hf, hx]; cases h; rfl
    · rename_i hf hx; unfold aopP; simp only [hf, hx]; cases h; rfl
    · cases h
  · split at h
    · rename_i hl hx hi
      unfold aopP
      simp only [hl, hx, hi]
      split at h
      · rename_i hd
        simp only [hd]
        split at h
        · rename_i hl2
          simp only [hl2]
          obtain ⟨h1, h2⟩ := ifO_and h
          cases h2
          exact ifD_mk' (of_decide_eq_true h1) ⟨hq _ rfl, rfl⟩
        · cases h
      · cases h
    · rename_i hl hx hi
      unfold aopP
      simp only [hl, hx, hi]
      split at h
      · rename_i hd ho
        simp only [hd, ho]
        split at h
        · rename_i hl2
          simp only [hl2]
          obtain ⟨h1, h2⟩ := ifO_and h
          cases h2
          exact ifD_mk' (of_decide_eq_true h1) ⟨hq _ rfl, rfl⟩
        · cases h
      · cases h
    · cases h
  · split at h
    · rename_i hl hx hi
      unfold aopP
      simp only [hl, hx, hi]
      split at h
      · rename_i hd
        simp only [hd]
        cases h
        exact ⟨hq _ rfl, rfl⟩
      · cases h
    · cases h
  · split at h
    · rename_i hx hy
      split at h
      · rename_i hu hv
        split at h
        · rename_i hb
          cases h
          unfold aopP
          simp only [hx, hy, hu, hv]
          exact binF_ok hb rfl
        · cases h
      · rename_i hno
        split at h
        · rename_i hn
          cases h
          unfold aopP
          simp only [hx, hy, hn, nilP]
        · rename_i hn
          cases h
          unfold aopP
          simp only [hx, hy, hn, nilP]
        · cases h
    · cases h
  · split at h
    · rename_i hx; unfold aopP; simp only [hx]; cases h; rfl
    · cases h
  · split at h
    · rename_i hx
      unfold aopP
      simp only [hx]
      split at h
      · rename_i hi; simp only [hi]; cases h; rfl
      · rename_i hi; simp only [hi]; cases h; rfl
      · cases h
    · cases h
  · split at h
    · rename_i hx; unfold aopP; simp only [hx]; cases h; rfl
    · rename_i hx; unfold aopP; simp only [hx]; cases h; rfl
    · rename_i hx; unfold aopP; simp only [hx]; cases h; rfl
    · cases h
  · split at h
    · rename_i hl hl2 hx
      split at h
      · rename_i hd
        unfold aopP
        simp only [hl, hl2, hx, convP, hd]
        cases h; rfl
      · cases h
    · cases h
  · split at h
    · rename_i hl
      split at h
      · rename_i hd hx
        unfold aopP
        simp only [builtinP, hl, hd, hx]
        cases h
        exact ⟨hq _ rfl, rfl⟩
      · rename_i hd hx
        unfold aopP
        simp only [builtinP, hl, hd, hx, lenP]
        cases h; rfl
      · rename_i hd hx
        unfold aopP
        simp only [builtinP, hl, hd, hx, lenP]
        split at h
        · rename_i ho; simp only [ho]; cases h; rfl
        · cases h
      · cases h
    · cases h
  · split at h
    · rename_i hx hy
      unfold aopP
      simp only [builtinP, hx, hy]
      cases h; rfl
    · cases h
  · split at h
    · rename_i hx hy
      unfold aopP
      simp only [builtinP, hx, hy]
      cases h; rfl
    · cases h
  · cases h
/-- A quiet operation, under the guards C. -/
def gopP (T : TT) (n k : Nat) (own : List (Option Ob)) (env : List (Nat × AV)) (gds : GD) (C : Ctx) (o : Op) (K : AV → Prop) : Prop :=
  match o with
  | .pick (.tmp c) x y => match boolOf ((gEnv C env gds).lookup c), boolOf (ev ⟨n, k, gEnv (C ++ [(c, true)]) env gds, own⟩ x), boolOf (ev ⟨n, k, gEnv (C ++ [(c, false)]) env gds, own⟩ y) with
    | some b, some u, some v => K (.c (.v (.bool (pickB b x y u v))))
    | _, _, _ => False
  | o => match C with
    | [] => aopP T ⟨n, k, env, own⟩ o K
    | C => match aopC T ⟨n, k, gEnv C env gds, own⟩ o with
      | some (none, av) => K av
      | some (some p, av) => condP (gEnv C env gds) C p ∧ K av
      | none => False
def opsG (T : TT) (ops : Array Oper) (l : List Oper) : St → GD → (St → Prop) → Prop :=
  List.rec (motive := fun _ => St → GD → (St → Prop) → Prop) (fun st _ K => K st)
    (fun o _ ih st gds K => match st, o.dst with
      | ⟨n, k, env, own⟩, some dd => match o.guard with
        | none => gopP T n k own env gds [] o.op (fun av => ifD (dd < n) (forceA av fun av => forceL (dropG dd gds) fun gds' => ih ⟨n, k, (dd, av) :: env, own⟩ gds' K))
        | some (j, want) => match (ops[j]?).bind (·.dst) with
          | some d => match boolOf ((gEnv (ctxOf d gds) env gds).lookup d) with
            | some _ => forceL (ctxOf d gds ++ [(d, want)]) fun C => ifD (ctxFree dd C = true) (gopP T n k own env gds C o.op (fun av => ifD (dd < n) (forceA av fun av => forceL (dropG dd gds) fun gds' => ih ⟨n, k, (dd, .top) :: env, own⟩ ((dd, C, av) :: gds') K)))
            | none => False
          | none => False
      | _, none => False) l
/-- Operations that may be reckoned so. -/
def isG (T : TT) : Op → Bool
  | .move _ | .assign _ | .pick .. | .load .. | .fieldAddr .. | .indexAddr .. | .index .. | .binOp .. | .unOp .. | .extract .. | .nilCheck _ | .field .. => true
  | .convert s d _ => match T.lookup s, T.lookup d with
    | some ts, some td => (match ts.desc, td.desc with | .int _, .int _ => true | _, _ => false)
    | _, _ => false
  | .call { callee := .builtin .len, .. } | .call { callee := .builtin .min, .. } | .call { callee := .builtin .max, .. } => true
  | _ => false
def allG (T : TT) : List Oper → Bool
  | [] => true
  | o :: r => match o.dst with | some _ => (match isG T o.op with | true => allG T r | false => false) | none => false
def hasG : List Oper → Bool
  | [] => false
  | o :: r => match o.guard with | some _ => true | none => hasG r
section
variable {P : Program} {T : TT} {FF : FL} {mine may : Nat → Prop} {L : Nat → Value} {F : Nat → Nat → Prop} {h : Hp} {st : St} {a : Act} {w w0 : World}
def allT (a : Act) (C : Ctx) : Prop := ∀ d b, (d, b) ∈ C → a.tmps.getD d undef = .bool b
structure GOk (L : Nat → Value) (h : Hp) (gds : GD) (a : Act) : Prop where
  out : ∀ t C av, (t, C, av) ∈ gds → (allT a C → DenA L h av (a.tmps.getD t undef)) ∧ (¬ allT a C → a.tmps.getD t undef = undef)
theorem subCtx_ok : ∀ {C D : Ctx}, subCtx C D = true → allT a D → allT a C
  | [], D, _, _ => fun d b hm => nomatch hm
  | x :: r, [], hs, _ => by cases hs
  | x :: r, y :: s, hs, hD => by
    unfold subCtx at hs
    rw [Bool.and_eq_true, Bool.and_eq_true] at hs
    have e1 := Nat.eq_of_beq_eq_true hs.1.1
    have e2 : x.2 = y.2 := by
      have := hs.1.2
      cases hx : x.2 <;> cases hy : y.2 <;> rw [hx, hy] at this <;> first | rfl | cases this
    have ih := subCtx_ok hs.2 (fun d b hm => hD d b (List.mem_cons_of_mem _ hm))
    intro d b hm
    rcases List.mem_cons.1 hm with e | hm
    · refine hD d b ?_
      rw [e]
      have : x = y := Prod.ext e1 e2
      rw [this]
      exact List.mem_cons_self ..
    · exact ih d b hm
theorem gEnv_ok {n k : Nat} {env : List (Nat × AV)} {own : List (Option Ob)} {C : Ctx} (ha : Agree L h ⟨n, k, env, own⟩ a) (hC : allT a C) : ∀ {gds : GD}, GOk L h gds a → Agree L h ⟨n, k, gEnv C env gds, own⟩ a
  | [], _ => ha
  | x :: r, hg => by
    have ih := gEnv_ok (gds := r) ha hC ⟨fun t C av hm => hg.out t C av (List.mem_cons_of_mem _ hm)⟩
    unfold gEnv
    split
    · rename_i hs
      refine ⟨ih.size, fun t av ht => ?_, ih.defers⟩
      simp only [List.lookup_cons] at ht
      by_cases e : t = x.1
      · subst e
        simp at ht
        subst ht
        exact (hg.out x.1 x.2.1 x.2.2 (by simp)).1 (subCtx_ok hs hC)
      · have e' : (t == x.1) = false := by simpa using e
        rw [e'] at ht
        exact ih.env t av ht
    · exact ih
theorem boolOf_eq {o : Option AV} {b : Bool} (hb : boolOf o = some b) : o = some (.c (.v (.bool b))) := by
  unfold boolOf at hb
  split at hb
  · cases hb; rfl
  · cases hb
theorem condP_ok {n k : Nat} {env : List (Nat × AV)} {own : List (Option Ob)} (ha : Agree L h ⟨n, k, env, own⟩ a) {X : Prop} : ∀ {C : Ctx}, allT a C → condP env C X → X
  | [], _, hx => hx
  | x :: r, hC, hx => by
    have ih := condP_ok (C := r) ha (X := X) (fun d b hm => hC d b (List.mem_cons_of_mem _ hm))
    unfold condP at hx
    split at hx
    · rename_i b hb
      refine ih (hx ?_)
      have h1 := den_one (ha.env x.1 _ (boolOf_eq hb))
      have h2 := hC x.1 x.2 (by simp)
      rw [h2] at h1
      cases h1; rfl
    · exact ih hx
theorem pick_run {b : Bool} {x y : Operand} {u v : Bool} (hx : b = true → a.eval x = .bool u) (hy : b = false → a.eval y = .bool v) : (match b with | true => a.eval x | false => a.eval y) = .bool (pickB b x y u v) := by
  have lit : ∀ (z : Operand) (c : Bool), isLit z = some c → a.eval z = .bool c := fun z c hz => by
    unfold isLit at hz
    split at hz
    · cases hz; rfl
    · cases hz
  cases b with
  | true =>
    show a.eval x = _
    unfold pickB
    split
    · simpa using hx rfl
    · split
      · rename_i hl; simpa using lit x true hl
      · exact hx rfl
  | false =>
    show a.eval y = _
    unfold pickB
    split
    · rename_i hl; simpa using lit y false hl
    · split
      · simpa using hy rfl
      · exact hy rfl
theorem gop_ok (hT : TTok P T) {n k : Nat} {env : List (Nat × AV)} {own : List (Option Ob)} (hm : Mem mine L F h own w) (ha : Agree L h ⟨n, k, env, own⟩ a) {gds : GD} (hg : GOk L h gds a) {C : Ctx} {o : Oper} {K : AV → Prop} (hp : gopP T n k own env gds C o.op K) :
    ∃ av, K av ∧ (allT a C → ∃ v, DenA L h av v ∧ ∀ w', Same F own h w w' → (execOp a.eval o).run P w' = .ok (.value v) w') := by
  obtain ⟨dst, op, ty, pos, after, guard⟩ := o
  simp only at hp
  unfold gopP at hp
  split at hp
  · rename_i c x y
    split at hp
    · rename_i b u v hb hu hv
      refine ⟨_, hp, fun hC => ⟨.bool (pickB b x y u v), Den.v _ rfl, fun w' _ => ?_⟩⟩
      have e1 : a.tmps.getD c undef = .bool b := den_one ((gEnv_ok ha hC hg).env c _ (boolOf_eq hb))
      have hext : ∀ q : Bool, b = q → allT a (C ++ [(c, q)]) := fun q hq d b' hmm => by
        rcases List.mem_append.1 hmm with hmm | hmm
        · exact hC d b' hmm
        · simp at hmm
          obtain ⟨rfl, rfl⟩ := hmm
          rw [e1, hq]
      have hx : b = true → a.eval x = .bool u := fun hq => ev_v (gEnv_ok ha (hext true hq) hg) (boolOf_eq hu)
      have hy : b = false → a.eval y = .bool v := fun hq => ev_v (gEnv_ok ha (hext false hq) hg) (boolOf_eq hv)
      have hr := pick_run (a := a) hx hy
      have ec : a.eval (.tmp c) = .bool b := e1
      cases b with
      | true => simp only at hr; simp [execOp, ec, asBool, hr]
      | false => simp only at hr; simp [execOp, ec, asBool, hr]
    · exact hp.elim
  · split at hp
    · obtain ⟨av, v, h1, h2, h3⟩ := aop_ok hT (st := ⟨n, k, env, own⟩) hm ha (o := ⟨dst, op, ty, pos, after, guard⟩) hp
      exact ⟨av, h1, fun _ => ⟨v, h2, h3⟩⟩
    · have fin : ∀ (q : Option Prop × AV), aopC T ⟨n, k, gEnv C env gds, own⟩ op = some q → (allT a C → ∀ p, q.1 = some p → p) → (allT a C → ∃ v, DenA L h q.2 v ∧ ∀ w', Same F own h w w' → (execOp a.eval { dst := dst, op := op, type := ty, pos := pos, after := after, guard := guard }).run P w' = .ok (.value v) w') := fun q hq h1 hC => by
        have hag := gEnv_ok ha hC hg
        obtain ⟨av', v, k1, k2, k3⟩ := aop_ok hT (st := ⟨n, k, gEnv C env gds, own⟩) hm hag (o := ⟨dst, op, ty, pos, after, guard⟩) (aopC_ok hq (h1 hC))
        subst k1
        exact ⟨v, k2, k3⟩
      split at hp
      · rename_i av hq
        exact ⟨av, hp, fin _ hq (fun _ p e => by cases e)⟩
      · rename_i p av hq
        exact ⟨av, hp.2, fin _ hq (fun hC p' e => by cases e; exact condP_ok (gEnv_ok ha hC hg) hC hp.1)⟩
      · exact hp.elim
theorem put_other {x t : Nat} {v : Value} (hne : t ≠ x) : (a.put (some x) v).tmps.getD t undef = a.tmps.getD t undef := by
  simp [Act.put, Array.getD_eq_getD_getElem?, Array.getElem?_setIfInBounds, Ne.symm hne]
theorem put_self {x : Nat} {v : Value} (hx : x < a.tmps.size) : (a.put (some x) v).tmps.getD x undef = v := by simp [Act.put, hx]
theorem ctxFree_ok {x : Nat} : ∀ {C : Ctx}, ctxFree x C = true → ∀ d b, (d, b) ∈ C → d ≠ x
  | [], _, d, b, hm => nomatch hm
  | y :: r, hf, d, b, hm => by
    unfold ctxFree at hf
    split at hf
    · cases hf
    · rename_i hb
      rcases List.mem_cons.1 hm with e | hm
      · have e1 : d = y.1 := by rw [← e]
        intro e2
        rw [← e1, e2] at hb
        simp at hb
      · exact ctxFree_ok hf d b hm
theorem allT_put {x : Nat} {v : Value} {C : Ctx} (hf : ctxFree x C = true) : allT (a.put (some x) v) C ↔ allT a C := by
  constructor
  · intro hC d b hm
    rw [← put_other (v := v) (ctxFree_ok hf d b hm)]
    exact hC d b hm
  · intro hC d b hm
    rw [put_other (ctxFree_ok hf d b hm)]
    exact hC d b hm
theorem dropG_mem {x : Nat} : ∀ {gds : GD} {y : Nat × Ctx × AV}, y ∈ dropG x gds → y ∈ gds ∧ y.1 ≠ x ∧ ctxFree x y.2.1 = true
  | [], y, hm => nomatch hm
  | z :: r, y, hm => by
    unfold dropG at hm
    split at hm
    · have := dropG_mem hm
      exact ⟨List.mem_cons_of_mem _ this.1, this.2⟩
    · rename_i hb
      split at hm
      · rename_i hf
        rcases List.mem_cons.1 hm with rfl | hm
        · exact ⟨by simp, fun e => by rw [e] at hb; simp at hb, hf⟩
        · have := dropG_mem hm
          exact ⟨List.mem_cons_of_mem _ this.1, this.2⟩
      · have := dropG_mem hm
        exact ⟨List.mem_cons_of_mem _ this.1, this.2⟩
theorem gok_drop {gds : GD} (hg : GOk L h gds a) (x : Nat) (v : Value) : GOk L h (dropG x gds) (a.put (some x) v) := by
  refine ⟨fun t C av hm => ?_⟩
  obtain ⟨h1, h2, h3⟩ := dropG_mem hm
  obtain ⟨k1, k2⟩ := hg.out t C av h1
  rw [put_other h2]
  exact ⟨fun hC => k1 ((allT_put h3).1 hC), fun hC => k2 (fun hC' => hC ((allT_put h3).2 hC'))⟩
theorem ctxOf_mem {d : Nat} : ∀ {gds : GD}, ctxOf d gds = [] ∨ ∃ av, (d, ctxOf d gds, av) ∈ gds
  | [] => .inl rfl
  | x :: r => by
    unfold ctxOf
    split
    · rename_i hb
      have e := Nat.eq_of_beq_eq_true hb
      obtain ⟨x1, x2, x3⟩ := x
      simp only at e
      subst e
      exact .inr ⟨x3, by simp⟩
    · rcases ctxOf_mem (gds := r) with h1 | ⟨av, h1⟩
      · exact .inl h1
      · exact .inr ⟨av, List.mem_cons_of_mem _ h1⟩
/-- One operation more. -/
theorem opsG_step (hT : TTok P T) {ops : Array Oper} {o : Oper} {r : List Oper} {K : St → Prop} (hm : Mem mine L F h st.own w) (ha : Agree L h st a) {gds : GD} (hg : GOk L h gds a) (hp : opsG T ops (o :: r) st gds K) :
    ∃ v st' gds', (Region.wanted o (yielded ops a.tmps) = true ∧ (∀ w', Same F st.own h w w' → (execOp a.eval o).run P w' = .ok (.value v) w') ∨ Region.wanted o (yielded ops a.tmps) = false ∧ v = undef) ∧
      Agree L h st' (a.put o.dst v) ∧ GOk L h gds' (a.put o.dst v) ∧ (st'.own = st.own ∧ st'.k = st.k) ∧ opsG T ops r st' gds' K := by
  obtain ⟨n, k, env, own⟩ := st
  have hp : (match (⟨n, k, env, own⟩ : St), o.dst with
      | ⟨n, k, env, own⟩, some dd => match o.guard with
        | none => gopP T n k own env gds [] o.op (fun av => ifD (dd < n) (forceA av fun av => forceL (dropG dd gds) fun gds' => opsG T ops r ⟨n, k, (dd, av) :: env, own⟩ gds' K))
        | some (j, want) => match (ops[j]?).bind (·.dst) with
          | some d => match boolOf ((gEnv (ctxOf d gds) env gds).lookup d) with
            | some _ => forceL (ctxOf d gds ++ [(d, want)]) fun C => ifD (ctxFree dd C = true) (gopP T n k own env gds C o.op (fun av => ifD (dd < n) (forceA av fun av => forceL (dropG dd gds) fun gds' => opsG T ops r ⟨n, k, (dd, .top) :: env, own⟩ ((dd, C, av) :: gds') K)))
            | none => False
          | none => False
      | _, none => False) := hp
  cases hd : o.dst with
  | none => rw [hd] at hp; exact hp.elim
  | some dd =>
    rw [hd] at hp
    simp only at hp
    have hsize : a.tmps.size = n := ha.size
    cases hgd : o.guard with
    | none =>
      rw [hgd] at hp
      simp only at hp
      obtain ⟨av, hK, hrun⟩ := gop_ok hT hm ha hg hp
      obtain ⟨v, hden, hrun⟩ := hrun (fun d b hmm => nomatch hmm)
      obtain ⟨hlt, hK⟩ := ifD_and hK
      rw [forceA_eq, forceL_eq] at hK
      exact ⟨v, _, _, .inl ⟨by unfold Region.wanted; rw [hgd], hrun⟩, agree_put ha hlt hden, gok_drop hg dd v, ⟨rfl, rfl⟩, hK⟩
    | some jw =>
      obtain ⟨j, want⟩ := jw
      rw [hgd] at hp
      simp only at hp
      split at hp
      · rename_i d hdj
        split at hp
        · rename_i b hb
          rw [forceL_eq] at hp
          obtain ⟨hfree, hp⟩ := ifD_and hp
          obtain ⟨av, hK, hrun⟩ := gop_ok hT hm ha hg hp
          obtain ⟨hlt, hK⟩ := ifD_and hK
          rw [forceA_eq, forceL_eq] at hK
          have hwant : Region.wanted o (yielded ops a.tmps) = true ↔ allT a (ctxOf d gds ++ [(d, want)]) := by
            have hy : ∀ q, yielded ops a.tmps j = some q ↔ a.tmps.getD d undef = .bool q := fun q => by
              unfold yielded
              rw [hdj]
              simp only [Option.bind_some]
              rw [Array.getD_eq_getD_getElem?]
              cases a.tmps[d]? with
              | none => simp [undef]
              | some z => cases z <;> simp
            have h1 : Region.wanted o (yielded ops a.tmps) = true ↔ a.tmps.getD d undef = .bool want := by
              unfold Region.wanted
              rw [hgd]
              simp only [beq_iff_eq]
              exact hy want
            rw [h1]
            constructor
            · intro e d' b' hmm
              rcases List.mem_append.1 hmm with hmm | hmm
              · rcases ctxOf_mem (d := d) (gds := gds) with h2 | ⟨av2, h2⟩
                · rw [h2] at hmm; exact nomatch hmm
                · obtain ⟨_, k2⟩ := hg.out d _ av2 h2
                  by_cases hC : allT a (ctxOf d gds)
                  · exact hC d' b' hmm
                  · rw [k2 hC] at e; cases e
              · simp at hmm
                obtain ⟨rfl, rfl⟩ := hmm
                exact e
            · intro hC
              exact hC d want (by simp)
          have hps : ∀ v, (a.put (some dd) v).tmps.getD dd undef = v := fun v => put_self (by rw [hsize]; exact hlt)
          by_cases hC : allT a (ctxOf d gds ++ [(d, want)])
          · obtain ⟨v, hden, hrun⟩ := hrun hC
            refine ⟨v, _, _, .inl ⟨hwant.2 hC, hrun⟩, agree_put (av := .top) ha hlt trivial, ⟨fun t C av' hmm => ?_⟩, ⟨rfl, rfl⟩, hK⟩
            rcases List.mem_cons.1 hmm with e | hmm
            · cases e
              rw [hps]
              exact ⟨fun _ => hden, fun hno => absurd ((allT_put hfree).2 hC) hno⟩
            · exact (gok_drop hg dd v).out t C av' hmm
          · refine ⟨undef, _, _, .inr ⟨?_, rfl⟩, agree_put (av := .top) ha hlt trivial, ⟨fun t C av' hmm => ?_⟩, ⟨rfl, rfl⟩, hK⟩
            · cases hx : Region.wanted o (yielded ops a.tmps) with
              | false => rfl
              | true => exact absurd (hwant.1 hx) hC
            · rcases List.mem_cons.1 hmm with e | hmm
              · cases e
                rw [hps]
                exact ⟨fun hC' => absurd ((allT_put hfree).1 hC') hC, fun _ => rfl⟩
              · exact (gok_drop hg dd undef).out t C av' hmm
        · exact hp.elim
      · exact hp.elim
theorem gok_nil : GOk L h [] a := ⟨fun t C av hm => nomatch hm⟩
end
end Go.Eng
set_option linter.unusedVariables false
set_option linter.unusedSimpArgs false
namespace Go.Eng
open Go Go.RowKit

/-- Which way, of a Bool. -/
def onB (x y : Prop) (b : Bool) : Prop := match b with | true => x | false => y
theorem onB_intro {b : Bool} {x y : Prop} (hx : b = true → x) (hy : b = false → y) : onB x y b := by cases b; exact hy rfl; exact hx rfl
/-- Has a guarded operation to run? -/
def guardP (ops : Array Oper) (o : Oper) (st : St) (x y : Prop) : Prop :=
  match o.guard with
  | none => x
  | some (j, want) => match (ops[j]?).bind (·.dst) with
    | some d => match st.env.lookup d with
      | some (.c (.v (.bool b))) => (match want with | true => onB x y b | false => onB y x b)
      | some (.tup []) => y
      | _ => False
    | none => False
def skipK (st : St) (dst : Option Nat) (K : St → Prop) : Prop := putK st dst (.tup []) K
def opsP (P : Program) [HasGl P] (T : TT) (FF : FL) (ops : Array Oper) (l : List Oper) : St → (St → Prop) → Prop :=
  List.rec (motive := fun _ => St → (St → Prop) → Prop) (fun st K => K st)
    (fun o _ ih st K => guardP ops o st (stepP P T FF o st (fun st' => ih st' K)) (skipK st o.dst (fun st' => ih st' K))) l
inductive Ex where
  | normal
  | exit (id : Nat)
  | ret
def Ex.to : Ex → Exit
  | .normal => .normal
  | .exit id => .exit id
  | .ret => .ret
section
variable {P : Program} {T : TT} {FF : FL} {may : Nat → Prop} {w0 : World} {st : St} {a : Act} {w : World}
theorem guard_wanted {L : Nat → Value} {h : Hp} (ha : Agree L h st a) {ops : Array Oper} {o : Oper} {x y : Prop} (hg : guardP ops o st x y) : (Region.wanted o (yielded ops a.tmps) = true ∧ x) ∨ (Region.wanted o (yielded ops a.tmps) = false ∧ y) := by
  unfold guardP at hg
  unfold Region.wanted
  split at hg
  · rename_i e; rw [e]; exact .inl ⟨rfl, hg⟩
  · rename_i j want e
    rw [e]
    simp only
    split at hg
    · rename_i d hd
      have key : ∀ av, st.env.lookup d = some av → DenA L h av ((a.tmps[d]?).getD undef) := fun av hl => by
        have := ha.env d av hl
        rw [Array.getD_eq_getD_getElem?] at this
        exact this
      split at hg
      · rename_i b hl
        have hk := den_one (key _ hl)
        have hy : yielded ops a.tmps j = some b := by
          unfold yielded
          rw [hd]
          simp only [Option.bind_some]
          cases ht : a.tmps[d]? with
          | none => rw [ht] at hk; simp [undef] at hk
          | some v => rw [ht] at hk; simp only [Option.getD_some] at hk; rw [hk]
        rw [hy]
        cases want <;> cases b <;> simp_all [onB]
      · rename_i hl
        obtain ⟨vs, hk, hlen, _⟩ := key _ hl
        have hvs : vs = [] := List.eq_nil_of_length_eq_zero (by simpa using hlen.symm)
        subst hvs
        have hy : yielded ops a.tmps j = none := by
          unfold yielded
          rw [hd]
          simp only [Option.bind_some]
          cases ht : a.tmps[d]? with
          | none => rfl
          | some v => rw [ht] at hk; simp only [Option.getD_some] at hk; rw [hk]
        rw [hy]
        exact .inr ⟨by simp, hg⟩
      · exact hg.elim
    · exact hg.elim
theorem tup_nil {L : Nat → Value} {h : Hp} : DenA L h (.tup []) undef := ⟨[], rfl, rfl, fun j a u ha => by simp at ha⟩
theorem ops_ok [HasGl P] {h0 : Base P} (hT : TTok P T) (hF : FTok P FF) {ops : Array Oper} {Q : Exit → Act → World → Prop} {K : St → Prop} (hQ : ∀ st a w, Sat may w0 h0 st a w → K st → Q .normal a w) : ∀ (l : List Oper) (st : St) (a : Act) (w : World), opsP P T FF ops l st K → Sat may w0 h0 st a w → wpList P ops Q l a w
  | [], st, a, w, hp, hs => by
    refine wpList_nil ?_
    exact hQ st a w hs hp
  | o :: r, st, a, w, hp, hs => by
    refine wpList_step (fun Kc hKc => ?_)
    obtain ⟨⟨L, F, h, hm, ha, hsub, hnew⟩, hk⟩ := hs
    rcases guard_wanted ha hp with ⟨hw, hp⟩ | ⟨hw, hp⟩
    · rw [if_pos hw]
      have := step_ok (Q := Q) hT hF hp ⟨⟨L, F, h, hm, ha, hsub, hnew⟩, hk⟩
      unfold Oper.wp at this ⊢
      generalize (execOp a.eval o).run P w = res at this ⊢
      have mono : ∀ a' w', (∃ st', Sat may w0 h0 st' a' w' ∧ opsP P T FF ops r st' K) → Kc a' w' := fun a' w' ⟨st', h1, h2⟩ => hKc a' w' (ops_ok hT hF hQ r st' a' w' h2 h1)
      cases res with
      | ok n w' =>
        cases n <;> simp only [Oper.upon] at this ⊢ <;> first | exact mono _ _ this | exact this | skip
        · exact this.mono (fun e w'' h => by cases e <;> first | exact mono _ _ h | exact h)
        · exact this.mono (fun v w'' h => mono _ _ h)
      | halt x w' => cases x <;> exact this
    · rw [if_neg (by rw [hw]; simp)]
      obtain ⟨st', h1, h2⟩ := put_sat hm ha hsub hnew hk (av := .tup []) tup_nil hp
      exact hKc _ _ (ops_ok hT hF hQ r st' _ w h2 h1)

theorem opsG_ok [HasGl P] {h0 : Base P} (hT : TTok P T) {ops : Array Oper} {Q : Exit → Act → World → Prop} {K : St → Prop} (hQ : ∀ st a w, Sat may w0 h0 st a w → K st → Q .normal a w) : ∀ (l : List Oper) (st : St) (gds : GD) (a : Act) (w : World), opsG T ops l st gds K → Sat may w0 h0 st a w →
    (∀ L h, Agree L h st a → GOk L h gds a) → wpList P ops Q l a w := by
  intro l st gds a w hp hs hg
  obtain ⟨⟨L, F, h, hm, ha, hsub, hnew⟩, hk⟩ := hs
  replace hg := hg L h ha
  induction l generalizing st gds a with
  | nil => exact wpList_nil (hQ st a w ⟨⟨L, F, h, hm, ha, hsub, hnew⟩, hk⟩ hp)
  | cons o r ih =>
    refine wpList_step (fun Kc hKc => ?_)
    obtain ⟨v, st', gds', hrun, h1, h2, h3, h4⟩ := opsG_step (P := P) hT hm ha hg hp
    have go : Kc (a.put o.dst v) w := hKc _ _ (ih st' gds' _ h4 (by rw [h3.1]; exact hm) h1 (by rw [h3.2]; exact hsub) h2)
    rcases hrun with ⟨hw, hrun⟩ | ⟨hw, rfl⟩
    · rw [if_pos hw]
      exact value_upon (hrun w (fun _ _ => rfl)) go
    · rw [if_neg (by rw [hw]; simp)]
      exact go
/-- What a loop comes to. -/
structure LoopV (P : Program) [HasGl P] (c : Code) (Q : Ex → St → Prop) (st : St) : Prop where
  out : ∀ (may : Nat → Prop) (w0 : World) (h0 : Base P) (a : Act) (w : World), Sat may w0 h0 st a w → (Code.loop c).wp P (fun e a' w' => ∃ e' st', e = Ex.to e' ∧ Sat may w0 h0 st' a' w' ∧ Q e' st') a w
/-- What a region that draws its order comes to. -/
structure DrawV (P : Program) [HasGl P] (id : Nat) (ops : Array Oper) (K : St → Prop) (st : St) : Prop where
  out : ∀ (may : Nat → Prop) (w0 : World) (h0 : Base P) (a : Act) (w : World), Sat may w0 h0 st a w → (Code.region id ops true).wp P (fun e a' w' => e = .normal ∧ ∃ st', Sat may w0 h0 st' a' w' ∧ K st') a w

def vc (P : Program) [HasGl P] (T : TT) (FF : FL) (c : Code) : (Ex → St → Prop) → St → Prop :=
  Code.rec (motive := fun _ => (Ex → St → Prop) → St → Prop)
    (fun Q st => Q .normal st)
    (fun id ops draw Q st => match draw with
      | false => (match hasG ops.toList && allG T ops.toList with | true => opsG T ops ops.toList st [] (Q .normal) | false => opsP P T FF ops ops.toList st (Q .normal))
      | true => DrawV P id ops (Q .normal) st)
    (fun _ _ ihx ihy Q st => ihx (fun e st' => match e with | .normal => ihy Q st' | .exit i => Q (.exit i) st' | .ret => Q .ret st') st)
    (fun c _ _ ihx ihy Q st => match ev st c with
      | some (.c (.v (.bool b))) => onB (ihx Q st) (ihy Q st) b
      | _ => False)
    (fun id _ ih Q st => ih (fun e st' => match e with | .normal => Q .normal st' | .exit i => if i = id then Q .normal st' else Q (.exit i) st' | .ret => Q .ret st') st)
    (fun c _ Q st => LoopV P c Q st)
    (fun _ _ _ _ _ _ _ _ => False)
    (fun id Q st => Q (.exit id) st)
    (fun _ _ _ _ => False)
    (fun _ _ _ => False)
    (fun _ _ _ => False)
    (fun Q st => Q .ret st)
    (fun _ _ _ => False) c
theorem vc_cond (P : Program) [HasGl P] (T : TT) (FF : FL) (c : Operand) (x y : Code) (Q : Ex → St → Prop) (st : St) : vc P T FF (.cond c x y) Q st = (match ev st c with
      | some (.c (.v (.bool b))) => onB (vc P T FF x Q st) (vc P T FF y Q st) b
      | _ => False) := rfl
theorem vc_ok [HasGl P] {h0 : Base P} (hT : TTok P T) (hF : FTok P FF) : ∀ (c : Code) (Q : Ex → St → Prop) (st : St) (a : Act) (w : World), vc P T FF c Q st → Sat may w0 h0 st a w → c.wp P (fun e a' w' => ∃ e' st', e = Ex.to e' ∧ Sat may w0 h0 st' a' w' ∧ Q e' st') a w
  | .skip, Q, st, a, w, hp, hs => wp_skip ⟨.normal, st, rfl, hs, hp⟩
  | .region id ops draw, Q, st, a, w, hp, hs => by
    cases draw with
    | false =>
      have hp : (match hasG ops.toList && allG T ops.toList with | true => opsG T ops ops.toList st [] (Q .normal) | false => opsP P T FF ops ops.toList st (Q .normal)) := hp
      split at hp
      · exact wp_region_list (opsG_ok hT (fun st' a' w' h1 h2 => ⟨.normal, st', rfl, h1, h2⟩) _ st [] a w hp hs (fun _ _ _ => gok_nil))
      · exact wp_region_list (ops_ok hT hF (fun st' a' w' h1 h2 => ⟨.normal, st', rfl, h1, h2⟩) _ st a w hp hs)
    | true => exact Code.wp_mono (fun e a' w' ⟨he, st', h1, h2⟩ => ⟨.normal, st', he, h1, h2⟩) (hp.out may w0 h0 a w hs)
  | .seq x y, Q, st, a, w, hp, hs => by
    refine wp_seq (Code.wp_mono (fun e a' w' h => ?_) (vc_ok hT hF x _ st a w hp hs))
    obtain ⟨e', st', rfl, h1, h2⟩ := h
    cases e' with
    | normal => exact vc_ok hT hF y Q st' a' w' h2 h1
    | exit i => exact ⟨.exit i, st', rfl, h1, h2⟩
    | ret => exact ⟨.ret, st', rfl, h1, h2⟩
  | .cond c x y, Q, st, a, w, hp, hs => by
    rw [vc_cond] at hp
    split at hp
    · rename_i b hc
      obtain ⟨⟨L, F, h, hm, ha, hsub, hnew⟩, hk⟩ := hs
      have hev : a.eval c = .bool b := ev_v ha hc
      cases b with
      | true => exact wp_cond_true hev (vc_ok hT hF x Q st a w hp ⟨⟨L, F, h, hm, ha, hsub, hnew⟩, hk⟩)
      | false => exact wp_cond_false hev (vc_ok hT hF y Q st a w hp ⟨⟨L, F, h, hm, ha, hsub, hnew⟩, hk⟩)
    · exact hp.elim
  | .block id c, Q, st, a, w, hp, hs => by
    refine wp_block (Code.wp_mono (fun e a' w' h => ?_) (vc_ok hT hF c _ st a w hp hs))
    obtain ⟨e', st', rfl, h1, h2⟩ := h
    cases e' with
    | normal => exact ⟨.normal, st', rfl, h1, h2⟩
    | exit i =>
      simp only at h2
      show Exit.inBlock id _ (.exit i) a' w'
      simp only [Exit.inBlock]
      split at h2
      · rename_i e; rw [if_pos e]; exact ⟨.normal, st', rfl, h1, h2⟩
      · rename_i e; rw [if_neg e]; exact ⟨.exit i, st', rfl, h1, h2⟩
    | ret => exact ⟨.ret, st', rfl, h1, h2⟩
  | .loop c, Q, st, a, w, hp, hs => hp.out may w0 h0 a w hs
  | .exit id, Q, st, a, w, hp, hs => wp_exit ⟨.exit id, st, rfl, hs, hp⟩
  | .ret, Q, st, a, w, hp, hs => wp_ret ⟨.ret, st, rfl, hs, hp⟩
  | .rangeFunc _ _ _ _, Q, st, a, w, hp, hs => hp.elim
  | .scope _, Q, st, a, w, hp, hs => hp.elim
  | .label _, Q, st, a, w, hp, hs => hp.elim
  | .goto _, Q, st, a, w, hp, hs => hp.elim
  | .refuse _, Q, st, a, w, hp, hs => hp.elim
end
theorem onB_t {x y : Prop} (h : x) : onB x y true := h
theorem onB_f {x y : Prop} (h : y) : onB x y false := h

end Go.Eng
set_option linter.unusedVariables false
set_option linter.unusedSimpArgs false
namespace Go.Eng
open Go Go.RowKit

def flat : AV → Bool
  | .tup _ => false
  | .top => false
  | _ => true
def res1 (T : TT) (st : St) (rv : ResultVar) (K : AV → Prop) : Prop :=
  match rv with
  | .tmp t => match st.env.lookup t with
    | some a => ifD (flat a = true) (K a)
    | none => False
  | .cell p ty => match st.env.lookup p with
    | some (.c c) => loadP T st ty c (fun a => ifD (flat a = true) (K a))
    | _ => False
def resL (T : TT) (st : St) (l : List ResultVar) : (List AV → Prop) → Prop :=
  List.rec (motive := fun _ => (List AV → Prop) → Prop) (fun K => K []) (fun r _ ih K => res1 T st r (fun a => ih (fun l => K (a :: l)))) l
def retV : List AV → AV
  | [a] => a
  | l => .tup l
/-- What is handed back: of one result itself, of more the tuple; it holds nothing of the call's own. -/
def retK (Q : AV → Prop) (l : List AV) : Prop :=
  match l with
  | [a] => ifD (cloA a = true) (Q a)
  | l => ifD (cloA (.tup l) = true) (Q (.tup l))
theorem retK_eq {Q : AV → Prop} {l : List AV} (h : retK Q l) : cloA (retV l) = true ∧ Q (retV l) := by
  match l, h with
  | [], h => exact ifD_and (p := cloA (.tup []) = true) h
  | [a], h => exact ifD_and (p := cloA a = true) h
  | a :: b :: r, h => exact ifD_and (p := cloA (.tup (a :: b :: r)) = true) h
/-- The own objects that cells lead to. -/
def ownsC (own : List (Option Ob)) : List IC → List Nat
  | [] => []
  | .row j :: r => j :: ownsC own r
  | .own j _ :: r => (match own[j]? with | some (some (.cells _ cs)) => rowsC cs ++ [j] | _ => []) ++ ownsC own r
  | .ifc _ (.own j _) :: r => (match own[j]? with | some (some (.cells _ cs)) => rowsC cs ++ [j] | _ => []) ++ ownsC own r
  | _ :: r => ownsC own r
def ownsA (own : List (Option Ob)) : AV → List Nat
  | .c x => ownsC own [x]
  | .agg xs => ownsC own xs
  | .tup _ => []
  | .top => []
/-- The own objects that a function's results lead to. -/
def resOwns (st : St) : List ResultVar → List Nat
  | [] => []
  | .tmp t :: r => (match st.env.lookup t with | some a => ownsA st.own a | none => []) ++ resOwns st r
  | .cell p _ :: r => (match st.env.lookup p with
    | some (.c (.own i _)) => (match st.own[i]? with | some (some (.cells _ cs)) => ownsC st.own cs | _ => [])
    | _ => []) ++ resOwns st r
def env0 (args : List AV) : List (Nat × AV) := args.zipIdx.map fun x => (x.2, x.1)
section
variable {P : Program} {T : TT} {FF : FL} {mine may : Nat → Prop} {L : Nat → Value} {F : Nat → Nat → Prop} {h : Hp} {st : St} {a : Act} {w w0 : World}
theorem ldP_mono {t : TypeId} {cs : List IC} {K K' : AV → Prop} (hk : ∀ a, K a → K' a) (h : ldP T t cs K) : ldP T t cs K' := by
  unfold ldP at *
  split at h
  · split at h
    · have := ifD_and h
      unfold ifD at *
      split <;> simp_all
    · split at h
      · exact hk _ h
      · exact h
  · exact h
theorem ifD_mk {p : Prop} [d : Decidable p] {x : Prop} (hp : p) (hx : x) : ifD p x := by
  unfold ifD
  rw [decide_eq_true hp]
  exact hx
theorem loadP_mono {t : TypeId} {c : IC} {K K' : AV → Prop} (hk : ∀ a, K a → K' a) (h : loadP T st t c K) : loadP T st t c K' := by
  unfold loadP at *
  split at h
  · split at h
    · exact ldP_mono hk h
    · exact h
  · exact ldP_mono hk h
  · split at h
    · have := ifD_and h
      exact ifD_mk this.1 (ldP_mono hk this.2)
    · have := ifD_and h
      exact ifD_mk this.1 ⟨this.2.1, ldP_mono hk this.2.2⟩
    · exact h
  · exact h
theorem res1_mono {rv : ResultVar} {K K' : AV → Prop} (hk : ∀ a, K a → K' a) (h : res1 T st rv K) : res1 T st rv K' := by
  unfold res1 at *
  split at h
  · split at h
    · have := ifD_and h
      exact ifD_mk this.1 (hk _ this.2)
    · exact h
  · split at h
    · exact loadP_mono (fun a ha => by have := ifD_and ha; exact ifD_mk this.1 (hk _ this.2)) h
    · exact h
theorem resL_mono : ∀ {rs : List ResultVar} {K K' : List AV → Prop}, (∀ l, K l → K' l) → resL T st rs K → resL T st rs K'
  | [], K, K', hk, h => hk _ h
  | r :: rs, K, K', hk, h => res1_mono (fun a ha => resL_mono (fun l hl => hk _ hl) ha) h
theorem flat_den {av : AV} {v : Value} (hf : flat av = true) (hd : DenA L h av v) : Den1 L h av v := by cases av <;> first | exact hd | cases hf
theorem den_flat {av : AV} {v : Value} (hd : Den1 L h av v) : DenA L h av v := by cases av <;> first | exact hd | exact hd.elim
theorem load_addr {c : IC} {K : AV → Prop} {p : Value} {t : TypeId} (hd : Den L h c p) (hp : loadP T st t c K) : ∃ ad, p = .pointer (some ad) := by
  unfold loadP at hp
  cases hd <;> first | exact ⟨_, rfl⟩ | exact hp.elim
theorem res1_ok (hT : TTok P T) (hm : Mem mine L F h st.own w) (ha : Agree L h st a) {rv : ResultVar} {K : AV → Prop} (hp : res1 T st rv K) : ∃ av v, K av ∧ Den1 L h av v ∧ flat av = true ∧
    ∀ (f : ResultVar → Sem Value), (∀ u, f (.tmp u) = pure (a.tmps.getD u undef)) → (∀ p t, f (.cell p t) = (do loadVar t (← asAddr (a.tmps.getD p undef)))) → (f rv).run P w = .ok v w := by
  unfold res1 at hp
  split at hp
  · split at hp
    · rename_i t av hl
      have h1 := ha.env _ _ hl
      have hp := ifD_and hp
      refine ⟨av, _, hp.2, flat_den hp.1 h1, hp.1, fun f hf _ => ?_⟩
      rw [hf]
      rfl
    · exact hp.elim
  · rename_i p ty
    split at hp
    · rename_i c hl
      have hd : Den L h c _ := ha.env _ _ hl
      obtain ⟨av, v, hK0, h2, h3⟩ := load_ok hT hm hd hp
      obtain ⟨hfl, hK⟩ := ifD_and hK0
      obtain ⟨ad, e⟩ := load_addr hd hp
      refine ⟨av, v, hK, flat_den hfl h2, hfl, fun f _ hf => ?_⟩
      have := h3 w (fun _ _ => rfl)
      rw [hf]
      rw [e] at this ⊢
      simp only [Instr.loadAt, Instr.sureAddr, Sem.run_bind, Sem.run_pure, Result.andThen_ok] at this ⊢
      simp only [asAddr, Sem.run_pure, Result.andThen_ok]
      exact this
    · exact hp.elim
theorem resL_ok (hT : TTok P T) (hm : Mem mine L F h st.own w) (ha : Agree L h st a) : ∀ (rs : List ResultVar) (K : List AV → Prop), resL T st rs K → ∃ l vs, K l ∧ l.length = vs.length ∧ (∀ (j : Nat) av v, l[j]? = some av → vs[j]? = some v → Den1 L h av v ∧ flat av = true) ∧
    ∀ (f : ResultVar → Sem Value), (∀ u, f (.tmp u) = pure (a.tmps.getD u undef)) → (∀ p t, f (.cell p t) = (do loadVar t (← asAddr (a.tmps.getD p undef)))) → (rs.mapM f).run P w = .ok vs w
  | [], K, hp => ⟨[], [], hp, rfl, (fun j av v hj => by simp at hj), fun f _ _ => by simp⟩
  | r :: rs, K, hp => by
    obtain ⟨av, v, h1, h2, h3, h4⟩ := res1_ok hT hm ha hp
    obtain ⟨l, vs, k1, k0, k2, k3⟩ := resL_ok hT hm ha rs _ h1
    refine ⟨av :: l, v :: vs, k1, by simp [k0], fun j av' v' hj hv => ?_, fun f hf hc => ?_⟩
    · cases j with
      | zero => simp at hj hv; subst hj hv; exact ⟨h2, h3⟩
      | succ j => simp at hj hv; exact k2 j av' v' hj hv
    · rw [List.mapM_cons]
      simp [h4 f hf hc, k3 f hf hc]
theorem results_ok (hT : TTok P T) (hm : Mem mine L F h st.own w) (ha : Agree L h st a) {fn : Func} {Q : AV → Prop} (hp : resL T st fn.results.toList (fun l => Q (retV l))) : ∃ r v, Q r ∧ DenA L h r v ∧ (results fn a.tmps).run P w = .ok v w := by
  obtain ⟨l, vs, h1, h0, h2, h3⟩ := resL_ok hT hm ha _ _ hp
  have hrun : (results fn a.tmps).run P w = .ok (if hl : vs.toArray.size = 1 then vs.toArray[0] else .tuple vs.toArray) w := by
    unfold results
    rw [show fn.results = fn.results.toList.toArray from by simp, List.mapM_toArray]
    simp only [Sem.run_bind, Sem.run_map]
    rw [h3]
    · simp
    · intro u; rfl
    · intro p t; rfl
  refine ⟨_, _, h1, ?_, hrun⟩
  match l, vs, h0, h2 with
  | [], [], _, _ => exact ⟨[], rfl, rfl, fun j a u ha => by simp at ha⟩
  | [x], [v], _, h2 => exact den_flat (h2 0 x v rfl rfl).1
  | x :: y :: l, v :: u :: vs, h0, h2 => exact ⟨_, rfl, h0, fun j a' u' ha hu => (h2 j a' u' ha hu).1⟩
theorem lookup_env0 (args : List AV) (t : Nat) : ∀ (k : Nat), ((args.zipIdx k).map fun x => (x.2, x.1)).lookup t = if k ≤ t then args[t - k]? else none := by
  induction args with
  | nil => intro k; simp
  | cons x r ih =>
    intro k
    rw [List.zipIdx_cons, List.map_cons, List.lookup_cons]
    by_cases e : t = k
    · subst e; simp
    · have e' : (t == k) = false := by simpa using e
      rw [e']
      simp only
      rw [ih (k + 1)]
      by_cases hk : k + 1 ≤ t
      · rw [if_pos hk, if_pos (by omega)]
        have : t - k = (t - (k + 1)) + 1 := by omega
        rw [this, List.getElem?_cons_succ]
      · rw [if_neg hk, if_neg (by omega)]
theorem agree0 {args : List AV} {vs : List Value} {n : Nat} (hn : args.length ≤ n) (hd : DenAs L h args vs) (k : Nat) (own : List (Option Ob)) : Agree L h ⟨n, k, env0 args, own⟩ { tmps := vs.toArray ++ Array.replicate (n - vs.toArray.size) undef, defers := [] } := by
  have hl := hd.len
  refine ⟨by simp; omega, fun t av hl => ?_, rfl⟩
  unfold env0 at hl
  simp only [lookup_env0 args t 0, Nat.zero_le, if_true, Nat.sub_zero] at hl
  have hlt := (List.getElem?_eq_some_iff.1 hl).1
  have hlv : t < vs.length := by omega
  rw [Array.getD_eq_getD_getElem?, Array.getElem?_append_left (by simpa using hlv)]
  simp [hlv]
  exact hd.den t av _ hl (by simp [hlv])
/-- A function that is handed own objects. -/
theorem callV_own [HasGl P] {own : List (Option Ob)} {f : FuncId} {fn : Func} {c : Code} (hf : P.funcs[f]? = some fn) (hb : fn.body = some c) (hT : TTok P T) (hF : FTok P FF) {args : List AV} {n : Nat} (hnn : fn.ntmps = n) {rs : List ResultVar} (hrs : fn.results.toList = rs) {env : List (Nat × AV)} (henv : env0 args = env) (hn : args.length ≤ n) {k : Nat} (hk : own.length = k) {Q : AV → List (Option Ob) → Prop}
    (hv : vc P T FF c (fun e st' => match e with | .exit _ => False | _ => ∃ st1, Weak st' st1 ∧ resL T st1 rs (fun l => ∃ ob, headOk k ob = true ∧ nodupB ob = true ∧ Q (sbA (up (renT ob)) (retV l)) (ob.map (pickOwn st1.own (up (renT ob)))))) ⟨n, k, env, own⟩) : CallV P f args own Q := by
  subst hnn hrs henv hk
  refine ⟨fun mine L F h w vs hgl hm hden => ?_⟩
  have hm0 : Mem (mineOf (footOf F own) w) L F h own w := hm.mine_mono (fun b hb => .inl hb)
  have hs : Sat (footOf F own) w (⟨h, L, hgl⟩ : Base P) ⟨fn.ntmps, own.length, env0 args, own⟩ { tmps := vs.toArray ++ Array.replicate (fn.ntmps - vs.toArray.size) undef, defers := [] } w :=
    ⟨⟨L, F, h, hm0, agree0 hn hden own.length own, ⟨Sub.refl h, fun _ _ => rfl, hm.hn.symm⟩, fun k hk => .inl hk⟩, Keep.refl _ w⟩
  refine calls_of_wp hf hb (Code.wp_mono (fun e a' w' hh => ?_) (vc_ok hT hF c _ _ _ _ hv hs))
  obtain ⟨e', st0, rfl, hs1, he⟩ := hh
  have hr : ∃ st1, Weak st0 st1 ∧ resL T st1 fn.results.toList (fun l => ∃ ob, headOk own.length ob = true ∧ nodupB ob = true ∧ Q (sbA (up (renT ob)) (retV l)) (ob.map (pickOwn st1.own (up (renT ob))))) := by
    cases e' with
    | normal => exact he
    | exit i => exact he.elim
    | ret => exact he
  obtain ⟨st1, hw, hr⟩ := hr
  obtain ⟨⟨L', F', h', hm', ha', hsub, hnew'⟩, hk⟩ := hw.out _ _ _ _ _ hs1
  obtain ⟨r, v, ⟨ob, ho1, ho2, hQ⟩, hd, hrun⟩ := results_ok (Q := fun r => ∃ ob, headOk own.length ob = true ∧ nodupB ob = true ∧ Q (sbA (up (renT ob)) r) (ob.map (pickOwn st1.own (up (renT ob))))) hT hm' ha' hr
  have hkk : st1.k = own.length := by rw [hsub.kk]; exact hm.hn
  have hsub2 := subB_norm (by rw [hkk]; exact ho1) hsub
  have fin : a'.defers = [] ∧ ∃ v, (results fn a'.tmps).run P w' = .ok v w' ∧ ∃ (r : AV) (u : Value) (L' : Nat → Value) (F' : Nat → Nat → Prop) (h' : Hp) (own' : List (Option Ob)), Ending.returned v = .returned u ∧ DenA L' h' r u ∧ (∀ i, i < h.n → L' i = L i) ∧ Mem (mineOf (footOf F own) w) L' F' h' own' w' ∧
      Keep (footOf F own) w w' ∧ Sub h h' ∧ (∀ k, h'.m k ≠ none → h.m k ≠ none ∨ mineOf (footOf F own) w k) ∧ Q r own' :=
    ⟨ha'.defers, _, hrun, _, v, _, _, _, _, rfl, (renU_ok L' h' ob).denA hd, hsub2.at_, mem_norm ho2 hm', hk, hsub2.sub, hnew', hQ⟩
  cases e' with
  | normal => exact fin
  | exit i => exact he.elim
  | ret => exact fin
/-- A function that is handed nothing of its own, and hands back nothing of its own. -/
theorem callV_pure [HasGl P] {f : FuncId} {fn : Func} {c : Code} (hf : P.funcs[f]? = some fn) (hb : fn.body = some c) (hT : TTok P T) (hF : FTok P FF) {args : List AV} {n : Nat} (hnn : fn.ntmps = n) {rs : List ResultVar} (hrs : fn.results.toList = rs) {env : List (Nat × AV)} (henv : env0 args = env) (hn : args.length ≤ n) {Q : AV → Prop}
    (hv : vc P T FF c (fun e st' => match e with | .exit _ => False | _ => frzL (resOwns st' rs) st' fun st' => resL T st' rs (retK Q)) ⟨n, 0, env, []⟩) : CallV P f args [] (fun r own' => own' = [] ∧ Q r) := by
  subst hnn hrs henv
  refine ⟨fun mine L F h w vs hgl hm hden => ?_⟩
  have hm0 : Mem (mineOf (footOf F []) w) L F h [] w := hm.mine_mono (fun b hb => .inl hb)
  have hs : Sat (footOf F []) w (⟨h, L, hgl⟩ : Base P) ⟨fn.ntmps, 0, env0 args, []⟩ { tmps := vs.toArray ++ Array.replicate (fn.ntmps - vs.toArray.size) undef, defers := [] } w :=
    ⟨⟨L, F, h, hm0, agree0 hn hden 0 [], ⟨Sub.refl h, fun _ _ => rfl, hm.hn.symm⟩, fun k hk => .inl hk⟩, Keep.refl _ w⟩
  refine calls_of_wp hf hb (Code.wp_mono (fun e a' w' hh => ?_) (vc_ok hT hF c _ _ _ _ hv hs))
  obtain ⟨e', st0, rfl, hs1, he⟩ := hh
  have hr0 : frzL (resOwns st0 fn.results.toList) st0 (fun st' => resL T st' fn.results.toList (retK Q)) := by
    cases e' with
    | normal => exact he
    | exit i => exact he.elim
    | ret => exact he
  obtain ⟨st', ⟨⟨L', F', h', hm', ha', hsub, hnew'⟩, hk⟩, hr⟩ := frzL_sat _ st0 hr0 hs1
  obtain ⟨r, v, ⟨hcl, hQ⟩, hd, hrun⟩ := results_ok (Q := fun r => cloA r = true ∧ Q r) hT hm' ha' (resL_mono (fun l h => retK_eq h) hr)
  have h0n : h.n = 0 := hm.hn
  have fin : a'.defers = [] ∧ ∃ v, (results fn a'.tmps).run P w' = .ok v w' ∧ ∃ (r : AV) (u : Value) (L' : Nat → Value) (F' : Nat → Nat → Prop) (h' : Hp) (own' : List (Option Ob)), Ending.returned v = .returned u ∧ DenA L' h' r u ∧ (∀ i, i < h.n → L' i = L i) ∧ Mem (mineOf (footOf F []) w) L' F' h' own' w' ∧
      Keep (footOf F []) w w' ∧ Sub h h' ∧ (∀ k, h'.m k ≠ none → h.m k ≠ none ∨ mineOf (footOf F []) w k) ∧ own' = [] ∧ Q r :=
    ⟨ha'.defers, _, hrun, r, v, L', F', ⟨h'.m, 0⟩, [], rfl, hd.clo 0 hcl, fun i hi => by omega, ⟨rfl, hm'.hsub, fun i ob hi => by simp at hi, fun i ob b hi => by simp at hi, fun i j oi oj b hi => by simp at hi⟩, hk, ⟨hsub.sub.m, by rw [h0n]; exact Nat.le_refl _⟩, hnew', rfl, hQ⟩
  cases e' with
  | normal => exact fin
  | exit i => exact he.elim
  | ret => exact fin
theorem not_foot_nil {b : Nat} : ¬ footOf F [] b := fun ⟨i, ob, hi, _⟩ => by simp at hi
theorem denAs_clo {args : List AV} {vs : List Value} {L' : Nat → Value} (hd : DenAs L h args vs) (n' : Nat) (hcl : args.all cloA = true) : DenAs L' ⟨h.m, n'⟩ args vs :=
  ⟨hd.len, fun j a v hj hv => (hd.den j a v hj hv).clo n' (List.all_eq_true.1 hcl a (List.mem_of_getElem? hj))⟩
/-- A call of a function that changes nothing, beside own objects. -/
theorem call_pure [HasGl P] {f : FuncId} {args : List AV} {Q : AV → Prop} (hc : CallV P f args [] (fun r own' => own' = [] ∧ Q r)) (hcl : args.all cloA = true) {own : List (Option Ob)} {K : AV → List (Option Ob) → Prop} (hK : ∀ r, Q r → K r own) : CallV P f args own K := by
  refine ⟨fun mine L F h w vs hgl hm hden => ?_⟩
  have := hc.out mine L F ⟨h.m, 0⟩ w vs hgl ⟨rfl, hm.hsub, fun i ob hi => by simp at hi, fun i ob b hi => by simp at hi, fun i j oi oj b hi => by simp at hi⟩ (denAs_clo hden 0 hcl)
  refine this.mono ?_
  rintro e w' ⟨r, v, L', F', h', own', h1, h2, h3, h4, h5, h6, h7, rfl, hQ⟩
  have hn0 : h'.n = 0 := h4.hn
  have hkeep : ∀ k, k < w.heap.size → w'.heap[k]? = w.heap[k]? := fun k hk => h5.block k hk not_foot_nil
  have hsub : Sub h ⟨h'.m, h.n⟩ := ⟨h6.m, Nat.le_refl _⟩
  have hs2 : Sub h' ⟨h'.m, h.n⟩ := ⟨fun _ _ e => e, by rw [hn0]; exact Nat.zero_le _⟩
  refine ⟨r, v, L, F, ⟨h'.m, h.n⟩, own, h1, h2.mono hs2 (fun i hi => by omega), fun _ _ => rfl, ⟨hm.hn, h4.hsub, fun i ob hi => obOk_move (hm.obs i ob hi) (fun b hb => hkeep b (hm.foot i ob b hi hb).1) (fun _ _ => rfl) hsub, fun i ob b hi hb => ?_, hm.dis⟩, ⟨h5.os, h5.tape, h5.output, h5.size, fun k hk _ => hkeep k hk⟩, hsub, (fun k hk2 => by
      rcases h7 k hk2 with h9 | h9 | h9
      · exact .inl h9
      · exact absurd h9 not_foot_nil
      · exact .inr (.inr h9)), hK r hQ⟩
  have hlt := (hm.foot i ob b hi hb)
  refine ⟨Nat.lt_of_lt_of_le hlt.1 h5.size, ?_, .inl ⟨i, ob, hi, hb⟩⟩
  cases hx : h'.m b with
  | none => rfl
  | some o =>
    rcases h7 b (by rw [hx]; simp) with h9 | h9 | h9
    · exact absurd hlt.2.1 h9
    · exact absurd h9 not_foot_nil
    · omega
/-- The world is left as it was but for what is new. -/
theorem pure_calls [HasGl P] {f : FuncId} {args : List AV} {Q : AV → Prop} (hc : CallV P f args [] (fun r own' => own' = [] ∧ Q r)) (m : Nat → Option Obj) (hgl : HasGl.ok P m) (w : World) (hs : ∀ k o, m k = some o → w.heap[k]? = some o) {vs : List Value} (hd : DenAs (fun _ => undef) ⟨m, 0⟩ args vs) :
    Calls P f vs.toArray w fun e w' => ∃ (r : AV) (v : Value) (L : Nat → Value) (h' : Hp), e = .returned v ∧ DenA L h' r v ∧ Below w.heap.size w w' ∧ Sub ⟨m, 0⟩ h' ∧ (∀ k o, h'.m k = some o → w'.heap[k]? = some o) ∧ Q r := by
  have := hc.out (fun _ => True) (fun _ => undef) (fun _ _ => False) ⟨m, 0⟩ w vs hgl ⟨rfl, hs, fun i ob hi => by simp at hi, fun i ob b hi => by simp at hi, fun i j oi oj b hi => by simp at hi⟩ hd
  refine this.mono ?_
  rintro e w' ⟨r, v, L', F', h', own', h1, h2, h3, h4, h5, h6, h7, rfl, hQ⟩
  exact ⟨r, v, L', h', h1, h2, ⟨h5.os, h5.tape, h5.output, h5.size, fun k hk => h5.block k hk not_foot_nil⟩, h6, h4.hsub, hQ⟩
end
end Go.Eng
