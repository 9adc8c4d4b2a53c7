/- A part of the proof: what the functions of the program come to, told by a small reckoner of states. -/
import Derived.Test.YteglopjljejjkaaEng4
import Derived.Maps.AppendAt
import Derived.Deep.Upon
import Derived.Great.BuildSlice
set_option linter.unusedVariables false
set_option linter.unusedSimpArgs false
namespace Go.Eng
open Go Go.RowKit

/-! ### Rows: made, appended to, laid still -/
section
variable {P : Program} (w : World)
theorem run_append_src_own (base : Nat) (t tx ty e : TypeId) (i : TypeInfo) (z : Value) (ht : P.underlying t = some (.slice e)) (hi : P.info? e = some i) (hz : i.zero = some z) (hzs : z.cells.size = i.size)
    (v : Value) (n : Nat) (xs : List Value) (hown : w.ownsRow base e i.size v n xs) (x : Value) (m : Nat) (news : List Value) (hs : Src P i.size tx x m news w)
    (h63 : n + m ≤ maxLen) (hbytes : (n + m) * i.bytes ≤ 140737488355328) (hbase : base ≤ w.heap.size) :
    ∃ v' w', (Builtin.append_ #[t, tx] ty #[v, x]).run P w = .ok v' w' ∧ w'.ownsRow base e i.size v' (n + m) (xs ++ news) ∧ w.grownBy w' v.ownBlock ∧
      (v'.ownBlock = none ∨ v'.ownBlock = v.ownBlock ∨ v'.ownBlock = some w.heap.size) := by
  have hsmall : n + m ≤ 9223372036854775807 := by simp only [maxLen] at h63; omega
  have hl := hs.newsLen
  have hlen : (xs ++ news).length = (n + m) * i.size := by rw [List.length_append, hown.1, hl, Nat.add_mul]
  have grown : ∀ (old : Nat), old < n + m → ∀ (row : Option Nat),
      (w.drew.alloc (.cells ((xs ++ news).toArray ++ Builtin.zeroCells z.cells (grownCap w (n + m) old e - (n + m))) e)).ownsRow base e i.size
        (.slice (some ⟨w.heap.size, 0, none⟩) (n + m) (grownCap w (n + m) old e)) (n + m) (xs ++ news) ∧
      w.grownBy (w.drew.alloc (.cells ((xs ++ news).toArray ++ Builtin.zeroCells z.cells (grownCap w (n + m) old e - (n + m))) e)) row := by
    intro old ho row
    have hge := grownCap_ge w (n + m) old e
    have hcm : grownCap w (n + m) old e ≤ maxLen := grownCap_le_maxLen w (n + m) old e h63
    refine ⟨⟨hlen, .inr ⟨w.heap.size, _, _, rfl, hbase, _root_.Go.heap_alloc_new w.drew _, hge, hcm, ?_, ?_⟩⟩, ⟨rfl, rfl, rfl, by simp, fun k hk _ => heap_alloc_old w.drew _ hk⟩⟩
    · simp only [Array.size_append, List.size_toArray, size_zeroCells, hzs, hlen, ← Nat.add_mul]
      congr 1
      omega
    · simp only [Array.toList_append]
      rw [← hlen]
      exact List.take_left
  rcases hown.2 with ⟨rfl, rfl⟩ | ⟨g, cap, cur, rfl, hbg, hg, hnc, hcm, hcs, htake⟩
  · have hx : xs = [] := List.eq_nil_of_length_eq_zero (by simpa using hown.1)
    subst hx
    by_cases hm : m = 0
    · subst hm
      have hn : news = [] := List.eq_nil_of_length_eq_zero (by simpa using hl)
      subst hn
      exact ⟨.slice none 0 0, w, run_append_nothing w t tx ty e i ht hi none 0 0 (Nat.le_refl _) x hs, World.ownsRow_nil w base e i.size, ⟨rfl, rfl, rfl, Nat.le_refl _, fun _ _ _ => rfl⟩, .inl rfl⟩
    · have hr := run_append_grow_src (P := P) w t tx ty e i z ht hi hz none 0 0 [] (run_firstCells_none w.drew i.size 0 0 0) x m news hs (by omega) (by omega) (growslice_fits (by omega) hbytes)
      have hgr := grown 0 (by omega) (Value.ownBlock (.slice none 0 0))
      exact ⟨_, _, hr, hgr.1, hgr.2, .inr (.inr rfl)⟩
  · by_cases hroom : n + m ≤ cap
    · have hfit : n * i.size + news.length ≤ cur.size := by rw [hl, hcs, ← Nat.add_mul]; exact Nat.mul_le_mul_right _ hroom
      have hst := run_storeCells_at (P := P) g (n * i.size) e news 0 cur w hg (by omega) hs.one
      simp only [Nat.add_zero] at hst
      have hr : (Builtin.append_ #[t, tx] ty #[.slice (some ⟨g, 0, none⟩) n cap, x]).run P w = .ok (.slice (some ⟨g, 0, none⟩) (n + m) cap) (w.setRow g (cur.toList.take (n * i.size) ++ news ++ cur.toList.drop (n * i.size + news.length)).toArray) := by
        rcases hs.kind with ⟨e', hk⟩ | hk <;> simp [Builtin.append_, run_underlying ht, run_underlying hk, sizeOf, typeInfo, hi, hs.len, hroom, hs.cells, Addr.add_lit, hst]
      refine ⟨_, _, hr, ⟨hlen, .inr ⟨g, cap, _, rfl, hbg, setRow_heap w g cur _ e _ hg, hroom, hcm, ?_, ?_⟩⟩, ⟨rfl, rfl, rfl, by simp, fun k _ hk => setRow_other w g k _ (fun e => hk (by simp [Value.ownBlock, e]))⟩, .inr (.inl rfl)⟩
      · simp only [List.size_toArray, List.length_append, List.length_take, List.length_drop, Array.length_toList]
        omega
      · rw [htake, ← hlen]
        exact List.take_left
    · have holds : ∀ j u, xs[j]? = some u → w.cell? ((⟨g, 0, none⟩ : Addr).add j) = some u := hown.cells (g := g) rfl
      have hr := run_append_grow_src (P := P) w t tx ty e i z ht hi hz (some ⟨g, 0, none⟩) n cap xs (run_firstCells_some w.drew i.size n _ n cap xs hown.1 (by simpa using holds)) x m news hs (by omega) (by omega) (growslice_fits (by omega) hbytes)
      have hgr := grown cap (by omega) (Value.ownBlock (.slice (some ⟨g, 0, none⟩) n cap))
      exact ⟨_, _, hr, hgr.1, hgr.2, .inr (.inr rfl)⟩
end

theorem blk_own {v : Value} (hs : (∃ A n c, v = .slice A n c)) : blk v = v.ownBlock := by
  obtain ⟨A, n, c, rfl⟩ := hs
  cases A <;> rfl
theorem ownsRow_slice {w : World} {base e size n : Nat} {v : Value} {xs : List Value} (h : w.ownsRow base e size v n xs) : ∃ A n c, v = .slice A n c := by
  rcases h.2 with ⟨h, _⟩ | ⟨g, cap, cur, h, _⟩
  · exact ⟨_, _, _, h⟩
  · exact ⟨_, _, _, h⟩
section
variable {P : Program} {T : TT} {mine : Nat → Prop} {L : Nat → Value} {h : Hp} {own : List (Option Ob)} {w w' : World}
/-- An object less. -/
theorem mem_drop (hm : Mem mine L h own w) (i : Nat) : Mem mine L h (own.set i none) w := by
  have g : ∀ j oj, (own.set i none)[j]? = some (some oj) → own[j]? = some (some oj) ∧ j ≠ i := fun j oj hj => by
    rw [List.getElem?_set] at hj
    split at hj
    · split at hj <;> cases hj
    · rename_i hne
      exact ⟨hj, fun e => hne e.symm⟩
  exact ⟨by rw [List.length_set]; exact hm.hn, hm.hsub, fun j oj hj => hm.obs j oj (g j oj hj).1, fun j k oj ok b hj hk hb hb' => hm.dis j k oj ok b (g j oj hj).1 (g k ok hk).1 hb hb'⟩
/-- The world goes on, the objects' blocks as they were. -/
theorem mem_move (hm : Mem mine L h own w) (hw : ∀ k o, h.m k = some o → w'.heap[k]? = w.heap[k]?) (ho : ∀ i ob b, own[i]? = some (some ob) → blk (L i) = some b → w'.heap[b]? = w.heap[b]?) : Mem mine L h own w' :=
  ⟨hm.hn, fun k o hk => by rw [hw k o hk]; exact hm.hsub k o hk, fun i ob hi => obOk_move (hm.obs i ob hi) (fun b hb h1 h2 => ⟨ho i ob b hi hb, h2, h1⟩) (fun _ _ => rfl) (Sub.refl h), hm.dis⟩
theorem mem_push' (hm : Mem mine L h own w) {v : Value} {ob : Ob}
    (hob : ObOk mine (upd L own.length v) (h.more 1) w v ob) (hv : ∀ b, blk v = some b → ∀ i oi, own[i]? = some (some oi) → blk (L i) ≠ some b) : Mem mine (upd L own.length v) (h.more 1) (own ++ [some ob]) w := by
  have hL : ∀ i, i < h.n → upd L own.length v i = L i := fun i hi => by
    have := hm.hn
    unfold upd
    rw [if_neg (by omega)]
  have key : ∀ i oi, (own ++ [some ob])[i]? = some (some oi) → (i < own.length ∧ own[i]? = some (some oi) ∧ upd L own.length v i = L i) ∨ (i = own.length ∧ oi = ob ∧ upd L own.length v i = v) := by
    intro i oi hi
    rcases Nat.lt_trichotomy i own.length with hlt | heq | hgt
    · rw [List.getElem?_append_left hlt] at hi
      exact .inl ⟨hlt, hi, hL i (by rw [hm.hn]; exact hlt)⟩
    · subst heq
      rw [List.getElem?_append_right (Nat.le_refl _)] at hi
      simp at hi
      exact .inr ⟨rfl, hi.symm, by simp [upd]⟩
    · rw [List.getElem?_eq_none (by simp; omega)] at hi
      cases hi
  refine ⟨by simp [Hp.more, hm.hn], hm.hsub, fun i oi hi => ?_, fun i j oi oj b hi hj hbi hbj => ?_⟩
  · rcases key i oi hi with ⟨hlt, hi', e⟩ | ⟨rfl, rfl, e⟩
    · rw [e]
      exact obOk_move (hm.obs i oi hi') (fun b hb hmine hn => ⟨rfl, hn, hmine⟩) hL (sub_more h 1)
    · rw [e]; exact hob
  · rcases key i oi hi with ⟨hlt, hi', e⟩ | ⟨rfl, rfl, e⟩ <;> rcases key j oj hj with ⟨hlt', hj', e'⟩ | ⟨rfl, rfl, e'⟩
    · rw [e] at hbi; rw [e'] at hbj; exact hm.dis i j oi oj b hi' hj' hbi hbj
    · rw [e] at hbi; rw [e'] at hbj
      exact absurd hbi (hv b hbj i oi hi')
    · rw [e] at hbi; rw [e'] at hbj
      exact absurd hbj (hv b hbi j oj hj')
    · rfl
/-- A row is laid still: nobody writes it from here on. -/
theorem mem_frz (hm : Mem mine L h own w) {i : Nat} {e : TypeId} {sz : Nat} {xs : List (List Cell)} (hi : own[i]? = some (some (.row e sz xs))) {n : Nat} {f : Nat → List Cell} (hn : n = xs.length) (hf : ∀ k, k < n → xs[k]? = some (f k)) :
    ∃ h', Sub h h' ∧ h'.n = h.n ∧ Mem mine L h' (own.set i none) w ∧ OkC h' (.sl (L i) sz n f) ∧ (∀ k, h'.m k ≠ none → h.m k ≠ none ∨ mine k) := by
  obtain ⟨h1, h2, h3⟩ := hm.obs i _ hi
  have hd := mem_drop hm i
  subst hn
  have hcl : ∀ k, k < xs.length → ∀ c, c ∈ f k → Closed c := fun k hk c hc => ((h3 _ (List.mem_of_getElem? (hf k hk))).2 c hc).1
  have hok : ∀ k, k < xs.length → ∀ c, c ∈ f k → OkC h c := fun k hk c hc => ((h3 _ (List.mem_of_getElem? (hf k hk))).2 c hc).2
  have hlen : ∀ k, k < xs.length → ((f k).map denI).length = sz := fun k hk => by rw [List.length_map]; exact (h3 _ (List.mem_of_getElem? (hf k hk))).1
  rcases h1.2 with ⟨e1, e2⟩ | ⟨g, cap, cur, e1, e2, e3, e4, e5, e6, e7⟩
  · refine ⟨h, Sub.refl h, rfl, hd, .sl _ _ _ _ ⟨⟨none, 0, by rw [e1, e2], by omega, by omega, fun hp => by omega⟩, hlen⟩ hcl hok, fun k hk => .inl hk⟩
  · have hg := h2 g (by rw [e1]; rfl)
    let h' : Hp := ⟨fun k => if k = g then some (.cells cur e (0, 0)) else h.m k, h.n⟩
    have hs : Sub h h' := ⟨fun k o hk => by
      show (if k = g then _ else _) = _
      by_cases ek : k = g
      · subst ek; rw [hg.1] at hk; cases hk
      · rw [if_neg ek]; exact hk, Nat.le_refl _⟩
    refine ⟨h', hs, rfl, ⟨hd.hn, fun k o hk => ?_, fun j oj hj => ?_, hd.dis⟩, .sl _ _ _ _ ⟨⟨some ⟨g, 0, none⟩, cap, e1, e4, by unfold maxLen at e5; omega, fun _ => ⟨_, rfl, fun k hk j u hj => ?_⟩⟩, hlen⟩ hcl (fun k hk c hc => (hok k hk c hc).sub hs), fun k hk => ?_⟩
    · have hk : (if k = g then some (.cells cur e (0, 0)) else h.m k) = some o := hk
      by_cases ek : k = g
      · subst ek; rw [if_pos rfl] at hk; cases hk; exact e3
      · rw [if_neg ek] at hk; exact hm.hsub k o hk
    · have hj' : own[j]? = some (some oj) ∧ j ≠ i := by
        rw [List.getElem?_set] at hj
        split at hj
        · split at hj <;> cases hj
        · rename_i hne
          exact ⟨hj, fun e => hne e.symm⟩
      refine obOk_move (hm.obs j oj hj'.1) (fun b hb hmb hn => ⟨rfl, ?_, hmb⟩) (fun _ _ => rfl) hs
      have hne : b ≠ g := fun eb => hj'.2 (hm.dis j i oj _ b hj'.1 hi hb (by rw [e1, eb]; rfl))
      show (if b = g then _ else _) = _
      rw [if_neg hne]; exact hn
    · rw [addr_plain, Nat.zero_add]
      unfold hcell
      show (match (if g = g then some (.cells cur e (0, 0)) else h.m g) with | some (.cells c _ _) => _ | _ => none) = _
      rw [if_pos rfl]
      simp only [Option.isSome_none, Bool.false_eq_true, if_false]
      rw [List.getElem?_map] at hj
      cases hc : (f k)[j]? with
      | none => rw [hc] at hj; cases hj
      | some c =>
        rw [hc] at hj
        have hfl := flatten_get (fun x hx => (h3 x hx).1) (hf k hk) hc
        have h4 : (xs.flatten.map (denC L))[k * sz + j]? = some u := by
          rw [List.getElem?_map, hfl, ← hj, Option.map_some, Option.map_some, denI, denC_closed (hcl k hk c (List.mem_of_getElem? hc))]
        rw [← e7, List.getElem?_take] at h4
        split at h4
        · rw [← h4, Array.getElem?_toList]
        · cases h4
    · have hk : (if k = g then some (.cells cur e (0, 0)) else h.m k) ≠ none := hk
      by_cases ek : k = g
      · subst ek; exact .inr hg.2
      · rw [if_neg ek] at hk; exact .inl hk
end
/-- A row's content, told as a slice that stays. -/
def asSl (xs : List (List Cell)) (K : Nat → (Nat → List Cell) → Prop) : Prop := ∃ n f, n = xs.length ∧ (∀ k, k < n → xs[k]? = some (f k)) ∧ K n f
theorem asSl_map {α : Type} {l : List α} {enc : α → List Cell} (d : α) {K : Nat → (Nat → List Cell) → Prop} (h : K l.length (fun k => enc (l.getD k d))) : asSl (l.map enc) K :=
  ⟨_, _, by simp, fun k hk => by simp [List.getD_eq_getElem?_getD, hk], h⟩
def sbC (s : Value) (sz n : Nat) (f : Nat → List Cell) (i : Nat) (c : Cell) : Cell :=
  match c with
  | .row j => match Nat.beq j i with | true => .sl s sz n f | false => .row j
  | c => c
def sb1 (g : Cell → Cell) : AV → AV
  | .c x => .c (g x)
  | .agg xs => .agg (xs.map g)
  | .tup a => .tup a
def sbA (g : Cell → Cell) : AV → AV
  | .tup as => .tup (as.map (sb1 g))
  | a => sb1 g a
def sbOb (g : Cell → Cell) : Option Ob → Option Ob
  | some (.cells t cs) => some (.cells t (cs.map g))
  | o => o
def sbEnv (g : Cell → Cell) : List (Nat × AV) → (List (Nat × AV) → Prop) → Prop
  | [], K => K []
  | x :: r, K => forceA (sbA g x.2) fun a => sbEnv g r fun r => K ((x.1, a) :: r)
theorem sbEnv_eq (g : Cell → Cell) : ∀ (l : List (Nat × AV)) (K : List (Nat × AV) → Prop), sbEnv g l K = K (l.map fun x => (x.1, sbA g x.2))
  | [], K => rfl
  | x :: r, K => by rw [sbEnv, forceA_eq, sbEnv_eq g r]; rfl
def sbOwn (g : Cell → Cell) : List (Option Ob) → (List (Option Ob) → Prop) → Prop
  | [], K => K []
  | o :: r, K => match o with
    | some (.cells t cs) => forceL (cs.map g) fun cs => sbOwn g r fun r => K (some (.cells t cs) :: r)
    | o => sbOwn g r fun r => K (o :: r)
theorem sbOwn_eq (g : Cell → Cell) : ∀ (l : List (Option Ob)) (K : List (Option Ob) → Prop), sbOwn g l K = K (l.map (sbOb g))
  | [], K => rfl
  | o :: r, K => by
    unfold sbOwn
    split
    · rw [forceL_eq, sbOwn_eq g r]; rfl
    · rename_i ho
      rw [sbOwn_eq g r]
      rw [List.map_cons]
      congr 2
      unfold sbOb
      split
      · rename_i t cs
        exact absurd rfl (ho t cs)
      · rfl
/-- Lay own row i still, where it is one. -/
def frzK (st : St) (i : Nat) (K : St → Prop) : Prop :=
  match st with
  | ⟨n, k, env, own⟩ => match own[i]? with
    | some (some (.row e sz xs)) => ∀ s, asSl xs fun m f => sbEnv (sbC s sz m f i) env fun env => sbOwn (sbC s sz m f i) (own.set i none) fun own => K ⟨n, k, env, own⟩
    | _ => K ⟨n, k, env, own⟩
def frzL (l : List Nat) : St → (St → Prop) → Prop :=
  List.rec (motive := fun _ => St → (St → Prop) → Prop) (fun st K => K st) (fun i _ ih st K => frzK st i fun st => ih st K) l
def rowsC : List Cell → List Nat
  | [] => []
  | .row j :: r => j :: rowsC r
  | _ :: r => rowsC r
def rowsA : List AV → List Nat
  | [] => []
  | .c x :: r => rowsC [x] ++ rowsA r
  | .agg xs :: r => rowsC xs ++ rowsA r
  | .tup _ :: r => rowsA r
section
variable {P : Program} {T : TT} {mine may : Nat → Prop} {L : Nat → Value} {h h' : Hp} {h0 : Base} {st : St} {a : Act} {w w0 : World}
theorem sbC_den {s : Value} {sz n i : Nat} {f : Nat → List Cell} (hs : s = L i) (c : Cell) : denC L (sbC s sz n f i c) = denC L c := by
  unfold sbC
  split
  · split
    · rename_i e
      have := Nat.eq_of_beq_eq_true e
      subst this
      exact hs
    · rfl
  · rfl
theorem sbC_ok {s : Value} {sz n i : Nat} {f : Nat → List Cell} (hs : Sub h h') (hk : OkC h' (.sl s sz n f)) {c : Cell} (hc : OkC h c) : OkC h' (sbC s sz n f i c) := by
  unfold sbC
  split
  · split
    · exact hk
    · exact hc.sub hs
  · exact hc.sub hs
theorem sb1_den {g : Cell → Cell} (hg : ∀ c, denC L (g c) = denC L c) (a : AV) : den1 L (sb1 g a) = den1 L a := by
  cases a with
  | c x => exact hg x
  | agg xs => simp only [sb1, den1, List.map_map]; congr 2; exact List.map_congr_left (fun c _ => hg c)
  | tup as => rfl
theorem sbA_den {g : Cell → Cell} (hg : ∀ c, denC L (g c) = denC L c) (a : AV) : den L (sbA g a) = den L a := by
  cases a with
  | c x => exact hg x
  | agg xs => exact sb1_den hg (.agg xs)
  | tup as => simp only [sbA, den, List.map_map]; congr 2; exact List.map_congr_left (fun c _ => sb1_den hg c)
theorem sbA_ok {g : Cell → Cell} (hg : ∀ c, OkC h c → OkC h' (g c)) {a : AV} (ha : OkA h a) : OkA h' (sbA g a) := by
  cases a with
  | c x => exact hg x ha
  | agg xs =>
    intro x hx
    obtain ⟨y, hy, rfl⟩ := List.mem_map.1 hx
    exact hg y (ha y hy)
  | tup as =>
    intro x hx
    obtain ⟨y, hy, rfl⟩ := List.mem_map.1 hx
    have := ha y hy
    cases y with
    | c x => exact hg x this
    | agg xs =>
      intro x hx
      obtain ⟨y, hy, rfl⟩ := List.mem_map.1 hx
      exact hg y (this y hy)
    | tup _ => trivial
theorem lookup_map {f : AV → AV} : ∀ (l : List (Nat × AV)) (t : Nat), (l.map fun x => (x.1, f x.2)).lookup t = (l.lookup t).map f
  | [], t => rfl
  | x :: r, t => by
    rw [List.map_cons, List.lookup_cons, List.lookup_cons, lookup_map r t]
    split <;> rfl
theorem frz_sat {i : Nat} {K : St → Prop} (hp : frzK st i K) (hs : Sat may w0 h0 st a w) : ∃ st', Sat may w0 h0 st' a w ∧ K st' := by
  obtain ⟨n, k, env, own⟩ := st
  unfold frzK at hp
  simp only at hp
  split at hp
  · rename_i e sz xs hi
    obtain ⟨⟨L, h, hm, ha, hsub, hnew⟩, hk⟩ := hs
    obtain ⟨m, f, hmn, hf, hp⟩ := hp (L i)
    rw [sbEnv_eq, sbOwn_eq] at hp
    obtain ⟨h', g1, g2, g3, g4, g5⟩ := mem_frz hm hi hmn hf
    have hg1 : ∀ c, denC L (sbC (L i) sz m f i c) = denC L c := fun c => sbC_den rfl c
    have hg2 : ∀ c, OkC h' c → OkC h' (sbC (L i) sz m f i c) := fun c hc => sbC_ok (Sub.refl h') g4 hc
    refine ⟨⟨n, k, env.map fun x => (x.1, sbA (sbC (L i) sz m f i) x.2), (own.set i none).map (sbOb (sbC (L i) sz m f i))⟩, ⟨⟨L, h', ⟨?_, g3.hsub, fun j oj hj => ?_, fun j1 j2 o1 o2 b h1 h2 hb1 hb2 => ?_⟩, ⟨ha.size, fun t av ht => ?_, ha.defers⟩, hsub.step (fun _ _ => rfl) g1, fun k hk => ?_⟩, hk⟩, hp⟩
    · simp only [List.length_map]; exact g3.hn
    · simp only [List.getElem?_map] at hj
      cases ho : (own.set i none)[j]? with
      | none => rw [ho] at hj; cases hj
      | some o =>
        rw [ho] at hj
        simp only [Option.map_some, Option.some.injEq] at hj
        cases o with
        | none => cases hj
        | some o =>
          have hob := g3.obs j o ho
          cases o with
          | cells t cs =>
            simp only [sbOb, Option.some.injEq] at hj
            subst hj
            obtain ⟨k1, k2⟩ := hob
            refine ⟨?_, fun c hc => ?_⟩
            · have : (cs.map (sbC (L i) sz m f i)).map (denC L) = cs.map (denC L) := by rw [List.map_map]; exact List.map_congr_left (fun c _ => hg1 c)
              rw [this]
              exact k1
            · obtain ⟨y, hy, rfl⟩ := List.mem_map.1 hc
              exact hg2 y (k2 y hy)
          | row e' sz' ys =>
            simp only [sbOb, Option.some.injEq] at hj
            subst hj
            exact hob
    · have key : ∀ (j : Nat) (oj : Ob), ((own.set i none).map (sbOb (sbC (L i) sz m f i)))[j]? = some (some oj) → ∃ oj', (own.set i none)[j]? = some (some oj') := fun j oj hj => by
        simp only [List.getElem?_map] at hj
        cases ho : (own.set i none)[j]? with
        | none => rw [ho] at hj; cases hj
        | some o =>
          rw [ho] at hj
          cases o with
          | none => cases hj
          | some o => exact ⟨o, rfl⟩
      obtain ⟨o1', e1⟩ := key _ _ h1
      obtain ⟨o2', e2⟩ := key _ _ h2
      exact g3.dis j1 j2 o1' o2' b e1 e2 hb1 hb2
    · have ht : (env.map fun x => (x.1, sbA (sbC (L i) sz m f i) x.2)).lookup t = some av := ht
      rw [lookup_map] at ht
      cases hl : env.lookup t with
      | none => rw [hl] at ht; cases ht
      | some av0 =>
        rw [hl] at ht
        simp only [Option.map_some, Option.some.injEq] at ht
        subst ht
        obtain ⟨k1, k2⟩ := ha.env t av0 hl
        exact ⟨k1.trans (sbA_den hg1 av0).symm, sbA_ok hg2 (k2.sub g1)⟩
    · rcases g5 k hk with h1 | h1
      · exact hnew k h1
      · exact .inr h1
  · exact ⟨_, hs, hp⟩
theorem frzL_sat {K : St → Prop} : ∀ (l : List Nat) (st : St), frzL l st K → Sat may w0 h0 st a w → ∃ st', Sat may w0 h0 st' a w ∧ K st'
  | [], st, hp, hs => ⟨st, hs, hp⟩
  | i :: r, st, hp, hs => by
    obtain ⟨st', h1, h2⟩ := frz_sat (i := i) (K := fun st => frzL r st K) hp hs
    exact frzL_sat r st' h2 h1
end

def closedC : Cell → Bool
  | .v _ => true
  | .sl _ _ _ _ => true
  | _ => false
def closedA : AV → Bool
  | .c x => closedC x
  | .agg xs => xs.all closedC
  | .tup as => as.all fun a => match a with | .c x => closedC x | .agg xs => xs.all closedC | .tup _ => false
theorem closedC_iff {c : Cell} (h : closedC c = true) : Closed c := by cases c <;> simp_all [Closed, closedC]
theorem closed_one {L : Nat → Value} {h : Hp} {c : Cell} (hc : Closed c) (hok : OkC h c) : (denC L c).oneCell' = true := by
  cases c with
  | v x => cases hok; assumption
  | sl s sz n f => obtain ⟨A, c, e, _⟩ := sl_val hok; rw [denC, e]; rfl
  | _ => exact hc.elim
/-- What an append starts from. -/
def oldOf (st : St) (e : TypeId) (sz : Nat) : AV → Option (Option Nat × List (List Cell))
  | .c (.v (.slice none 0 0)) => some (none, [])
  | .c (.row i) => match st.own[i]? with
    | some (some (.row e' sz' xs)) => if e = e' ∧ sz = sz' then some (some i, xs) else none
    | _ => none
  | _ => none
/-- What an append adds. -/
def newsOf (st : St) (d : TypeDesc) (sz : Nat) (av : AV) : Option (List (List Cell)) :=
  match d with
  | .slice _ => match av with
    | .c (.v (.slice none 0 _)) => some []
    | .c (.row j) => match st.own[j]? with
      | some (some (.row _ sz' xs)) => if sz = sz' then some xs else none
      | _ => none
    | .c (.sl _ sz' n f) => if sz = sz' then some ((List.range n).map f) else none
    | _ => none
  | .string => match av with
    | .c (.v (.string s)) => if sz = 1 then some (s.data.toList.map fun b => [.v (.int .u8 b.toNat)]) else none
    | _ => none
  | _ => none
def without (own : List (Option Ob)) : Option Nat → List (Option Ob)
  | some i => own.set i none
  | none => own
/-- The elements of a literal. -/
def rowC (sz : Nat) : Nat → List (Nat × AV) → Option (List (List Cell))
  | _, [] => some []
  | i, (j, av) :: r => match Nat.beq i j, cellsOf av, rowC sz (i + 1) r with
    | true, some cs, some rest => if cs.length = sz ∧ cs.all closedC = true then some (cs :: rest) else none
    | _, _, _ => none
section
variable {P : Program} {T : TT} {mine may : Nat → Prop} {L : Nat → Value} {h h' : Hp} {h0 : Base} {st : St} {a : Act} {w w0 : World}
theorem flatten_inv {sz : Nat} : ∀ {xs : List (List Cell)} (hx : ∀ x, x ∈ xs → x.length = sz) {q : Nat} {c : Cell}, xs.flatten[q]? = some c → ∃ k j cs, q = k * sz + j ∧ xs[k]? = some cs ∧ cs[j]? = some c
  | [], _, q, c, h => by simp at h
  | x :: xs, hx, q, c, h => by
    have hl := hx x (by simp)
    rw [List.flatten_cons] at h
    rcases Nat.lt_or_ge q x.length with hq | hq
    · rw [List.getElem?_append_left hq] at h
      exact ⟨0, q, x, by omega, rfl, h⟩
    · rw [List.getElem?_append_right hq] at h
      obtain ⟨k, j, cs, e, h1, h2⟩ := flatten_inv (fun x hm => hx x (by simp [hm])) h
      exact ⟨k + 1, j, cs, by rw [Nat.succ_mul]; omega, h1, h2⟩
theorem flatten_len {α : Type} {sz : Nat} : ∀ {xs : List (List α)} (hx : ∀ x, x ∈ xs → x.length = sz), xs.flatten.length = xs.length * sz
  | [], _ => by simp
  | x :: xs, hx => by
    rw [List.flatten_cons, List.length_append, hx x (by simp), flatten_len (fun y hy => hx y (by simp [hy])), List.length_cons, Nat.succ_mul]
    omega
theorem newsOf_ok (hm : Mem mine L h st.own w) {d : TypeDesc} {tx : TypeId} {sz : Nat} {av : AV} {ys : List (List Cell)} (hu : P.underlying tx = some d) (hok : OkA h av) (hn : newsOf st d sz av = some ys) :
    Src P sz tx (den L av) ys.length (ys.flatten.map (denC L)) w ∧ ∀ y, y ∈ ys → y.length = sz ∧ ∀ c, c ∈ y → Closed c ∧ OkC h c := by
  unfold newsOf at hn
  split at hn
  · rename_i e'
    split at hn
    · rename_i cc
      cases hn
      exact ⟨Src.ofNil w hu cc, fun y hy => nomatch hy⟩
    · rename_i j
      split at hn
      · rename_i e sz' xs ho
        split at hn
        · rename_i es
          cases hn
          subst es
          obtain ⟨_, _, h3⟩ := hm.obs j _ ho
          obtain ⟨A, c, e1, h1, h2, _⟩ := own_row hm ho
          refine ⟨?_, h3⟩
          have hden : den L (.c (.row j)) = .slice A ys.length c := e1
          rw [hden]
          have hl : (ys.flatten.map (denC L)).length = ys.length * sz := by rw [List.length_map, flatten_len (fun x hx => (h3 x hx).1)]
          have hone : ∀ u ∈ ys.flatten.map (denC L), u.oneCell' = true := fun u hu => by
            obtain ⟨c, hc, rfl⟩ := List.mem_map.1 hu
            obtain ⟨x, hx, hcx⟩ := List.mem_flatten.1 hc
            exact closed_one ((h3 x hx).2 c hcx).1 ((h3 x hx).2 c hcx).2
          rcases Nat.eq_zero_or_pos ys.length with h0 | hp
          · have hy : ys = [] := List.eq_nil_of_length_eq_zero h0
            subst hy
            cases A with
            | none => exact Src.ofNil w hu c
            | some ad => exact Src.ofSlice w hu ad 0 c _ hl (fun j u hj => by simp at hj) hone
          · obtain ⟨g, rfl, hg⟩ := h2 hp
            refine Src.ofSlice w hu _ _ c _ hl (fun j u hj => ?_) hone
            rw [addr_plain, Nat.zero_add]
            exact hg j u hj
        · cases hn
      · cases hn
    · rename_i s sz' n f
      split at hn
      · rename_i es
        cases hn
        subst es
        cases hok with
        | sl _ _ _ _ k1 k2 k3 =>
        obtain ⟨⟨A, c, e, hc, hmx, hr⟩, hl⟩ := k1
        have h3 : ∀ y, y ∈ (List.range n).map f → y.length = sz ∧ ∀ c, c ∈ y → Closed c ∧ OkC h c := fun y hy => by
          obtain ⟨k, hk, rfl⟩ := List.mem_map.1 hy
          have hk := List.mem_range.1 hk
          exact ⟨by have := hl k hk; rwa [List.length_map] at this, fun c hc => ⟨k2 k hk c hc, k3 k hk c hc⟩⟩
        refine ⟨?_, h3⟩
        have hden : den L (.c (.sl s sz n f)) = .slice A n c := e
        rw [hden, List.length_map, List.length_range]
        have hl2 : (((List.range n).map f).flatten.map (denC L)).length = n * sz := by rw [List.length_map, flatten_len (fun x hx => (h3 x hx).1), List.length_map, List.length_range]
        have hone : ∀ u ∈ ((List.range n).map f).flatten.map (denC L), u.oneCell' = true := fun u hu => by
          obtain ⟨c, hc, rfl⟩ := List.mem_map.1 hu
          obtain ⟨x, hx, hcx⟩ := List.mem_flatten.1 hc
          exact closed_one ((h3 x hx).2 c hcx).1 ((h3 x hx).2 c hcx).2
        rcases Nat.eq_zero_or_pos n with h0 | hp
        · subst h0
          cases A with
          | none => exact Src.ofNil w hu c
          | some ad => exact Src.ofSlice w hu ad 0 c _ hl2 (fun j u hj => by simp at hj) hone
        · obtain ⟨ad, rfl, hg⟩ := hr hp
          refine Src.ofSlice w hu ad n c _ hl2 (fun q u hq => ?_) hone
          rw [List.getElem?_map] at hq
          cases hcq : ((List.range n).map f).flatten[q]? with
          | none => rw [hcq] at hq; cases hq
          | some cc =>
            rw [hcq] at hq
            obtain ⟨k, j, cs, e2, hk, hj⟩ := flatten_inv (fun x hx => (h3 x hx).1) hcq
            have hkn : k < n := by have := (List.getElem?_eq_some_iff.1 hk).1; simpa using this
            have hcs : cs = f k := by simp [List.getElem?_map, List.getElem?_range hkn] at hk; exact hk.symm
            subst hcs
            rw [e2]
            refine hcell_cell hm.hsub (hg k hkn j u ?_)
            rw [List.getElem?_map, hj]
            simp only [Option.map_some] at hq ⊢
            rw [← hq, denI, denC_closed (k2 k hkn cc (List.mem_of_getElem? hj))]
      · cases hn
    · cases hn
  · split at hn
    · rename_i s
      split at hn
      · rename_i es
        cases hn
        subst es
        refine ⟨?_, fun y hy => ?_⟩
        · have := Src.ofString (P := P) w hu s
          have e1 : ((s.data.toList.map fun b => [Cell.v (.int .u8 b.toNat)]).flatten.map (denC L)) = byteCells s := by
            unfold byteCells
            generalize s.data.toList = l
            induction l with
            | nil => rfl
            | cons x r ih => simp only [List.map_cons, List.flatten_cons, List.map_append, ih]; rfl
          rw [e1]
          have e2 : (s.data.toList.map fun b => [Cell.v (.int .u8 b.toNat)]).length = s.size := by rw [List.length_map]; rfl
          rw [e2]
          exact this
        · obtain ⟨b, hb, rfl⟩ := List.mem_map.1 hy
          refine ⟨rfl, fun c hc => ?_⟩
          simp at hc
          subst hc
          exact ⟨trivial, .v _ rfl⟩
      · cases hn
    · cases hn
  · cases hn
theorem append_mem (hT : TTok P T) (hm : Mem mine L h st.own w) (hmine : ∀ b, w.heap.size ≤ b → mine b) {t tx ty e : TypeId} {te : TI} (hte : TF P e te) (ht : P.underlying t = some (.slice e)) (hz : te.zero.cells.size = te.size)
    {av : AV} {oi : Option Nat} {xs : List (List Cell)} (ho : oldOf st e te.size av = some (oi, xs)) {x : Value} {ys : List (List Cell)} (hs : Src P te.size tx x ys.length (ys.flatten.map (denC L)) w)
    (hys : ∀ y, y ∈ ys → y.length = te.size ∧ ∀ c, c ∈ y → Closed c ∧ OkC h c) (h63 : xs.length + ys.length ≤ 9223372036854775807) (hb : (xs.length + ys.length) * te.bytes ≤ 140737488355328) :
    ∃ v' w', (Builtin.append_ #[t, tx] ty #[den L av, x]).run P w = .ok v' w' ∧ Mem mine (upd L st.own.length v') (h.more 1) (without st.own oi ++ [some (.row e te.size (xs ++ ys))]) w' ∧
      w'.os = w.os ∧ w'.tape = w.tape ∧ w'.output = w.output ∧ w.heap.size ≤ w'.heap.size ∧ ∀ k, k < w.heap.size → ¬ mine k → w'.heap[k]? = w.heap[k]? := by
  have hi := hte.info
  cases hinfo : P.info? e with
  | none => rw [hinfo] at hi; cases hi
  | some ie =>
  rw [hinfo] at hi
  simp only [Option.map_some, Option.some.injEq, Prod.mk.injEq] at hi
  obtain ⟨i1, i2, i3⟩ := hi
  have hml : maxLen = 9223372036854775807 := rfl
  -- the old value
  have hold : ∃ xv : List Value, w.ownsRow 0 e te.size (den L av) xs.length xv ∧ xv = xs.flatten.map (denC L) ∧ (∀ y, y ∈ xs → y.length = te.size ∧ ∀ c, c ∈ y → Closed c ∧ OkC h c) ∧
      (∀ b, blk (den L av) = some b → h.m b = none ∧ mine b ∧ ∀ (j : Nat) (oj : Ob), (without st.own oi)[j]? = some (some oj) → blk (L j) ≠ some b) ∧ (∀ (j : Nat) (oj : Ob), (without st.own oi)[j]? = some (some oj) → st.own[j]? = some (some oj)) ∧ Mem mine L h (without st.own oi) w ∧ (without st.own oi).length = st.own.length := by
    unfold oldOf at ho
    split at ho
    · cases ho
      exact ⟨[], World.ownsRow_nil w 0 e te.size, rfl, (fun y hy => nomatch hy), (fun b hb => by cases hb), fun j oj hj => hj, hm, rfl⟩
    · rename_i i
      split at ho
      · rename_i e' sz' xs' hoi
        split at ho
        · rename_i hee
          obtain ⟨rfl, rfl⟩ := hee
          cases ho
          obtain ⟨o1, o2, o3⟩ := hm.obs i _ hoi
          have hne : ∀ (j : Nat) (oj : Ob), (st.own.set i none)[j]? = some (some oj) → st.own[j]? = some (some oj) ∧ j ≠ i := fun j oj hj => by
            rw [List.getElem?_set] at hj
            split at hj
            · split at hj <;> cases hj
            · rename_i hne
              exact ⟨hj, fun e => hne e.symm⟩
          refine ⟨_, o1, rfl, o3, fun b hb => ⟨(o2 b hb).1, (o2 b hb).2, fun j oj hj hbj => ?_⟩, fun j oj hj => (hne j oj hj).1, mem_drop hm i, List.length_set ..⟩
          exact (hne j oj hj).2 (hm.dis j i oj _ b (hne j oj hj).1 hoi hbj hb)
        · cases ho
      · cases ho
    · cases ho
  obtain ⟨xv, q1, q2, q3, q4, q5, q6, q7⟩ := hold
  have hsz : te.size = ie.size := i2.symm
  rw [hsz] at q1 hs
  obtain ⟨v', w', r1, r2, r3, r4⟩ := run_append_src_own (P := P) w 0 t tx ty e ie te.zero ht hinfo i1 (by rw [hz, hsz]) (den L av) xs.length xv q1 x ys.length _ hs (by rw [hml]; exact h63) (by rw [i3]; exact hb) (Nat.zero_le _)
  have hsh := ownsRow_slice q1
  have hsh' := ownsRow_slice r2
  have hblk := blk_own hsh
  have hblk' := blk_own hsh'
  have hw' : ∀ k, k < w.heap.size → ¬ mine k → w'.heap[k]? = w.heap[k]? := fun k hk hn => r3.block k hk (fun e => hn ((q4 k (by rw [hblk, ← e])).2.1))
  have hm1 : Mem mine L h (without st.own oi) w' := by
    refine mem_move q6 (fun k o hk => ?_) (fun j oj b hj hbj => ?_)
    · refine r3.block k (Array.getElem?_eq_some_iff.1 (hm.hsub k o hk)).1 (fun e => ?_)
      have := (q4 k (by rw [hblk, ← e])).1
      rw [this] at hk
      cases hk
    · refine r3.block b (obOk_lt (q6.obs j oj hj) hbj).1 (fun e => ?_)
      exact (q4 b (by rw [hblk, ← e])).2.2 j oj hj hbj
  refine ⟨v', w', r1, ?_, r3.os, r3.tape, r3.output, r3.size, hw'⟩
  rw [← q7]
  have hnb : ∀ b, blk v' = some b → h.m b = none ∧ mine b ∧ ∀ (j : Nat) (oj : Ob), (without st.own oi)[j]? = some (some oj) → blk (L j) ≠ some b := fun b hb => by
    rw [hblk'] at hb
    rcases r4 with r4 | r4 | r4
    · rw [r4] at hb; cases hb
    · rw [r4, ← hblk] at hb; exact q4 b hb
    · rw [r4] at hb
      cases hb
      refine ⟨hp_new hm.hsub (Nat.le_refl _), hmine _ (Nat.le_refl _), fun j oj hj hbj => ?_⟩
      have := (obOk_lt (q6.obs j oj hj) hbj).1
      omega
  refine mem_push' hm1 ⟨?_, fun b hb => ⟨(hnb b hb).1, (hnb b hb).2.1⟩, fun y hy => ?_⟩ (fun b hb j oj hj => (hnb b hb).2.2 j oj hj)
  · have e1 : (xs ++ ys).flatten.map (denC (upd L (without st.own oi).length v')) = xv ++ ys.flatten.map (denC L) := by
      rw [q2, ← List.map_append, ← List.flatten_append]
      exact List.map_congr_left (fun c hc => by
        obtain ⟨y, hy, hcy⟩ := List.mem_flatten.1 hc
        rcases List.mem_append.1 hy with hy | hy
        · exact denC_closed ((q3 y hy).2 c hcy).1 _ _
        · exact denC_closed ((hys y hy).2 c hcy).1 _ _)
    rw [e1, List.length_append, hsz]
    exact r2
  · rcases List.mem_append.1 hy with hy | hy
    · exact ⟨(q3 y hy).1, fun c hc => ⟨((q3 y hy).2 c hc).1, ((q3 y hy).2 c hc).2.sub (sub_more h 1)⟩⟩
    · exact ⟨(hys y hy).1, fun c hc => ⟨((hys y hy).2 c hc).1, ((hys y hy).2 c hc).2.sub (sub_more h 1)⟩⟩
theorem rowC_ok {sz : Nat} : ∀ {l : List (Nat × AV)} {i : Nat} {xs : List (List Cell)}, rowC sz i l = some xs → (∀ x, x ∈ l → OkA h x.2) →
    xs.length = l.length ∧ (l.map fun x => (x.1, den L x.2)) = (((l.map fun x => den L x.2).zipIdx i).map fun x => (x.2, x.1)) ∧ (∀ y, y ∈ xs → y.length = sz ∧ ∀ c, c ∈ y → Closed c ∧ OkC h c) ∧
      (∀ v, v ∈ l.map (fun x => den L x.2) → v.cells.size = sz) ∧ ((l.map fun x => den L x.2).flatMap fun v => v.cells.toList) = xs.flatten.map (denC L)
  | [], i, xs, hr, _ => by cases hr; exact ⟨rfl, rfl, (fun y hy => nomatch hy), (fun v hv => nomatch hv), rfl⟩
  | (j, av) :: r, i, xs, hr, hok => by
    unfold rowC at hr
    split at hr
    · rename_i cs rest hb hc hrest
      split at hr
      · rename_i hcond
        cases hr
        obtain ⟨k1, k2, k3, k4, k5⟩ := rowC_ok hrest (fun x hx => hok x (by simp [hx]))
        have hj : i = j := Nat.eq_of_beq_eq_true hb
        have hco := cellsOf_ok hc (hok (j, av) (by simp))
        have hcl : ∀ c, c ∈ cs → Closed c := fun c hcm => closedC_iff (List.all_eq_true.1 hcond.2 c hcm)
        have hcells := cellsOf_den (L := L) hc (fun c hcm => closed_one (hcl c hcm) (hco c hcm))
        refine ⟨by simp [k1], ?_, fun y hy => ?_, fun v hv => ?_, ?_⟩
        · rw [List.map_cons, List.map_cons, List.zipIdx_cons, List.map_cons, k2, hj]
        · rcases List.mem_cons.1 hy with rfl | hy
          · exact ⟨hcond.1, fun c hcm => ⟨hcl c hcm, hco c hcm⟩⟩
          · exact k3 y hy
        · rw [List.map_cons] at hv
          rcases List.mem_cons.1 hv with rfl | hv
          · rw [hcells]; simp [hcond.1]
          · exact k4 v hv
        · rw [List.map_cons, List.flatMap_cons, k5, List.flatten_cons, List.map_append, hcells]
      · cases hr
    · cases hr
end
end Go.Eng
