/- A part of the proof: what the functions of the program come to, told by a small reckoner of states. -/
import Derived.Test.YteglopjljejjkabGBTrGTBTrP
import Derived.Maps.RangeRun
import Derived.Lib.Walk
import Derived.Shelf.SlSortCmp.WholeK
import Derived.WalkKit
import Derived.LoopN
import Derived.Test.YteglopjljejjkabProg
import Derived.Ground.NamesProg
import Derived.Ground.SlsfProg
import Derived.Shelf.SlLaysF0
import Derived.Shelf.Lays8
import Derived.Shelf.Lays
/- Tree: a map of rows, ranged over. -/
set_option linter.unusedVariables false
set_option linter.unusedSimpArgs false
set_option maxRecDepth 100000
set_option maxHeartbeats 4000000
namespace Go.Eng
open Go Go.RowKit Go.Proofs
/-- A row of Ids laid still. -/
def frI (m : Nat → Option Obj) (l : List I2) (v : Value) : Prop := Den (fun _ => undef) ⟨m, 0⟩ (.sl 2 l.length (idR l)) v
theorem frI_mono {m m' : Nat → Option Obj} {l : List I2} {v : Value} (h : frI m l v) (hm : ∀ k o, m k = some o → m' k = some o) : frI m' l v :=
  Den.mono (h := ⟨m, 0⟩) (h' := ⟨m', 0⟩) ⟨hm, Nat.le_refl _⟩ (fun _ _ => rfl) h
def isMap (r : Nat) (m : Nat → Option Obj) (F : Nat → Prop) (w : World) (v : Value) : Prop := v = .map (some r)
def rowV (e : TypeId) (v0 : Value) (l : List I2) (m : Nat → Option Obj) (F : Nat → Prop) (w : World) (v : Value) : Prop := v = v0 ∧ w.ownsRow 0 e 2 v l.length (flatI l) ∧ ∀ b, blk v = some b → F b
def kidsIt (e : TypeId) (gs : GS) (r : Nat) (dn : List Nat) (fz : Nat → List I2) (cur : Option Nat) (ho : Option (Nat × Value)) (m : Nat → Option Obj) (F : Nat → Prop) (w : World) (v : Value) : Prop :=
  ∃ it ents clock seen, v = .pointer (some ⟨it, 0, none⟩) ∧ F it ∧ F r ∧ it ≠ r ∧ w.heap[it]? = some (.mapIter (some r) clock seen clock) ∧ w.heap[r]? = some (.map ents clock) ∧ gs.length = ents.size ∧
    (∀ (j : Nat) (x : MapEntry), ents[j]? = some x → x.born < clock) ∧ (∀ (i j : Nat) (x y : MapEntry), ents[i]? = some x → ents[j]? = some y → x.born = y.born → i = j) ∧
    (∀ (j : Nat) (g : Hg) (l : List I2) (x : MapEntry), gs[j]? = some (g, l) → ents[j]? = some x → x.key = hgV g) ∧
    (∀ (j : Nat) (x : MapEntry), ents[j]? = some x → (x.born ∈ seen ↔ (j ∈ dn ∨ cur = some j ∨ ho.map (·.1) = some j))) ∧
    (∀ (q : Nat), cur = some q → ∃ (x : MapEntry) (s2 : Array Nat), ents[q]? = some x ∧ seen = s2.push x.born) ∧
    (∀ (q : Nat) (v0 : Value), ho = some (q, v0) → ∃ x : MapEntry, ents[q]? = some x ∧ x.val = v0) ∧
    (∀ (j : Nat) (x : MapEntry), j ∈ dn → ents[j]? = some x → frI m (fz j) x.val) ∧
    (∀ (j : Nat) (g : Hg) (l : List I2) (x : MapEntry), j ∉ dn → ho.map (·.1) ≠ some j → gs[j]? = some (g, l) → ents[j]? = some x → w.ownsRow 0 e 2 x.val l.length (flatI l) ∧ ∀ b, blk x.val = some b → F b ∧ b ≠ r ∧ b ≠ it) ∧
    (∀ (i j : Nat) (x y : MapEntry) (b : Nat), i ∉ dn → j ∉ dn → ho.map (·.1) ≠ some i → ho.map (·.1) ≠ some j → ents[i]? = some x → ents[j]? = some y → blk x.val = some b → blk y.val = some b → i = j)
def kidsF (gs : GS) (m : Nat → Option Obj) (F : Nat → Prop) (w : World) (v : Value) : Prop :=
  ∃ r ents clock, v = .map (some r) ∧ F r ∧ w.heap[r]? = some (.map ents clock) ∧ gs.length = ents.size ∧
    ∀ (j : Nat) (g : Hg) (l : List I2) (x : MapEntry), gs[j]? = some (g, l) → ents[j]? = some x → x.key = hgV g ∧ frI m l x.val
theorem isMap_stable (r : Nat) : Stable (isMap r) := ⟨fun m m' F w w' v h _ _ => h⟩
theorem rowV_stable (e : TypeId) (v0 : Value) (l : List I2) : Stable (rowV e v0 l) := ⟨fun m m' F w w' v ⟨h1, h2, h3⟩ _ hw => ⟨h1, ownsRow_move h2 (fun b hb => hw b (h3 b hb)), h3⟩⟩
theorem kidsIt_stable (e : TypeId) (gs : GS) (r : Nat) (dn : List Nat) (fz : Nat → List I2) (cur : Option Nat) (ho : Option (Nat × Value)) : Stable (kidsIt e gs r dn fz cur ho) := by
  refine ⟨fun m m' F w w' v ⟨it, ents, clock, seen, h1, h2, h3, h4, h5, h6, h7, h8, h9, h10, h11, h12, h13, h14, h15, h16⟩ hm hw => ⟨it, ents, clock, seen, h1, h2, h3, h4, by rw [hw it h2]; exact h5, by rw [hw r h3]; exact h6, h7, h8, h9, h10, h11, h12, h13, fun j x hj hx => frI_mono (h14 j x hj hx) hm, fun j g l x hj hh hg hx => ?_, h16⟩⟩
  obtain ⟨k1, k2⟩ := h15 j g l x hj hh hg hx
  exact ⟨ownsRow_move k1 (fun b hb => hw b (k2 b hb).1), k2⟩
theorem kidsF_stable (gs : GS) : Stable (kidsF gs) :=
  ⟨fun m m' F w w' v ⟨r, ents, clock, h1, h2, h3, h4, h5⟩ hm hw => ⟨r, ents, clock, h1, h2, by rw [hw r h2]; exact h3, h4, fun j g l x hg hx => ⟨(h5 j g l x hg hx).1, frI_mono (h5 j g l x hg hx).2 hm⟩⟩⟩
/-- The range begins. -/
theorem opV_range {st : St} {K : St → Prop} {dst : Option Nat} {ty : TypeId} {pos : String} {after : Array Edge} {guard : Option (Nat × Bool)} {t kt et : TypeId} {ti : TI} {x : Operand} {i : Nat} {gs : GS} {e : TypeId} (hl : tt.lookup t = some ti) (hd : ti.desc = .map kt et)
    (he : ev st x = some (.c (.mp i))) (hi : st.own[i]? = some (some (kO e gs none)))
    (h : ∀ r, putK ⟨st.n, st.k, st.env, st.own.set i (some (.abs (isMap r))) ++ [some (.abs (kidsIt e gs r [] (fun _ => []) none none))]⟩ dst (.c (.own st.own.length 0)) K) : OpV Try.prog ⟨dst, .range t x, ty, pos, after, guard⟩ st K := by
  refine ⟨fun Q may w0 h0 a w hs => ?_⟩
  obtain ⟨⟨L, F, hh, hm, ha, hsub, hnew⟩, hk'⟩ := hs
  obtain ⟨hev, r, ents, clock, h1, h2, h3, h4, h5, h6, h7, h8, h9, h10⟩ := kids_open hm ha he hi
  have hu := (ttok _ _ hl).und
  rw [hd] at hu
  have hgo : (getObj r).run Try.prog w = .ok (.map ents clock) w := by simp [getObj, Sem.run, h3]
  have hlt := (Array.getElem?_eq_some_iff.1 h3).1
  have hb := below_alloc w (.mapIter (some r) clock #[] clock)
  have hm' := mem_same hm (same_below hm hb) hb.size
  have hk1 := keep_below hk' hb
  have hrlt : r < w.heap.size := hlt
  have hold : ∀ b, b < w.heap.size → (w.alloc (.mapIter (some r) clock #[] clock)).heap[b]? = w.heap[b]? := fun b hb2 => hb.block b hb2
  have hnb : hh.m w.heap.size = none := hp_new hm.hsub (Nat.le_refl _)
  have hm2 := mem_part (o := kO e gs none) (ob := .abs (isMap r)) (ob2 := .abs (kidsIt e gs r [] (fun _ => []) none none)) hm' hi (G1 := fun _ => False) (G2 := fun b => F i b ∨ b = w.heap.size) (fun b hb => hb.elim)
    (fun b hb => hb.imp id (fun e' => by
      subst e'
      refine ⟨by show w.heap.size < (w.heap.push _).size; simp, hnb, .inr hk'.size, fun ⟨j, oj, hj, hbj⟩ => ?_⟩
      have := (hm.foot j oj _ hj hbj).1
      omega)) (fun b hb _ => hb.elim) (v2 := .pointer (some ⟨w.heap.size, 0, none⟩))
    ⟨isMap_stable r, by rw [← hev]; exact h1⟩ (fun L' h' _ _ => ⟨kidsIt_stable _ _ _ _ _ _ _, w.heap.size, ents, clock, #[], rfl, .inr rfl, .inl h2, by omega, heap_alloc_at w _, by rw [hold r hrlt]; exact h3, h4, h5, h6, h7, fun j x hx => ⟨fun hx2 => (by simp at hx2), fun hx2 => (by simp at hx2)⟩, fun q hq => (by cases hq), fun q v0 hq => (by cases hq), fun j x hj => (by cases hj), fun j g l x _ _ hg hx => by
      obtain ⟨k1, k2⟩ := h9 j g l x (by simp) hg hx
      have hlt2 : ∀ b, blk x.val = some b → b < w.heap.size := fun b hb => (hm.foot i _ b hi (k2 b hb).1).1
      exact ⟨ownsRow_move k1 (fun b hb => hold b (hlt2 b hb)), fun b hb => ⟨.inl (k2 b hb).1, (k2 b hb).2, by have := hlt2 b hb; omega⟩⟩, fun i' j x y b _ _ _ _ hx hy hb hb2 => h10 i' j x y b (by simp) (by simp) hx hy hb hb2⟩)
  have hL : ∀ j, j < hh.n → upd L st.own.length (.pointer (some ⟨w.heap.size, 0, none⟩)) j = L j := fun j hj => upd_lt (by have := hm.hn; omega)
  have := put_sat (st := ⟨st.n, st.k, st.env, st.own.set i (some (.abs (isMap r))) ++ [some (.abs (kidsIt e gs r [] (fun _ => []) none none))]⟩) (av := .c (.own st.own.length 0)) (v := .pointer (some ⟨w.heap.size, 0, none⟩))
    hm2 (agree_more ha hL (sub_more hh 1) rfl rfl) (hsub.step hL (sub_more hh 1)) hnew hk1 (by
      have := Den.own (L := upd L st.own.length (.pointer (some ⟨w.heap.size, 0, none⟩))) (h := hh.more 1) st.own.length 0 ⟨w.heap.size, 0, none⟩ (by simp [Hp.more, hm.hn]) upd_eq
      rw [addr_plain] at this
      exact this) (h r)
  refine value_upon (v := .pointer (some ⟨w.heap.size, 0, none⟩)) ?_ this
  simp [execOp, Instr.range, run_underlying hu, h1, hgo, run_newObj_alloc]
/-- One that is left comes out; or none is left. -/
theorem opV_next {st : St} {K : St → Prop} {dst : Option Nat} {ty : TypeId} {pos : String} {after : Array Edge} {guard : Option (Nat × Bool)} {x : Operand} {j r : Nat} {gs : GS} {e : TypeId} {dn : List Nat} {fz : Nat → List I2}
    (he : ev st x = some (.c (.own j 0))) (hj : st.own[j]? = some (some (.abs (kidsIt e gs r dn fz none none))))
    (hA : (∀ q, q < gs.length → q ∈ dn) → putK st dst (.tup [.c (.v (.bool false))]) K)
    (hB : ∀ q g l, q ∉ dn → gs[q]? = some (g, l) → putK ⟨st.n, st.k, st.env, st.own.set j (some (.abs (kidsIt e gs r dn fz (some q) none)))⟩ dst (.tup [.c (.v (.bool true)), .agg (hgF g), .c .any]) K) :
    OpV Try.prog ⟨dst, .next x false, ty, pos, after, guard⟩ st K := by
  refine ⟨fun Q may w0 h0 a w hs => ?_⟩
  obtain ⟨⟨L, F, hh, hm, ha, hsub, hnew⟩, hk'⟩ := hs
  obtain ⟨_, it, ents, clock, seen, h1, h2, h3, h4, h5, h6, h7, h8, h9, h10, h11, h12, h13, h14, h15, h16⟩ := hm.obs j _ hj
  have hxv : a.eval x = .pointer (some ⟨it, 0, none⟩) := by
    have hv : Den L hh (.own j 0) (a.eval x) := ev_eval ha he
    generalize a.eval x = v at hv
    cases hv with
    | own _ _ ad p1 p2 =>
      rw [h1] at p2
      cases p2
      rw [addr_plain]
  have hlt := (Array.getElem?_eq_some_iff.1 h5).1
  have hidx : ∀ y, y ∈ ents.toList → ∃ q, q < ents.size ∧ ents[q]? = some y := fun y hy => by
    obtain ⟨q, hq, rfl⟩ := List.getElem_of_mem hy
    have hq2 : q < ents.size := by simpa using hq
    exact ⟨q, hq2, by simp [hq2]⟩
  have hold : ∀ y ∈ ents.toList, y.born < clock := fun y hy => by obtain ⟨q, _, hq⟩ := hidx y hy; exact h8 q y hq
  rcases run_next_at (P := Try.prog) w ty it r clock clock seen ents clock h5 h6 hold (Nat.le_refl _) with ⟨k1, k2⟩ | ⟨y, hy, w1, hw1, k2⟩
  · have hall : ∀ q, q < gs.length → q ∈ dn := fun q hq => by
      have hqe : q < ents.size := by omega
      have hx : ents[q]? = some ents[q] := Array.getElem?_eq_getElem hqe
      have hs : ents[q].born ∈ seen := by
        have he2 : leftOf ents seen = #[] := Array.eq_empty_of_size_eq_zero k1
        by_cases hc : ents[q].born ∈ seen
        · exact hc
        · exfalso
          have : ents[q] ∈ leftOf ents seen := by
            unfold leftOf
            rw [Array.mem_filter]
            exact ⟨Array.getElem_mem hqe, by simpa using hc⟩
          rw [he2] at this
          simp at this
      rcases (h11 q _ hx).1 hs with h | h | h
      · exact h
      · cases h
      · cases h
    have := put_sat hm ha hsub hnew hk' (av := .tup [.c (.v (.bool false))]) (v := .tuple #[.bool false]) ⟨[_], rfl, rfl, fun p a' u ha' hu' => by
      match p with
      | 0 => simp at ha' hu'; subst ha' hu'; exact Den.v _ rfl
      | p + 1 => simp at ha'⟩ (hA hall)
    refine value_upon (v := .tuple #[.bool false]) ?_ this
    simp [execOp, hxv, k2]
  · have hyl : y ∈ ents ∧ y.born ∉ seen := by
      have : y ∈ leftOf ents seen := by simpa using hy
      unfold leftOf at this
      rw [Array.mem_filter] at this
      exact ⟨this.1, by simpa using this.2⟩
    obtain ⟨q, hq, hqy⟩ := hidx y (by simpa using hyl.1)
    have hqd : q ∉ dn := fun h => hyl.2 ((h11 q y hqy).2 (.inl h))
    have hgq : gs[q]? = some gs[q] := List.getElem?_eq_getElem (by omega)
    have hwh : w1.heap = w.heap := by rcases hw1 with rfl | rfl <;> rfl
    have hwk : w1.os = w.os ∧ w1.tape = w.tape ∧ w1.output = w.output := by rcases hw1 with rfl | rfl <;> exact ⟨rfl, rfl, rfl⟩
    have hne : ∀ b, b ≠ it → (ChangeMaps.setBlock w1 it (.mapIter (some r) clock (seen.push y.born) clock)).heap[b]? = w.heap[b]? := fun b hb => by
      show (w1.heap.setIfInBounds it _)[b]? = _
      rw [hwh, Array.getElem?_setIfInBounds, if_neg (Ne.symm hb)]
    have hsz : (ChangeMaps.setBlock w1 it (.mapIter (some r) clock (seen.push y.born) clock)).heap.size = w.heap.size := by
      show (w1.heap.setIfInBounds it _).size = _
      rw [hwh]; simp
    have hit : (ChangeMaps.setBlock w1 it (.mapIter (some r) clock (seen.push y.born) clock)).heap[it]? = some (.mapIter (some r) clock (seen.push y.born) clock) := by
      show (w1.heap.setIfInBounds it _)[it]? = _
      rw [hwh]; simp [hlt]
    obtain ⟨r1, r2⟩ := h15 q _ _ y hqd (by simp) hgq hqy
    obtain ⟨A, c, hsl⟩ := row_slice r1
    have hkey := h10 q _ _ y hgq hqy
    have hm1 := mem_set (w' := ChangeMaps.setBlock w1 it (.mapIter (some r) clock (seen.push y.born) clock)) hm hj hsz (fun b hb => hne b (fun e' => hb (by rw [e']; exact h2))) (ob := .abs (kidsIt e gs r dn fz (some q) none))
      ⟨kidsIt_stable _ _ _ _ _ _ _, it, ents, clock, seen.push y.born, h1, h2, h3, h4, hit, by rw [hne r (Ne.symm h4)]; exact h6, h7, h8, h9, h10, fun p x' hx' => (by
        rw [Array.mem_push, h11 p x' hx']
        constructor
        · rintro (h | h)
          · rcases h with h | h | h
            · exact .inl h
            · cases h
            · cases h
          · exact .inr (.inl (by rw [h9 p q x' y hx' hqy h]))
        · rintro (h | h | h)
          · exact .inl (.inl h)
          · cases h
            rw [hqy] at hx'
            cases hx'
            exact .inr rfl
          · cases h), fun q' hq' => (by cases hq'; exact ⟨y, seen, hqy, rfl⟩), fun q' v0 hq' => (by cases hq'), h14, fun p g l x' hp _ hg hx' => by
        obtain ⟨u1, u2⟩ := h15 p g l x' hp (by simp) hg hx'
        exact ⟨ownsRow_move u1 (fun b hb => hne b (u2 b hb).2.2), u2⟩, fun i' p x' y' b hi' hp _ _ hx' hy' hb hb2 => h16 i' p x' y' b hi' hp (by simp) (by simp) hx' hy' hb hb2⟩
    have hk1 : Keep may w0 (ChangeMaps.setBlock w1 it (.mapIter (some r) clock (seen.push y.born) clock)) := ⟨hwk.1.trans hk'.os, hwk.2.1.trans hk'.tape, hwk.2.2.trans hk'.output, by rw [hsz]; exact hk'.size, fun b hlt2 hno2 => by
      rw [hne b (fun e' => by
        subst e'
        rcases (hm.foot j _ b hj h2).2.2 with h6 | h6
        · exact hno2 h6
        · omega)]
      exact hk'.block b hlt2 hno2⟩
    have := put_sat (st := ⟨st.n, st.k, st.env, st.own.set j (some (.abs (kidsIt e gs r dn fz (some q) none)))⟩) hm1 ⟨ha.size, ha.env, ha.defers⟩ hsub hnew hk1 (av := .tup [.c (.v (.bool true)), .agg (hgF gs[q].1), .c .any]) (v := .tuple #[.bool true, y.key, y.val]) ⟨[_, _, _], rfl, rfl, fun p a' u ha' hu' => by
      match p with
      | 0 => simp at ha' hu'; subst ha' hu'; exact Den.v _ rfl
      | 1 => simp at ha' hu'; subst ha' hu'; rw [hkey]; exact ⟨_, rfl, DenL.cons (Den.v _ rfl) (DenL.cons (Den.v _ rfl) (DenL.cons (Den.v _ rfl) DenL.nil))⟩
      | 2 => simp at ha' hu'; subst ha' hu'; rw [hsl]; exact Den.any _ rfl
      | p + 3 => simp at ha'⟩ (hB q gs[q].1 gs[q].2 hqd hgq)
    refine value_upon (v := .tuple #[.bool true, y.key, y.val]) ?_ this
    simp [execOp, hxv, k2]
/-- Its row is taken out. -/
theorem opV_entry {st : St} {K : St → Prop} {dst : Option Nat} {ty : TypeId} {pos : String} {after : Array Edge} {guard : Option (Nat × Bool)} {x : Operand} {j r q : Nat} {gs : GS} {e : TypeId} {dn : List Nat} {fz : Nat → List I2} {g : Hg} {l : List I2}
    (he : ev st x = some (.c (.own j 0))) (hj : st.own[j]? = some (some (.abs (kidsIt e gs r dn fz (some q) none)))) (hqd : q ∉ dn) (hg : gs[q]? = some (g, l))
    (h : ∀ v0, putK ⟨st.n, st.k, st.env, st.own.set j (some (.abs (kidsIt e gs r dn fz none (some (q, v0))))) ++ [some (.abs (rowV e v0 l))]⟩ dst (.tup [.agg (hgF g), .c (.row st.own.length)]) K) :
    OpV Try.prog ⟨dst, .entry x, ty, pos, after, guard⟩ st K := by
  refine ⟨fun Q may w0 h0 a w hs => ?_⟩
  obtain ⟨⟨L, F, hh, hm, ha, hsub, hnew⟩, hk'⟩ := hs
  obtain ⟨_, it, ents, clock, seen, h1, h2, h3, h4, h5, h6, h7, h8, h9, h10, h11, h12, h13, h14, h15, h16⟩ := hm.obs j _ hj
  have hxv : a.eval x = .pointer (some ⟨it, 0, none⟩) := by
    have hv : Den L hh (.own j 0) (a.eval x) := ev_eval ha he
    generalize a.eval x = v at hv
    cases hv with
    | own _ _ ad p1 p2 =>
      rw [h1] at p2
      cases p2
      rw [addr_plain]
  obtain ⟨y, s2, hqy, hse⟩ := h12 q rfl
  obtain ⟨r1, r2⟩ := h15 q g l y hqd (by simp) hg hqy
  obtain ⟨A, c, hsl⟩ := row_slice r1
  have hkey := h10 q g l y hg hqy
  have hrun := run_entry_at (P := Try.prog) w it r clock s2 ents clock y (by rw [← hse]; exact h5) h6 (by rw [← Array.getElem?_toList] at hqy; exact List.mem_of_getElem? hqy) (by
    rw [List.Nodup, List.pairwise_map, List.pairwise_iff_getElem]
    intro p p2 hp hp2 hlt hb
    have := h9 p p2 ents.toList[p] ents.toList[p2] (by simp at hp; simp [hp]) (by simp at hp2; simp [hp2]) hb
    omega)
  have hm2 := mem_part (o := .abs (kidsIt e gs r dn fz (some q) none)) (ob := .abs (kidsIt e gs r dn fz none (some (q, y.val)))) (ob2 := .abs (rowV e y.val l)) hm hj (G1 := fun b => F j b ∧ blk y.val ≠ some b) (G2 := fun b => blk y.val = some b) (fun b hb => hb.1) (fun b hb => .inl (r2 b hb).1) (fun b hb hb2 => hb.2 hb2) (v2 := y.val)
    (by
      refine ⟨kidsIt_stable _ _ _ _ _ _ _, it, ents, clock, seen, h1, ⟨h2, fun e' => (r2 it e').2.2 rfl⟩, ⟨h3, fun e' => (r2 r e').2.1 rfl⟩, h4, h5, h6, h7, h8, h9, h10, fun p x' hx' => ?_, fun q' hq' => (by cases hq'), fun q' v0 hq' => ?_, h14, fun p g' l' x' hp hho hg' hx' => ?_, fun i' p x' y' b hi' hp hh1 hh2 hx' hy' hb hb2 => h16 i' p x' y' b hi' hp (by simp) (by simp) hx' hy' hb hb2⟩
      · rw [h11 p x' hx']
        constructor
        · rintro (h | h | h)
          · exact .inl h
          · cases h; exact .inr (.inr rfl)
          · cases h
        · rintro (h | h | h)
          · exact .inl h
          · cases h
          · cases h; exact .inr (.inl rfl)
      · cases hq'
        exact ⟨y, hqy, rfl⟩
      · obtain ⟨u1, u2⟩ := h15 p g' l' x' hp (by simp) hg' hx'
        exact ⟨u1, fun b hb => ⟨⟨(u2 b hb).1, fun hb2 => hho (by rw [h16 p q x' y b hp hqd (by simp) (by simp) hx' hqy hb hb2]; rfl)⟩, (u2 b hb).2⟩⟩)
    (fun L' h' _ _ => ⟨rowV_stable _ _ _, rfl, r1, fun b hb => hb⟩)
  have hL : ∀ p, p < hh.n → upd L st.own.length y.val p = L p := fun p hp => upd_lt (by have := hm.hn; omega)
  have := put_sat (st := ⟨st.n, st.k, st.env, st.own.set j (some (.abs (kidsIt e gs r dn fz none (some (q, y.val))))) ++ [some (.abs (rowV e y.val l))]⟩) (av := .tup [.agg (hgF g), .c (.row st.own.length)]) (v := .tuple #[y.key, y.val])
    hm2 (agree_more ha hL (sub_more hh 1) rfl rfl) (hsub.step hL (sub_more hh 1)) hnew hk' ⟨[_, _], rfl, rfl, fun p a' u ha' hu' => by
      match p with
      | 0 => simp at ha' hu'; subst ha' hu'; rw [hkey]; exact ⟨_, rfl, DenL.cons (Den.v _ rfl) (DenL.cons (Den.v _ rfl) (DenL.cons (Den.v _ rfl) DenL.nil))⟩
      | 1 => simp at ha' hu'; subst ha' hu'; rw [hsl]; exact Den.row _ _ _ _ (by simp [Hp.more, hm.hn]) (by rw [hsl] at *; exact upd_eq)
      | p + 2 => simp at ha'⟩ (h y.val)
  refine value_upon (v := .tuple #[y.key, y.val]) ?_ this
  simp [execOp, hxv, hrun]
/-- A row comes back, laid still. -/
theorem kids_ret {st : St} {j n r q : Nat} {gs : GS} {e : TypeId} {dn : List Nat} {fz : Nat → List I2} {v0 : Value} {l : List I2} (hj : st.own[j]? = some (some (.abs (kidsIt e gs r dn fz none (some (q, v0)))))) (hn : st.own[n]? = some (some (.abs (rowV e v0 l)))) (hjn : j ≠ n) (hqd : q ∉ dn) :
    Weak st ⟨st.n, st.k, st.env, (st.own.set n none).set j (some (.abs (kidsIt e gs r (q :: dn) (fun p => if p = q then l else fz p) none none)))⟩ := by
  refine ⟨fun {P} _ may w0 h0 a w hs => ?_⟩
  obtain ⟨⟨L, F, hh, hm, ha, hsub, hnew⟩, hk'⟩ := hs
  obtain ⟨_, hv0, hr, hb⟩ := hm.obs n _ hn
  have hnl : n < st.own.length := (List.getElem?_eq_some_iff.1 hn).1
  have hm1 := mem_shrink (ob := .row e 2 l.length (idR l)) (G1 := F n) hm hn (fun b hb => hb) (row_I hr hb)
  have hn1 : (st.own.set n (some (.row e 2 l.length (idR l))))[n]? = some (some (.row e 2 l.length (idR l))) := List.getElem?_set_self hnl
  obtain ⟨h', s1, s2, s3, s4, s5⟩ := frz_row hm1 hn1 (fun p hp => rfl)
  rw [List.set_set] at s3
  obtain ⟨A, c, hsl⟩ := row_slice hr
  have hd : Den L hh (.row n) (L n) := by rw [hsl]; exact Den.row _ _ _ _ (by rw [hm.hn]; exact hnl) hsl
  have hfr : frI h'.m l v0 := by
    have := s4.out _ _ hd
    have e1 : sbR n 2 l.length (idR l) (.row n) = .sl 2 l.length (idR l) := by unfold sbR; simp
    rw [e1, hv0] at this
    exact this.clo 0 rfl
  have hj3 : (st.own.set n none)[j]? = some (some (.abs (kidsIt e gs r dn fz none (some (q, v0))))) := by rw [List.getElem?_set_ne (Ne.symm hjn)]; exact hj
  obtain ⟨_, it, ents, clock, seen, h1, h2, h3, h4, h5, h6, h7, h8, h9, h10, h11, h12, h13, h14, h15, h16⟩ := s3.obs j _ hj3
  have hm4 := mem_set (w' := w) s3 hj3 rfl (fun _ _ => rfl) (ob := .abs (kidsIt e gs r (q :: dn) (fun p => if p = q then l else fz p) none none)) (by
    refine ⟨kidsIt_stable _ _ _ _ _ _ _, it, ents, clock, seen, h1, h2, h3, h4, h5, h6, h7, h8, h9, h10, fun p x' hx' => ?_, fun q' hq' => (by cases hq'), fun q' v' hq' => (by cases hq'), fun p x' hp hx' => ?_, fun p g' l' x' hp _ hg' hx' => ?_, fun i' p x' y' b hi' hp _ _ hx' hy' hb hb2 => ?_⟩
    · rw [h11 p x' hx', List.mem_cons]
      constructor
      · rintro (h | h | h)
        · exact .inl (.inr h)
        · cases h
        · cases h; exact .inl (.inl rfl)
      · rintro ((h | h) | h | h)
        · subst h; exact .inr (.inr rfl)
        · exact .inl h
        · cases h
        · cases h
    · show frI h'.m (if p = q then l else fz p) x'.val
      by_cases e' : p = q
      · subst e'
        rw [if_pos rfl]
        obtain ⟨y, hy, hyv⟩ := h13 p v0 rfl
        rw [hx'] at hy
        cases hy
        rw [hyv]
        exact hfr
      · rw [if_neg e']
        exact h14 p x' ((List.mem_cons.1 hp).resolve_left e') hx'
    · exact h15 p g' l' x' (fun h => hp (List.mem_cons_of_mem _ h)) (fun e' => hp (by cases e'; exact List.mem_cons_self ..)) hg' hx'
    · exact h16 i' p x' y' b (fun h => hi' (List.mem_cons_of_mem _ h)) (fun h => hp (List.mem_cons_of_mem _ h)) (fun e' => hi' (by cases e'; exact List.mem_cons_self ..)) (fun e' => hp (by cases e'; exact List.mem_cons_self ..)) hx' hy' hb hb2)
  exact ⟨⟨L, _, h', hm4, ⟨ha.size, fun t av ht => (ha.env t av ht).mono s1 (fun _ _ => rfl), ha.defers⟩, hsub.step (fun _ _ => rfl) s1, fun k hk => by
    rcases s5 k hk with h | h
    · exact hnew k h
    · exact .inr h⟩, hk'⟩
/-- The range is over. -/
theorem kids_end {st : St} {i j r : Nat} {gs gs2 : GS} {e : TypeId} {dn : List Nat} {fz : Nat → List I2} (hi : st.own[i]? = some (some (.abs (isMap r)))) (hj : st.own[j]? = some (some (.abs (kidsIt e gs r dn fz none none)))) (hij : i ≠ j) (hall : ∀ q, q < gs.length → q ∈ dn)
    (hl : gs2.length = gs.length) (hg : ∀ q g l, gs2[q]? = some (g, l) → (∃ l0, gs[q]? = some (g, l0)) ∧ l = fz q) : Weak st ⟨st.n, st.k, st.env, (st.own.set i (some (.abs (kidsF gs2)))).set j none⟩ := by
  refine ⟨fun {P} _ may w0 h0 a w hs => ?_⟩
  obtain ⟨⟨L, F, hh, hm, ha, hsub, hnew⟩, hk'⟩ := hs
  obtain ⟨_, hv⟩ := hm.obs i _ hi
  obtain ⟨_, it, ents, clock, seen, h1, h2, h3, h4, h5, h6, h7, h8, h9, h10, h11, h12, h13, h14, h15, h16⟩ := hm.obs j _ hj
  have hm2 := mem_join hm hi hj hij (ob := .abs (kidsF gs2)) ⟨kidsF_stable _, r, ents, clock, hv, .inr h3, h6, by omega, fun q g l x hq hx => by
    obtain ⟨⟨l0, g1⟩, rfl⟩ := hg q g l hq
    exact ⟨h10 q g l0 x g1 hx, h14 q x (hall q (by have := (List.getElem?_eq_some_iff.1 g1).1; exact this)) hx⟩⟩
  exact ⟨⟨L, _, hh, hm2, ⟨ha.size, ha.env, ha.defers⟩, hsub, hnew⟩, hk'⟩
end Go.Eng
/- What two keys, one behind the other, order: cmp.Or of two cmp.Compare, walked by the kit's own tactics. -/
set_option maxRecDepth 100000
set_option maxHeartbeats 4000000
set_option linter.unusedVariables false
set_option linter.unusedSimpArgs false
namespace Go.Proofs
open Go.Shelf Go.RowKit Go.Lib Go.Sort Go.Eng
def cmpI' (x y : Int) : Int := if x < y then -1 else if y < x then 1 else 0
theorem isNaN_w (x : Int) (w : World) : Calls Try.prog 106 #[.int .u32 x] w fun e w' => e = .returned (.bool false) ∧ w' = w := by
  go_enter Try.func106, (show Try.f106.ntmps = 6 from rfl)
  go_wp2
  go_ret
  exact ⟨by simp, rfl⟩
theorem compare_w (x y : Int) (w : World) : Calls Try.prog 85 #[.int .u32 x, .int .u32 y] w fun e w' => e = .returned (.int .i64 (cmpI' x y)) ∧ w' = w := by
  have e7 : ∀ args w, (callFunc 106 args).run Try.prog w = .ok (.enter 106 args) w := enters_of Try.func106 (by kernel_rfl) rfl
  go_enter Try.func85, (show Try.f85.ntmps = 20 from rfl)
  go_wp2_with (go_at_fn 106; refine (isNaN_w _ _).mono ?_; rintro e w' ⟨rfl, hw⟩; rw [hw])
  all_goals (go_ret; refine ⟨?_, rfl⟩; unfold cmpI'; (repeat' split) <;> first | rfl | (exfalso; omega))
theorem compare_g (x y : Int) (w : World) : Calls Try.prog 85 #[.int .u32 x, .int .u32 y] w fun e w' => e = .returned (.int .i64 (cmpI' x y)) ∧ ∃ q os', w' = grow (w.drewN q) os' :=
  (compare_w x y w).mono fun e w' ⟨h1, h2⟩ => ⟨h1, 0, #[], by rw [h2, grow_empty]; rfl⟩
theorem or_w (a b : Int) (blk : Nat) (w : World) (h0 : w.cell? ⟨blk, 0, none⟩ = some (.int .i64 a)) (h1 : w.cell? ⟨blk, 1, none⟩ = some (.int .i64 b)) :
    Calls Try.prog 84 #[.slice (some ⟨blk, 0, none⟩) 2 2] w fun e w' => e = .returned (.int .i64 (if a = 0 then b else a)) ∧ w' = w := by
  obtain ⟨r, hr⟩ : ∃ r, (if a = 0 then b else a) = r := ⟨_, rfl⟩
  rw [hr]
  go_enter Try.func84, (show Try.f84.ntmps = 18 from rfl)
  go_wp2
  refine wp_loop_rounds 3 ?_
  unfold Code.rounds
  by_cases ha : a = 0
  · rw [if_pos ha] at hr
    subst ha
    subst hr
    have e0 : (((0 : Int) != 0)) = false := rfl
    go_wp2
    unfold Code.rounds
    by_cases hb : b = 0
    · subst hb
      go_wp2
      unfold Code.rounds
      go_wp2
      go_ret
      exact ⟨rfl, rfl⟩
    · have e1 : (b != 0) = true := bne_iff_ne.2 hb
      go_wp2
      go_ret
      exact ⟨rfl, rfl⟩
  · rw [if_neg ha] at hr
    subst hr
    have e0 : (a != 0) = true := bne_iff_ne.2 ha
    go_wp2
    go_ret
    exact ⟨rfl, rfl⟩
theorem ofc_w (x y : Int × Int × Int) (W : World) : Calls Try.prog 83 #[.agg #[.int .u32 x.1, .int .u32 x.2.1, .int .u32 x.2.2], .agg #[.int .u32 y.1, .int .u32 y.2.1, .int .u32 y.2.2]] W fun e w' => e = .returned (.int .i64 (if cmpI' x.1 y.1 = 0 then cmpI' x.2.1 y.2.1 else cmpI' x.1 y.1)) ∧ ∃ q os', w' = grow (W.drewN q) os' := by
  have e7 : ∀ args w, (callFunc 85 args).run Try.prog w = .ok (.enter 85 args) w := enters_of Try.func85 (by kernel_rfl) rfl
  have e8 : ∀ args w, (callFunc 84 args).run Try.prog w = .ok (.enter 84 args) w := enters_of Try.func84 (by kernel_rfl) rfl
  have mixed : Try.prog.follows .mixedOrders = true := by kernel_rfl
  obtain ⟨r, hr⟩ : ∃ r, (if cmpI' x.1 y.1 = 0 then cmpI' x.2.1 y.2.1 else cmpI' x.1 y.1) = r := ⟨_, rfl⟩
  rw [hr]
  go_enter Try.func83, (show Try.f83.ntmps = 17 from rfl)
  go_wp2
  obtain ⟨W2, hW2⟩ : ∃ W2, W2 = ((W.alloc (Obj.cells #[.int .u32 x.1, .int .u32 x.2.1, .int .u32 x.2.2] 87)).alloc (Obj.cells #[.int .u32 y.1, .int .u32 y.2.1, .int .u32 y.2.2] 87)) := ⟨_, rfl⟩
  have c0 : ∀ n os, (grow (W2.drewN n) os).cell? ⟨W.heap.size, 0, none⟩ = some (.int .u32 x.1) := fun n os => cell_grown (by subst hW2; simp <;> omega) (by subst hW2; simp) n os
  have c1 : ∀ n os, (grow (W2.drewN n) os).cell? ⟨W.heap.size, 1, none⟩ = some (.int .u32 x.2.1) := fun n os => cell_grown (by subst hW2; simp <;> omega) (by subst hW2; simp) n os
  have c2 : ∀ n os, (grow (W2.drewN n) os).cell? ⟨W.heap.size + 1, 0, none⟩ = some (.int .u32 y.1) := fun n os => cell_grown (by subst hW2; simp <;> omega) (by subst hW2; simp) n os
  have c3 : ∀ n os, (grow (W2.drewN n) os).cell? ⟨W.heap.size + 1, 1, none⟩ = some (.int .u32 y.2.1) := fun n os => cell_grown (by subst hW2; simp <;> omega) (by subst hW2; simp) n os
  have hfin : ∃ q os', W2 = grow (W.drewN q) os' := ⟨0, _, by rw [hW2, alloc_eq_grow, alloc_eq_grow, grow_grow]; rfl⟩
  rw [← hW2]
  clear hW2
  refine wp_region_mix (k := 10) (C := fun w' => ∃ p : GrownBy, w' = grow (W2.drewN p.n) p.os) mixed (by kernel_rfl) ⟨⟨1, #[]⟩, by rw [grow_empty]; rfl⟩ ?_
  simp only [List.take_succ_cons, List.take_zero, List.drop_succ_cons, List.drop_zero]
  repeat (quiet_step (exact Calls.grown_of (compare_g _ _ _)))
  refine wpQuiet_nil ?_
  intro _ hw'
  obtain ⟨⟨nq, osq⟩, rfl⟩ := hw'
  obtain ⟨q1, os1, hfin⟩ := hfin
  have hfin3 : ∃ q os', grow (W2.drewN nq) osq = grow (W.drewN q) os' := ⟨q1 + nq, os1 ++ osq, by rw [hfin]; show grow (grow ((W.drewN q1).drewN nq) os1) osq = _; rw [grow_grow, World.drewN_drewN]⟩
  clear hfin c0 c1 c2 c3
  show wpList _ _ _ _ _ (grow (W2.drewN nq) osq)
  generalize grow (W2.drewN nq) osq = W3 at hfin3 ⊢
  generalize cmpI' x.1 y.1 = a at hr ⊢
  generalize cmpI' x.2.1 y.2.1 = b at hr ⊢
  go_wp2_with (go_at_fn 84; refine (or_w a b W3.heap.size _ (by simp) (by simp)).mono ?_; rintro e w' ⟨rfl, hw⟩; rw [hw, hr])
  go_ret
  obtain ⟨q, os', rfl⟩ := hfin3
  exact ⟨rfl, q, os' ++ #[_], by rw [alloc_eq_grow, grow_grow]⟩
theorem idc_w (x y : Int × Int) (W : World) : Calls Try.prog 68 #[.agg #[.int .u32 x.1, .int .u32 x.2], .agg #[.int .u32 y.1, .int .u32 y.2]] W fun e w' => e = .returned (.int .i64 (if cmpI' x.1 y.1 = 0 then cmpI' x.2 y.2 else cmpI' x.1 y.1)) ∧ ∃ q os', w' = grow (W.drewN q) os' := by
  have e7 : ∀ args w, (callFunc 85 args).run Try.prog w = .ok (.enter 85 args) w := enters_of Try.func85 (by kernel_rfl) rfl
  have e8 : ∀ args w, (callFunc 84 args).run Try.prog w = .ok (.enter 84 args) w := enters_of Try.func84 (by kernel_rfl) rfl
  have mixed : Try.prog.follows .mixedOrders = true := by kernel_rfl
  obtain ⟨r, hr⟩ : ∃ r, (if cmpI' x.1 y.1 = 0 then cmpI' x.2 y.2 else cmpI' x.1 y.1) = r := ⟨_, rfl⟩
  rw [hr]
  go_enter Try.func68, (show Try.f68.ntmps = 17 from rfl)
  go_wp2
  obtain ⟨W2, hW2⟩ : ∃ W2, W2 = ((W.alloc (Obj.cells #[.int .u32 x.1, .int .u32 x.2] 39)).alloc (Obj.cells #[.int .u32 y.1, .int .u32 y.2] 39)) := ⟨_, rfl⟩
  have c0 : ∀ n os, (grow (W2.drewN n) os).cell? ⟨W.heap.size, 0, none⟩ = some (.int .u32 x.1) := fun n os => cell_grown (by subst hW2; simp <;> omega) (by subst hW2; simp) n os
  have c1 : ∀ n os, (grow (W2.drewN n) os).cell? ⟨W.heap.size, 1, none⟩ = some (.int .u32 x.2) := fun n os => cell_grown (by subst hW2; simp <;> omega) (by subst hW2; simp) n os
  have c2 : ∀ n os, (grow (W2.drewN n) os).cell? ⟨W.heap.size + 1, 0, none⟩ = some (.int .u32 y.1) := fun n os => cell_grown (by subst hW2; simp <;> omega) (by subst hW2; simp) n os
  have c3 : ∀ n os, (grow (W2.drewN n) os).cell? ⟨W.heap.size + 1, 1, none⟩ = some (.int .u32 y.2) := fun n os => cell_grown (by subst hW2; simp <;> omega) (by subst hW2; simp) n os
  have hfin : ∃ q os', W2 = grow (W.drewN q) os' := ⟨0, _, by rw [hW2, alloc_eq_grow, alloc_eq_grow, grow_grow]; rfl⟩
  rw [← hW2]
  clear hW2
  refine wp_region_mix (k := 10) (C := fun w' => ∃ p : GrownBy, w' = grow (W2.drewN p.n) p.os) mixed (by kernel_rfl) ⟨⟨1, #[]⟩, by rw [grow_empty]; rfl⟩ ?_
  simp only [List.take_succ_cons, List.take_zero, List.drop_succ_cons, List.drop_zero]
  repeat (quiet_step (exact Calls.grown_of (compare_g _ _ _)))
  refine wpQuiet_nil ?_
  intro _ hw'
  obtain ⟨⟨nq, osq⟩, rfl⟩ := hw'
  obtain ⟨q1, os1, hfin⟩ := hfin
  have hfin3 : ∃ q os', grow (W2.drewN nq) osq = grow (W.drewN q) os' := ⟨q1 + nq, os1 ++ osq, by rw [hfin]; show grow (grow ((W.drewN q1).drewN nq) os1) osq = _; rw [grow_grow, World.drewN_drewN]⟩
  clear hfin c0 c1 c2 c3
  show wpList _ _ _ _ _ (grow (W2.drewN nq) osq)
  generalize grow (W2.drewN nq) osq = W3 at hfin3 ⊢
  generalize cmpI' x.1 y.1 = a at hr ⊢
  generalize cmpI' x.2 y.2 = b at hr ⊢
  go_wp2_with (go_at_fn 84; refine (or_w a b W3.heap.size _ (by simp) (by simp)).mono ?_; rintro e w' ⟨rfl, hw⟩; rw [hw, hr])
  go_ret
  obtain ⟨q, os', rfl⟩ := hfin3
  exact ⟨rfl, q, os' ++ #[_], by rw [alloc_eq_grow, grow_grow]⟩
theorem lt_lex {α : Type} (f g : α → Int) (x y : α) : ltOf (fun x y : α => if cmpI' (f x) (f y) = 0 then cmpI' (g x) (g y) else cmpI' (f x) (f y)) x y = decide (f x < f y ∨ f x = f y ∧ g x < g y) := by
  simp only [ltOf, cmpI']
  congr 1
  repeat' split
  all_goals (simp only [eq_iff_iff]; omega)
theorem swo_lex {α : Type} (f g : α → Int) : SWO (ltOf fun x y : α => if cmpI' (f x) (f y) = 0 then cmpI' (g x) (g y) else cmpI' (f x) (f y)) := by
  refine ⟨fun x => ?_, fun x y z h1 h2 => ?_, fun x y z h1 h2 => ?_⟩
  all_goals
    rw [lt_lex] at *
    try rw [lt_lex] at h1
    try rw [lt_lex] at h2
    simp only [decide_eq_true_eq, decide_eq_false_iff_not] at *
    omega
end Go.Proofs
/-
  DERIVED: THE SHELF's CONTRACTS AT THIS DUMP, IN PLAIN WORDS (tools/lay-plain.mjs out of 'Lay.lean', which tools/lay-shelf.mjs wrote): THE SAME DECLARATIONS UNDER THE SAME NAMES: 'import', 'namespace', 'open', 'def', 'theorem' AND NOTHING ELSE: no command of the shelf's: FOR A HAND-IN. Each laying: the table of numbers ('.._ren') and one theorem, a field a fact of the dump's own or the kernel's comparison; each contract: ONE APPLICATION.
-/
set_option maxRecDepth 100000
namespace Go.Proofs
open Go.Shelf
def Try.sortId_ren : Go.Shelf.Ren := ⟨fun | 6 => 67 | 15 => 101 | 14 => 100 | 28 => 125 | 29 => 126 | 20 => 117 | 21 => 118 | 22 => 119 | 23 => 120 | 24 => 121 | 25 => 122 | 26 => 123 | 27 => 124 | 46 => 138 | 47 => 139 | 48 => 140 | 49 => 141 | 50 => 142 | 57 => 148 | n => n, fun | 22 => 63 | 24 => 39 | 25 => 115 | 3 => 3 | 39 => 147 | 0 => 0 | 53 => 37 | 55 => 83 | 4 => 4 | 46 => 165 | 45 => 164 | 50 => 45 | 5 => 5 | 9 => 9 | 66 => 179 | 70 => 183 | 76 => 189 | 77 => 190 | n => n, fun | n => n⟩
theorem Try.sortId : Go.Proofs.SlLaysF0.n6 Try.prog Try.sortId_ren := {
  mixed := by kernel_rfl
  f6 := ⟨Try.f67.name, by decide, Try.func67.trans (congrArg some (by kernel_rfl))⟩
  f14 := ⟨Try.f100.name, by decide, Try.func100.trans (congrArg some (by kernel_rfl))⟩
  f15 := Try.func101.trans (congrArg some (by kernel_rfl))
  f20 := ⟨Try.f117.name, by decide, Try.func117.trans (congrArg some (by kernel_rfl))⟩
  f21 := ⟨Try.f118.name, by decide, Try.func118.trans (congrArg some (by kernel_rfl))⟩
  f22 := ⟨Try.f119.name, by decide, Try.func119.trans (congrArg some (by kernel_rfl))⟩
  f23 := ⟨Try.f120.name, by decide, Try.func120.trans (congrArg some (by kernel_rfl))⟩
  f24 := ⟨Try.f121.name, by decide, Try.func121.trans (congrArg some (by kernel_rfl))⟩
  f25 := ⟨Try.f122.name, by decide, Try.func122.trans (congrArg some (by kernel_rfl))⟩
  f26 := ⟨Try.f123.name, by decide, Try.func123.trans (congrArg some (by kernel_rfl))⟩
  f27 := ⟨Try.f124.name, by decide, Try.func124.trans (congrArg some (by kernel_rfl))⟩
  f28 := Try.func125.trans (congrArg some (by kernel_rfl))
  f29 := Try.func126.trans (congrArg some (by kernel_rfl))
  f46 := ⟨Try.f138.name, by decide, Try.func138.trans (congrArg some (by kernel_rfl))⟩
  f47 := Try.func139.trans (congrArg some (by kernel_rfl))
  f48 := Try.func140.trans (congrArg some (by kernel_rfl))
  f49 := ⟨Try.f141.name, by decide, Try.func141.trans (congrArg some (by kernel_rfl))⟩
  f50 := ⟨Try.f142.name, by decide, Try.func142.trans (congrArg some (by kernel_rfl))⟩
  f57 := ⟨Try.f148.name, by decide, Try.func148.trans (congrArg some (by kernel_rfl))⟩
  t0 := Try.underlying0
  a0 := Try.isAgg0
  z0 := Try.sizeOf0
  v0 := Try.zeroValue0
  t3 := Try.underlying3
  a3 := Try.isAgg3
  z3 := Try.sizeOf3
  v3 := Try.zeroValue3
  t4 := Try.underlying4
  a4 := Try.isAgg4
  z4 := Try.sizeOf4
  v4 := Try.zeroValue4
  t5 := Try.underlying5
  a5 := Try.isAgg5
  z5 := Try.sizeOf5
  v5 := Try.zeroValue5
  t9 := Try.underlying9
  a9 := Try.isAgg9
  z9 := Try.sizeOf9
  v9 := Try.zeroValue9
  t22 := Try.underlying63
  a22 := Try.isAgg63
  z22 := Try.sizeOf63
  v22 := Try.zeroValue63
  t25 := Try.underlying115
  a25 := Try.isAgg115
  z25 := Try.sizeOf115
  v25 := Try.zeroValue115
  t39 := Try.underlying147
  a39 := Try.isAgg147
  z39 := Try.sizeOf147
  v39 := Try.zeroValue147
  t45 := Try.underlying164
  a45 := Try.isAgg164
  z45 := Try.sizeOf164
  v45 := Try.zeroValue164
  t46 := Try.underlying165
  a46 := Try.isAgg165
  z46 := Try.sizeOf165
  v46 := Try.zeroValue165
  t50 := Try.underlying45
  a50 := Try.isAgg45
  z50 := Try.sizeOf45
  v50 := Try.zeroValue45
  t53 := Try.underlying37
  a53 := Try.isAgg37
  z53 := Try.sizeOf37
  v53 := Try.zeroValue37
  t55 := Try.underlying83
  a55 := Try.isAgg83
  z55 := Try.sizeOf83
  v55 := Try.zeroValue83
  t66 := Try.underlying179
  a66 := Try.isAgg179
  z66 := Try.sizeOf179
  v66 := Try.zeroValue179
  t70 := Try.underlying183
  a70 := Try.isAgg183
  z70 := Try.sizeOf183
  v70 := Try.zeroValue183
  t76 := Try.underlying189
  a76 := Try.isAgg189
  z76 := Try.sizeOf189
  v76 := Try.zeroValue189
  t77 := Try.underlying190
  a77 := Try.isAgg190
  z77 := Try.sizeOf190
  v77 := Try.zeroValue190 }
def Try.sortSpan_ren : Go.Shelf.Ren := ⟨fun | 6 => 82 | 15 => 101 | 14 => 105 | 28 => 125 | 29 => 126 | 20 => 127 | 21 => 128 | 22 => 129 | 23 => 130 | 24 => 131 | 25 => 132 | 26 => 133 | 27 => 134 | 46 => 143 | 47 => 139 | 48 => 140 | 49 => 144 | 50 => 145 | 57 => 149 | n => n, fun | 22 => 77 | 24 => 87 | 25 => 132 | 3 => 3 | 39 => 147 | 0 => 0 | 53 => 37 | 55 => 83 | 4 => 4 | 46 => 165 | 45 => 164 | 50 => 45 | 5 => 5 | 9 => 9 | 66 => 179 | 70 => 183 | 76 => 189 | 77 => 190 | n => n, fun | n => n⟩
theorem Try.sortSpan : Go.Proofs.SlLaysF0.n6 Try.prog Try.sortSpan_ren := {
  mixed := by kernel_rfl
  f6 := ⟨Try.f82.name, by decide, Try.func82.trans (congrArg some (by kernel_rfl))⟩
  f14 := ⟨Try.f105.name, by decide, Try.func105.trans (congrArg some (by kernel_rfl))⟩
  f15 := Try.func101.trans (congrArg some (by kernel_rfl))
  f20 := ⟨Try.f127.name, by decide, Try.func127.trans (congrArg some (by kernel_rfl))⟩
  f21 := ⟨Try.f128.name, by decide, Try.func128.trans (congrArg some (by kernel_rfl))⟩
  f22 := ⟨Try.f129.name, by decide, Try.func129.trans (congrArg some (by kernel_rfl))⟩
  f23 := ⟨Try.f130.name, by decide, Try.func130.trans (congrArg some (by kernel_rfl))⟩
  f24 := ⟨Try.f131.name, by decide, Try.func131.trans (congrArg some (by kernel_rfl))⟩
  f25 := ⟨Try.f132.name, by decide, Try.func132.trans (congrArg some (by kernel_rfl))⟩
  f26 := ⟨Try.f133.name, by decide, Try.func133.trans (congrArg some (by kernel_rfl))⟩
  f27 := ⟨Try.f134.name, by decide, Try.func134.trans (congrArg some (by kernel_rfl))⟩
  f28 := Try.func125.trans (congrArg some (by kernel_rfl))
  f29 := Try.func126.trans (congrArg some (by kernel_rfl))
  f46 := ⟨Try.f143.name, by decide, Try.func143.trans (congrArg some (by kernel_rfl))⟩
  f47 := Try.func139.trans (congrArg some (by kernel_rfl))
  f48 := Try.func140.trans (congrArg some (by kernel_rfl))
  f49 := ⟨Try.f144.name, by decide, Try.func144.trans (congrArg some (by kernel_rfl))⟩
  f50 := ⟨Try.f145.name, by decide, Try.func145.trans (congrArg some (by kernel_rfl))⟩
  f57 := ⟨Try.f149.name, by decide, Try.func149.trans (congrArg some (by kernel_rfl))⟩
  t0 := Try.underlying0
  a0 := Try.isAgg0
  z0 := Try.sizeOf0
  v0 := Try.zeroValue0
  t3 := Try.underlying3
  a3 := Try.isAgg3
  z3 := Try.sizeOf3
  v3 := Try.zeroValue3
  t4 := Try.underlying4
  a4 := Try.isAgg4
  z4 := Try.sizeOf4
  v4 := Try.zeroValue4
  t5 := Try.underlying5
  a5 := Try.isAgg5
  z5 := Try.sizeOf5
  v5 := Try.zeroValue5
  t9 := Try.underlying9
  a9 := Try.isAgg9
  z9 := Try.sizeOf9
  v9 := Try.zeroValue9
  t22 := Try.underlying77
  a22 := Try.isAgg77
  z22 := Try.sizeOf77
  v22 := Try.zeroValue77
  t25 := Try.underlying132
  a25 := Try.isAgg132
  z25 := Try.sizeOf132
  v25 := Try.zeroValue132
  t39 := Try.underlying147
  a39 := Try.isAgg147
  z39 := Try.sizeOf147
  v39 := Try.zeroValue147
  t45 := Try.underlying164
  a45 := Try.isAgg164
  z45 := Try.sizeOf164
  v45 := Try.zeroValue164
  t46 := Try.underlying165
  a46 := Try.isAgg165
  z46 := Try.sizeOf165
  v46 := Try.zeroValue165
  t50 := Try.underlying45
  a50 := Try.isAgg45
  z50 := Try.sizeOf45
  v50 := Try.zeroValue45
  t53 := Try.underlying37
  a53 := Try.isAgg37
  z53 := Try.sizeOf37
  v53 := Try.zeroValue37
  t55 := Try.underlying83
  a55 := Try.isAgg83
  z55 := Try.sizeOf83
  v55 := Try.zeroValue83
  t66 := Try.underlying179
  a66 := Try.isAgg179
  z66 := Try.sizeOf179
  v66 := Try.zeroValue179
  t70 := Try.underlying183
  a70 := Try.isAgg183
  z70 := Try.sizeOf183
  v70 := Try.zeroValue183
  t76 := Try.underlying189
  a76 := Try.isAgg189
  z76 := Try.sizeOf189
  v76 := Try.zeroValue189
  t77 := Try.underlying190
  a77 := Try.isAgg190
  z77 := Try.sizeOf190
  v77 := Try.zeroValue190 }
def Try.growSpan_ren : Go.Shelf.Ren := ⟨fun | 4 => 107 | n => n, fun | 22 => 77 | 25 => 87 | 3 => 3 | 4 => 4 | 9 => 9 | 20 => 20 | 0 => 0 | n => n, fun | n => n⟩
theorem Try.growSpan : Go.Proofs.Lays8.n4 Try.prog Try.growSpan_ren := {
  mixed := by kernel_rfl
  f4 := ⟨Try.f107.name, by decide, Try.func107.trans (congrArg some (by kernel_rfl))⟩
  t0 := Try.underlying0
  a0 := Try.isAgg0
  z0 := Try.sizeOf0
  v0 := Try.zeroValue0
  t3 := Try.underlying3
  a3 := Try.isAgg3
  z3 := Try.sizeOf3
  v3 := Try.zeroValue3
  t4 := Try.underlying4
  a4 := Try.isAgg4
  z4 := Try.sizeOf4
  v4 := Try.zeroValue4
  t9 := Try.underlying9
  a9 := Try.isAgg9
  z9 := Try.sizeOf9
  v9 := Try.zeroValue9
  t20 := Try.underlying20
  a20 := Try.isAgg20
  z20 := Try.sizeOf20
  v20 := Try.zeroValue20
  t22 := Try.underlying77
  a22 := Try.isAgg77
  z22 := Try.sizeOf77
  v22 := Try.zeroValue77 }
end Go.Proofs
/- Tree: rows sorted; a map of rows laid still is asked. -/
set_option linter.unusedVariables false
set_option linter.unusedSimpArgs false
set_option maxRecDepth 100000
set_option maxHeartbeats 4000000
namespace Go.Eng
open Go Go.RowKit Go.Proofs Go.Sort Go.Shelf Go.Lib
theorem opV_lookF {st : St} {K : St → Prop} {dst : Option Nat} {ty : TypeId} {pos : String} {after : Array Edge} {guard : Option (Nat × Bool)} {t et : TypeId} {ti te : TI} {m k : Operand} {i : Nat} {gs : GS} {g : Hg} {l : List I2} (hl : tt.lookup t = some ti) (hd : ti.desc = .map 72 et) (hle : tt.lookup et = some te) (hze : te.zero = .slice none 0 0)
    (he : ev st m = some (.c (.mp i))) (hi : st.own[i]? = some (some (.abs (kidsF gs)))) (hk : ev st k = some (hgA g)) (hr : (l = [] ∧ ∀ p, p ∈ gs → p.1 ≠ g) ∨ ((g, l) ∈ gs ∧ ∀ l2, (g, l2) ∈ gs → l2 = l))
    (h : putK st dst (.c (.sl 2 l.length (idR l))) K) : OpV Try.prog ⟨dst, .lookup t m k false, ty, pos, after, guard⟩ st K := by
  refine ⟨fun Q may w0 h0 a w hs => ?_⟩
  obtain ⟨⟨L, F, hh, hm, ha, hsub, hnew⟩, hk'⟩ := hs
  obtain ⟨hev, r, ents, clock, h1, h2, h3, h4, h5⟩ := kids_open hm ha he hi
  obtain ⟨us, e1, e2⟩ : Den1 L hh (hgA g) (a.eval k) := ev_eval ha hk
  rw [den_plain (ks := [.int .u32 g.on.1, .int .u32 g.on.2, .bool g.right]) e2] at e1
  replace e1 : a.eval k = hgV g := e1
  have hu := (ttok _ _ hl).und
  rw [hd] at hu
  have hz := (ttok _ _ hle).zero w
  rw [hze] at hz
  have hc := keyHg.check ttok ents.isEmpty w ⟨g, rfl⟩
  have hgo : (getObj r).run Try.prog w = .ok (.map ents clock) w := by simp [getObj, Sem.run, h3]
  have hkey : ∀ x, x ∈ ents.toList → ∃ g2 l2, (g2, l2) ∈ gs ∧ x.key = hgV g2 ∧ frI hh.m l2 x.val := fun x hx => by
    obtain ⟨j, hj, rfl⟩ := List.getElem_of_mem hx
    have hj2 : j < ents.size := by simpa using hj
    have hx2 : ents[j]? = some ents.toList[j] := by simp [hj2]
    have hg2 : gs[j]? = some gs[j] := List.getElem?_eq_getElem (by omega)
    obtain ⟨q1, q2⟩ := h5 j gs[j].1 gs[j].2 _ hg2 hx2
    exact ⟨gs[j].1, gs[j].2, List.getElem_mem (by omega), q1, q2⟩
  have fin : ∀ v, Den L hh (.sl 2 l.length (idR l)) v → ∃ st', Sat may w0 h0 st' (a.put dst v) w ∧ K st' := fun v hv => put_sat hm ha hsub hnew hk' (av := .c (.sl 2 l.length (idR l))) hv h
  rcases keyHg.find ttok w ⟨g, rfl⟩ ents.toList (fun x hx => by obtain ⟨g2, _, _, e, _⟩ := hkey x hx; exact ⟨g2, e⟩) with ⟨g1, g2⟩ | ⟨j, x, g1, g2, g3⟩
  · have hl0 : l = [] := by
      rcases hr with ⟨h6, _⟩ | ⟨h6, _⟩
      · exact h6
      · exfalso
        obtain ⟨j, hj, ej⟩ := List.getElem_of_mem h6
        have hj2 : j < ents.size := by omega
        have := (h5 j g l ents[j] (by rw [List.getElem?_eq_getElem hj, ej]) (by simp [hj2])).1
        exact g2 ents[j] (by simp) this
    subst hl0
    refine value_upon (v := .slice none 0 0) ?_ (fin _ (.sl 2 0 _ none 0 ⟨0, 0, none⟩ (fun _ _ => undef) (Nat.le_refl _) (by decide) (fun h => by omega) (fun k hk => by omega) (fun k hk => by omega) (fun k hk => by omega) (fun k hk => by omega)))
    simp [execOp, Instr.lookup, run_underlying hu, h1, e1, hgo, hc, g1, hz]
  · obtain ⟨g4, l2, q1, q2, q3⟩ := hkey x (List.mem_of_getElem? g2)
    have hg4 : g4 = g := hgV_inj (q2.symm.trans g3)
    subst hg4
    have hll : l2 = l := by
      rcases hr with ⟨_, h6⟩ | ⟨_, h6⟩
      · exact absurd rfl (h6 _ q1)
      · exact h6 l2 q1
    subst hll
    refine value_upon (v := x.val) ?_ (fin _ (Den.clo (L' := L) (h := ⟨hh.m, 0⟩) q3 hh.n rfl))
    simp [execOp, Instr.lookup, run_underlying hu, h1, e1, hgo, hc, g1]
def encI (a : I2) : List Value := [.int .u32 a.1, .int .u32 a.2]
theorem id_sort (l : List I2) (hl : l.length ≤ 100000000) : CallV Try.prog 67 [.c (.row 0), .c (.fn 68 [])] [some (.row 39 2 l.length (idR l))]
    (fun r own' => ∃ ys : List I2, ys.Perm l ∧ ys.Pairwise (fun x y => ¬ il y x) ∧ r = .tup [] ∧ own' = [some (.row 39 2 ys.length (idR ys))]) := by
  have h := callV_sort (α := I2) Try.sortId 2 (fun _ => by kernel_rfl) (fun _ => by kernel_rfl) encI (fun _ => rfl) (fun x v hv => by
      simp only [encI, List.mem_cons, List.not_mem_nil, or_false] at hv
      rcases hv with rfl | rfl <;> rfl) _ (swo_lex (fun x : I2 => x.1) (fun x : I2 => x.2)) 68 (enters_of Try.func68 (by kernel_rfl) rfl) (fun x y W => idc_w x y W) 39 l (by omega)
  refine CallV.mono h ?_
  rintro r own' ⟨ys, h1, h2, h3, h4⟩
  refine ⟨ys, h1, List.pairwise_iff_getElem.2 fun i j hi hj hij => ?_, h3, h4⟩
  have := h2 i j hij hj
  rw [lt_lex, List.getD_eq_getElem?_getD, List.getD_eq_getElem?_getD, List.getElem?_eq_getElem hi, List.getElem?_eq_getElem hj] at this
  simp only [Option.getD_some, decide_eq_false_iff_not] at this
  exact this
theorem upd_same {α : Type} (F : Nat → α) (i : Nat) : upd F i (F i) = F := by
  funext j
  unfold upd
  split
  · rename_i e; rw [e]
  · rfl
theorem foot_one (F : Nat → Nat → Prop) (o o2 : Ob) : footOf F [some o] = footOf F [some o2] := by
  funext b
  apply propext
  constructor
  · rintro ⟨i, ob, hi, hb⟩
    match i with
    | 0 => exact ⟨0, o2, rfl, hb⟩
    | i + 1 => simp at hi
  · rintro ⟨i, ob, hi, hb⟩
    match i with
    | 0 => exact ⟨0, o, rfl, hb⟩
    | i + 1 => simp at hi
/-- .. at its place. -/
theorem id_sortV (l : List I2) (hl : l.length ≤ 100000000) (v0 : Value) : CallV Try.prog 67 [.c (.row 0), .c (.fn 68 [])] [some (.abs (rowV 39 v0 l))]
    (fun r own' => (∃ ys : List I2, ys.Perm l ∧ ys.Pairwise (fun x y => ¬ il y x) ∧ own' = [some (.abs (rowV 39 v0 ys))]) ∧ r = .tup []) := by
  refine ⟨fun mine L F h w vs hgl hm ha => ?_⟩
  obtain ⟨_, hv, hr, hb⟩ := hm.obs 0 _ rfl
  have hm1 : Mem mine L F h [some (.row 39 2 l.length (idR l))] w := by
    have := mem_shrink (ob := .row 39 2 l.length (idR l)) (G1 := F 0) hm rfl (fun b hb => hb) (row_I hr hb)
    rw [upd_same] at this
    exact this
  refine ((id_sort l hl).out mine L F h w vs hgl hm1 ha).mono ?_
  rintro x w' ⟨r, v, L', F', h', own', h1, h2, h3, h4, h5, h6, h7, ys, p1, p2, rfl, rfl⟩
  have hf := foot_one F (.row 39 2 l.length (idR l)) (.abs (rowV 39 v0 l))
  rw [hf] at h4 h5 h7
  obtain ⟨us, q1, q2, q3⟩ := h4.obs 0 _ rfl
  have hus := rowD_ids q3 q1.1
  subst hus
  have h0 : L' 0 = L 0 := h3 0 (by rw [hm.hn]; exact Nat.zero_lt_one)
  have hm2 : Mem (mineOf (footOf F [some (.abs (rowV 39 v0 l))]) w) L' F' h' [some (.abs (rowV 39 v0 ys))] w' := by
    have := mem_shrink (ob := .abs (rowV 39 v0 ys)) (G1 := F' 0) h4 rfl (fun b hb => hb) ⟨rowV_stable _ _ _, by rw [h0]; exact hv, q1, q2⟩
    rw [upd_same] at this
    exact this
  exact ⟨.tup [], v, L', F', h', _, h1, h2, h3, hm2, h5, h6, h7, ⟨ys, p1, p2, rfl⟩, rfl⟩
end Go.Eng
/- Tree: Order: items by what they hang on. -/
set_option linter.unusedVariables false
set_option linter.unusedSimpArgs false
set_option maxRecDepth 100000
set_option maxHeartbeats 4000000
namespace Go.Eng
open Go Go.RowKit Go.Proofs
/-- The Ids of what hangs on g, in the order in which they came. -/
def kidL (r : HS) (g : Hg) : List I2 := ((r.filter (fun p => decide (p.2 = g))).map (fun p => p.1.id)).reverse
theorem kidL_cons (x : It) (h g : Hg) (r : HS) : kidL ((x, h) :: r) g = if h = g then kidL r g ++ [x.id] else kidL r g := by
  unfold kidL
  by_cases e : h = g
  · rw [if_pos e, List.filter_cons_of_pos (by simpa using e), List.map_cons, List.reverse_cons]
  · rw [if_neg e, List.filter_cons_of_neg (by simpa using e)]
theorem kidL_mem {r : HS} {g : Hg} {a : I2} : a ∈ kidL r g ↔ ∃ x, (x, g) ∈ r ∧ x.id = a := by
  unfold kidL
  rw [List.mem_reverse, List.mem_map]
  constructor
  · rintro ⟨⟨x, h⟩, hm, rfl⟩
    rw [List.mem_filter] at hm
    have : h = g := by simpa using hm.2
    subst this
    exact ⟨x, hm.1, rfl⟩
  · rintro ⟨x, hm, rfl⟩
    exact ⟨(x, g), by rw [List.mem_filter]; exact ⟨hm, by simp⟩, rfl⟩
structure GI (r : HS) (gs : GS) : Prop where
  nd : (gs.map (·.1)).Nodup
  eq : ∀ g l, (g, l) ∈ gs → l = kidL r g
  all : ∀ p, p ∈ r → ∃ l, (p.2, l) ∈ gs
theorem GI.zero : GI [] [] := ⟨List.nodup_nil, fun g l h => (by cases h), fun p h => (by cases h)⟩
theorem GI.key {r : HS} {gs : GS} (I : GI r gs) {i j : Nat} {g : Hg} {l l2 : List I2} (hi : gs[i]? = some (g, l)) (hj : gs[j]? = some (g, l2)) : i = j := by
  obtain ⟨hi1, hi2⟩ := List.getElem?_eq_some_iff.1 hi
  obtain ⟨hj1, hj2⟩ := List.getElem?_eq_some_iff.1 hj
  have := I.nd
  rw [List.Nodup, List.pairwise_map, List.pairwise_iff_getElem] at this
  rcases Nat.lt_trichotomy i j with h | h | h
  · exact absurd (by rw [hi2, hj2]) (this i j hi1 hj1 h)
  · exact h
  · exact absurd (by rw [hi2, hj2]) (this j i hj1 hi1 h)
theorem GI.step {r : HS} {gs gs2 : GS} (I : GI r gs) {x : It} {h : Hg} {q : Nat} {l : List I2} (ht : takeP gs h gs2 q l) : GI ((x, h) :: r) (gs2.set q (h, l ++ [x.id])) := by
  obtain ⟨hq, ht⟩ := ht
  have hql : q < gs2.length := (List.getElem?_eq_some_iff.1 hq).1
  have hnew : gs2 ≠ gs → (∀ p, p ∈ gs → p.1 ≠ h) ∧ gs2 = gs ++ [(h, [])] := fun hne => by
    rcases ht with rfl | ⟨h1, h2⟩
    · exact absurd rfl hne
    · exact ⟨h2, h1⟩
  have hnd2 : (gs2.map (·.1)).Nodup := by
    rcases ht with rfl | ⟨rfl, h2⟩
    · exact I.nd
    · rw [List.map_append, List.nodup_append]
      refine ⟨I.nd, by simp, fun a ha b hb => ?_⟩
      simp at hb
      subst hb
      obtain ⟨p, hp, rfl⟩ := List.mem_map.1 ha
      exact h2 p hp
  have hmem2 : ∀ g l', (g, l') ∈ gs2 → l' = kidL r g := fun g l' hm => by
    rcases ht with rfl | ⟨rfl, h2⟩
    · exact I.eq g l' hm
    · rcases List.mem_append.1 hm with h3 | h3
      · exact I.eq g l' h3
      · simp at h3
        obtain ⟨rfl, rfl⟩ := h3
        cases hk : kidL r g with
        | nil => rfl
        | cons a t =>
          exfalso
          obtain ⟨y, hy, _⟩ := kidL_mem.1 (show a ∈ kidL r g by rw [hk]; exact List.mem_cons_self ..)
          obtain ⟨l2, hl2⟩ := I.all _ hy
          exact h2 _ hl2 rfl
  have I2 : GI r gs2 := ⟨hnd2, hmem2, fun p hp => by
    obtain ⟨l2, hl2⟩ := I.all p hp
    rcases ht with rfl | ⟨rfl, _⟩
    · exact ⟨l2, hl2⟩
    · exact ⟨l2, List.mem_append_left _ hl2⟩⟩
  have hl : l = kidL r h := hmem2 h l (List.mem_of_getElem? hq)
  refine ⟨?_, fun g l' hm => ?_, fun p hp => ?_⟩
  · have : (gs2.set q (h, l ++ [x.id])).map (·.1) = gs2.map (·.1) := by
      rw [List.map_set]
      apply List.ext_getElem?
      intro i
      rw [List.getElem?_set]
      split
      · rename_i e
        subst e
        rw [List.getElem?_map, hq]
        split
        · rfl
        · rename_i hc; exact absurd (by rw [List.length_map]; exact hql) hc
      · rfl
    rw [this]
    exact hnd2
  · obtain ⟨i, hi, e⟩ := List.getElem_of_mem hm
    have hi2 : (gs2.set q (h, l ++ [x.id]))[i]? = some (g, l') := by rw [List.getElem?_eq_getElem hi, e]
    rw [List.getElem?_set] at hi2
    rw [kidL_cons]
    split at hi2
    · cases hi2
      rw [if_pos rfl, hl]
    · rename_i hne
      have hgh : h ≠ g := fun e' => hne (by subst e'; exact I2.key hq hi2)
      rw [if_neg hgh]
      exact hmem2 g l' (List.mem_of_getElem? hi2)
  · rcases List.mem_cons.1 hp with rfl | hp
    · exact ⟨_, List.mem_iff_getElem?.2 ⟨q, by rw [List.getElem?_set_self hql]⟩⟩
    · obtain ⟨l2, hl2⟩ := I2.all p hp
      obtain ⟨i, hi⟩ := List.mem_iff_getElem?.1 hl2
      by_cases e : q = i
      · subst e
        rw [hq] at hi
        cases hi
        exact ⟨_, List.mem_iff_getElem?.2 ⟨q, by rw [List.getElem?_set_self hql]⟩⟩
      · exact ⟨l2, List.mem_iff_getElem?.2 ⟨i, by rw [List.getElem?_set_ne e]; exact hi⟩⟩
theorem opV_makeKids {P : Program} [HasGl P] {st : St} {K : St → Prop} {dst : Option Nat} {ty : TypeId} {pos : String} {after : Array Edge} {guard : Option (Nat × Bool)} {t : TypeId} (e : TypeId) (h : pushK st (kO e [] none) .mp dst K) : OpV P ⟨dst, .makeMap t none, ty, pos, after, guard⟩ st K := by
  refine ⟨fun Q may w0 h0 a w hs => ?_⟩
  obtain ⟨⟨L, F, hh, hm, ha, hsub, hnew⟩, hk⟩ := hs
  have := alloc_sat hm ha hsub hnew hk (o := .map #[] 0) (v := .map (some w.heap.size)) (ob := kO e [] none) (c := .mp)
    (fun L' h' hs hL => ⟨kidsG_stable e [] none, w.heap.size, #[], 0, rfl, rfl, heap_alloc_at w _, rfl, fun j x hx => (by simp at hx), fun i j x y hx => (by simp at hx), fun j g l x hg => (by simp at hg), fun q s v0 hq => (by cases hq), fun j g l x _ hg => (by simp at hg), fun i j x y b _ _ hx => (by simp at hx)⟩) (fun L' h' h1 h2 => Den.mp _ _ h1 h2) h
  refine value_upon (v := .map (some w.heap.size)) ?_ this
  simp [execOp, Instr.makeMap, run_newObj_alloc]
end Go.Eng
/- Tree: Order walked. -/
set_option linter.unusedVariables false
set_option linter.unusedSimpArgs false
set_option maxRecDepth 100000
set_option maxHeartbeats 4000000
namespace Go.Eng
open Go Go.RowKit Go.Proofs
theorem drawV_cutT {P : Program} [HasGl P] (J : St → Prop) {id : Nat} {ops : Array Oper} {K : St → Prop} {st : St} (h : DrawV P id ops (fun st' => ∃ S, Weak st' S ∧ J S) st) (hK : ∀ S, J S → K S) : DrawV P id ops K st := by
  refine ⟨fun may w0 h0 a w hs => ?_⟩
  refine Code.wp_mono (fun e a' w' hh => ?_) (h.out may w0 h0 a w hs)
  obtain ⟨h1, st', h2, S, h3, h4⟩ := hh
  exact ⟨h1, S, h3.out may w0 h0 a' w' h2, hK S h4⟩
theorem kidL_len (r : HS) (g : Hg) : (kidL r g).length ≤ r.length := by
  unfold kidL
  rw [List.length_reverse, List.length_map]
  exact List.length_filter_le _ _
theorem take_len {r : HS} {gs gs2 : GS} (I : GI r gs) {h : Hg} {q : Nat} {l : List I2} (ht : takeP gs h gs2 q l) : l.length ≤ r.length := by
  obtain ⟨hq, ht⟩ := ht
  have hm : (h, l) ∈ gs2 := List.mem_of_getElem? hq
  rcases ht with rfl | ⟨rfl, h2⟩
  · rw [I.eq h l hm]; exact kidL_len _ _
  · rcases List.mem_append.1 hm with h3 | h3
    · rw [I.eq h l h3]; exact kidL_len _ _
    · simp at h3; rw [h3]; exact Nat.zero_le _
def orI (hs : HS) (m : Nat) (st : St) : Prop := ∃ (k : Nat) (gs : GS), m = hs.length - k ∧ k ≤ hs.length ∧ GI (firstH hs k) gs ∧
  st = ⟨48, 0, [(3, .c (.mp 0)), (4, .c (.own 2 0)), (15, itS (itsH hs)), (16, vci .i64 ((itsH hs).length : Int)), (17, vci .i64 (k : Int))], [some (mpO (hangE hs)), some (kO 39 gs none), some (.cells 113 [.mp 1])]⟩
/-- The groups, sorted. -/
structure KF (hs : HS) (gs : GS) : Prop where
  key : ∀ (i j : Nat) (g : Hg) (l l2 : List I2), gs[i]? = some (g, l) → gs[j]? = some (g, l2) → i = j
  eq : ∀ g l, (g, l) ∈ gs → l.Perm (kidL hs g) ∧ l.Pairwise (fun x y => ¬ il y x)
  all : ∀ p, p ∈ hs → ∃ l, (p.2, l) ∈ gs
def lftN (n : Nat) (dn : List Nat) : Nat := ((List.range n).filter (fun q => decide (q ∉ dn))).length
theorem filter_lt {α : Type} (p q : α → Bool) (hpq : ∀ x, q x = true → p x = true) : ∀ (l : List α) (x : α), x ∈ l → p x = true → q x = false → (l.filter q).length < (l.filter p).length
  | [], x, h, _, _ => by cases h
  | a :: l, x, h, h1, h2 => by
    have hle : ∀ l : List α, (l.filter q).length ≤ (l.filter p).length := fun l => by
      induction l with
      | nil => exact Nat.le_refl _
      | cons b l ih =>
        cases hq : q b with
        | true => rw [List.filter_cons_of_pos hq, List.filter_cons_of_pos (hpq b hq)]; simpa using ih
        | false =>
          rw [List.filter_cons_of_neg (by rw [hq]; decide)]
          cases hp : p b with
          | true => rw [List.filter_cons_of_pos hp]; exact Nat.le_succ_of_le ih
          | false => rw [List.filter_cons_of_neg (by rw [hp]; decide)]; exact ih
    rcases List.mem_cons.1 h with rfl | h
    · rw [List.filter_cons_of_pos h1, List.filter_cons_of_neg (by rw [h2]; decide)]
      exact Nat.lt_succ_of_le (hle l)
    · have ih := filter_lt p q hpq l x h h1 h2
      cases hq : q a with
      | true => rw [List.filter_cons_of_pos hq, List.filter_cons_of_pos (hpq a hq)]; simpa using ih
      | false =>
        rw [List.filter_cons_of_neg (by rw [hq]; decide)]
        cases hp : p a with
        | true => rw [List.filter_cons_of_pos hp]; exact Nat.lt_succ_of_lt ih
        | false => rw [List.filter_cons_of_neg (by rw [hp]; decide)]; exact ih
theorem lftN_lt {n : Nat} {dn : List Nat} {q : Nat} (hq : q < n) (hd : q ∉ dn) : lftN n (q :: dn) < lftN n dn := by
  unfold lftN
  refine filter_lt _ _ (fun x hx => ?_) _ q (List.mem_range.2 hq) (by simpa using hd) (by simp)
  simp at hx ⊢
  exact hx.2
def orJ (hs : HS) (gs : GS) (r : Nat) (m : Nat) (st : St) : Prop := ∃ (dn : List Nat) (fz : Nat → List I2), m = lftN gs.length dn ∧ (∀ q, q ∈ dn → ∀ g l, gs[q]? = some (g, l) → (fz q).Perm l ∧ (fz q).Pairwise (fun x y => ¬ il y x)) ∧
  st = ⟨48, 0, [(4, .c (.own 2 0)), (35, .c (.own 3 0))], [some (mpO (hangE hs)), some (.abs (isMap r)), some (.cells 113 [.mp 1]), some (.abs (kidsIt 39 gs r dn fz none none))]⟩
theorem kf_of {hs : HS} {gs : GS} (I : GI hs gs) (fz : Nat → List I2) (dn : List Nat) (hall : ∀ q, q < gs.length → q ∈ dn) (hS : ∀ q, q ∈ dn → ∀ g l, gs[q]? = some (g, l) → (fz q).Perm l ∧ (fz q).Pairwise (fun x y => ¬ il y x)) :
    ∃ gs2 : GS, gs2.length = gs.length ∧ (∀ q g l, gs2[q]? = some (g, l) → (∃ l0, gs[q]? = some (g, l0)) ∧ l = fz q) ∧ KF hs gs2 := by
  have hg2 : ∀ q, ((List.range gs.length).map (fun q => ((gs.getD q (rootH, [])).1, fz q)))[q]? = if q < gs.length then some ((gs.getD q (rootH, [])).1, fz q) else none := fun q => by
    rw [List.getElem?_map]
    by_cases h : q < gs.length
    · rw [if_pos h, List.getElem?_range h]; rfl
    · rw [if_neg h, List.getElem?_eq_none (by rw [List.length_range]; omega)]; rfl
  have hget : ∀ q g l, ((List.range gs.length).map (fun q => ((gs.getD q (rootH, [])).1, fz q)))[q]? = some (g, l) → (∃ l0, gs[q]? = some (g, l0)) ∧ l = fz q := fun q g l h => by
    rw [hg2] at h
    split at h
    · rename_i hq
      cases h
      exact ⟨⟨(gs.getD q (rootH, [])).2, by rw [List.getD_eq_getElem?_getD, List.getElem?_eq_getElem hq]; rfl⟩, rfl⟩
    · cases h
  refine ⟨_, by rw [List.length_map, List.length_range], hget, ⟨fun i j g l l2 h1 h2 => ?_, fun g l hm => ?_, fun p hp => ?_⟩⟩
  · obtain ⟨⟨a, ha⟩, _⟩ := hget i g l h1
    obtain ⟨⟨b, hb⟩, _⟩ := hget j g l2 h2
    exact I.key ha hb
  · obtain ⟨q, hq⟩ := List.mem_iff_getElem?.1 hm
    obtain ⟨⟨l0, h0⟩, rfl⟩ := hget q g l hq
    have := hS q (hall q (List.getElem?_eq_some_iff.1 h0).1) g l0 h0
    rw [← I.eq g l0 (List.mem_of_getElem? h0)]
    exact this
  · obtain ⟨l, hl⟩ := I.all p hp
    obtain ⟨q, hq⟩ := List.mem_iff_getElem?.1 hl
    have hql := (List.getElem?_eq_some_iff.1 hq).1
    refine ⟨fz q, List.mem_iff_getElem?.2 ⟨q, ?_⟩⟩
    rw [hg2, if_pos hql, List.getD_eq_getElem?_getD, hq]
    rfl
end Go.Eng
/- Tree: the two closures of Order. -/
set_option linter.unusedVariables false
set_option linter.unusedSimpArgs false
set_option maxRecDepth 100000
set_option maxHeartbeats 4000000
namespace Go.Eng
open Go Go.RowKit Go.Proofs
/-- All below some of what hangs on h. -/
structure accP (hs : HS) (h : Hg) (ks w : List I2) : Prop where
  srt : w.Pairwise (fun a b => klt (kyO hs a) (kyO hs b))
  mem : ∀ e, e ∈ w ↔ ∃ k, k ∈ ks ∧ und hs e h = some k
theorem accP.zero (hs : HS) (h : Hg) : accP hs h [] [] := ⟨List.Pairwise.nil, fun e => ⟨fun h => (by cases h), fun ⟨k, hk, _⟩ => (by cases hk)⟩⟩
theorem accP.len {hs : HS} {h : Hg} {ks w : List I2} (A : accP hs h ks w) : w.length ≤ hs.length := by
  have := nodup_len (m := idsH hs) (srt_nodup A.srt) (fun a ha => mem_idsH.2 (by
    obtain ⟨k, _, hk⟩ := (A.mem a).1 ha
    by_cases g : hasI hs a
    · exact g
    · rw [und_no g] at hk; cases hk))
  unfold idsH at this
  rwa [List.length_map] at this
theorem accP.step {hs : HS} (ho : okH hs) {h : Hg} {ks w wl wr : List I2} (A : accP hs h ks w) {x : It} (hx : (x, h) ∈ hs) (hord : ∀ k, k ∈ ks → il k x.id) (hl : wkP hs ⟨x.id, false⟩ wl) (hr : wkP hs ⟨x.id, true⟩ wr) :
    accP hs h (ks ++ [x.id]) (w ++ (wl ++ [x.id] ++ wr)) := by
  have hh : okOn hs h := on_ok ho hx
  have hnew : ∀ e, e ∈ wl ++ [x.id] ++ wr ↔ und hs e h = some x.id := fun e => by
    rw [und_kid ho hx, List.mem_append, List.mem_append, List.mem_singleton, hl.mem, hr.mem, or_assoc]
  refine ⟨?_, fun e => ?_⟩
  · rw [List.pairwise_append]
    refine ⟨A.srt, ?_, fun a ha b hb => ?_⟩
    · rw [List.pairwise_append, List.pairwise_append]
      refine ⟨⟨hl.srt, List.pairwise_singleton _ _, fun a ha b hb => ?_⟩, hr.srt, fun a ha b hb => ?_⟩
      · rw [List.mem_singleton] at hb; subst hb; exact kid_lt ho hx ((hl.mem a).1 ha)
      · rcases List.mem_append.1 ha with ha | ha
        · exact klt_tr (kid_lt ho hx ((hl.mem a).1 ha)) (kid_gt ho hx ((hr.mem b).1 hb))
        · rw [List.mem_singleton] at ha; subst ha; exact kid_gt ho hx ((hr.mem b).1 hb)
    · obtain ⟨k, hk, hu⟩ := (A.mem a).1 ha
      exact kids_lt ho hh hu ((hnew b).1 hb) (hord k hk)
  · rw [List.mem_append, A.mem, hnew]
    constructor
    · rintro (⟨k, hk, hu⟩ | hu)
      · exact ⟨k, List.mem_append_left _ hk, hu⟩
      · exact ⟨x.id, List.mem_append_right _ (List.mem_singleton.2 rfl), hu⟩
    · rintro ⟨k, hk, hu⟩
      rcases List.mem_append.1 hk with hk | hk
      · exact .inl ⟨k, hk, hu⟩
      · rw [List.mem_singleton] at hk; subst hk; exact .inr hu
theorem accP.done {hs : HS} (ho : okH hs) {h : Hg} {ks w : List I2} (A : accP hs h ks w) (hall : ∀ x, (x, h) ∈ hs → x.id ∈ ks) : wkP hs h w := by
  refine ⟨A.srt, fun e => ?_⟩
  rw [A.mem, Option.isSome_iff_exists]
  constructor
  · rintro ⟨k, _, hu⟩; exact ⟨k, hu⟩
  · rintro ⟨k, hu⟩
    obtain ⟨x, hx, rfl, _⟩ := und_some ho _ e h k rfl hu
    exact ⟨x.id, hall x hx, hu⟩
abbrev clO (gs : GS) (out : List I2) : List (Option Ob) := [some (.abs (kidsF gs)), some (.cells 113 [.mp 0]), some (.cells 63 [.row 5]), some (.cells 116 [.fn 70 [(false, [.own 4 0]), (false, [.own 2 0])]]), some (.cells 117 [.fn 69 [(false, [.own 1 0]), (false, [.own 3 0])]]), some (.row 39 2 out.length (idR out))]
abbrev clQ (gs : GS) (out : List I2) : List (Option Ob) := [some (.abs (kidsF gs)), some (.cells 113 [.mp 0]), some (.cells 63 [.row 6]), some (.cells 116 [.fn 70 [(false, [.own 4 0]), (false, [.own 2 0])]]), some (.cells 117 [.fn 69 [(false, [.own 1 0]), (false, [.own 3 0])]]), none, some (.row 39 2 out.length (idR out))]
def sideC (hs : HS) (gs : GS) (h : Hg) : Prop := ∀ out : List I2, out.length ≤ (pth hs h.on).length * (3 * hs.length) → CallV Try.prog 69 [hgA h, .c (.own 1 0), .c (.own 3 0)] (clO gs out) (fun r own' => (∃ w, wkP hs h w ∧ own' = clQ gs (out ++ w)) ∧ r = .tup [])
theorem walk_c {hs : HS} {gs : GS} (ho : okH hs) (hlen : hs.length ≤ 2000000) {x : It} {h : Hg} (hx : (x, h) ∈ hs) (h1 : sideC hs gs ⟨x.id, false⟩) (h2 : sideC hs gs ⟨x.id, true⟩) (out : List I2) (hout : out.length ≤ (pth hs h.on).length * (3 * hs.length) + hs.length) :
    CallV Try.prog 70 [idA x.id, .c (.own 4 0), .c (.own 2 0)] (clO gs out) (fun r own' => (∃ wl wr, wkP hs ⟨x.id, false⟩ wl ∧ wkP hs ⟨x.id, true⟩ wr ∧ own' = clQ gs (out ++ (wl ++ [x.id] ++ wr))) ∧ r = .tup []) := by
  have hN : 0 < hs.length := List.length_pos_of_mem hx
  have hpx : (pth hs x.id).length = (pth hs h.on).length + 1 := by rw [pth_at ho hx, List.length_append, List.length_singleton]
  have hmul : (pth hs x.id).length * (3 * hs.length) = (pth hs h.on).length * (3 * hs.length) + 3 * hs.length := by rw [hpx, Nat.add_mul, Nat.one_mul]
  have hmb : (pth hs h.on).length * (3 * hs.length) ≤ 2000000 * 6000000 := Nat.mul_le_mul (Nat.le_trans (pth_len hs h.on) hlen) (by omega)
  refine callV_own Try.func70 rfl ttok ftok rfl rfl rfl (Nat.le_of_ble_eq_true rfl) rfl ?_
  conv => whnf
  refine call_frame2 [some 0, some 1, some 2, some 3, some 4, some 5] rfl rfl rfl rfl (h1 out (by show _ ≤ (pth hs x.id).length * _; omega)) ?_
  rintro r own2 ⟨⟨wl, k1, rfl⟩, rfl⟩
  have hwl := k1.len
  have hol : (out ++ wl).length = out.length + wl.length := List.length_append
  refine ⟨.tup [], [some (.abs (kidsF gs)), some (.cells 113 [.mp 0]), some (.cells 63 [.row 7]), some (.cells 116 [.fn 70 [(false, [.own 4 0]), (false, [.own 2 0])]]), some (.cells 117 [.fn 69 [(false, [.own 1 0]), (false, [.own 3 0])]]), none, some (.cells 39 (idF x.id)), some (.row 39 2 (out ++ wl).length (idR (out ++ wl)))], rfl, rfl, ?_⟩
  conv => whnf
  refine ⟨fun _ => idF x.id, fun j hj2 => (by obtain rfl : j = 0 := (by omega); rfl), ?_⟩
  conv => whnf
  refine ⟨⟨by omega, by show ((out ++ wl).length + 1) * 8 ≤ _; omega⟩, ?_⟩
  conv => whnf
  refine app1 (enc := idF) (d := (0, 0)) (l := out ++ wl) x.id (fun k hk => rfl) rfl ?_
  have hol2 : (out ++ wl ++ [x.id]).length = out.length + wl.length + 1 := by rw [List.length_append, hol]; rfl
  conv => whnf
  refine call_frame2 [some 0, some 1, some 2, some 3, some 4, some 9] rfl rfl rfl rfl (h2 (out ++ wl ++ [x.id]) (by show _ ≤ (pth hs x.id).length * _; omega)) ?_
  rintro r own2 ⟨⟨wr, k2, rfl⟩, rfl⟩
  refine ⟨_, _, rfl, rfl, ?_⟩
  conv => whnf
  refine ⟨_, Weak.refl _, ?_⟩
  conv => whnf
  refine ⟨[some 0, some 1, some 2, some 3, some 4, none, some 10], rfl, rfl, ⟨wl, wr, k1, k2, ?_⟩, rfl⟩
  rw [show out ++ (wl ++ [x.id] ++ wr) = out ++ wl ++ [x.id] ++ wr from by simp only [List.append_assoc]]
  rfl
def sdI (hs : HS) (gs : GS) (h : Hg) (ks out : List I2) (m : Nat) (st : St) : Prop := ∃ (j : Nat) (w : List I2), m = ks.length - j ∧ j ≤ ks.length ∧ accP hs h (ks.take j) w ∧
  st = ⟨18, 6, [(2, .c (.own 3 0)), (8, .c (.sl 2 ks.length (idR ks))), (9, vci .i64 (ks.length : Int)), (10, vci .i64 (j : Int))], clQ gs (out ++ w)⟩
/-- What hangs on h, sorted. -/
theorem side_step {hs : HS} {gs : GS} (ho : okH hs) (G : KF hs gs) (hlen : hs.length ≤ 2000000) (h : Hg) (ih : ∀ x, (x, h) ∈ hs → ∀ s, sideC hs gs ⟨x.id, s⟩) : sideC hs gs h := by
  intro out hout
  have hmb : (pth hs h.on).length * (3 * hs.length) ≤ 2000000 * 6000000 := Nat.mul_le_mul (Nat.le_trans (pth_len hs h.on) hlen) (by omega)
  obtain ⟨ks, hks, hkp, hksrt⟩ : ∃ ks : List I2, ((ks = [] ∧ ∀ p, p ∈ gs → p.1 ≠ h) ∨ ((h, ks) ∈ gs ∧ ∀ l2, (h, l2) ∈ gs → l2 = ks)) ∧ ks.Perm (kidL hs h) ∧ ks.Pairwise (fun x y => ¬ il y x) := by
    by_cases hh : ∃ l, (h, l) ∈ gs
    · obtain ⟨l, hl⟩ := hh
      obtain ⟨p1, p2⟩ := G.eq h l hl
      refine ⟨l, .inr ⟨hl, fun l2 hl2 => ?_⟩, p1, p2⟩
      obtain ⟨i, hi⟩ := List.mem_iff_getElem?.1 hl
      obtain ⟨j, hj⟩ := List.mem_iff_getElem?.1 hl2
      have := G.key i j h l l2 hi hj
      subst this
      rw [hi] at hj
      cases hj
      rfl
    · refine ⟨[], .inl ⟨rfl, fun p hp e => hh ⟨p.2, by rw [← e]; exact hp⟩⟩, ?_, List.Pairwise.nil⟩
      cases hk : kidL hs h with
      | nil => exact List.Perm.refl _
      | cons a t =>
        exfalso
        obtain ⟨y, hy, _⟩ := kidL_mem.1 (show a ∈ kidL hs h by rw [hk]; exact List.mem_cons_self ..)
        exact hh (G.all _ hy)
  have hkl : ks.length ≤ hs.length := by rw [hkp.length_eq]; exact kidL_len _ _
  have hkm : ∀ a, a ∈ ks ↔ ∃ x, (x, h) ∈ hs ∧ x.id = a := fun a => hkp.mem_iff.trans kidL_mem
  have hknd : ks.Nodup := by
    refine hkp.nodup_iff.2 ?_
    unfold kidL
    refine (List.reverse_perm _).nodup_iff.2 ?_
    have h1 := idsH_nodup ho
    unfold idsH at h1
    exact h1.sublist (List.Sublist.map _ List.filter_sublist)
  have hkord : ∀ i j, i < j → j < ks.length → il (ks.getD i (0, 0)) (ks.getD j (0, 0)) := fun i j hij hj => by
    have h1 := List.pairwise_iff_getElem.1 hksrt i j (by omega) hj hij
    rw [List.getD_eq_getElem?_getD, List.getD_eq_getElem?_getD, List.getElem?_eq_getElem (by omega), List.getElem?_eq_getElem hj]
    show il ks[i] ks[j]
    rcases il_tri (fun e => absurd ((List.getElem_inj hknd).1 e) (by omega) : ks[i] ≠ ks[j]) with g | g
    · exact g
    · exact absurd g h1
  refine callV_own Try.func69 rfl ttok ftok rfl rfl rfl (Nat.le_of_ble_eq_true rfl) rfl ?_
  conv => whnf
  refine opV_lookF (gs := gs) (g := h) (l := ks) rfl rfl rfl rfl rfl rfl rfl hks ?_
  conv => whnf
  refine loopV (n := ks.length) (st1 := ⟨18, 6, [(2, .c (.own 3 0)), (8, .c (.sl 2 ks.length (idR ks))), (9, vci .i64 (ks.length : Int)), (10, vci .i64 ((0 : Nat) : Int))], clQ gs out⟩) ttok ftok (sdI hs gs h ks out) (norm_weak [2, 8, 9, 10] [some 0, some 1, some 2, some 3, some 4, none, some 5] rfl rfl) ⟨0, [], rfl, Nat.zero_le _, accP.zero hs h, by rw [List.append_nil]⟩ ?_
  rintro m st ⟨j, w, rfl, hj, A, rfl⟩
  have e1 := e64 (k := j) (by omega)
  have hwl := A.len
  have hol : (out ++ w).length = out.length + w.length := List.length_append
  conv => whnf
  refine onB_intro (fun g => ?_) (fun g => ?_)
  rotate_left
  · have g := of_decide_eq_false g
    obtain rfl : j = ks.length := by omega
    rw [List.take_length] at A
    conv => whnf
    refine ⟨_, Weak.refl _, ?_⟩
    conv => whnf
    exact ⟨[some 0, some 1, some 2, some 3, some 4, none, some 6], rfl, rfl, ⟨w, A.done ho (fun x hx => (hkm _).2 ⟨x, hx, rfl⟩), rfl⟩, rfl⟩
  have g := of_decide_eq_true g
  have hjl : j < ks.length := by omega
  obtain ⟨x, hx, hxe⟩ := (hkm _).1 (getD_mem (d := (0, 0)) hjl)
  have hord : ∀ k, k ∈ ks.take j → il k x.id := fun k hk => by
    obtain ⟨i, hi, e⟩ := List.getElem_of_mem hk
    have hij : i < j := by rw [List.length_take] at hi; omega
    have := hkord i j hij hjl
    rw [← hxe, List.getD_eq_getElem?_getD, List.getElem?_eq_getElem (by omega)] at this
    rw [← e, List.getElem_take]
    exact this
  have hsn : ks.take (j + 1) = ks.take j ++ [x.id] := by
    rw [hxe, List.getD_eq_getElem?_getD, List.getElem?_eq_getElem hjl]
    exact (List.take_append_getElem hjl).symm
  have hwc := walk_c ho hlen hx (ih x hx false) (ih x hx true) (out ++ w) (by omega)
  rw [hxe] at hwc
  conv => whnf
  refine ⟨by omega, ?_⟩
  conv => whnf
  rw [ti_nat]
  refine call_frame2 [some 0, some 1, some 2, some 3, some 4, some 6] rfl rfl rfl rfl hwc ?_
  rintro r own2 ⟨⟨wl, wr, k1, k2, rfl⟩, rfl⟩
  refine ⟨_, _, rfl, rfl, ?_⟩
  rw [← hxe] at k1 k2
  have A2 := A.step ho hx hord k1 k2
  rw [← hsn, hxe] at A2
  conv => whnf
  rw [e1]
  refine ⟨ks.length - (j + 1), _, by omega, norm_weak [2, 8, 9, 10] [some 0, some 1, some 2, some 3, some 4, none, some 8] rfl rfl, j + 1, _, rfl, by omega, A2, ?_⟩
  rw [List.append_assoc]
  rfl
theorem side_all {hs : HS} {gs : GS} (ho : okH hs) (G : KF hs gs) (hlen : hs.length ≤ 2000000) : ∀ (n : Nat) (h : Hg), hs.length < n + (pth hs h.on).length → sideC hs gs h := by
  intro n
  induction n with
  | zero => intro h hn; have := pth_len hs h.on; omega
  | succ n ih =>
    intro h hn
    refine side_step ho G hlen h (fun x hm s => ih _ ?_)
    show hs.length < n + (pth hs x.id).length
    rw [pth_at ho hm, List.length_append, List.length_singleton]
    omega
end Go.Eng
/- Tree: Order walked to its end. -/
set_option linter.unusedVariables false
set_option linter.unusedSimpArgs false
set_option maxRecDepth 100000
set_option maxHeartbeats 4000000
namespace Go.Eng
open Go Go.RowKit Go.Proofs
theorem order_c {hs : HS} (ho : okH hs) (hb : bldH hs) (hlen : hs.length ≤ 2000000) : CallV Try.prog 32 [itS (itsH hs)] [] (fun r own' => own' = [] ∧ ∃ o, isOrd hs o ∧ r = idS o) := by
  have hil := itsH_len hs
  have hf0 : firstH hs 0 = [] := by unfold firstH; rw [Nat.sub_zero, List.drop_length]
  have hfn : firstH hs hs.length = hs := by unfold firstH; rw [Nat.sub_self, List.drop_zero]
  refine callV_pure Try.func32 rfl ttok ftok rfl rfl rfl (Nat.le_of_ble_eq_true rfl) ?_
  conv => whnf
  refine call_frame2 [] rfl rfl rfl rfl (hangs_c ho hb (by omega)) ?_
  rintro r own2 ⟨rfl, rfl⟩
  refine ⟨.c (.mp 0), [some (mpO (hangE hs))], rfl, rfl, ?_⟩
  conv => whnf
  refine opV_makeKids 39 ?_
  conv => whnf
  refine loopV_cut 0 (fun st => ∃ gs : GS, GI hs gs ∧ st = ⟨48, 0, [(4, .c (.own 2 0))], [some (mpO (hangE hs)), some (kO 39 gs none), some (.cells 113 [.mp 1])]⟩) ?_ ?_
  · refine loopV (n := hs.length) (st1 := ⟨48, 0, [(3, .c (.mp 0)), (4, .c (.own 2 0)), (15, itS (itsH hs)), (16, vci .i64 ((itsH hs).length : Int)), (17, vci .i64 ((0 : Nat) : Int))], [some (mpO (hangE hs)), some (kO 39 [] none), some (.cells 113 [.mp 1])]⟩) ttok ftok (orI hs) (norm_weak [3, 4, 15, 16, 17] [some 0, some 1, some 2] rfl rfl) ⟨0, [], rfl, Nat.zero_le _, by rw [hf0]; exact GI.zero, rfl⟩ ?_
    rintro m st ⟨k, gs, rfl, hk, I, rfl⟩
    have e1 := e64 (k := k) (by omega)
    conv => whnf
    refine onB_intro (fun g => ?_) (fun g => ?_)
    rotate_left
    · have g := of_decide_eq_false g
      obtain rfl : k = hs.length := by omega
      rw [hfn] at I
      conv => whnf
      exact ⟨rfl, _, norm_weak [4] [some 0, some 1, some 2] rfl rfl, gs, I, rfl⟩
    have g := of_decide_eq_true g
    have hkl : k < hs.length := by omega
    obtain ⟨ha1, ha2⟩ := firstH_at hb hkl
    have hmem := its_at hkl
    conv => whnf
    refine ⟨by omega, ?_⟩
    conv => whnf
    rw [ti_nat]
    generalize (itsH hs).getD k it0 = x at ha2 hmem
    generalize (hgsH hs).getD k hg0 = h at ha2 hmem
    have hlk : (∃ b, (idV x.id, b) ∈ hangE hs) ∧ ∀ b, (idV x.id, b) ∈ hangE hs → ∀ L hh, Den1 L hh (hgA h) b := by
      obtain ⟨g, hg1, hg2⟩ := hang_look ho x.id
      have hgh : g = h := by
        rcases hg1 with ⟨_, y, hy, hye⟩ | ⟨hno, _⟩
        · have := okH_uniq ho hy hmem hye
          cases this; rfl
        · exact absurd ⟨_, hmem, rfl⟩ hno
      subst hgh
      rcases hg2 with ⟨_, hno⟩ | hg2
      · exfalso
        refine hno (idV x.id, hgV g) ?_ rfl
        unfold hangE
        rw [List.mem_reverse, List.mem_map]
        exact ⟨_, hmem, rfl⟩
      · exact hg2
    refine drawV_cutT (fun S => ∃ gs2, GI ((x, h) :: firstH hs k) gs2 ∧ S = ⟨48, 0, [(3, .c (.mp 0)), (4, .c (.own 2 0)), (15, itS (itsH hs)), (16, vci .i64 ((itsH hs).length : Int)), (17, vci .i64 (k : Int))], [some (mpO (hangE hs)), some (kO 39 gs2 none), some (.cells 113 [.mp 1])]⟩) ?_ ?_
    · have hF := firstH_len hk
      refine drawV_sched (.rd 0 (.rd 1 (.rd 2 (.rd 3 (.rd 5 (.rd 6 (.alt (.ef 4 (.ef 7 (.ef 8 (.rd 9 (.rd 11 (.ef 10 (.ef 12 (.nil)))))))) (.ef 7 (.ef 4 (.ef 8 (.rd 9 (.rd 11 (.ef 10 (.ef 12 (.nil))))))))))))))) [0, 1, 4, 5, 6] mixed (by kernel_rfl) ttok ftok ?_
      conv => whnf
      repeat' first
        | (refine opV_lookup (ks := [.int .u32 x.id.1, .int .u32 x.id.2]) (hgA h) ttok keyId rfl rfl rfl rfl rfl rfl ⟨x.id, rfl⟩ (hangE_DI hs) (.inr hlk) (fun _ _ _ h => h) ?_; conv => whnf)
        | (refine opV_take (gs := gs) (g := h) (e := 39) rfl rfl rfl rfl rfl rfl rfl ?_; intro gs2 q l s v0 ht; have hll := take_len I ht; conv => whnf)
        | (refine ⟨fun _ => idF x.id, fun j hj2 => (by obtain rfl : j = 0 := (by omega); rfl), ?_⟩; conv => whnf)
        | (refine ⟨⟨by omega, by show (List.length l + 1) * 8 ≤ _; omega⟩, ?_⟩; conv => whnf)
        | (refine app1 (enc := idF) (d := (0, 0)) (l := l) x.id (fun k hk => rfl) rfl ?_; conv => whnf)
        | (refine opV_give (l := l ++ [x.id]) rfl rfl rfl rfl rfl (by decide) ht.1 ?_; conv => whnf)
        | exact ⟨_, norm_weak [3, 4, 15, 16, 17] [some 0, some 1, some 2] rfl rfl, _, GI.step I ht, rfl⟩
        | (refine ⟨?_, ?_⟩ <;> (conv => whnf))
    · rintro S ⟨gs2, I2, rfl⟩
      rw [← ha2] at I2
      conv => whnf
      rw [e1]
      exact ⟨hs.length - (k + 1), _, by omega, norm_weak [3, 4, 15, 16, 17] [some 0, some 1, some 2] rfl rfl, k + 1, gs2, rfl, by omega, I2, rfl⟩
  · rintro st ⟨gs, I, rfl⟩
    conv => whnf
    refine opV_range (e := 39) rfl rfl rfl rfl ?_
    intro r
    conv => whnf
    refine loopV_cut 2 (fun st => ∃ gs2 : GS, KF hs gs2 ∧ st = ⟨48, 0, [(4, .c (.own 2 0))], [some (mpO (hangE hs)), some (.abs (kidsF gs2)), some (.cells 113 [.mp 1])]⟩) ?_ ?_
    · refine loopV (n := lftN gs.length []) (st1 := ⟨48, 0, [(4, .c (.own 2 0)), (35, .c (.own 3 0))], [some (mpO (hangE hs)), some (.abs (isMap r)), some (.cells 113 [.mp 1]), some (.abs (kidsIt 39 gs r [] (fun _ => []) none none))]⟩) ttok ftok (orJ hs gs r) (norm_weak [4, 35] [some 0, some 1, some 2, some 3] rfl rfl) ⟨[], _, rfl, fun q hq => (by cases hq), rfl⟩ ?_
      rintro m st ⟨dn, fz, rfl, hS, rfl⟩
      conv => whnf
      refine opV_next rfl rfl (fun hall => ?_) (fun q g l hqd hg => ?_)
      · obtain ⟨gs2, k1, k2, k3⟩ := kf_of I fz dn hall hS
        conv => whnf
        exact ⟨rfl, _, (kids_end (i := 1) (j := 3) (gs := gs) (gs2 := gs2) (e := 39) (dn := dn) (fz := fz) (r := r) rfl rfl (by decide) hall k1 k2).trans (norm_weak [4] [some 0, some 1, some 2] rfl rfl), gs2, k3, rfl⟩
      · have hlen2 : l.length ≤ hs.length := by rw [I.eq g l (List.mem_of_getElem? hg)]; exact kidL_len _ _
        conv => whnf
        refine opV_entry (q := q) (g := g) (l := l) rfl rfl hqd hg ?_
        intro v0
        conv => whnf
        refine call_frame2 [some 4] rfl rfl rfl rfl (id_sortV l (by omega) v0) ?_
        rintro r own2 ⟨⟨ys, p1, p2, rfl⟩, rfl⟩
        refine ⟨_, _, rfl, rfl, ?_⟩
        conv => whnf
        refine ⟨lftN gs.length (q :: dn), _, lftN_lt (List.getElem?_eq_some_iff.1 hg).1 hqd, (kids_ret (j := 3) (n := 4) (gs := gs) (e := 39) (r := r) (dn := dn) (fz := fz) (l := ys) (q := q) (v0 := v0) rfl rfl (by decide) hqd).trans (norm_weak [4, 35] [some 0, some 1, some 2, some 3] rfl rfl), q :: dn, fun p => if p = q then ys else fz p, rfl, fun q' hq' g' l' hg' => ?_, rfl⟩
        show (if q' = q then ys else fz q').Perm l' ∧ (if q' = q then ys else fz q').Pairwise (fun x y => ¬ il y x)
        by_cases e' : q' = q
        · subst e'
          rw [hg] at hg'
          cases hg'
          rw [if_pos rfl]
          exact ⟨p1, p2⟩
        · rw [if_neg e']
          exact hS q' ((List.mem_cons.1 hq').resolve_left e') g' l' hg'
    · rintro st ⟨gs2, I2, rfl⟩
      conv => whnf
      have hside := side_all ho I2 hlen (hs.length + 1) rootH (by omega) [] (Nat.zero_le _)
      refine callV_nil 3 0 39 2 (idR []) rfl rfl ?_
      refine call_frame2 [some 1, some 2, some 3, some 4, some 5, some 6] rfl rfl rfl rfl hside ?_
      rintro r own2 ⟨⟨w, hwk, rfl⟩, rfl⟩
      rw [List.nil_append]
      refine ⟨_, _, rfl, rfl, ?_⟩
      conv => whnf
      refine ⟨fun _ _ => rfl, ?_⟩
      conv => whnf
      exact ⟨w, hwk.ord ho, rfl⟩
end Go.Eng
/- Tree: what the laws' own functions come to. -/
set_option linter.unusedVariables false
set_option linter.unusedSimpArgs false
set_option maxRecDepth 100000
set_option maxHeartbeats 4000000
namespace Go.Eng
open Go Go.RowKit Go.Proofs
/-- What an item names on its right is known. -/
def clH : HS → Prop
  | [] => True
  | (x, h) :: r => clH r ∧ (hasI r x.right ∨ x.right.1 = 0)
theorem okH_put {hs : HS} (ho : okH hs) {x : It} (hn : ¬ hasI hs x.id) (hz : x.id.1 ≠ 0) (hl : hasI hs x.left ∨ x.left.1 = 0) (hr : hasI hs x.right ∨ x.right.1 = 0) : okH ((x, hgOf hs x) :: hs) := by
  refine ⟨ho, hz, fun p hp e => hn ⟨p, hp, e⟩, ?_⟩
  unfold hgOf
  split
  · rename_i g
    rw [Bool.and_eq_true, bne_iff_ne] at g
    exact .inr ⟨g.1, hr.resolve_right g.1⟩
  · split
    · exact .inl rfl
    · rename_i g
      exact .inr ⟨g, hl.resolve_right g⟩
theorem knA_has {hs : HS} {x : It} (h : knA (itsH hs) x) : ¬ hasI hs x.id ∧ (hasI hs x.left ∨ x.left.1 = 0) ∧ (hasI hs x.right ∨ x.right.1 = 0) := by
  have key : ∀ a, (a.1 = 0 ∨ (fiE (itsH hs) a).isNone = false) → hasI hs a ∨ a.1 = 0 := fun a h => by
    by_cases g : hasI hs a
    · exact .inl g
    · rcases h with h | h
      · exact .inr h
      · rw [fiE_hasn g] at h; cases h
  refine ⟨fun g => ?_, key _ h.left, key _ h.right⟩
  obtain ⟨k, e2, _⟩ := fiE_has g
  have := h.new
  rw [e2] at this
  cases this
/-- Known items, with what they hang on. -/
theorem hs_of {K : List It} (hk : knP K) : ∀ n, n ≤ K.length → ∃ hs : HS, itsH hs = K.take n ∧ okH hs ∧ bldH hs ∧ clH hs := by
  intro n
  induction n with
  | zero => intro _; exact ⟨[], rfl, trivial, trivial, trivial⟩
  | succ n ih =>
    intro hn
    obtain ⟨hs, h1, h2, h3, h4⟩ := ih (by omega)
    have hA := hk n (by omega)
    rw [← h1] at hA
    obtain ⟨g1, g2, g3⟩ := knA_has hA
    refine ⟨(K.getD n it0, hgOf hs (K.getD n it0)) :: hs, ?_, okH_put h2 g1 hA.nz g2 g3, ⟨h3, rfl⟩, ⟨h4, g3⟩⟩
    rw [itsH_cons, h1, List.getD_eq_getElem?_getD, List.getElem?_eq_getElem (by omega)]
    exact List.take_append_getElem (by omega)
theorem hs_all {K : List It} (hk : knP K) : ∃ hs : HS, itsH hs = K ∧ okH hs ∧ bldH hs ∧ clH hs := by
  obtain ⟨hs, h1, h2⟩ := hs_of hk K.length (Nat.le_refl _)
  exact ⟨hs, by rw [h1, List.take_length], h2⟩
theorem tplace_c {hs : HS} (ho : okH hs) (hb : bldH hs) (hlen : hs.length ≤ 1000000) (x : It) : CallV Try.prog 37 [itS (itsH hs), .agg (itF x)] [] (fun r own' => own' = [] ∧ r = hgA (hgOf hs x)) := by
  refine callV_pure Try.func37 rfl ttok ftok rfl rfl rfl (Nat.le_of_ble_eq_true rfl) ?_
  conv => whnf
  refine drawV_sched (.rd 0 (.rd 2 (.ef 1 (.ef 3 (.ef 4 (.nil)))))) [1, 2] mixed (by kernel_rfl) ttok ftok ?_
  conv => whnf
  refine call_frame2 [] rfl rfl rfl rfl (hangs_c ho hb (by omega)) ?_
  rintro r own2 ⟨rfl, rfl⟩
  refine ⟨_, _, rfl, rfl, ?_⟩
  conv => whnf
  refine call_frame2 [some 2] rfl rfl rfl rfl (place_c ho x) ?_
  rintro r own2 ⟨rfl, rfl⟩
  refine ⟨_, _, rfl, rfl, ?_⟩
  conv => whnf
  trace_state
  all_goals first | rfl | exact ⟨rfl, rfl⟩
theorem rPlace_c {hs : HS} (ho : okH hs) (hb : bldH hs) (hlen : hs.length ≤ 100000) (x : It) : CallV Try.prog 38 [itS (itsH hs), .agg (itF x)] [] (fun r own' => own' = [] ∧ r = hgA (hgOf hs x)) := by
  have hraw := hgOf_raw hs x
  refine callV_pure Try.func38 rfl ttok ftok rfl rfl rfl (Nat.le_of_ble_eq_true rfl) ?_
  conv => whnf
  refine drawV_at ⟨22, 0, [(3, .c (.own 0 0)), (4, .c (.own 1 0)), (5, .c (.own 2 0))], [some (.cells 66 (itF x)), some (.cells 74 [vu 0, vu 0, .v (.bool false)]), some (.cells 74 (hgF (hgP hs x)))]⟩ ?_ ?_
  · have hpl := rplace_c ho hlen x
    refine drawV_sched (.rd 0 (.rd 1 (.rd 3 (.alt (.ef 2 (.alt (.ef 4 (.ef 5 (.ef 6 (.nil)))) (.ef 5 (.ef 4 (.ef 6 (.nil)))))) (.ef 5 (.ef 2 (.ef 4 (.ef 6 (.nil))))))))) [2] mixed (by kernel_rfl) ttok ftok ?_
    conv => whnf
    repeat' first
      | (refine call_pure (rhangs_c ho hb hlen) rfl ?_; rintro _ rfl; conv => whnf)
      | (refine call_pure hpl rfl ?_; rintro _ rfl; conv => whnf)
      | exact norm_weak [3, 4, 5] [some 0, some 1, some 2] rfl rfl
      | (refine ⟨?_, ?_⟩ <;> (conv => whnf))
  · generalize hgP hs x = p at hraw
    obtain ⟨po, pr⟩ := p
    by_cases hz : x.left.1 = 0 ∧ pr = true
    · rw [if_pos hz] at hraw
      obtain ⟨hz1, rfl⟩ := hz
      rw [hraw]
      conv => whnf
      rw [beq_iff_eq.2 hz1]
      conv => whnf
      all_goals first | rfl | exact ⟨rfl, rfl⟩
    · rw [if_neg hz] at hraw
      rw [hraw]
      conv => whnf
      refine onB_intro (fun g => ?_) (fun g => ?_)
      · exfalso
        refine hz ?_
        cases h1 : (x.left.1 == 0) <;> cases h2 : pr <;> rw [h1] at g <;> subst h2 <;> first | (cases g; done) | exact ⟨beq_iff_eq.1 h1, rfl⟩
      conv => whnf
      all_goals first | rfl | exact ⟨rfl, rfl⟩
end Go.Eng
/- Tree: the head of all statements; the law TreeTells. -/
set_option linter.unusedVariables false
set_option linter.unusedSimpArgs false
set_option maxRecDepth 100000
set_option maxHeartbeats 4000000
namespace Go.Eng
open Go Go.RowKit Go.Proofs
def upA : It := ⟨(1, 0), (0, 0), (0, 0), 0⟩
def upB : It := ⟨(1, 1), (1, 0), (0, 0), 0⟩
def upC : It := ⟨(2, 0), (1, 0), (1, 1), 0⟩
def upH : HS := [(upC, ⟨(1, 1), false⟩), (upB, ⟨(1, 0), true⟩), (upA, rootH)]
theorem upH_ok : okH upH := by simp [upH, okH, rootH, hasI, upA, upB, upC]
theorem upH_bld : bldH upH := ⟨⟨⟨trivial, by decide⟩, by decide⟩, by decide⟩
theorem upH_ord : isOrd upH [(1, 0), (2, 0), (1, 1)] := by
  refine ⟨by decide, ?_⟩
  simp [upH, kyO, pth, klt, elt, il, one1, sideN, rootH, upA, upB, upC]
theorem up_c : CallV Try.prog 30 [] [] (fun r own' => own' = [] ∧ r = vcb true) := by
  have hord := order_c upH_ok upH_bld (by decide)
  have hkn0 := callV_args (argsLe_nil 7 (itR []) (argsLe_refl [])) (tknown_c [] (by decide))
  have hkn1 := tknown_c [⟨(1, 0), (1, 1), (0, 0), 0⟩] (by decide)
  refine callV_pure Try.func30 rfl ttok ftok rfl rfl rfl (Nat.le_of_ble_eq_true rfl) ?_
  conv => whnf
  refine ⟨itR [upA, upB, upC], fun k hk => ?_, ?_⟩
  · match k with
    | 0 => rfl
    | 1 => rfl
    | 2 => rfl
    | k + 3 => omega
  conv => whnf
  refine ⟨fun k hk => rfl, ?_⟩
  conv => whnf
  refine call_pure hord rfl ?_
  rintro _ ⟨o, hO, rfl⟩
  obtain rfl := isOrd.uniq upH_ord hO
  conv => whnf
  refine ⟨idR [(1, 0), (2, 0), (1, 1)], fun k hk => ?_, ?_⟩
  · match k with
    | 0 => rfl
    | 1 => rfl
    | 2 => rfl
    | k + 3 => omega
  conv => whnf
  refine ⟨fun k hk => rfl, ?_⟩
  conv => whnf
  refine call_pure (sameids_c [(1, 0), (2, 0), (1, 1)] (by decide)) rfl ?_
  rintro _ rfl
  conv => whnf
  refine call_pure hkn0 rfl ?_
  rintro _ ⟨b, hb, rfl⟩
  obtain rfl : b = true := hb.2 (fun i hi => by cases hi)
  conv => whnf
  refine ⟨itR [⟨(1, 0), (1, 1), (0, 0), 0⟩], fun k hk => ?_, ?_⟩
  · obtain rfl : k = 0 := by omega
    rfl
  conv => whnf
  refine ⟨fun k hk => rfl, ?_⟩
  conv => whnf
  refine call_pure hkn1 rfl ?_
  rintro _ ⟨b, hb, rfl⟩
  obtain rfl : b = false := by
    rw [Bool.eq_false_iff]
    intro h
    have := (hb.1 h 0 (by decide)).left
    rcases this with h1 | h1
    · cases h1
    · cases h1
  conv => whnf
  all_goals first | rfl | exact ⟨rfl, rfl⟩
theorem ttells_c (l : List It) (x : It) (hl : l.length ≤ 1048576) : CallV Try.prog 8 [itS l, .agg (itF x)] [] (fun r own' => own' = [] ∧ r = vcb true) := by
  refine callV_pure Try.func8 rfl ttok ftok rfl rfl rfl (Nat.le_of_ble_eq_true rfl) ?_
  conv => whnf
  refine call_pure up_c rfl ?_
  rintro _ rfl
  conv => whnf
  refine onB_intro (fun g => ?_) (fun g => ?_)
  · conv => whnf
    all_goals first | rfl | exact ⟨rfl, rfl⟩
  have g := of_decide_eq_false g
  have hl2 : l.length ≤ 60 := by omega
  conv => whnf
  refine call_pure (rknown_c l (by omega)) rfl ?_
  rintro _ ⟨b1, hb1, rfl⟩
  conv => whnf
  refine call_pure (known0_c l (by omega)) rfl ?_
  rintro _ ⟨K, hK, hP, hV, rfl⟩
  obtain ⟨hs, rfl, ho, hb, hc⟩ := hs_all hP
  have hil := itsH_len hs
  conv => whnf
  refine call_pure (order_c ho hb (by omega)) rfl ?_
  rintro _ ⟨o, hO, rfl⟩
  have hol : o.length = hs.length := by
    have := hO.perm.length_eq
    unfold idsH at this
    rw [this, List.length_map]
  conv => whnf
  refine call_frame2 [] rfl rfl rfl rfl (rorder_c ho hb (by omega)) ?_
  rintro r own2 ⟨o2, hO2, rfl, rfl⟩
  obtain rfl := isOrd.uniq hO hO2
  refine ⟨.c (.row 1), [some (.cells 66 (itF x)), some (.row 39 2 o.length (idR o))], rfl, rfl, ?_⟩
  conv => whnf
  refine ⟨fun _ _ => rfl, ?_⟩
  conv => whnf
  refine call_pure (sameids_c o (by omega)) rfl ?_
  rintro _ rfl
  conv => whnf
  refine call_pure (tknown_c l (by omega)) rfl ?_
  rintro _ ⟨b2, hb2, rfl⟩
  obtain rfl : b1 = b2 := Bool.eq_iff_iff.2 (hb1.trans hb2.symm)
  conv => whnf
  rw [beq_self_eq_true b1]
  conv => whnf
  have hkn := rknown_c (itsH hs ++ [⟨(4294967295, 4294967295), x.left, x.right, x.ch⟩]) (by rw [List.length_append, List.length_singleton]; omega)
  refine drawV_cutT (fun S => ∃ b3 : Bool, S = ⟨67, 0, [(3, .c (.own 0 0)), (5, vcb true), (7, itS (itsH hs)), (9, vcb b3)], [some (.cells 66 (itF ⟨(4294967295, 4294967295), x.left, x.right, x.ch⟩))]⟩) ?_ ?_
  · refine drawV_sched (.rd 1 (.rd 3 (.alt (.ef 0 (.alt (.ef 2 (.ef 4 (.ef 5 (.ef 6 (.rd 7 (.nil)))))) (.ef 4 (.ef 2 (.ef 5 (.ef 6 (.rd 7 (.nil)))))))) (.ef 4 (.ef 0 (.ef 2 (.ef 5 (.ef 6 (.rd 7 (.nil)))))))))) [1, 2, 3, 4, 5, 6] mixed (by kernel_rfl) ttok ftok ?_
    conv => whnf
    repeat' first
      | (refine call_pure hkn rfl ?_; rintro _ ⟨b3, _, rfl⟩; conv => whnf)
      | (refine ⟨fun _ => itF ⟨(4294967295, 4294967295), x.left, x.right, x.ch⟩, fun j hj2 => (by obtain rfl : j = 0 := (by omega); rfl), ?_⟩; conv => whnf)
      | (refine ⟨⟨by omega, by show (0 + List.length (itsH hs)) * 28 ≤ _; omega⟩, ?_⟩; conv => whnf)
      | (refine ⟨⟨by show List.length (itsH hs) + 1 ≤ _; omega, by show (List.length (itsH hs) + 1) * 28 ≤ _; omega⟩, ?_⟩; conv => whnf)
      | (refine app_list (enc := itF) (d := it0) (l := []) (b := itsH hs) (fun k hk => by cases hk) (fun k hk => rfl) ?_; conv => whnf)
      | (refine app1 (enc := itF) (d := it0) (l := itsH hs) ⟨(4294967295, 4294967295), x.left, x.right, x.ch⟩ (fun k hk => rfl) rfl ?_; conv => whnf)
      | (refine ⟨fun _ _ => rfl, ?_⟩; conv => whnf)
      | exact ⟨_, norm_weak [3, 5, 7, 9] [some 0] rfl rfl, _, rfl⟩
      | (refine ⟨?_, ?_⟩ <;> (conv => whnf))
  · rintro S ⟨b3, rfl⟩
    cases b3 with
    | false =>
      conv => whnf
      all_goals first | rfl | exact ⟨rfl, rfl⟩
    | true =>
      have ht := tplace_c ho hb (by omega) ⟨(4294967295, 4294967295), x.left, x.right, x.ch⟩
      have hr := rPlace_c ho hb (by omega) ⟨(4294967295, 4294967295), x.left, x.right, x.ch⟩
      generalize hgOf hs ⟨(4294967295, 4294967295), x.left, x.right, x.ch⟩ = p at ht hr
      conv => whnf
      refine call_pure ht rfl ?_
      rintro _ rfl
      conv => whnf
      refine call_pure hr rfl ?_
      rintro _ rfl
      conv => whnf
      rw [beq_self_eq_true p.on.1, beq_self_eq_true p.on.2, beq_self_eq_true p.right]
      all_goals first | rfl | exact ⟨rfl, rfl⟩
theorem mem_getDl {α : Type} {l : List α} {x d : α} (h : x ∈ l) : ∃ j, j < l.length ∧ l.getD j d = x := by
  obtain ⟨j, hj, rfl⟩ := List.getElem_of_mem h
  exact ⟨j, hj, by rw [List.getD_eq_getElem?_getD, List.getElem?_eq_getElem hj]; rfl⟩
theorem rd_idX {B d : Nat} {cs : List IC} (h : Rd tt B (d + 2) 39 cs) : ∃ a : I2, cs = idF a := by
  obtain ⟨x1, y1, ⟨v, w1, rfl⟩, ⟨x2, y2, ⟨w, w2, rfl⟩, rfl, rfl⟩, rfl⟩ := h
  exact ⟨(v, w), rfl⟩
theorem rd_itX {B d : Nat} {cs : List IC} (h : Rd tt B (d + 3) 66 cs) : ∃ x : It, cs = itF x := by
  obtain ⟨x1, y1, h1, ⟨x2, y2, h2, ⟨x3, y3, h3, ⟨x4, y4, ⟨c, wc, rfl⟩, rfl, rfl⟩, rfl⟩, rfl⟩, rfl⟩ := h
  obtain ⟨a, rfl⟩ := rd_idX h1
  obtain ⟨b, rfl⟩ := rd_idX h2
  obtain ⟨e, rfl⟩ := rd_idX h3
  exact ⟨⟨a, b, e, c⟩, rfl⟩
theorem rd_itsX {B d : Nat} {a : AV} (h : RdA tt B (d + 4) 60 a) : ∃ l : List It, l.length ≤ B ∧ ∀ (L : Nat → Value) (hp : Hp) v, DenA L hp a v → DenA L hp (itS l) v := by
  obtain ⟨c, ⟨n, f, hn, hf, e⟩, rfl⟩ := h
  cases e
  obtain ⟨l, hl, hf2, hR⟩ := list_of (enc := itF) (R := fun _ => True) it0 (fun k hk => by obtain ⟨x, hx⟩ := rd_itX (hf k hk); exact ⟨x, trivial, hx⟩)
  refine ⟨l, by omega, fun L hp v hd => ?_⟩
  subst hl
  exact den_sl_ext hd (fun k hk => (hf2 k hk).symm)
theorem treeTells_law : ∀ avs, RdArgs tt 1048576 30 [60, 66] avs → CallV Try.prog 8 avs [] (fun r own' => own' = [] ∧ r = vcb true) := by
  rintro avs ⟨a0, r0, h0, ⟨a1, r1, h1, rfl, rfl⟩, rfl⟩
  obtain ⟨l, hl, hdl⟩ := rd_itsX h0
  obtain ⟨cs, hcs, rfl⟩ := h1
  obtain ⟨x, rfl⟩ := rd_itX hcs
  refine callV_args (argsLe_cons hdl (argsLe_refl _)) ?_
  exact ttells_c l x hl
end Go.Eng
/- The law TreeBetween. -/
set_option linter.unusedVariables false
set_option linter.unusedSimpArgs false
set_option maxRecDepth 100000
set_option maxHeartbeats 4000000
namespace Go.Eng
open Go Go.RowKit Go.Proofs
/-- What is put between two neighbours comes there. -/
theorem put_between {hs : HS} {o : List I2} (ho : okH hs) (hO : isOrd hs o) {x : It} (hoN : okH ((x, hgOf hs x) :: hs)) {k : Nat} (hk : k ≤ o.length) (hl : x.left = if 0 < k then o.getD (k - 1) (0, 0) else (0, 0)) (hr : x.right = if k < o.length then o.getD k (0, 0) else (0, 0)) :
    isOrd ((x, hgOf hs x) :: hs) (o.take k ++ [x.id] ++ o.drop k) := by
  have hin : ∀ j, j < o.length → hasI hs (o.getD j (0, 0)) := fun j hj => hO.has.1 (getD_mem hj)
  have hnz : ∀ j, j < o.length → (o.getD j (0, 0)).1 ≠ 0 := fun j hj => okH_none ho (hin j hj)
  by_cases hA : (x.right.1 != 0 && belR hs x.right x.left) = true
  · have hh : hgOf hs x = ⟨x.right, false⟩ := by unfold hgOf; rw [if_pos hA]
    rw [hh] at hoN ⊢
    rw [Bool.and_eq_true, bne_iff_ne] at hA
    obtain ⟨hA1, hA2⟩ := hA
    have hkl : k < o.length := by
      by_cases h : k < o.length
      · exact h
      · rw [if_neg h] at hr; rw [hr] at hA1; exact absurd rfl hA1
    rw [if_pos hkl] at hr
    refine put_left hoN hO rfl hkl hr.symm (Nat.le_refl _) (fun j h1 h2 => by omega) (fun h0 => .inl ?_)
    rw [if_pos h0] at hl
    rw [← hl]
    have hlz : x.left.1 ≠ 0 := by rw [hl]; exact hnz _ (by omega)
    unfold belR at hA2
    rw [beq_eq_false_iff_ne.2 hlz, Bool.false_or] at hA2
    have hlen : (pth hs x.left).length < (pth hs x.right).length := by
      unfold bel at hA2
      rw [Bool.or_eq_true, Option.isSome_iff_exists, Option.isSome_iff_exists] at hA2
      have hlin : hasI hs x.left := by rw [hl]; exact hin _ (by omega)
      rcases hA2 with ⟨c, hc⟩ | ⟨c, hc⟩
      · obtain ⟨t, ht⟩ := (und_iff ho (.inr ⟨hlz, hlin⟩) c).1 hc
        rw [show pth hs x.right = pth hs x.left ++ (sideN ⟨x.left, false⟩, c) :: t from ht, List.length_append, List.length_cons]; omega
      · obtain ⟨t, ht⟩ := (und_iff ho (.inr ⟨hlz, hlin⟩) c).1 hc
        rw [show pth hs x.right = pth hs x.left ++ (sideN ⟨x.left, true⟩, c) :: t from ht, List.length_append, List.length_cons]; omega
    cases hu : und hs x.left ⟨x.right, false⟩ with
    | none => rfl
    | some c =>
      exfalso
      have hrin : hasI hs x.right := by rw [hr]; exact hin _ hkl
      obtain ⟨t, ht⟩ := (und_iff ho (.inr ⟨hA1, hrin⟩) c).1 hu
      rw [ht, List.length_append, List.length_cons] at hlen
      simp only at hlen
      omega
  · have hbr : x.right.1 ≠ 0 → belR hs x.right x.left = false := fun h => by
      cases hb : belR hs x.right x.left with
      | false => rfl
      | true => exact absurd (by rw [bne_iff_ne.2 h, hb]; rfl) hA
    by_cases hlz : x.left.1 = 0
    · have hh : hgOf hs x = rootH := by unfold hgOf; rw [if_neg hA, if_pos hlz]
      rw [hh] at hoN ⊢
      have hk0 : k = 0 := by
        by_cases h : 0 < k
        · rw [if_pos h] at hl; exact absurd (by rw [← hl]; exact hlz) (hnz (k - 1) (by omega))
        · omega
      have hr0 : x.right.1 = 0 := by
        by_cases h : x.right.1 = 0
        · exact h
        · have := hbr h
          unfold belR at this
          rw [beq_iff_eq.2 hlz] at this
          cases this
      have ho0 : ¬ k < o.length := fun h => by
        rw [if_pos h] at hr
        exact hnz k h (by rw [← hr]; exact hr0)
      subst hk0
      exact put_right hoN hO rfl (s := 0) (n := 0) (.inl ⟨rfl, rfl⟩) (Nat.le_refl _) (Nat.zero_le _) (fun j h1 h2 => by omega) (fun h => absurd h ho0)
    · have hh : hgOf hs x = ⟨x.left, true⟩ := by unfold hgOf; rw [if_neg hA, if_neg hlz]
      rw [hh] at hoN ⊢
      have hk0 : 0 < k := by
        by_cases h : 0 < k
        · exact h
        · rw [if_neg h] at hl; rw [hl] at hlz; exact absurd rfl hlz
      rw [if_pos hk0] at hl
      refine put_right hoN hO rfl (s := k) (n := k) (.inr ⟨k - 1, by omega, by omega, hl.symm⟩) (Nat.le_refl _) hk (fun j h1 h2 => by omega) (fun h => .inl ?_)
      rw [if_pos h] at hr
      rw [← hr]
      have h1 := hbr (by rw [hr]; exact hnz k h)
      unfold belR bel at h1
      rw [beq_eq_false_iff_ne.2 hlz, Bool.false_or, Bool.or_eq_false_iff] at h1
      exact Option.isSome_eq_false_iff.1 h1.2 |> Option.isNone_iff_eq_none.1
theorem mod_atT {n : Nat} (hn : 0 < n) (x : Int) : ∃ p : Nat, p < n ∧ x % (n : Int) = (p : Int) := by
  have h0 := Int.emod_nonneg x (show (n : Int) ≠ 0 by omega)
  have h1 := Int.emod_lt_of_pos x (show 0 < (n : Int) by omega)
  exact ⟨(x % (n : Int)).toNat, by omega, by omega⟩
theorem tbetween_c (l : List It) (n : Int) (a : I2) (hl : l.length ≤ 1048576) (hn : -9223372036854775808 ≤ n ∧ n ≤ 9223372036854775807) : CallV Try.prog 7 [itS l, vci .i64 n, idA a] [] (fun r own' => own' = [] ∧ r = vcb true) := by
  refine callV_pure Try.func7 rfl ttok ftok rfl rfl rfl (Nat.le_of_ble_eq_true rfl) ?_
  conv => whnf
  refine call_pure up_c rfl ?_
  rintro _ rfl
  conv => whnf
  refine call_pure (known0_c l (by omega)) rfl ?_
  rintro _ ⟨K, hK, hP, hV, rfl⟩
  obtain ⟨hs, rfl, ho, hb, hc⟩ := hs_all hP
  have hil := itsH_len hs
  conv => whnf
  refine call_pure (order_c ho hb (by omega)) rfl ?_
  rintro _ ⟨o, hO, rfl⟩
  have hol : o.length = hs.length := by
    have := hO.perm.length_eq
    unfold idsH at this
    rw [this, List.length_map]
  conv => whnf
  rw [show ((o.length : Int) != ((itsH hs).length : Int)) = false from by rw [hol, hil]; exact bne_self_eq_false _]
  refine onB_intro (fun g => ?_) (fun g => ?_)
  · conv => whnf
    rw [show ((o.length : Int) == ((itsH hs).length : Int)) = true from by rw [hol, hil]; exact beq_self_eq_true _]
    all_goals first | rfl | exact ⟨rfl, rfl⟩
  have hl2 : hs.length ≤ 60 := by
    simp [pickB, isLit] at g
    omega
  conv => whnf
  have hwr := e64 (k := o.length) (by omega)
  obtain ⟨k, hkn0, hke⟩ := mod_atT (n := o.length + 1) (by omega) n
  have hko : k ≤ o.length := by omega
  have hpc := pick_c n ((o.length + 1 : Nat) : Int) hn (by omega)
  rw [hke] at hpc
  rw [hwr]
  refine call_pure hpc rfl ?_
  rintro _ rfl
  conv => whnf
  by_cases h1 : 0 < k
  · have hwk : IntKind.i64.wrap ((k : Int) - 1) = ((k - 1 : Nat) : Int) := by rw [w_i64 (by omega) (by omega)]; omega
    rw [show decide ((k : Int) > 0) = true from decide_eq_true (by omega)]
    conv => whnf
    refine ⟨by rw [hwk]; omega, ?_⟩
    conv => whnf
    rw [hwk, ti_nat]
    by_cases h2 : k < o.length
    · rw [show decide ((k : Int) < (o.length : Int)) = true from decide_eq_true (by omega)]
      conv => whnf
      refine ⟨by omega, ?_⟩
      conv => whnf
      rw [ti_nat]
      obtain ⟨x, hxe⟩ : ∃ x : It, (⟨a, o.getD (k - 1) (0, 0), o.getD k (0, 0), 97⟩ : It) = x := ⟨_, rfl⟩
      have hXl : x.left = if 0 < k then o.getD (k - 1) (0, 0) else (0, 0) := by rw [← hxe]; simp only [if_pos h1]
      have hXr : x.right = if k < o.length then o.getD k (0, 0) else (0, 0) := by rw [← hxe]; simp only [if_pos h2]
      have hxi : x.id = a := by rw [← hxe]
      have hkn := tknown_c (itsH hs ++ [x]) (by rw [List.length_append, List.length_singleton]; omega)
      refine drawV_at ⟨95, 0, [(5, .c (.own 0 0)), (7, vcb true), (8, itS (itsH hs)), (9, idS o), (10, vci .i64 (k : Int)), (12, .c (.row 1))], [some (.cells 39 (idF a)), some (.row 66 7 (itsH hs ++ [x]).length (itR (itsH hs ++ [x])))]⟩ ?_ ?_
      · subst hxe
        refine drawV_sched (.rd 1 (.rd 3 (.alt (.ef 0 (.alt (.ef 2 (.ef 4 (.ef 5 (.rd 6 (.nil))))) (.ef 4 (.ef 2 (.ef 5 (.rd 6 (.nil))))))) (.ef 4 (.ef 0 (.ef 2 (.ef 5 (.rd 6 (.nil))))))))) [2, 3, 4, 5, 6] mixed (by kernel_rfl) ttok ftok ?_
        conv => whnf
        repeat' first
          | (refine ⟨fun _ => itF ⟨a, o.getD (k - 1) (0, 0), o.getD k (0, 0), 97⟩, fun j hj2 => (by obtain rfl : j = 0 := (by omega); rfl), ?_⟩; conv => whnf)
          | (refine ⟨⟨by omega, by show (0 + List.length (itsH hs)) * 28 ≤ _; omega⟩, ?_⟩; conv => whnf)
          | (refine ⟨⟨by show List.length (itsH hs) + 1 ≤ _; omega, by show (List.length (itsH hs) + 1) * 28 ≤ _; omega⟩, ?_⟩; conv => whnf)
          | (refine app_list (enc := itF) (d := it0) (l := []) (b := itsH hs) (fun k hk => by cases hk) (fun k hk => rfl) ?_; conv => whnf)
          | (refine app1 (enc := itF) (d := it0) (l := itsH hs) ⟨a, o.getD (k - 1) (0, 0), o.getD k (0, 0), 97⟩ (fun k hk => rfl) rfl ?_; conv => whnf)
          | exact norm_weak [5, 7, 8, 9, 10, 12] [some 0, some 5] rfl rfl
          | (refine ⟨?_, ?_⟩ <;> (conv => whnf))
      · conv => whnf
        refine ⟨fun _ _ => rfl, ?_⟩
        conv => whnf
        refine call_pure hkn rfl ?_
        rintro _ ⟨b, hb1, rfl⟩
        cases b with
        | false =>
          conv => whnf
          all_goals first | rfl | exact ⟨rfl, rfl⟩
        | true =>
          have hkA : knA (itsH hs) x := by
            have := hb1.1 rfl (itsH hs).length (by rw [List.length_append, List.length_singleton]; omega)
            rw [List.take_left, List.getD_eq_getElem?_getD, List.getElem?_append_right (Nat.le_refl _), Nat.sub_self] at this
            exact this
          obtain ⟨q1, q2, q3⟩ := knA_has hkA
          have hoN := okH_put ho q1 hkA.nz q2 q3
          have hord : CallV _ _ _ _ _ := order_c hoN ⟨hb, rfl⟩ (by rw [List.length_cons]; omega)
          rw [itsH_cons] at hord
          have hOp := put_between ho hO hoN hko hXl hXr
          rw [hxi] at hOp
          conv => whnf
          refine call_pure hord rfl ?_
          rintro _ ⟨o2, hO2, rfl⟩
          obtain rfl := isOrd.uniq hOp hO2
          conv => whnf
          have htl : (o.take k).length = k := by rw [List.length_take]; omega
          have hdl : (o.drop k).length = o.length - k := List.length_drop
          have hal : (o.take k ++ [a]).length = k + 1 := by rw [List.length_append, htl]; rfl
          refine drawV_at ⟨95, 0, [(7, vcb true), (9, idS o), (10, vci .i64 (k : Int)), (13, idS (o.take k ++ [a] ++ o.drop k)), (14, .c (.row 0))], [some (.row 39 2 (o.take k ++ [a]).length (idR (o.take k ++ [a])))]⟩ ?_ ?_
          · refine drawV_sched (.rd 1 (.rd 2 (.rd 3 (.rd 5 (.alt (.ef 0 (.alt (.ef 4 (.ef 6 (.ef 7 (.rd 8 (.nil))))) (.ef 6 (.ef 4 (.ef 7 (.rd 8 (.nil))))))) (.ef 6 (.ef 0 (.ef 4 (.ef 7 (.rd 8 (.nil))))))))))) [2, 3, 4, 5, 6] mixed (by kernel_rfl) ttok ftok ?_
            conv => whnf
            repeat' first
              | (refine ⟨⟨by omega, by omega, by omega, by omega⟩, (o.take k).length, idR (o.take k), by rw [htl, ti_nat]; rfl, fun q hq => (by show idF _ = idF (o.getD (Int.toNat 0 + q) (0, 0)); rw [getD_take _ _ _ _ (by omega), show Int.toNat 0 + q = q from Nat.zero_add q]), ?_⟩; conv => whnf)
              | (refine ⟨fun _ => idF a, fun j hj2 => (by obtain rfl : j = 0 := (by omega); rfl), ?_⟩; conv => whnf)
              | (refine ⟨⟨by omega, by show (0 + (o.take k).length) * 8 ≤ _; omega⟩, ?_⟩; conv => whnf)
              | (refine ⟨⟨by show (o.take k).length + 1 ≤ _; omega, by show ((o.take k).length + 1) * 8 ≤ _; omega⟩, ?_⟩; conv => whnf)
              | (refine app_list (enc := idF) (d := (0, 0)) (l := []) (b := o.take k) (fun k hk => by cases hk) (fun k hk => rfl) ?_; conv => whnf)
              | (refine app1 (enc := idF) (d := (0, 0)) (l := o.take k) a (fun k hk => rfl) rfl ?_; conv => whnf)
              | exact norm_weak [7, 9, 10, 13, 14] [some 5] rfl rfl
              | (refine ⟨?_, ?_⟩ <;> (conv => whnf))
          · conv => whnf
            refine ⟨⟨by omega, by omega, by omega, by omega⟩, ?_⟩
            refine ⟨(o.drop k).length, idR (o.drop k), by rw [hdl, ti_nat, ti_nat], fun q hq => ?_, ?_⟩
            · show idF _ = idF (o.getD ((k : Int).toNat + q) (0, 0))
              rw [getD_drop, ti_nat]
            conv => whnf
            refine ⟨⟨by omega, by show ((o.take k ++ [a]).length + (o.drop k).length) * 8 ≤ _; omega⟩, ?_⟩
            conv => whnf
            refine app_list (enc := idF) (d := (0, 0)) (l := o.take k ++ [a]) (b := o.drop k) (fun k hk => rfl) (fun k hk => rfl) ?_
            conv => whnf
            refine ⟨fun _ _ => rfl, ?_⟩
            conv => whnf
            refine call_pure (sameids_c (o.take k ++ [a] ++ o.drop k) (by rw [List.length_append]; omega)) rfl ?_
            rintro _ rfl
            conv => whnf
            all_goals first | rfl | exact ⟨rfl, rfl⟩
    · rw [show decide ((k : Int) < (o.length : Int)) = false from decide_eq_false (by omega)]
      conv => whnf
      obtain ⟨x, hxe⟩ : ∃ x : It, (⟨a, o.getD (k - 1) (0, 0), (0, 0), 97⟩ : It) = x := ⟨_, rfl⟩
      have hXl : x.left = if 0 < k then o.getD (k - 1) (0, 0) else (0, 0) := by rw [← hxe]; simp only [if_pos h1]
      have hXr : x.right = if k < o.length then o.getD k (0, 0) else (0, 0) := by rw [← hxe]; simp only [if_neg h2]
      have hxi : x.id = a := by rw [← hxe]
      have hkn := tknown_c (itsH hs ++ [x]) (by rw [List.length_append, List.length_singleton]; omega)
      refine drawV_at ⟨95, 0, [(5, .c (.own 0 0)), (7, vcb true), (8, itS (itsH hs)), (9, idS o), (10, vci .i64 (k : Int)), (12, .c (.row 1))], [some (.cells 39 (idF a)), some (.row 66 7 (itsH hs ++ [x]).length (itR (itsH hs ++ [x])))]⟩ ?_ ?_
      · subst hxe
        refine drawV_sched (.rd 1 (.rd 3 (.alt (.ef 0 (.alt (.ef 2 (.ef 4 (.ef 5 (.rd 6 (.nil))))) (.ef 4 (.ef 2 (.ef 5 (.rd 6 (.nil))))))) (.ef 4 (.ef 0 (.ef 2 (.ef 5 (.rd 6 (.nil))))))))) [2, 3, 4, 5, 6] mixed (by kernel_rfl) ttok ftok ?_
        conv => whnf
        repeat' first
          | (refine ⟨fun _ => itF ⟨a, o.getD (k - 1) (0, 0), (0, 0), 97⟩, fun j hj2 => (by obtain rfl : j = 0 := (by omega); rfl), ?_⟩; conv => whnf)
          | (refine ⟨⟨by omega, by show (0 + List.length (itsH hs)) * 28 ≤ _; omega⟩, ?_⟩; conv => whnf)
          | (refine ⟨⟨by show List.length (itsH hs) + 1 ≤ _; omega, by show (List.length (itsH hs) + 1) * 28 ≤ _; omega⟩, ?_⟩; conv => whnf)
          | (refine app_list (enc := itF) (d := it0) (l := []) (b := itsH hs) (fun k hk => by cases hk) (fun k hk => rfl) ?_; conv => whnf)
          | (refine app1 (enc := itF) (d := it0) (l := itsH hs) ⟨a, o.getD (k - 1) (0, 0), (0, 0), 97⟩ (fun k hk => rfl) rfl ?_; conv => whnf)
          | exact norm_weak [5, 7, 8, 9, 10, 12] [some 0, some 5] rfl rfl
          | (refine ⟨?_, ?_⟩ <;> (conv => whnf))
      · conv => whnf
        refine ⟨fun _ _ => rfl, ?_⟩
        conv => whnf
        refine call_pure hkn rfl ?_
        rintro _ ⟨b, hb1, rfl⟩
        cases b with
        | false =>
          conv => whnf
          all_goals first | rfl | exact ⟨rfl, rfl⟩
        | true =>
          have hkA : knA (itsH hs) x := by
            have := hb1.1 rfl (itsH hs).length (by rw [List.length_append, List.length_singleton]; omega)
            rw [List.take_left, List.getD_eq_getElem?_getD, List.getElem?_append_right (Nat.le_refl _), Nat.sub_self] at this
            exact this
          obtain ⟨q1, q2, q3⟩ := knA_has hkA
          have hoN := okH_put ho q1 hkA.nz q2 q3
          have hord : CallV _ _ _ _ _ := order_c hoN ⟨hb, rfl⟩ (by rw [List.length_cons]; omega)
          rw [itsH_cons] at hord
          have hOp := put_between ho hO hoN hko hXl hXr
          rw [hxi] at hOp
          conv => whnf
          refine call_pure hord rfl ?_
          rintro _ ⟨o2, hO2, rfl⟩
          obtain rfl := isOrd.uniq hOp hO2
          conv => whnf
          have htl : (o.take k).length = k := by rw [List.length_take]; omega
          have hdl : (o.drop k).length = o.length - k := List.length_drop
          have hal : (o.take k ++ [a]).length = k + 1 := by rw [List.length_append, htl]; rfl
          refine drawV_at ⟨95, 0, [(7, vcb true), (9, idS o), (10, vci .i64 (k : Int)), (13, idS (o.take k ++ [a] ++ o.drop k)), (14, .c (.row 0))], [some (.row 39 2 (o.take k ++ [a]).length (idR (o.take k ++ [a])))]⟩ ?_ ?_
          · refine drawV_sched (.rd 1 (.rd 2 (.rd 3 (.rd 5 (.alt (.ef 0 (.alt (.ef 4 (.ef 6 (.ef 7 (.rd 8 (.nil))))) (.ef 6 (.ef 4 (.ef 7 (.rd 8 (.nil))))))) (.ef 6 (.ef 0 (.ef 4 (.ef 7 (.rd 8 (.nil))))))))))) [2, 3, 4, 5, 6] mixed (by kernel_rfl) ttok ftok ?_
            conv => whnf
            repeat' first
              | (refine ⟨⟨by omega, by omega, by omega, by omega⟩, (o.take k).length, idR (o.take k), by rw [htl, ti_nat]; rfl, fun q hq => (by show idF _ = idF (o.getD (Int.toNat 0 + q) (0, 0)); rw [getD_take _ _ _ _ (by omega), show Int.toNat 0 + q = q from Nat.zero_add q]), ?_⟩; conv => whnf)
              | (refine ⟨fun _ => idF a, fun j hj2 => (by obtain rfl : j = 0 := (by omega); rfl), ?_⟩; conv => whnf)
              | (refine ⟨⟨by omega, by show (0 + (o.take k).length) * 8 ≤ _; omega⟩, ?_⟩; conv => whnf)
              | (refine ⟨⟨by show (o.take k).length + 1 ≤ _; omega, by show ((o.take k).length + 1) * 8 ≤ _; omega⟩, ?_⟩; conv => whnf)
              | (refine app_list (enc := idF) (d := (0, 0)) (l := []) (b := o.take k) (fun k hk => by cases hk) (fun k hk => rfl) ?_; conv => whnf)
              | (refine app1 (enc := idF) (d := (0, 0)) (l := o.take k) a (fun k hk => rfl) rfl ?_; conv => whnf)
              | exact norm_weak [7, 9, 10, 13, 14] [some 5] rfl rfl
              | (refine ⟨?_, ?_⟩ <;> (conv => whnf))
          · conv => whnf
            refine ⟨⟨by omega, by omega, by omega, by omega⟩, ?_⟩
            refine ⟨(o.drop k).length, idR (o.drop k), by rw [hdl, ti_nat, ti_nat], fun q hq => ?_, ?_⟩
            · show idF _ = idF (o.getD ((k : Int).toNat + q) (0, 0))
              rw [getD_drop, ti_nat]
            conv => whnf
            refine ⟨⟨by omega, by show ((o.take k ++ [a]).length + (o.drop k).length) * 8 ≤ _; omega⟩, ?_⟩
            conv => whnf
            refine app_list (enc := idF) (d := (0, 0)) (l := o.take k ++ [a]) (b := o.drop k) (fun k hk => rfl) (fun k hk => rfl) ?_
            conv => whnf
            refine ⟨fun _ _ => rfl, ?_⟩
            conv => whnf
            refine call_pure (sameids_c (o.take k ++ [a] ++ o.drop k) (by rw [List.length_append]; omega)) rfl ?_
            rintro _ rfl
            conv => whnf
            all_goals first | rfl | exact ⟨rfl, rfl⟩
  · rw [show decide ((k : Int) > 0) = false from decide_eq_false (by omega)]
    conv => whnf
    by_cases h2 : k < o.length
    · rw [show decide ((k : Int) < (o.length : Int)) = true from decide_eq_true (by omega)]
      conv => whnf
      refine ⟨by omega, ?_⟩
      conv => whnf
      rw [ti_nat]
      obtain ⟨x, hxe⟩ : ∃ x : It, (⟨a, (0, 0), o.getD k (0, 0), 97⟩ : It) = x := ⟨_, rfl⟩
      have hXl : x.left = if 0 < k then o.getD (k - 1) (0, 0) else (0, 0) := by rw [← hxe]; simp only [if_neg h1]
      have hXr : x.right = if k < o.length then o.getD k (0, 0) else (0, 0) := by rw [← hxe]; simp only [if_pos h2]
      have hxi : x.id = a := by rw [← hxe]
      have hkn := tknown_c (itsH hs ++ [x]) (by rw [List.length_append, List.length_singleton]; omega)
      refine drawV_at ⟨95, 0, [(5, .c (.own 0 0)), (7, vcb true), (8, itS (itsH hs)), (9, idS o), (10, vci .i64 (k : Int)), (12, .c (.row 1))], [some (.cells 39 (idF a)), some (.row 66 7 (itsH hs ++ [x]).length (itR (itsH hs ++ [x])))]⟩ ?_ ?_
      · subst hxe
        refine drawV_sched (.rd 1 (.rd 3 (.alt (.ef 0 (.alt (.ef 2 (.ef 4 (.ef 5 (.rd 6 (.nil))))) (.ef 4 (.ef 2 (.ef 5 (.rd 6 (.nil))))))) (.ef 4 (.ef 0 (.ef 2 (.ef 5 (.rd 6 (.nil))))))))) [2, 3, 4, 5, 6] mixed (by kernel_rfl) ttok ftok ?_
        conv => whnf
        repeat' first
          | (refine ⟨fun _ => itF ⟨a, (0, 0), o.getD k (0, 0), 97⟩, fun j hj2 => (by obtain rfl : j = 0 := (by omega); rfl), ?_⟩; conv => whnf)
          | (refine ⟨⟨by omega, by show (0 + List.length (itsH hs)) * 28 ≤ _; omega⟩, ?_⟩; conv => whnf)
          | (refine ⟨⟨by show List.length (itsH hs) + 1 ≤ _; omega, by show (List.length (itsH hs) + 1) * 28 ≤ _; omega⟩, ?_⟩; conv => whnf)
          | (refine app_list (enc := itF) (d := it0) (l := []) (b := itsH hs) (fun k hk => by cases hk) (fun k hk => rfl) ?_; conv => whnf)
          | (refine app1 (enc := itF) (d := it0) (l := itsH hs) ⟨a, (0, 0), o.getD k (0, 0), 97⟩ (fun k hk => rfl) rfl ?_; conv => whnf)
          | exact norm_weak [5, 7, 8, 9, 10, 12] [some 0, some 5] rfl rfl
          | (refine ⟨?_, ?_⟩ <;> (conv => whnf))
      · conv => whnf
        refine ⟨fun _ _ => rfl, ?_⟩
        conv => whnf
        refine call_pure hkn rfl ?_
        rintro _ ⟨b, hb1, rfl⟩
        cases b with
        | false =>
          conv => whnf
          all_goals first | rfl | exact ⟨rfl, rfl⟩
        | true =>
          have hkA : knA (itsH hs) x := by
            have := hb1.1 rfl (itsH hs).length (by rw [List.length_append, List.length_singleton]; omega)
            rw [List.take_left, List.getD_eq_getElem?_getD, List.getElem?_append_right (Nat.le_refl _), Nat.sub_self] at this
            exact this
          obtain ⟨q1, q2, q3⟩ := knA_has hkA
          have hoN := okH_put ho q1 hkA.nz q2 q3
          have hord : CallV _ _ _ _ _ := order_c hoN ⟨hb, rfl⟩ (by rw [List.length_cons]; omega)
          rw [itsH_cons] at hord
          have hOp := put_between ho hO hoN hko hXl hXr
          rw [hxi] at hOp
          conv => whnf
          refine call_pure hord rfl ?_
          rintro _ ⟨o2, hO2, rfl⟩
          obtain rfl := isOrd.uniq hOp hO2
          conv => whnf
          have htl : (o.take k).length = k := by rw [List.length_take]; omega
          have hdl : (o.drop k).length = o.length - k := List.length_drop
          have hal : (o.take k ++ [a]).length = k + 1 := by rw [List.length_append, htl]; rfl
          refine drawV_at ⟨95, 0, [(7, vcb true), (9, idS o), (10, vci .i64 (k : Int)), (13, idS (o.take k ++ [a] ++ o.drop k)), (14, .c (.row 0))], [some (.row 39 2 (o.take k ++ [a]).length (idR (o.take k ++ [a])))]⟩ ?_ ?_
          · refine drawV_sched (.rd 1 (.rd 2 (.rd 3 (.rd 5 (.alt (.ef 0 (.alt (.ef 4 (.ef 6 (.ef 7 (.rd 8 (.nil))))) (.ef 6 (.ef 4 (.ef 7 (.rd 8 (.nil))))))) (.ef 6 (.ef 0 (.ef 4 (.ef 7 (.rd 8 (.nil))))))))))) [2, 3, 4, 5, 6] mixed (by kernel_rfl) ttok ftok ?_
            conv => whnf
            repeat' first
              | (refine ⟨⟨by omega, by omega, by omega, by omega⟩, (o.take k).length, idR (o.take k), by rw [htl, ti_nat]; rfl, fun q hq => (by show idF _ = idF (o.getD (Int.toNat 0 + q) (0, 0)); rw [getD_take _ _ _ _ (by omega), show Int.toNat 0 + q = q from Nat.zero_add q]), ?_⟩; conv => whnf)
              | (refine ⟨fun _ => idF a, fun j hj2 => (by obtain rfl : j = 0 := (by omega); rfl), ?_⟩; conv => whnf)
              | (refine ⟨⟨by omega, by show (0 + (o.take k).length) * 8 ≤ _; omega⟩, ?_⟩; conv => whnf)
              | (refine ⟨⟨by show (o.take k).length + 1 ≤ _; omega, by show ((o.take k).length + 1) * 8 ≤ _; omega⟩, ?_⟩; conv => whnf)
              | (refine app_list (enc := idF) (d := (0, 0)) (l := []) (b := o.take k) (fun k hk => by cases hk) (fun k hk => rfl) ?_; conv => whnf)
              | (refine app1 (enc := idF) (d := (0, 0)) (l := o.take k) a (fun k hk => rfl) rfl ?_; conv => whnf)
              | exact norm_weak [7, 9, 10, 13, 14] [some 5] rfl rfl
              | (refine ⟨?_, ?_⟩ <;> (conv => whnf))
          · conv => whnf
            refine ⟨⟨by omega, by omega, by omega, by omega⟩, ?_⟩
            refine ⟨(o.drop k).length, idR (o.drop k), by rw [hdl, ti_nat, ti_nat], fun q hq => ?_, ?_⟩
            · show idF _ = idF (o.getD ((k : Int).toNat + q) (0, 0))
              rw [getD_drop, ti_nat]
            conv => whnf
            refine ⟨⟨by omega, by show ((o.take k ++ [a]).length + (o.drop k).length) * 8 ≤ _; omega⟩, ?_⟩
            conv => whnf
            refine app_list (enc := idF) (d := (0, 0)) (l := o.take k ++ [a]) (b := o.drop k) (fun k hk => rfl) (fun k hk => rfl) ?_
            conv => whnf
            refine ⟨fun _ _ => rfl, ?_⟩
            conv => whnf
            refine call_pure (sameids_c (o.take k ++ [a] ++ o.drop k) (by rw [List.length_append]; omega)) rfl ?_
            rintro _ rfl
            conv => whnf
            all_goals first | rfl | exact ⟨rfl, rfl⟩
    · rw [show decide ((k : Int) < (o.length : Int)) = false from decide_eq_false (by omega)]
      conv => whnf
      obtain ⟨x, hxe⟩ : ∃ x : It, (⟨a, (0, 0), (0, 0), 97⟩ : It) = x := ⟨_, rfl⟩
      have hXl : x.left = if 0 < k then o.getD (k - 1) (0, 0) else (0, 0) := by rw [← hxe]; simp only [if_neg h1]
      have hXr : x.right = if k < o.length then o.getD k (0, 0) else (0, 0) := by rw [← hxe]; simp only [if_neg h2]
      have hxi : x.id = a := by rw [← hxe]
      have hkn := tknown_c (itsH hs ++ [x]) (by rw [List.length_append, List.length_singleton]; omega)
      refine drawV_at ⟨95, 0, [(5, .c (.own 0 0)), (7, vcb true), (8, itS (itsH hs)), (9, idS o), (10, vci .i64 (k : Int)), (12, .c (.row 1))], [some (.cells 39 (idF a)), some (.row 66 7 (itsH hs ++ [x]).length (itR (itsH hs ++ [x])))]⟩ ?_ ?_
      · subst hxe
        refine drawV_sched (.rd 1 (.rd 3 (.alt (.ef 0 (.alt (.ef 2 (.ef 4 (.ef 5 (.rd 6 (.nil))))) (.ef 4 (.ef 2 (.ef 5 (.rd 6 (.nil))))))) (.ef 4 (.ef 0 (.ef 2 (.ef 5 (.rd 6 (.nil))))))))) [2, 3, 4, 5, 6] mixed (by kernel_rfl) ttok ftok ?_
        conv => whnf
        repeat' first
          | (refine ⟨fun _ => itF ⟨a, (0, 0), (0, 0), 97⟩, fun j hj2 => (by obtain rfl : j = 0 := (by omega); rfl), ?_⟩; conv => whnf)
          | (refine ⟨⟨by omega, by show (0 + List.length (itsH hs)) * 28 ≤ _; omega⟩, ?_⟩; conv => whnf)
          | (refine ⟨⟨by show List.length (itsH hs) + 1 ≤ _; omega, by show (List.length (itsH hs) + 1) * 28 ≤ _; omega⟩, ?_⟩; conv => whnf)
          | (refine app_list (enc := itF) (d := it0) (l := []) (b := itsH hs) (fun k hk => by cases hk) (fun k hk => rfl) ?_; conv => whnf)
          | (refine app1 (enc := itF) (d := it0) (l := itsH hs) ⟨a, (0, 0), (0, 0), 97⟩ (fun k hk => rfl) rfl ?_; conv => whnf)
          | exact norm_weak [5, 7, 8, 9, 10, 12] [some 0, some 5] rfl rfl
          | (refine ⟨?_, ?_⟩ <;> (conv => whnf))
      · conv => whnf
        refine ⟨fun _ _ => rfl, ?_⟩
        conv => whnf
        refine call_pure hkn rfl ?_
        rintro _ ⟨b, hb1, rfl⟩
        cases b with
        | false =>
          conv => whnf
          all_goals first | rfl | exact ⟨rfl, rfl⟩
        | true =>
          have hkA : knA (itsH hs) x := by
            have := hb1.1 rfl (itsH hs).length (by rw [List.length_append, List.length_singleton]; omega)
            rw [List.take_left, List.getD_eq_getElem?_getD, List.getElem?_append_right (Nat.le_refl _), Nat.sub_self] at this
            exact this
          obtain ⟨q1, q2, q3⟩ := knA_has hkA
          have hoN := okH_put ho q1 hkA.nz q2 q3
          have hord : CallV _ _ _ _ _ := order_c hoN ⟨hb, rfl⟩ (by rw [List.length_cons]; omega)
          rw [itsH_cons] at hord
          have hOp := put_between ho hO hoN hko hXl hXr
          rw [hxi] at hOp
          conv => whnf
          refine call_pure hord rfl ?_
          rintro _ ⟨o2, hO2, rfl⟩
          obtain rfl := isOrd.uniq hOp hO2
          conv => whnf
          have htl : (o.take k).length = k := by rw [List.length_take]; omega
          have hdl : (o.drop k).length = o.length - k := List.length_drop
          have hal : (o.take k ++ [a]).length = k + 1 := by rw [List.length_append, htl]; rfl
          refine drawV_at ⟨95, 0, [(7, vcb true), (9, idS o), (10, vci .i64 (k : Int)), (13, idS (o.take k ++ [a] ++ o.drop k)), (14, .c (.row 0))], [some (.row 39 2 (o.take k ++ [a]).length (idR (o.take k ++ [a])))]⟩ ?_ ?_
          · refine drawV_sched (.rd 1 (.rd 2 (.rd 3 (.rd 5 (.alt (.ef 0 (.alt (.ef 4 (.ef 6 (.ef 7 (.rd 8 (.nil))))) (.ef 6 (.ef 4 (.ef 7 (.rd 8 (.nil))))))) (.ef 6 (.ef 0 (.ef 4 (.ef 7 (.rd 8 (.nil))))))))))) [2, 3, 4, 5, 6] mixed (by kernel_rfl) ttok ftok ?_
            conv => whnf
            repeat' first
              | (refine ⟨⟨by omega, by omega, by omega, by omega⟩, (o.take k).length, idR (o.take k), by rw [htl, ti_nat]; rfl, fun q hq => (by show idF _ = idF (o.getD (Int.toNat 0 + q) (0, 0)); rw [getD_take _ _ _ _ (by omega), show Int.toNat 0 + q = q from Nat.zero_add q]), ?_⟩; conv => whnf)
              | (refine ⟨fun _ => idF a, fun j hj2 => (by obtain rfl : j = 0 := (by omega); rfl), ?_⟩; conv => whnf)
              | (refine ⟨⟨by omega, by show (0 + (o.take k).length) * 8 ≤ _; omega⟩, ?_⟩; conv => whnf)
              | (refine ⟨⟨by show (o.take k).length + 1 ≤ _; omega, by show ((o.take k).length + 1) * 8 ≤ _; omega⟩, ?_⟩; conv => whnf)
              | (refine app_list (enc := idF) (d := (0, 0)) (l := []) (b := o.take k) (fun k hk => by cases hk) (fun k hk => rfl) ?_; conv => whnf)
              | (refine app1 (enc := idF) (d := (0, 0)) (l := o.take k) a (fun k hk => rfl) rfl ?_; conv => whnf)
              | exact norm_weak [7, 9, 10, 13, 14] [some 5] rfl rfl
              | (refine ⟨?_, ?_⟩ <;> (conv => whnf))
          · conv => whnf
            refine ⟨⟨by omega, by omega, by omega, by omega⟩, ?_⟩
            refine ⟨(o.drop k).length, idR (o.drop k), by rw [hdl, ti_nat, ti_nat], fun q hq => ?_, ?_⟩
            · show idF _ = idF (o.getD ((k : Int).toNat + q) (0, 0))
              rw [getD_drop, ti_nat]
            conv => whnf
            refine ⟨⟨by omega, by show ((o.take k ++ [a]).length + (o.drop k).length) * 8 ≤ _; omega⟩, ?_⟩
            conv => whnf
            refine app_list (enc := idF) (d := (0, 0)) (l := o.take k ++ [a]) (b := o.drop k) (fun k hk => rfl) (fun k hk => rfl) ?_
            conv => whnf
            refine ⟨fun _ _ => rfl, ?_⟩
            conv => whnf
            refine call_pure (sameids_c (o.take k ++ [a] ++ o.drop k) (by rw [List.length_append]; omega)) rfl ?_
            rintro _ rfl
            conv => whnf
            all_goals first | rfl | exact ⟨rfl, rfl⟩
theorem treeBetween_law : ∀ avs, RdArgs tt 1048576 30 [60, 3, 39] avs → CallV Try.prog 7 avs [] (fun r own' => own' = [] ∧ r = vcb true) := by
  rintro avs ⟨a0, r0, h0, ⟨a1, r1, h1, ⟨a2, r2, h2, rfl, rfl⟩, rfl⟩, rfl⟩
  obtain ⟨l, hl, hdl⟩ := rd_itsX h0
  obtain ⟨c1, ⟨n, wn, e1⟩, rfl⟩ := h1
  cases e1
  obtain ⟨cs, hcs, rfl⟩ := h2
  obtain ⟨a, rfl⟩ := rd_idX hcs
  refine callV_args (argsLe_cons hdl (argsLe_refl _)) ?_
  exact tbetween_c l n a hl (wf_i64 wn)
end Go.Eng
