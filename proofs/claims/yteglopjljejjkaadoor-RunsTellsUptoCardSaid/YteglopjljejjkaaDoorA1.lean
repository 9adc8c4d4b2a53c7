/- A part of the proof: what the functions of the program come to, told by a small reckoner of states. -/
import Derived.Below
import Derived.WalkKit
import Derived.Deep.Quiet
import Derived.WideLaws
import Derived.LaidEql
import Derived.Laws.Rows
set_option linter.unusedVariables false
set_option linter.unusedSimpArgs false
namespace Go.Eng
open Go Go.RowKit

/-- What stays (blocks whose content is known and never written), and how many own objects there are. -/
structure Hp where
  m : Nat → Option Obj
  n : Nat

/-- One cell, told without addresses: a plain value; a slice that stays (n elements of sz cells); a pointer to cells that stay; into own object i;
an own row; into an element of one; a part of an own array; a function with what it has captured; an interface round a cell; an own map. -/
inductive IC where
  | v (x : Value)
  | sl (sz n : Nat) (f : Nat → List IC)
  | fp (cs : List IC)
  | own (i off : Nat)
  | row (i : Nat)
  | rel (i sz k off : Nat)
  | view (i sz k n c : Nat)
  | fn (f : Nat) (cs : List (Bool × List IC))
  | ifc (t : Nat) (c : IC)
  | mp (i : Nat)
  | any
inductive AV where
  | c (x : IC)
  | agg (xs : List IC)
  | tup (xs : List AV)
  | top

/-- Does it hold no place of the call's own (one level of interfaces and of captured cells is looked into)? -/
def clo0 : IC → Bool
  | .v _ => true
  | .sl _ _ _ => true
  | .fp _ => true
  | .any => true
  | _ => false
def clo : IC → Bool
  | .ifc _ c => clo0 c
  | .fn _ cs => cs.all fun x => x.2.all clo0
  | c => clo0 c
def baseOf : Value → Option Addr
  | .pointer a => a
  | .slice a _ _ => a
  | _ => none
/-- The cells of h that lie from address a on. -/
def hcell (h : Hp) (a : Addr) : Option Value :=
  match h.m a.block with
  | some (.cells c _ _) => if a.spot.isSome then none else c[a.off]?
  | _ => none
theorem hcell_cell {h : Hp} {w : World} (hs : ∀ k o, h.m k = some o → w.heap[k]? = some o) {a : Addr} {v : Value} (hc : hcell h a = some v) : w.cell? a = some v := by
  unfold hcell at hc
  unfold World.cell?
  cases hb : h.m a.block with
  | none => simp [hb] at hc
  | some o => rw [hs _ _ hb]; rw [hb] at hc; exact hc

/-- What value a cell may be. -/
inductive Den (L : Nat → Value) (h : Hp) : IC → Value → Prop
  | v (x : Value) (h1 : x.oneCell' = true) : Den L h (.v x) x
  | sl (sz n : Nat) (f : Nat → List IC) (A : Option Addr) (c : Nat) (ad : Addr) (g : Nat → Nat → Value) (hc : n ≤ c) (hm : n ≤ 9223372036854775807) (hA : 0 < n → A = some ad)
      (hg : ∀ k, k < n → ∀ j, j < sz → hcell h (ad.add (k * sz + j)) = some (g k j)) (hl : ∀ k, k < n → (f k).length = sz) (hclo : ∀ k, k < n → (f k).all clo = true)
      (hr : ∀ k, k < n → ∀ (j : Nat) c', (f k)[j]? = some c' → Den L h c' (g k j)) : Den L h (.sl sz n f) (.slice A n c)
  | fp (cs : List IC) (ad : Addr) (g : Nat → Value) (hclo : cs.all clo = true) (hg : ∀ j, j < cs.length → hcell h (ad.add j) = some (g j)) (hr : ∀ (j : Nat) c', cs[j]? = some c' → Den L h c' (g j)) : Den L h (.fp cs) (.pointer (some ad))
  | own (i off : Nat) (a : Addr) (h1 : i < h.n) (h2 : L i = .pointer (some a)) : Den L h (.own i off) (.pointer (some (a.add off)))
  | row (i : Nat) (A : Option Addr) (n c : Nat) (h1 : i < h.n) (h2 : L i = .slice A n c) : Den L h (.row i) (.slice A n c)
  | rel (i sz k off : Nat) (a : Addr) (h1 : i < h.n) (h2 : baseOf (L i) = some a) (h3 : ∀ A n c, L i = .slice A n c → k < n) : Den L h (.rel i sz k off) (.pointer (some (a.add (k * sz + off))))
  | view (i sz k n c : Nat) (a b : Addr) (h1 : i < h.n) (h2 : L i = .pointer (some a)) (h3 : 0 < c ∨ k = 0 → b = a.add (k * sz)) (h4 : n ≤ c) (h5 : c ≤ 9223372036854775807) : Den L h (.view i sz k n c) (.slice (some b) n c)
  | fn (f : Nat) (cs : List (Bool × List IC)) (vs : List Value) (g : Nat → Nat → Value) (hl : cs.length = vs.length)
      (hv : ∀ (j : Nat) b xs u, cs[j]? = some (b, xs) → vs[j]? = some u → u = if b = true then .agg ((List.range xs.length).map (g j)).toArray else g j 0) (h1 : ∀ (j : Nat) xs, cs[j]? = some (false, xs) → xs.length = 1)
      (hr : ∀ (j : Nat) b xs, cs[j]? = some (b, xs) → ∀ (i : Nat) c', xs[i]? = some c' → Den L h c' (g j i)) : Den L h (.fn f cs) (.func (.func f) #[] vs.toArray)
  | ifc (t : Nat) (c : IC) (v : Value) (hr : Den L h c v) : Den L h (.ifc t c) (.iface t v)
  | mp (i : Nat) (r : Option Nat) (h1 : i < h.n) (h2 : L i = .map r) : Den L h (.mp i) (.map r)
  | any (x : Value) (h1 : x.oneCell' = true) : Den L h .any x
def DenL (L : Nat → Value) (h : Hp) (cs : List IC) (vs : List Value) : Prop := cs.length = vs.length ∧ ∀ (j : Nat) c u, cs[j]? = some c → vs[j]? = some u → Den L h c u
def Den1 (L : Nat → Value) (h : Hp) : AV → Value → Prop
  | .c x, v => Den L h x v
  | .agg xs, v => ∃ vs : List Value, v = .agg vs.toArray ∧ DenL L h xs vs
  | .tup _, _ => False
  | .top, _ => False
def DenA (L : Nat → Value) (h : Hp) : AV → Value → Prop
  | .tup as, v => ∃ vs : List Value, v = .tuple vs.toArray ∧ as.length = vs.length ∧ ∀ (j : Nat) a u, as[j]? = some a → vs[j]? = some u → Den1 L h a u
  | .top, _ => True
  | a, v => Den1 L h a v

structure Sub (h h' : Hp) : Prop where
  m : ∀ k o, h.m k = some o → h'.m k = some o
  n : h.n ≤ h'.n
theorem Sub.refl (h : Hp) : Sub h h := ⟨fun _ _ e => e, Nat.le_refl _⟩
theorem Sub.trans {a b c : Hp} (h : Sub a b) (k : Sub b c) : Sub a c := ⟨fun i o e => k.m i o (h.m i o e), Nat.le_trans h.n k.n⟩
theorem hcell_sub {h h' : Hp} (hs : ∀ k o, h.m k = some o → h'.m k = some o) {a : Addr} {v : Value} (hc : hcell h a = some v) : hcell h' a = some v := by
  unfold hcell at *
  cases hb : h.m a.block with
  | none => simp [hb] at hc
  | some o => rw [hs _ _ hb]; rw [hb] at hc; exact hc
/-- What a cell is stays so, where what stays grows, and the own objects lie where they lay. -/
theorem Den.mono {L L' : Nat → Value} {h h' : Hp} (hs : Sub h h') (hL : ∀ i, i < h.n → L' i = L i) {c : IC} {v : Value} (hd : Den L h c v) : Den L' h' c v := by
  induction hd with
  | v x h1 => exact .v x h1
  | sl sz n f A c ad g hc hm hA hg hl hclo hr ih => exact .sl sz n f A c ad g hc hm hA (fun k hk j hj => hcell_sub hs.m (hg k hk j hj)) hl hclo ih
  | fp cs ad g hclo hg hr ih => exact .fp cs ad g hclo (fun j hj => hcell_sub hs.m (hg j hj)) ih
  | any x h1 => exact .any x h1
  | own i off a h1 h2 => exact .own i off a (Nat.lt_of_lt_of_le h1 hs.n) ((hL i h1).trans h2)
  | row i A n c h1 h2 => exact .row i A n c (Nat.lt_of_lt_of_le h1 hs.n) ((hL i h1).trans h2)
  | rel i sz k off a h1 h2 h3 => exact .rel i sz k off a (Nat.lt_of_lt_of_le h1 hs.n) (by rw [hL i h1]; exact h2) (by rw [hL i h1]; exact h3)
  | view i sz k n c a b h1 h2 h3 h4 h5 => exact .view i sz k n c a b (Nat.lt_of_lt_of_le h1 hs.n) ((hL i h1).trans h2) h3 h4 h5
  | fn f cs vs g hl hv h1 hr ih => exact .fn f cs vs g hl hv h1 ih
  | ifc t c v hr ih => exact .ifc t c v ih
  | mp i r h1 h2 => exact .mp i r (Nat.lt_of_lt_of_le h1 hs.n) ((hL i h1).trans h2)
theorem Den.one {L : Nat → Value} {h : Hp} {c : IC} {v : Value} (hd : Den L h c v) : v.oneCell' = true := by
  cases hd <;> first | assumption | rfl
section
variable {L L' : Nat → Value} {h h' : Hp}
theorem DenL.mono (hs : Sub h h') (hL : ∀ i, i < h.n → L' i = L i) {cs : List IC} {vs : List Value} (hd : DenL L h cs vs) : DenL L' h' cs vs := ⟨hd.1, fun j c u hc hu => (hd.2 j c u hc hu).mono hs hL⟩
theorem Den1.mono (hs : Sub h h') (hL : ∀ i, i < h.n → L' i = L i) {a : AV} {v : Value} (hd : Den1 L h a v) : Den1 L' h' a v := by
  cases a with
  | c x => exact Den.mono hs hL hd
  | agg xs => obtain ⟨vs, e, hd⟩ := hd; exact ⟨vs, e, hd.mono hs hL⟩
  | tup as => exact hd
  | top => exact hd
theorem DenA.mono (hs : Sub h h') (hL : ∀ i, i < h.n → L' i = L i) {a : AV} {v : Value} (hd : DenA L h a v) : DenA L' h' a v := by
  cases a with
  | c x => exact Den.mono hs hL hd
  | agg xs => exact Den1.mono (a := .agg xs) hs hL hd
  | tup as => obtain ⟨vs, e, hl, hd⟩ := hd; exact ⟨vs, e, hl, fun (j : Nat) a u ha hu => (hd j a u ha hu).mono hs hL⟩
  | top => trivial
theorem DenL.nil : DenL L h [] [] := ⟨rfl, fun j c u hc => by simp at hc⟩
theorem DenL.cons {c : IC} {v : Value} {cs : List IC} {vs : List Value} (h1 : Den L h c v) (h2 : DenL L h cs vs) : DenL L h (c :: cs) (v :: vs) := by
  refine ⟨by simp [h2.1], fun j c' u hc hu => ?_⟩
  cases j with
  | zero => simp at hc hu; subst hc hu; exact h1
  | succ j => simp at hc hu; exact h2.2 j c' u hc hu
theorem DenL.uncons {c : IC} {cs : List IC} {vs : List Value} (hd : DenL L h (c :: cs) vs) : ∃ v r, vs = v :: r ∧ Den L h c v ∧ DenL L h cs r := by
  cases vs with
  | nil => have := hd.1; simp at this
  | cons v r =>
    have hlen := hd.1
    simp at hlen
    refine ⟨v, r, rfl, hd.2 0 c v (by simp) (by simp), hlen, fun j c' u hc hu => hd.2 (j + 1) c' u (by simpa using hc) (by simpa using hu)⟩
theorem DenL.append {cs cs' : List IC} {vs vs' : List Value} (h1 : DenL L h cs vs) (h2 : DenL L h cs' vs') : DenL L h (cs ++ cs') (vs ++ vs') := by
  refine ⟨by simp [h1.1, h2.1], fun j c u hc hu => ?_⟩
  rcases Nat.lt_or_ge j cs.length with hj | hj
  · rw [List.getElem?_append_left hj] at hc
    rw [List.getElem?_append_left (by rw [← h1.1]; exact hj)] at hu
    exact h1.2 j c u hc hu
  · rw [List.getElem?_append_right hj] at hc
    rw [List.getElem?_append_right (by rw [← h1.1]; exact hj), ← h1.1] at hu
    exact h2.2 _ c u hc hu
theorem DenL.take {cs : List IC} {vs : List Value} (h1 : DenL L h cs vs) (n : Nat) : DenL L h (cs.take n) (vs.take n) := by
  refine ⟨by simp [h1.1], fun j c u hc hu => ?_⟩
  rw [List.getElem?_take] at hc hu
  split at hc
  · rename_i hj; rw [if_pos hj] at hu; exact h1.2 j c u hc hu
  · cases hc
theorem DenL.drop {cs : List IC} {vs : List Value} (h1 : DenL L h cs vs) (n : Nat) : DenL L h (cs.drop n) (vs.drop n) := by
  refine ⟨by simp [h1.1], fun j c u hc hu => ?_⟩
  rw [List.getElem?_drop] at hc hu
  exact h1.2 _ c u hc hu
theorem DenL.one {cs : List IC} {vs : List Value} (h1 : DenL L h cs vs) : ∀ v, v ∈ vs → v.oneCell' = true := fun v hv => by
  obtain ⟨j, hj, e⟩ := List.getElem_of_mem hv
  have hjc : j < cs.length := by rw [h1.1]; exact hj
  exact (h1.2 j cs[j] v (by simp [hjc]) (by simp [hj, e])).one
theorem DenL.of_v : ∀ {xs : List Value}, (∀ x, x ∈ xs → x.oneCell' = true) → DenL L h (xs.map IC.v) xs
  | [], _ => DenL.nil
  | x :: r, hx => DenL.cons (.v x (hx x (by simp))) (DenL.of_v (fun y hy => hx y (by simp [hy])))
/-- The cells that j and on name values: by a function. -/
theorem DenL.of_fun {cs : List IC} {g : Nat → Value} (hr : ∀ (j : Nat) c', cs[j]? = some c' → Den L h c' (g j)) : DenL L h cs ((List.range cs.length).map g) := by
  refine ⟨by simp, fun j c u hc hu => ?_⟩
  have hj := (List.getElem?_eq_some_iff.1 hc).1
  simp [hj] at hu
  subst hu
  exact hr j c hc
end

inductive Ob where
  | cells (t : TypeId) (cs : List IC)
  | row (e : TypeId) (sz n : Nat) (f : Nat → List IC)
  | arr (e : TypeId) (sz cap n : Nat) (f : Nat → List IC)
  | mp (t : TypeId) (es : List (Value × AV))
  | iter (s : ByteArray) (pos : Nat)
  | abs (p : (Nat → Option Obj) → (Nat → Prop) → World → Value → Prop)

def blk : Value → Option Nat
  | .pointer (some a) => some a.block
  | .slice (some a) _ _ => some a.block
  | .map (some r) => some r
  | _ => none
/-- Values vs hold, from 0 on, n elements of sz cells each. -/
structure RowD (L : Nat → Value) (h : Hp) (sz n : Nat) (f : Nat → List IC) (vs : List Value) : Prop where
  len : ∀ k, k < n → (f k).length = sz
  den : ∀ k, k < n → ∀ (j : Nat) c, (f k)[j]? = some c → ∃ u, vs[k * sz + j]? = some u ∧ Den L h c u
theorem RowD.mono {L L' : Nat → Value} {h h' : Hp} (hs : Sub h h') (hL : ∀ i, i < h.n → L' i = L i) {sz n : Nat} {f : Nat → List IC} {vs : List Value} (k : RowD L h sz n f vs) : RowD L' h' sz n f vs :=
  ⟨k.len, fun i hi j c hc => by obtain ⟨u, h1, h2⟩ := k.den i hi j c hc; exact ⟨u, h1, h2.mono hs hL⟩⟩
structure Stable (p : (Nat → Option Obj) → (Nat → Prop) → World → Value → Prop) : Prop where
  out : ∀ m m' F w w' v, p m F w v → (∀ k o, m k = some o → m' k = some o) → (∀ b, F b → w'.heap[b]? = w.heap[b]?) → p m' F w' v
/-- Own object: at v; F: its blocks. -/
def ObOk (L : Nat → Value) (h : Hp) (w : World) (v : Value) (F : Nat → Prop) : Ob → Prop
  | .cells t cs => ∃ b vs, v = .pointer (some ⟨b, 0, none⟩) ∧ F b ∧ w.heap[b]? = some (.cells vs.toArray t (0, 0)) ∧ DenL L h cs vs
  | .row e sz n f => ∃ vs, w.ownsRow 0 e sz v n vs ∧ (∀ b, blk v = some b → F b) ∧ RowD L h sz n f vs
  | .arr e sz cap n f => ∃ b cur, v = .pointer (some ⟨b, 0, none⟩) ∧ F b ∧ w.heap[b]? = some (.cells cur e (0, 0)) ∧ n ≤ cap ∧ cap ≤ maxLen ∧ cur.size = cap * sz ∧ RowD L h sz n f cur.toList
  | .mp t es => ∃ r ents clock, v = .map (some r) ∧ F r ∧ w.heap[r]? = some (.map ents clock) ∧ es.length = ents.size ∧ ∀ (j : Nat) k a en, es[j]? = some (k, a) → ents[j]? = some en → en.key = k ∧ Den1 L h a en.val
  | .iter s pos => ∃ b, v = .pointer (some ⟨b, 0, none⟩) ∧ F b ∧ w.heap[b]? = some (.stringIter s pos)
  | .abs p => Stable p ∧ p h.m F w v

structure Mem (mine : Nat → Prop) (L : Nat → Value) (F : Nat → Nat → Prop) (h : Hp) (own : List (Option Ob)) (w : World) : Prop where
  hn : h.n = own.length
  hsub : ∀ k o, h.m k = some o → w.heap[k]? = some o
  obs : ∀ i ob, own[i]? = some (some ob) → ObOk L h w (L i) (F i) ob
  foot : ∀ i ob b, own[i]? = some (some ob) → F i b → b < w.heap.size ∧ h.m b = none ∧ mine b
  dis : ∀ i j oi oj b, own[i]? = some (some oi) → own[j]? = some (some oj) → F i b → F j b → i = j

/-- n: how many slots; k: how many of the own objects came in. -/
structure St where
  n : Nat
  k : Nat
  env : List (Nat × AV)
  own : List (Option Ob)

structure Agree (L : Nat → Value) (h : Hp) (st : St) (a : Act) : Prop where
  size : a.tmps.size = st.n
  env : ∀ t av, st.env.lookup t = some av → DenA L h av (a.tmps.getD t undef)
  defers : a.defers = []

/-- What was there when the call began, but for the blocks in 'may', is as it was. -/
structure Keep (may : Nat → Prop) (w0 w : World) : Prop where
  os : w.os = w0.os
  tape : w.tape = w0.tape
  output : w.output = w0.output
  size : w0.heap.size ≤ w.heap.size
  block : ∀ k, k < w0.heap.size → ¬ may k → w.heap[k]? = w0.heap[k]?
theorem Keep.refl (may : Nat → Prop) (w : World) : Keep may w w := ⟨rfl, rfl, rfl, Nat.le_refl _, fun _ _ _ => rfl⟩

def mineOf (may : Nat → Prop) (w0 : World) (b : Nat) : Prop := may b ∨ w0.heap.size ≤ b
def footOf (F : Nat → Nat → Prop) (own : List (Option Ob)) (b : Nat) : Prop := ∃ (i : Nat) (ob : Ob), own[i]? = some (some ob) ∧ F i b
theorem Keep.trans {may may' : Nat → Prop} {w0 w w' : World} (h : Keep may w0 w) (k : Keep may' w w') (hm : ∀ b, may' b → mineOf may w0 b) : Keep may w0 w' := by
  refine ⟨k.os.trans h.os, k.tape.trans h.tape, k.output.trans h.output, Nat.le_trans h.size k.size, fun b hlt hno => ?_⟩
  rw [k.block b (Nat.lt_of_lt_of_le hlt h.size) (fun hb => by rcases hm b hb with h1 | h1; exact hno h1; omega)]
  exact h.block b hlt hno

/-- What a call found: what stays, and where its own objects lie. -/
class HasGl (P : Program) where
  ok : (Nat → Option Obj) → Prop
  mono : ∀ {m m' : Nat → Option Obj}, ok m → (∀ k o, m k = some o → m' k = some o) → ok m'
structure Base (P : Program) [HasGl P] where
  h : Hp
  L : Nat → Value
  gl : HasGl.ok P h.m
structure SubB {P : Program} [HasGl P] (b : Base P) (k : Nat) (L : Nat → Value) (h : Hp) : Prop where
  sub : Sub b.h h
  at_ : ∀ i, i < b.h.n → L i = b.L i
  kk : k = b.h.n
theorem SubB.step {P : Program} [HasGl P] {b : Base P} {k : Nat} {L L' : Nat → Value} {h h' : Hp} (s : SubB b k L h) (hL : ∀ i, i < h.n → L' i = L i) (hs : Sub h h') : SubB b k L' h' :=
  ⟨s.sub.trans hs, fun i hi => (hL i (Nat.lt_of_lt_of_le hi s.sub.n)).trans (s.at_ i hi), s.kk⟩
structure Sat {P : Program} [HasGl P] (may : Nat → Prop) (w0 : World) (h0 : Base P) (st : St) (a : Act) (w : World) : Prop where
  ex : ∃ L F h, Mem (mineOf may w0) L F h st.own w ∧ Agree L h st a ∧ SubB h0 st.k L h ∧ (∀ k, h.m k ≠ none → h0.h.m k ≠ none ∨ mineOf may w0 k)
  keep : Keep may w0 w

def ev (st : St) : Operand → Option AV
  | .tmp t => st.env.lookup t
  | .const v => if v.oneCell' = true then some (.c (.v v)) else none
  | .global g => some (.c (.v (.pointer (some ⟨g, 0, none⟩))))
  | .func f => some (.c (.fn f []))
theorem ev_eval {L : Nat → Value} {h : Hp} {st : St} {a : Act} (ha : Agree L h st a) {x : Operand} {av : AV} (hx : ev st x = some av) : DenA L h av (a.eval x) := by
  cases x with
  | tmp t => exact ha.env t av hx
  | const v =>
    simp only [ev] at hx
    split at hx
    · rename_i h1; cases hx; exact Den.v _ h1
    · cases hx
  | global g => cases hx; exact Den.v _ rfl
  | func f => cases hx; exact Den.fn f [] [] (fun _ _ => undef) rfl (fun j b xs u hc => by simp at hc) (fun j xs hc => by simp at hc) (fun j b xs hc => by simp at hc)
def St.put (st : St) (d : Option Nat) (av : AV) : St :=
  match d with
  | some d => { st with env := (d, av) :: st.env }
  | none => st
theorem agree_put {L : Nat → Value} {h : Hp} {st : St} {a : Act} (ha : Agree L h st a) {d : Nat} (hd : d < st.n) {av : AV} {v : Value} (hok : DenA L h av v) : Agree L h (st.put (some d) av) (a.put (some d) v) := by
  refine ⟨by simp [Act.put, St.put, ha.size], fun t av' ht => ?_, ha.defers⟩
  simp only [St.put, List.lookup_cons] at ht
  by_cases e : t = d
  · subst e
    simp at ht
    subst ht
    have : (a.put (some t) v).tmps.getD t undef = v := by simp [Act.put, ha.size, hd]
    rw [this]
    exact hok
  · have e' : (t == d) = false := by simpa using e
    rw [e'] at ht
    have h1 := ha.env t av' ht
    have : (a.put (some d) v).tmps.getD t undef = a.tmps.getD t undef := by
      simp [Act.put, Array.getD_eq_getD_getElem?, Array.getElem?_setIfInBounds, Ne.symm e]
    rw [this]
    exact h1
theorem agree_more {L L' : Nat → Value} {h h' : Hp} {st st' : St} {a : Act} (ha : Agree L h st a) (hL : ∀ i, i < h.n → L' i = L i) (hs : Sub h h') (hn : st'.n = st.n) (he : st'.env = st.env) : Agree L' h' st' a :=
  ⟨by rw [hn]; exact ha.size, fun t av ht => by
    rw [he] at ht
    exact (ha.env t av ht).mono hs hL, ha.defers⟩

/-! ### Own objects: where they lie, how they go on -/
def upd {α : Type} (L : Nat → α) (n : Nat) (v : α) : Nat → α := fun i => if i = n then v else L i
theorem upd_lt {α : Type} {L : Nat → α} {n : Nat} {v : α} {i : Nat} (h : i < n) : upd L n v i = L i := by unfold upd; rw [if_neg (by omega)]
theorem upd_eq {α : Type} {L : Nat → α} {n : Nat} {v : α} : upd L n v n = v := by unfold upd; rw [if_pos rfl]
theorem ownsRow_move {w w1 : World} {base : Nat} {e : TypeId} {size n : Nat} {v : Value} {xs : List Value} (h : w.ownsRow base e size v n xs) (hm : ∀ k, blk v = some k → w1.heap[k]? = w.heap[k]?) : w1.ownsRow base e size v n xs := by
  obtain ⟨hl, hr⟩ := h
  refine ⟨hl, ?_⟩
  rcases hr with hr | ⟨g, cap, cur, e1, e2, e3, e4, e5, e6, e7⟩
  · exact .inl hr
  · refine .inr ⟨g, cap, cur, e1, e2, ?_, e4, e5, e6, e7⟩
    rw [hm g (by rw [e1]; rfl)]
    exact e3
theorem obOk_move {L L' : Nat → Value} {h h' : Hp} {w w' : World} {v : Value} {F : Nat → Prop} {ob : Ob} (hob : ObOk L h w v F ob) (hb : ∀ b, F b → w'.heap[b]? = w.heap[b]?)
    (hL : ∀ i, i < h.n → L' i = L i) (hs : Sub h h') : ObOk L' h' w' v F ob := by
  cases ob with
  | cells t cs => obtain ⟨b, vs, h1, h2, h3, h4⟩ := hob; exact ⟨b, vs, h1, h2, by rw [hb b h2]; exact h3, h4.mono hs hL⟩
  | row e sz n f => obtain ⟨vs, h1, h2, h3⟩ := hob; exact ⟨vs, ownsRow_move h1 (fun k hk => hb k (h2 k hk)), h2, h3.mono hs hL⟩
  | arr e sz cap n f => obtain ⟨b, cur, h1, h2, h3, h4, h5, h6, h7⟩ := hob; exact ⟨b, cur, h1, h2, by rw [hb b h2]; exact h3, h4, h5, h6, h7.mono hs hL⟩
  | mp t es => obtain ⟨r, ents, clock, h1, h2, h3, h4, h5⟩ := hob; exact ⟨r, ents, clock, h1, h2, by rw [hb r h2]; exact h3, h4, fun j k a en hj hk => ⟨(h5 j k a en hj hk).1, (h5 j k a en hj hk).2.mono hs hL⟩⟩
  | iter s pos => obtain ⟨b, h1, h2, h3⟩ := hob; exact ⟨b, h1, h2, by rw [hb b h2]; exact h3⟩
  | abs p => exact ⟨hob.1, hob.1.out _ _ _ _ _ _ hob.2 hs.m hb⟩
def Hp.more (h : Hp) (k : Nat) : Hp := ⟨h.m, h.n + k⟩
theorem sub_more (h : Hp) (k : Nat) : Sub h (h.more k) := ⟨fun _ _ e => e, Nat.le_add_right _ _⟩
theorem hp_new {h : Hp} {w : World} (hs : ∀ k o, h.m k = some o → w.heap[k]? = some o) {b : Nat} (hb : w.heap.size ≤ b) : h.m b = none := by
  cases hm : h.m b with
  | none => rfl
  | some o =>
    have := hs b o hm
    have := (Array.getElem?_eq_some_iff.1 this).1
    omega
section
variable {mine : Nat → Prop} {L : Nat → Value} {F : Nat → Nat → Prop} {h : Hp} {own : List (Option Ob)} {w w' : World}
theorem Mem.mine_mono {mine' : Nat → Prop} (hm : Mem mine L F h own w) (hb : ∀ b, footOf F own b → mine' b) : Mem mine' L F h own w :=
  ⟨hm.hn, hm.hsub, hm.obs, fun i ob b hi hF => ⟨(hm.foot i ob b hi hF).1, (hm.foot i ob b hi hF).2.1, hb b ⟨i, ob, hi, hF⟩⟩, hm.dis⟩
theorem set_none_get {i j : Nat} {oj : Ob} (hj : (own.set i none)[j]? = some (some oj)) : own[j]? = some (some oj) ∧ j ≠ i := by
  rw [List.getElem?_set] at hj
  split at hj
  · split at hj <;> cases hj
  · rename_i hne
    exact ⟨hj, fun e => hne e.symm⟩
/-- An object less. -/
theorem mem_drop (hm : Mem mine L F h own w) (i : Nat) : Mem mine L F h (own.set i none) w :=
  ⟨by rw [List.length_set]; exact hm.hn, hm.hsub, fun j oj hj => hm.obs j oj (set_none_get hj).1, fun j oj b hj => hm.foot j oj b (set_none_get hj).1, fun j k oj ok b hj hk => hm.dis j k oj ok b (set_none_get hj).1 (set_none_get hk).1⟩
/-- The world goes on, the objects' blocks as they were. -/
theorem mem_move (hm : Mem mine L F h own w) (hsz : w.heap.size ≤ w'.heap.size) (hw : ∀ k o, h.m k = some o → w'.heap[k]? = w.heap[k]?) (ho : ∀ b, footOf F own b → w'.heap[b]? = w.heap[b]?) : Mem mine L F h own w' :=
  ⟨hm.hn, fun k o hk => by rw [hw k o hk]; exact hm.hsub k o hk, fun i ob hi => obOk_move (hm.obs i ob hi) (fun b hb => ho b ⟨i, ob, hi, hb⟩) (fun _ _ => rfl) (Sub.refl h),
    fun i ob b hi hb => ⟨Nat.lt_of_lt_of_le (hm.foot i ob b hi hb).1 hsz, (hm.foot i ob b hi hb).2⟩, hm.dis⟩
/-- An object more. -/
theorem mem_push (hm : Mem mine L F h own w) {v : Value} {G : Nat → Prop} {ob : Ob} (hob : ObOk (upd L own.length v) (h.more 1) w v G ob) (hG : ∀ b, G b → b < w.heap.size ∧ h.m b = none ∧ mine b) (hd : ∀ b, G b → ¬ footOf F own b) :
    Mem mine (upd L own.length v) (upd F own.length G) (h.more 1) (own ++ [some ob]) w := by
  have hL : ∀ i, i < h.n → upd L own.length v i = L i := fun i hi => upd_lt (by have := hm.hn; omega)
  have key : ∀ i oi, (own ++ [some ob])[i]? = some (some oi) → (i < own.length ∧ own[i]? = some (some oi) ∧ upd L own.length v i = L i ∧ upd F own.length G i = F i) ∨ (i = own.length ∧ oi = ob ∧ upd L own.length v i = v ∧ upd F own.length G i = G) := by
    intro i oi hi
    rcases Nat.lt_trichotomy i own.length with hlt | heq | hgt
    · rw [List.getElem?_append_left hlt] at hi
      exact .inl ⟨hlt, hi, upd_lt hlt, upd_lt hlt⟩
    · subst heq
      rw [List.getElem?_append_right (Nat.le_refl _)] at hi
      simp at hi
      exact .inr ⟨rfl, hi.symm, upd_eq, upd_eq⟩
    · rw [List.getElem?_eq_none (by simp; omega)] at hi
      cases hi
  refine ⟨by simp [Hp.more, hm.hn], hm.hsub, fun i oi hi => ?_, fun i oi b hi hb => ?_, fun i j oi oj b hi hj hbi hbj => ?_⟩
  · rcases key i oi hi with ⟨hlt, hi', e, e'⟩ | ⟨rfl, rfl, e, e'⟩
    · rw [e, e']
      exact obOk_move (hm.obs i oi hi') (fun _ _ => rfl) hL (sub_more h 1)
    · rw [e, e']; exact hob
  · rcases key i oi hi with ⟨hlt, hi', e, e'⟩ | ⟨rfl, rfl, e, e'⟩
    · rw [e'] at hb; exact hm.foot i oi b hi' hb
    · rw [e'] at hb; exact hG b hb
  · rcases key i oi hi with ⟨hlt, hi', e, e'⟩ | ⟨rfl, rfl, e, e'⟩ <;> rcases key j oj hj with ⟨hlt', hj', k, k'⟩ | ⟨rfl, rfl, k, k'⟩
    · rw [e'] at hbi; rw [k'] at hbj; exact hm.dis i j oi oj b hi' hj' hbi hbj
    · rw [e'] at hbi; rw [k'] at hbj
      exact absurd ⟨i, oi, hi', hbi⟩ (hd b hbj)
    · rw [e'] at hbi; rw [k'] at hbj
      exact absurd ⟨j, oj, hj', hbj⟩ (hd b hbi)
    · rfl
/-- An own object's content goes on, in its place. -/
theorem mem_set (hm : Mem mine L F h own w) {i : Nat} {o ob : Ob} (hi : own[i]? = some (some o)) (hsz : w'.heap.size = w.heap.size) (hw : ∀ b, ¬ F i b → w'.heap[b]? = w.heap[b]?) (hob : ObOk L h w' (L i) (F i) ob) : Mem mine L F h (own.set i (some ob)) w' := by
  have hlt : i < own.length := (List.getElem?_eq_some_iff.1 hi).1
  have g : ∀ j oj, (own.set i (some ob))[j]? = some (some oj) → (j = i ∧ oj = ob) ∨ (j ≠ i ∧ own[j]? = some (some oj)) := fun j oj hj => by
    by_cases hne : j = i
    · subst hne
      rw [List.getElem?_set_self hlt] at hj
      simp only [Option.some.injEq] at hj
      exact .inl ⟨rfl, hj.symm⟩
    · rw [List.getElem?_set_ne (Ne.symm hne)] at hj; exact .inr ⟨hne, hj⟩
  have g' : ∀ j oj, (own.set i (some ob))[j]? = some (some oj) → ∃ oj', own[j]? = some (some oj') := fun j oj hj => by
    rcases g j oj hj with ⟨rfl, _⟩ | ⟨_, h1⟩
    · exact ⟨o, hi⟩
    · exact ⟨oj, h1⟩
  refine ⟨by rw [List.length_set]; exact hm.hn, fun k ok hk => ?_, fun j oj hj => ?_, fun j oj b hj hb => ?_, fun j k oj ok b hj hk hbj hbk => ?_⟩
  · rw [hw k (fun hF => by have := (hm.foot i o k hi hF).2.1; rw [this] at hk; cases hk)]
    exact hm.hsub k ok hk
  · rcases g j oj hj with ⟨rfl, rfl⟩ | ⟨hne, h1⟩
    · exact hob
    · exact obOk_move (hm.obs j oj h1) (fun b hb => hw b (fun hF => hne (hm.dis j i oj o b h1 hi hb hF))) (fun _ _ => rfl) (Sub.refl h)
  · obtain ⟨oj', h1⟩ := g' j oj hj
    rw [hsz]
    exact hm.foot j oj' b h1 hb
  · obtain ⟨oj', h1⟩ := g' j oj hj
    obtain ⟨ok', h2⟩ := g' k ok hk
    exact hm.dis j k oj' ok' b h1 h2 hbj hbk
end
structure TI where
  size : Nat
  agg : Bool
  desc : TypeDesc
  zero : Value
  bytes : Nat
  held : Bool
  g : Bool
  cmp : Bool
structure TF (P : Program) (t : TypeId) (i : TI) : Prop where
  size : ∀ w, (Go.sizeOf t).run P w = .ok i.size w
  agg : ∀ w, (isAgg t).run P w = .ok i.agg w
  und : P.underlying t = some i.desc
  zero : ∀ w, (zeroValue t).run P w = .ok i.zero w
  info : (P.info? t).map (fun x => (x.zero, x.size, x.bytes)) = some (some i.zero, i.size, i.bytes)
  held : P.stoodInHeld t = i.held
  g : P.eqGuardType P.depth t = i.g
  cmp : (P.info? t).map (·.comparable) = some i.cmp
abbrev TT := List (Nat × TI)
def TTok (P : Program) (T : TT) : Prop := ∀ t i, T.lookup t = some i → TF P t i
theorem TTok.nil {P : Program} : TTok P [] := fun t i h => by simp at h
theorem TTok.cons {P : Program} {T : TT} {t : Nat} {i : TI} (h : TF P t i) (k : TTok P T) : TTok P ((t, i) :: T) := by
  intro t' i' hl
  rw [List.lookup_cons] at hl
  by_cases e : t' = t
  · subst e; simp at hl; subst hl; exact h
  · have e' : (t' == t) = false := by simpa using e
    rw [e'] at hl
    exact k t' i' hl

/-! ### What makes a reckoning tell its values whole -/
def forceN : Nat → (Nat → Prop) → Prop
  | 0, K => K 0
  | n + 1, K => forceN n (fun k => K (k + 1))
def forceL {α : Type} : List α → (List α → Prop) → Prop
  | [], K => K []
  | x :: r, K => forceL r (fun r' => K (x :: r'))
theorem forceN_eq : ∀ (n : Nat) (K : Nat → Prop), forceN n K = K n
  | 0, K => rfl
  | n + 1, K => by rw [forceN, forceN_eq n]
theorem forceL_eq {α : Type} : ∀ (l : List α) (K : List α → Prop), forceL l K = K l
  | [], K => rfl
  | x :: r, K => by rw [forceL, forceL_eq r]
def forceC (c : IC) (K : IC → Prop) : Prop :=
  match c with
  | .own i off => forceN i fun i => forceN off fun off => K (.own i off)
  | .row i => forceN i fun i => K (.row i)
  | .mp i => forceN i fun i => K (.mp i)
  | .rel i sz k off => forceN i fun i => forceN off fun off => K (.rel i sz k off)
  | .view i sz k n c => forceN i fun i => K (.view i sz k n c)
  | .fn f cs => forceL cs fun cs => K (.fn f cs)
  | .fp cs => forceL cs fun cs => K (.fp cs)
  | .ifc t c => K (.ifc t c)
  | .any => K .any
  | .v x => K (.v x)
  | .sl sz n f => K (.sl sz n f)
theorem forceC_eq (c : IC) (K : IC → Prop) : forceC c K = K c := by cases c <;> simp only [forceC, forceN_eq, forceL_eq]
def forceA (a : AV) (K : AV → Prop) : Prop :=
  match a with
  | .c x => forceC x fun x => K (.c x)
  | .agg xs => forceL xs fun xs => K (.agg xs)
  | .tup as => forceL as fun as => K (.tup as)
  | .top => K .top
theorem forceA_eq (a : AV) (K : AV → Prop) : forceA a K = K a := by cases a <;> simp only [forceA, forceC_eq, forceL_eq]
/-- If p, which is decided by reckoning, then x. -/
def ifD (p : Prop) [d : Decidable p] (x : Prop) : Prop :=
  match decide p with
  | true => x
  | false => False
theorem ifD_and {p : Prop} [d : Decidable p] {x : Prop} (h : ifD p x) : p ∧ x := by
  unfold ifD at h
  split at h
  · rename_i e; exact ⟨of_decide_eq_true e, h⟩
  · exact h.elim
/-- What is loaded of these cells at type t. -/
def ldP (T : TT) (t : TypeId) (cs : List IC) (K : AV → Prop) : Prop :=
  match T.lookup t with
  | some ti => match ti.agg with
    | true => ifD (ti.size ≤ cs.length) (K (.agg (cs.take ti.size)))
    | false => match cs with
      | c :: _ => K (.c c)
      | [] => False
  | none => False
def fieldOff (T : TT) (s : TypeId) (i : Nat) : Option Nat :=
  match T.lookup s with
  | some ti => match ti.desc with
    | .struct fs => match fs[i]? with
      | some f => match T.lookup f.type with
        | some tf => if tf.size = 0 then none else some f.offset
        | none => none
      | none => none
    | _ => none
  | none => none

/-! ### '==' -/
def partOf (T : TT) (t : TypeId) (cs : Array Value) (off : Nat) : Option Value :=
  match T.lookup t with
  | some ti => if ti.agg = true then some (.agg (cs.extract off (off + ti.size))) else cs[off]?
  | none => none
theorem partOf_ok {P : Program} {T : TT} (hT : TTok P T) {t : TypeId} {cs : Array Value} {off : Nat} {v : Value} (h : partOf T t cs off = some v) (w : World) : (part t cs off).run P w = .ok v w := by
  unfold partOf at h
  split at h
  · rename_i ti hl
    have hf := hT _ _ hl
    unfold part
    simp only [Sem.run_bind, hf.agg, Result.andThen_ok]
    split at h
    · rename_i ha
      cases h
      simp [ha, hf.size]
    · rename_i ha
      simp [ha, h]
  · cases h
def eqF (T : TT) (E : TypeId → Value → Value → Option Bool) (xs ys : Array Value) : List Field → Option Bool
  | [] => some true
  | f :: fs => if f.name ≠ "_" then match partOf T f.type xs f.offset, partOf T f.type ys f.offset with
      | some a, some b => match E f.type a b, eqF T E xs ys fs with
        | some r, some s => some (r && s)
        | _, _ => none
      | _, _ => none
    else eqF T E xs ys fs
/-- One level: of a type's shape. -/
def eq1 (T : TT) (E : TypeId → Value → Value → Option Bool) (ti : TI) (x y : Value) : Option Bool :=
  match ti.desc with
      | .bool => match x, y with | .bool a, .bool b => some (a == b) | _, _ => none
      | .int _ => match x, y with | .int k a, .int k' b => if k = k' then some (a == b) else none | _, _ => none
      | .string => match x, y with | .string a, .string b => some (a == b) | _, _ => none
      | .pointer _ => match x, y with
        | .pointer none, .pointer b => some b.isNone
        | .pointer (some _), .pointer none => some false
        | _, _ => none
      | .interface _ => match x, y with
        | .nilIface, .nilIface => some true
        | .nilIface, .iface _ _ => some false
        | .iface _ _, .nilIface => some false
        | .iface tx vx, .iface ty vy => if tx = ty then (match T.lookup tx with
          | some tj => if tj.cmp = true then E tx vx vy else none
          | none => none) else some false
        | _, _ => none
      | .struct fs => match x, y with
        | .agg xs, .agg ys => if ti.held = false then eqF T E xs ys fs.toList else none
        | _, _ => none
      | .slice _ => match x, y with
        | .slice none _ _, .slice b _ _ => some b.isNone
        | .slice (some _) _ _, .slice none _ _ => some false
        | _, _ => none
      | _ => none
def eqV (T : TT) : Nat → TypeId → Value → Value → Option Bool
  | 0, _, _, _ => none
  | d + 1, t, x, y => match T.lookup t with
    | none => none
    | some ti => eq1 T (eqV T d) ti x y
section
variable {P : Program} {T : TT}
theorem eqF_ok (hT : TTok P T) {E : TypeId → Value → Value → Option Bool} {d : Nat} (hE : ∀ t x y r w, E t x y = some r → (Op.equalIn d t x y).run P w = .ok r w) (xs ys : Array Value) : ∀ (fs : List Field) (r : Bool) (w : World), eqF T E xs ys fs = some r → (Op.eqFields d xs ys fs).run P w = .ok r w
  | [], r, w, h => by simp [eqF] at h; subst h; simp [Op.eqFields]
  | f :: fs, r, w, h => by
    unfold eqF at h
    split at h
    · rename_i hn
      split at h
      · rename_i a b ha hb
        split at h
        · rename_i r1 s1 h1 h2
          cases h
          have i1 := hE _ _ _ _ w h1
          have i2 := eqF_ok hT hE xs ys fs _ w h2
          simp only [Op.eqFields, if_pos hn, Sem.run_bind, partOf_ok hT ha, partOf_ok hT hb, i1, Result.andThen_ok]
          cases r1
          · simp
          · simpa using i2
        · cases h
      · cases h
    · rename_i hn
      have i2 := eqF_ok hT hE xs ys fs _ w h
      rw [Op.eqFields, if_neg hn]
      exact i2
theorem eq1_ok (hT : TTok P T) {E : TypeId → Value → Value → Option Bool} {d : Nat} (hE : ∀ t x y r w, E t x y = some r → (Op.equalIn d t x y).run P w = .ok r w) {t : TypeId} {ti : TI} (hf : TF P t ti) {x y : Value} {r : Bool} (w : World)
    (h : eq1 T E ti x y = some r) : (Op.equalIn (d + 1) t x y).run P w = .ok r w := by
  have hu := hf.und
  have hh := hf.held
  clear hf
  unfold eq1 at h
  generalize ti.desc = D at *
  cases D <;> simp only [] at h <;> try (cases h; done)
  case bool => split at h <;> first | (cases h; simp [Op.equalIn, run_underlying hu]; done) | cases h
  case int k => split at h <;> first | (split at h <;> first | (cases h; simp [Op.equalIn, run_underlying hu, *]; done) | cases h) | cases h
  case string => split at h <;> first | (cases h; simp [Op.equalIn, run_underlying hu]; done) | cases h
  case pointer => split at h <;> first | (cases h; simp [Op.equalIn, run_underlying hu]; done) | cases h
  case slice => split at h <;> first | (cases h; simp [Op.equalIn, run_underlying hu]; done) | cases h
  case struct fs =>
    split at h
    · split at h
      · rename_i h2
        have hp : P.fieldsOf t = fs := by simp [Program.fieldsOf, hu]
        rw [run_equalIn_struct (P := P) w d t _ _ (by rw [hp]; exact hu) (by rw [hh]; exact h2), hp]
        exact eqF_ok hT hE _ _ _ r w h
      · cases h
    · cases h
  case interface ms =>
    split at h
    · cases h; simp [Op.equalIn, run_underlying hu]
    · cases h; simp [Op.equalIn, run_underlying hu]
    · cases h; simp [Op.equalIn, run_underlying hu]
    · rename_i tx vx ty vy
      split at h
      · rename_i he
        subst he
        split at h
        · rename_i tj hl2
          split at h
          · rename_i hc
            have hj := (hT _ _ hl2).cmp
            have ih := hE _ _ _ r w h
            cases hi : P.info? tx with
            | none => rw [hi] at hj; cases hj
            | some info =>
              rw [hi] at hj
              simp only [Option.map_some, Option.some.injEq] at hj
              simp [Op.equalIn, run_underlying hu, typeInfo, hi, hj, hc, ih]
          · cases h
        · cases h
      · rename_i he
        cases h
        simp [Op.equalIn, run_underlying hu, he]
    · cases h
theorem eqV_ok (hT : TTok P T) : ∀ (d : Nat) (t : TypeId) (x y : Value) (r : Bool) (w : World), eqV T d t x y = some r → (Op.equalIn d t x y).run P w = .ok r w
  | 0, t, x, y, r, w, h => by simp [eqV] at h
  | d + 1, t, x, y, r, w, h => by
    unfold eqV at h
    split at h
    · cases h
    · rename_i ti hl
      exact eq1_ok hT (fun t x y r w h => eqV_ok hT d t x y r w h) (hT _ _ hl) w h
end
end Go.Eng
