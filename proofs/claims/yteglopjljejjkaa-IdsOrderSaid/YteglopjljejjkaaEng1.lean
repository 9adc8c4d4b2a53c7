/- A part of the proof: what the functions of the program come to, told by a small reckoner of states. -/
import Derived.Below
import Derived.WalkKit
import Derived.Deep.Quiet
import Derived.WideLaws
import Derived.LaidEql
import Derived.Laws.Rows
set_option linter.unusedVariables false
set_option linter.unusedSimpArgs false
namespace Go.Eng
open Go Go.RowKit

/-- What stays (blocks whose content is known and never written), and how many own objects there are. -/
structure Hp where
  m : Nat → Option Obj
  n : Nat

inductive Cell where
  | v (x : Value)
  | own (i off : Nat)
  | row (i : Nat)
  | sl (s : Value) (sz n : Nat) (f : Nat → List Cell)
  | el (s : Value) (sz n : Nat) (f : Nat → List Cell) (k off : Nat)
  | rel (i sz k off : Nat)

def ptrAt : Value → Nat → Value
  | .pointer (some a), off => .pointer (some (a.add off))
  | _, _ => undef
def elAt : Value → Nat → Value
  | .slice (some a) _ _, j => .pointer (some (a.add j))
  | _, _ => undef
def denC (L : Nat → Value) : Cell → Value
  | .v x => x
  | .own i off => ptrAt (L i) off
  | .row i => L i
  | .sl s _ _ _ => s
  | .el s sz _ _ k off => elAt s (k * sz + off)
  | .rel i sz k off => elAt (L i) (k * sz + off)
def Closed : Cell → Prop
  | .v _ => True
  | .sl _ _ _ _ => True
  | _ => False
theorem denC_closed {c : Cell} (h : Closed c) (L L' : Nat → Value) : denC L c = denC L' c := by
  cases c <;> simp_all [Closed, denC]
def denI (c : Cell) : Value := denC (fun _ => undef) c

inductive AV where
  | c (x : Cell)
  | agg (xs : List Cell)
  | tup (xs : List AV)
def den1 (L : Nat → Value) : AV → Value
  | .c x => denC L x
  | .agg xs => .agg (xs.map (denC L)).toArray
  | .tup _ => undef
def den (L : Nat → Value) : AV → Value
  | .tup xs => .tuple (xs.map (den1 L)).toArray
  | a => den1 L a

/-- The cells of h that lie from address a on. -/
def hcell (h : Hp) (a : Addr) : Option Value :=
  match h.m a.block with
  | some (.cells c _ _) => if a.spot.isSome then none else c[a.off]?
  | _ => none
theorem hcell_cell {h : Hp} {w : World} (hs : ∀ k o, h.m k = some o → w.heap[k]? = some o) {a : Addr} {v : Value} (hc : hcell h a = some v) : w.cell? a = some v := by
  unfold hcell at hc
  unfold World.cell?
  cases hb : h.m a.block with
  | none => simp [hb] at hc
  | some o => rw [hs _ _ hb]; rw [hb] at hc; exact hc

/-- A slice value that reads, in h, as n elements of sz cells each. -/
structure SlAt (h : Hp) (s : Value) (sz n : Nat) (g : Nat → List Value) : Prop where
  mk_ : ∃ A c, s = .slice A n c ∧ n ≤ c ∧ n ≤ 9223372036854775807 ∧ (0 < n → ∃ ad, A = some ad ∧ ∀ k, k < n → ∀ j u, (g k)[j]? = some u → hcell h (ad.add (k * sz + j)) = some u)
  len : ∀ k, k < n → (g k).length = sz

inductive OkC (h : Hp) : Cell → Prop
  | v (x : Value) (h1 : x.oneCell' = true) : OkC h (.v x)
  | own (i off : Nat) (h1 : i < h.n) : OkC h (.own i off)
  | row (i : Nat) (h1 : i < h.n) : OkC h (.row i)
  | rel (i sz k off : Nat) (h1 : i < h.n) : OkC h (.rel i sz k off)
  | sl (s : Value) (sz n : Nat) (f : Nat → List Cell) (h1 : SlAt h s sz n (fun k => (f k).map denI)) (hc : ∀ k, k < n → ∀ c, c ∈ f k → Closed c) (h2 : ∀ k, k < n → ∀ c, c ∈ f k → OkC h c) : OkC h (.sl s sz n f)
  | el (s : Value) (sz n : Nat) (f : Nat → List Cell) (k off : Nat) (h0 : k < n) (h1 : SlAt h s sz n (fun k => (f k).map denI)) (hc : ∀ k, k < n → ∀ c, c ∈ f k → Closed c) (h2 : ∀ k, k < n → ∀ c, c ∈ f k → OkC h c) : OkC h (.el s sz n f k off)

structure Sub (h h' : Hp) : Prop where
  m : ∀ k o, h.m k = some o → h'.m k = some o
  n : h.n ≤ h'.n
theorem Sub.refl (h : Hp) : Sub h h := ⟨fun _ _ e => e, Nat.le_refl _⟩
theorem Sub.trans {a b c : Hp} (h : Sub a b) (k : Sub b c) : Sub a c := ⟨fun i o e => k.m i o (h.m i o e), Nat.le_trans h.n k.n⟩
theorem hcell_sub {h h' : Hp} (hs : Sub h h') {a : Addr} {v : Value} (hc : hcell h a = some v) : hcell h' a = some v := by
  unfold hcell at *
  cases hb : h.m a.block with
  | none => simp [hb] at hc
  | some o => rw [hs.m _ _ hb]; rw [hb] at hc; exact hc
theorem SlAt.sub {h h' : Hp} (hs : Sub h h') {s : Value} {sz n : Nat} {g : Nat → List Value} (k : SlAt h s sz n g) : SlAt h' s sz n g := by
  obtain ⟨⟨A, c, e, hc, hm, hr⟩, hl⟩ := k
  refine ⟨⟨A, c, e, hc, hm, fun hp => ?_⟩, hl⟩
  obtain ⟨ad, ha, hr⟩ := hr hp
  exact ⟨ad, ha, fun k hk j u hj => hcell_sub hs (hr k hk j u hj)⟩
theorem OkC.sub {h h' : Hp} (hs : Sub h h') {c : Cell} (k : OkC h c) : OkC h' c := by
  induction k with
  | v x h1 => exact .v x h1
  | own i off h1 => exact .own i off (Nat.lt_of_lt_of_le h1 hs.n)
  | row i h1 => exact .row i (Nat.lt_of_lt_of_le h1 hs.n)
  | rel i sz k off h1 => exact .rel i sz k off (Nat.lt_of_lt_of_le h1 hs.n)
  | sl s sz n f h1 hc h2 ih => exact .sl s sz n f (h1.sub hs) hc ih
  | el s sz n f k off h0 h1 hc h2 ih => exact .el s sz n f k off h0 (h1.sub hs) hc ih
def OkA (h : Hp) : AV → Prop
  | .c x => OkC h x
  | .agg xs => ∀ x, x ∈ xs → OkC h x
  | .tup as => ∀ a, a ∈ as → match a with
    | .c x => OkC h x
    | .agg xs => ∀ x, x ∈ xs → OkC h x
    | .tup _ => True
theorem OkA.sub {h h' : Hp} (hs : Sub h h') {a : AV} (k : OkA h a) : OkA h' a := by
  cases a with
  | c x => exact OkC.sub hs k
  | agg xs => exact fun x hx => OkC.sub hs (k x hx)
  | tup as =>
    intro a ha
    have := k a ha
    cases a with
    | c x => exact OkC.sub hs this
    | agg xs => exact fun x hx => OkC.sub hs (this x hx)
    | tup _ => trivial

inductive Ob where
  | cells (t : TypeId) (cs : List Cell)
  | row (e : TypeId) (sz : Nat) (xs : List (List Cell))

def blk : Value → Option Nat
  | .pointer (some a) => some a.block
  | .slice (some a) _ _ => some a.block
  | _ => none

/-- Own object: at v; in blocks that 'mine' lets. -/
def ObOk (mine : Nat → Prop) (L : Nat → Value) (h : Hp) (w : World) (v : Value) : Ob → Prop
  | .cells t cs => (∃ b, v = .pointer (some ⟨b, 0, none⟩) ∧ w.heap[b]? = some (.cells (cs.map (denC L)).toArray t (0, 0)) ∧ h.m b = none ∧ mine b) ∧ (∀ c, c ∈ cs → OkC h c)
  | .row e sz xs => w.ownsRow 0 e sz v xs.length (xs.flatten.map (denC L)) ∧ (∀ b, blk v = some b → h.m b = none ∧ mine b) ∧ ∀ x, x ∈ xs → x.length = sz ∧ ∀ c, c ∈ x → Closed c ∧ OkC h c

structure Mem (mine : Nat → Prop) (L : Nat → Value) (h : Hp) (own : List (Option Ob)) (w : World) : Prop where
  hn : h.n = own.length
  hsub : ∀ k o, h.m k = some o → w.heap[k]? = some o
  obs : ∀ i ob, own[i]? = some (some ob) → ObOk mine L h w (L i) ob
  dis : ∀ i j oi oj b, own[i]? = some (some oi) → own[j]? = some (some oj) → blk (L i) = some b → blk (L j) = some b → i = j

/-- n: how many slots; k: how many of the own objects came in. -/
structure St where
  n : Nat
  k : Nat
  env : List (Nat × AV)
  own : List (Option Ob)

structure Agree (L : Nat → Value) (h : Hp) (st : St) (a : Act) : Prop where
  size : a.tmps.size = st.n
  env : ∀ t av, st.env.lookup t = some av → a.tmps.getD t undef = den L av ∧ OkA h av
  defers : a.defers = []

/-- What was there when the call began, but for the blocks in 'may', is as it was. -/
structure Keep (may : Nat → Prop) (w0 w : World) : Prop where
  os : w.os = w0.os
  tape : w.tape = w0.tape
  output : w.output = w0.output
  size : w0.heap.size ≤ w.heap.size
  block : ∀ k, k < w0.heap.size → ¬ may k → w.heap[k]? = w0.heap[k]?

def mineOf (may : Nat → Prop) (w0 : World) (b : Nat) : Prop := may b ∨ w0.heap.size ≤ b

/-- What a call found: what stays, and where its own objects lie. -/
structure Base where
  h : Hp
  L : Nat → Value
structure SubB (b : Base) (k : Nat) (L : Nat → Value) (h : Hp) : Prop where
  sub : Sub b.h h
  at_ : ∀ i, i < b.h.n → L i = b.L i
  kk : k = b.h.n
theorem SubB.step {b : Base} {k : Nat} {L L' : Nat → Value} {h h' : Hp} (s : SubB b k L h) (hL : ∀ i, i < h.n → L' i = L i) (hs : Sub h h') : SubB b k L' h' :=
  ⟨s.sub.trans hs, fun i hi => (hL i (Nat.lt_of_lt_of_le hi s.sub.n)).trans (s.at_ i hi), s.kk⟩
structure Sat (may : Nat → Prop) (w0 : World) (h0 : Base) (st : St) (a : Act) (w : World) : Prop where
  ex : ∃ L h, Mem (mineOf may w0) L h st.own w ∧ Agree L h st a ∧ SubB h0 st.k L h ∧ (∀ k, h.m k ≠ none → h0.h.m k ≠ none ∨ mineOf may w0 k)
  keep : Keep may w0 w

def ev (st : St) : Operand → Option AV
  | .tmp t => st.env.lookup t
  | .const v => if v.oneCell' = true then some (.c (.v v)) else none
  | .global g => some (.c (.v (.pointer (some ⟨g, 0, none⟩))))
  | .func f => some (.c (.v (.func (.func f) #[] #[])))
theorem ev_eval {L : Nat → Value} {h : Hp} {st : St} {a : Act} (ha : Agree L h st a) {x : Operand} {av : AV} (hx : ev st x = some av) : a.eval x = den L av ∧ OkA h av := by
  cases x with
  | tmp t => exact ha.env t av hx
  | const v =>
    simp only [ev] at hx
    split at hx
    · rename_i h1; cases hx; exact ⟨rfl, OkC.v _ h1⟩
    · cases hx
  | global g => cases hx; exact ⟨rfl, OkC.v _ rfl⟩
  | func f => cases hx; exact ⟨rfl, OkC.v _ rfl⟩
def St.put (st : St) (d : Option Nat) (av : AV) : St :=
  match d with
  | some d => { st with env := (d, av) :: st.env }
  | none => st
theorem agree_put {L : Nat → Value} {h : Hp} {st : St} {a : Act} (ha : Agree L h st a) {d : Nat} (hd : d < st.n) {av : AV} (hok : OkA h av) : Agree L h (st.put (some d) av) (a.put (some d) (den L av)) := by
  refine ⟨by simp [Act.put, St.put, ha.size], fun t av' ht => ?_, ha.defers⟩
  simp only [St.put, List.lookup_cons] at ht
  by_cases e : t = d
  · subst e
    simp at ht
    subst ht
    refine ⟨?_, hok⟩
    simp [Act.put, ha.size, hd]
  · have e' : (t == d) = false := by simpa using e
    rw [e'] at ht
    obtain ⟨h1, h2⟩ := ha.env t av' ht
    refine ⟨?_, h2⟩
    rw [← h1]
    simp [Act.put, Array.getD_eq_getD_getElem?, Array.getElem?_setIfInBounds, Ne.symm e]

structure TI where
  size : Nat
  agg : Bool
  desc : TypeDesc
  zero : Value
  bytes : Nat
  held : Bool
  g : Bool
  cmp : Bool
structure TF (P : Program) (t : TypeId) (i : TI) : Prop where
  size : ∀ w, (Go.sizeOf t).run P w = .ok i.size w
  agg : ∀ w, (isAgg t).run P w = .ok i.agg w
  und : P.underlying t = some i.desc
  zero : ∀ w, (zeroValue t).run P w = .ok i.zero w
  info : (P.info? t).map (fun x => (x.zero, x.size, x.bytes)) = some (some i.zero, i.size, i.bytes)
  held : P.stoodInHeld t = i.held
  g : P.eqGuardType P.depth t = i.g
  cmp : (P.info? t).map (·.comparable) = some i.cmp
abbrev TT := List (Nat × TI)
def TTok (P : Program) (T : TT) : Prop := ∀ t i, T.lookup t = some i → TF P t i
theorem TTok.nil {P : Program} : TTok P [] := fun t i h => by simp at h
theorem TTok.cons {P : Program} {T : TT} {t : Nat} {i : TI} (h : TF P t i) (k : TTok P T) : TTok P ((t, i) :: T) := by
  intro t' i' hl
  rw [List.lookup_cons] at hl
  by_cases e : t' = t
  · subst e; simp at hl; subst hl; exact h
  · have e' : (t' == t) = false := by simpa using e
    rw [e'] at hl
    exact k t' i' hl

/-! ### What makes a reckoning tell its values whole -/
def forceN : Nat → (Nat → Prop) → Prop
  | 0, K => K 0
  | n + 1, K => forceN n (fun k => K (k + 1))
def forceL {α : Type} : List α → (List α → Prop) → Prop
  | [], K => K []
  | x :: r, K => forceL r (fun r' => K (x :: r'))
theorem forceN_eq : ∀ (n : Nat) (K : Nat → Prop), forceN n K = K n
  | 0, K => rfl
  | n + 1, K => by rw [forceN, forceN_eq n]
theorem forceL_eq {α : Type} : ∀ (l : List α) (K : List α → Prop), forceL l K = K l
  | [], K => rfl
  | x :: r, K => by rw [forceL, forceL_eq r]
def forceC (c : Cell) (K : Cell → Prop) : Prop :=
  match c with
  | .own i off => forceN i fun i => forceN off fun off => K (.own i off)
  | .row i => forceN i fun i => K (.row i)
  | .el s sz n f k off => forceN off fun off => K (.el s sz n f k off)
  | .rel i sz k off => forceN i fun i => forceN off fun off => K (.rel i sz k off)
  | .v x => K (.v x)
  | .sl s sz n f => K (.sl s sz n f)
theorem forceC_eq (c : Cell) (K : Cell → Prop) : forceC c K = K c := by cases c <;> simp only [forceC, forceN_eq]
def forceA (a : AV) (K : AV → Prop) : Prop :=
  match a with
  | .c x => forceC x fun x => K (.c x)
  | .agg xs => forceL xs fun xs => K (.agg xs)
  | .tup as => forceL as fun as => K (.tup as)
theorem forceA_eq (a : AV) (K : AV → Prop) : forceA a K = K a := by cases a <;> simp only [forceA, forceC_eq, forceL_eq]
/-- If p, which is decided by reckoning, then x. -/
def ifD (p : Prop) [d : Decidable p] (x : Prop) : Prop :=
  match decide p with
  | true => x
  | false => False
theorem ifD_and {p : Prop} [d : Decidable p] {x : Prop} (h : ifD p x) : p ∧ x := by
  unfold ifD at h
  split at h
  · rename_i e; exact ⟨of_decide_eq_true e, h⟩
  · exact h.elim
/-- What is loaded of these cells at type t. -/
def ldP (T : TT) (t : TypeId) (cs : List Cell) (K : AV → Prop) : Prop :=
  match T.lookup t with
  | some ti => match ti.agg with
    | true => ifD (ti.size ≤ cs.length) (K (.agg (cs.take ti.size)))
    | false => match cs with
      | c :: _ => K (.c c)
      | [] => False
  | none => False
def fieldOff (T : TT) (s : TypeId) (i : Nat) : Option Nat :=
  match T.lookup s with
  | some ti => match ti.desc with
    | .struct fs => match fs[i]? with
      | some f => match T.lookup f.type with
        | some tf => if tf.size = 0 then none else some f.offset
        | none => none
      | none => none
    | _ => none
  | none => none

/-! ### '==' -/
def partOf (T : TT) (t : TypeId) (cs : Array Value) (off : Nat) : Option Value :=
  match T.lookup t with
  | some ti => if ti.agg = true then some (.agg (cs.extract off (off + ti.size))) else cs[off]?
  | none => none
theorem partOf_ok {P : Program} {T : TT} (hT : TTok P T) {t : TypeId} {cs : Array Value} {off : Nat} {v : Value} (h : partOf T t cs off = some v) (w : World) : (part t cs off).run P w = .ok v w := by
  unfold partOf at h
  split at h
  · rename_i ti hl
    have hf := hT _ _ hl
    unfold part
    simp only [Sem.run_bind, hf.agg, Result.andThen_ok]
    split at h
    · rename_i ha
      cases h
      simp [ha, hf.size]
    · rename_i ha
      simp [ha, h]
  · cases h
def eqF (T : TT) (E : TypeId → Value → Value → Option Bool) (xs ys : Array Value) : List Field → Option Bool
  | [] => some true
  | f :: fs => if f.name ≠ "_" then match partOf T f.type xs f.offset, partOf T f.type ys f.offset with
      | some a, some b => match E f.type a b, eqF T E xs ys fs with
        | some r, some s => some (r && s)
        | _, _ => none
      | _, _ => none
    else eqF T E xs ys fs
/-- One level: of a type's shape. -/
def eq1 (T : TT) (E : TypeId → Value → Value → Option Bool) (ti : TI) (x y : Value) : Option Bool :=
  match ti.desc with
      | .bool => match x, y with | .bool a, .bool b => some (a == b) | _, _ => none
      | .int _ => match x, y with | .int k a, .int k' b => if k = k' then some (a == b) else none | _, _ => none
      | .string => match x, y with | .string a, .string b => some (a == b) | _, _ => none
      | .pointer _ => match x, y with
        | .pointer none, .pointer b => some b.isNone
        | .pointer (some _), .pointer none => some false
        | _, _ => none
      | .interface _ => match x, y with
        | .nilIface, .nilIface => some true
        | .nilIface, .iface _ _ => some false
        | .iface _ _, .nilIface => some false
        | .iface tx vx, .iface ty vy => if tx = ty then (match T.lookup tx with
          | some tj => if tj.cmp = true then E tx vx vy else none
          | none => none) else some false
        | _, _ => none
      | .struct fs => match x, y with
        | .agg xs, .agg ys => if ti.held = false then eqF T E xs ys fs.toList else none
        | _, _ => none
      | .slice _ => match x, y with
        | .slice none _ _, .slice b _ _ => some b.isNone
        | .slice (some _) _ _, .slice none _ _ => some false
        | _, _ => none
      | _ => none
def eqV (T : TT) : Nat → TypeId → Value → Value → Option Bool
  | 0, _, _, _ => none
  | d + 1, t, x, y => match T.lookup t with
    | none => none
    | some ti => eq1 T (eqV T d) ti x y
section
variable {P : Program} {T : TT}
theorem eqF_ok (hT : TTok P T) {E : TypeId → Value → Value → Option Bool} {d : Nat} (hE : ∀ t x y r w, E t x y = some r → (Op.equalIn d t x y).run P w = .ok r w) (xs ys : Array Value) : ∀ (fs : List Field) (r : Bool) (w : World), eqF T E xs ys fs = some r → (Op.eqFields d xs ys fs).run P w = .ok r w
  | [], r, w, h => by simp [eqF] at h; subst h; simp [Op.eqFields]
  | f :: fs, r, w, h => by
    unfold eqF at h
    split at h
    · rename_i hn
      split at h
      · rename_i a b ha hb
        split at h
        · rename_i r1 s1 h1 h2
          cases h
          have i1 := hE _ _ _ _ w h1
          have i2 := eqF_ok hT hE xs ys fs _ w h2
          simp only [Op.eqFields, if_pos hn, Sem.run_bind, partOf_ok hT ha, partOf_ok hT hb, i1, Result.andThen_ok]
          cases r1
          · simp
          · simpa using i2
        · cases h
      · cases h
    · rename_i hn
      have i2 := eqF_ok hT hE xs ys fs _ w h
      rw [Op.eqFields, if_neg hn]
      exact i2
theorem eq1_ok (hT : TTok P T) {E : TypeId → Value → Value → Option Bool} {d : Nat} (hE : ∀ t x y r w, E t x y = some r → (Op.equalIn d t x y).run P w = .ok r w) {t : TypeId} {ti : TI} (hf : TF P t ti) {x y : Value} {r : Bool} (w : World)
    (h : eq1 T E ti x y = some r) : (Op.equalIn (d + 1) t x y).run P w = .ok r w := by
  have hu := hf.und
  have hh := hf.held
  clear hf
  unfold eq1 at h
  generalize ti.desc = D at *
  cases D <;> simp only [] at h <;> try (cases h; done)
  case bool => split at h <;> first | (cases h; simp [Op.equalIn, run_underlying hu]; done) | cases h
  case int k => split at h <;> first | (split at h <;> first | (cases h; simp [Op.equalIn, run_underlying hu, *]; done) | cases h) | cases h
  case string => split at h <;> first | (cases h; simp [Op.equalIn, run_underlying hu]; done) | cases h
  case pointer => split at h <;> first | (cases h; simp [Op.equalIn, run_underlying hu]; done) | cases h
  case slice => split at h <;> first | (cases h; simp [Op.equalIn, run_underlying hu]; done) | cases h
  case struct fs =>
    split at h
    · split at h
      · rename_i h2
        have hp : P.fieldsOf t = fs := by simp [Program.fieldsOf, hu]
        rw [run_equalIn_struct (P := P) w d t _ _ (by rw [hp]; exact hu) (by rw [hh]; exact h2), hp]
        exact eqF_ok hT hE _ _ _ r w h
      · cases h
    · cases h
  case interface ms =>
    split at h
    · cases h; simp [Op.equalIn, run_underlying hu]
    · cases h; simp [Op.equalIn, run_underlying hu]
    · cases h; simp [Op.equalIn, run_underlying hu]
    · rename_i tx vx ty vy
      split at h
      · rename_i he
        subst he
        split at h
        · rename_i tj hl2
          split at h
          · rename_i hc
            have hj := (hT _ _ hl2).cmp
            have ih := hE _ _ _ r w h
            cases hi : P.info? tx with
            | none => rw [hi] at hj; cases hj
            | some info =>
              rw [hi] at hj
              simp only [Option.map_some, Option.some.injEq] at hj
              simp [Op.equalIn, run_underlying hu, typeInfo, hi, hj, hc, ih]
          · cases h
        · cases h
      · rename_i he
        cases h
        simp [Op.equalIn, run_underlying hu, he]
    · cases h
theorem eqV_ok (hT : TTok P T) : ∀ (d : Nat) (t : TypeId) (x y : Value) (r : Bool) (w : World), eqV T d t x y = some r → (Op.equalIn d t x y).run P w = .ok r w
  | 0, t, x, y, r, w, h => by simp [eqV] at h
  | d + 1, t, x, y, r, w, h => by
    unfold eqV at h
    split at h
    · cases h
    · rename_i ti hl
      exact eq1_ok hT (fun t x y r w h => eqV_ok hT d t x y r w h) (hT _ _ hl) w h
end
end Go.Eng
