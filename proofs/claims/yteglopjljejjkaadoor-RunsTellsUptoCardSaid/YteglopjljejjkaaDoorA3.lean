/- A part of the proof: what the functions of the program come to, told by a small reckoner of states. -/
import Derived.Test.YteglopjljejjkaaDoorA2
import Derived.Laws.BytesString
import Derived.Laws.Cover4
set_option linter.unusedVariables false
set_option linter.unusedSimpArgs false
namespace Go.Eng
open Go Go.RowKit

def idxOf (av : Option AV) : Option (IntKind × Int) := match av with | some (.c (.v (.int k j))) => some (k, j) | _ => none
def cellsOf : AV → Option (List IC)
  | .c x => some [x]
  | .agg xs => some xs
  | .tup _ => none
  | .top => none
/-- A struct put together: the parts in their places. -/
def fillC (T : TT) (fs : Array Field) : List IC → List (Nat × AV) → Option (List IC)
  | cs, [] => some cs
  | cs, (i, av) :: r => match fs[i]?, cellsOf av with
    | some f, some xs => match T.lookup f.type with
      | some tf => if xs.length = tf.size ∧ f.offset + xs.length ≤ cs.length then fillC T fs (cs.take f.offset ++ xs ++ cs.drop (f.offset + xs.length)) r else none
      | none => none
    | _, _ => none
def partsOf (st : St) : List (Nat × Operand) → Option (List (Nat × AV))
  | [] => some []
  | (i, x) :: r => match ev st x, partsOf st r with
    | some a, some l => some ((i, a) :: l)
    | _, _ => none
def buildP (T : TT) (st : St) (t : TypeId) (parts : List (Nat × Operand)) (K : AV → Prop) : Prop :=
  match T.lookup t, partsOf st parts with
  | some ti, some l => match ti.desc with
    | .struct fs => ifD (fs.toList.all (fun f => (T.lookup f.type).isSome) = true)
      (match fillC T fs (ti.zero.cells.toList.map IC.v) l with
        | some cs => ifD (ti.zero.cells.toList.all (·.oneCell') = true) (forceL cs fun cs => K (.agg cs))
        | none => False)
    | _ => False
  | _, _ => False
def maxI (a b : Int) : Int := if b > a then b else a
def minI (a b : Int) : Int := if b < a then b else a
def lenP (st : St) (av : Option AV) (K : AV → Prop) : Prop :=
  match av with
  | some (.c (.v (.slice a n c))) => n ≤ 9223372036854775807 ∧ K (.c (.v (.int .i64 n)))
  | some (.c (.sl sz n f)) => K (.c (.v (.int .i64 n)))
  | some (.c (.view i sz k n c)) => K (.c (.v (.int .i64 n)))
  | some (.c (.row i)) => match st.own[i]? with | some (some (.row e sz n f)) => K (.c (.v (.int .i64 n))) | _ => False
  | _ => False
def builtinP (T : TT) (st : St) (b : Builtin) (args : List Operand) (ts : List TypeId) (K : AV → Prop) : Prop :=
  match b, args, ts with
  | .len, [x], [t] => match T.lookup t with
    | some ti => match ti.desc with
      | .string => (match ev st x with | some (.c (.v (.string s))) => s.size ≤ 9223372036854775807 ∧ K (.c (.v (.int .i64 s.size))) | _ => False)
      | .slice _ => lenP st (ev st x) K
      | _ => False
    | none => False
  | .cap, [x], [t] => match T.lookup t with
    | some ti => match ti.desc with
      | .slice _ => (match ev st x with | some (.c (.view i sz k n c)) => K (.c (.v (.int .i64 c))) | _ => False)
      | _ => False
    | none => False
  | .max, [x, y], [_, _] => match ev st x, ev st y with
    | some (.c (.v (.int k a))), some (.c (.v (.int k' b))) => K (.c (.v (.int k (maxI a b))))
    | _, _ => False
  | .min, [x, y], [_, _] => match ev st x, ev st y with
    | some (.c (.v (.int k a))), some (.c (.v (.int k' b))) => K (.c (.v (.int k (minI a b))))
    | _, _ => False
  | _, _, _ => False
/-- Something beside nil, or beside another thing of which it is told apart. -/
inductive NilT where
  | never | mayBe (n : Nat) | no
def nilT (st : St) (T : TT) (t : TypeId) (a b : AV) : NilT :=
  match T.lookup t with
  | none => .no
  | some ti => match ti.desc, a, b with
    | .slice _, .c (.sl sz n f), .c (.v (.slice none 0 0)) => .mayBe n
    | .slice _, .c (.row i), .c (.v (.slice none 0 0)) => (match st.own[i]? with | some (some (.row e sz n f)) => .mayBe n | _ => .no)
    | .slice _, .c (.view i sz k n c), .c (.v (.slice none 0 0)) => .never
    | .pointer _, .c (.fp cs), .c (.v (.pointer none)) => .never
    | .pointer _, .c (.own i off), .c (.v (.pointer none)) => .never
    | .pointer _, .c (.rel i sz k off), .c (.v (.pointer none)) => .never
    | .interface _, .c (.ifc t c), .c (.v .nilIface) => .never
    | .interface _, .c (.ifc t c), .c (.v (.iface t' v)) => (match Nat.beq t t' with | false => .never | true => .no)
    | .func .., .c (.fn f cs), .c (.v .nilFunc) => .never
    | _, _, _ => .no
def nilP (op : BinOp) (r : NilT) (K : AV → Prop) : Prop :=
  match op, r with
  | .eql, .mayBe n => ∀ b : Bool, (b = true → n = 0) → K (.c (.v (.bool b)))
  | .neq, .mayBe n => ∀ b : Bool, (b = true → n = 0) → K (.c (.v (.bool (!b))))
  | .eql, .never => K (.c (.v (.bool false)))
  | .neq, .never => K (.c (.v (.bool true)))
  | _, _ => False
def bndOf (st : St) (x : Option Operand) (d : Int) : Option Int :=
  match x with
  | none => some d
  | some o => match idxOf (ev st o) with
    | some (_, j) => some j
    | none => none
/-- A part of a string, of a slice that stays, of an own array. -/
def sliceP (T : TT) (st : St) (t : TypeId) (x : Operand) (lo hi mx : Option Operand) (K : AV → Prop) : Prop :=
  match T.lookup t, ev st x with
    | some ti, some (.c (.v (.string s))) => (match ti.desc, bndOf st lo 0, bndOf st hi s.size, mx with
      | .string, some l, some h, none => (0 ≤ l ∧ l ≤ h ∧ h ≤ s.size) ∧ K (.c (.v (.string (s.extract l.toNat h.toNat))))
      | _, _, _, _ => False)
    | some ti, some (.c (.v (.slice none 0 0))) => (match ti.desc, bndOf st lo 0, bndOf st hi 0, bndOf st mx 0 with
      | .slice e, some l, some h, some m => (match hi.isNone && mx.isSome with | true => False | false => (match T.lookup e with | some te => (l = 0 ∧ h = 0 ∧ m = 0) ∧ K (.c (.v (.slice none 0 0))) | none => False))
      | _, _, _, _ => False)
    | some ti, some (.c (.sl sz n f)) => (match ti.desc, bndOf st lo 0, bndOf st hi n, bndOf st mx n with
      | .slice e, some l, some h, some m => (match hi.isNone && mx.isSome with | true => False | false => (match T.lookup e with
        | some te => ifD (te.size = sz) ((0 ≤ l ∧ l ≤ h ∧ h ≤ m ∧ m ≤ n) ∧ ∃ (n' : Nat) (f' : Nat → List IC), n' = h.toNat - l.toNat ∧ (∀ k, k < n' → f' k = f (l.toNat + k)) ∧ K (.c (.sl sz n' f')))
        | none => False))
      | _, _, _, _ => False)
    | some ti, some (.c (.view i sz k n c)) => (match ti.desc, bndOf st lo 0, bndOf st hi n, bndOf st mx c with
      | .slice e, some l, some h, some m => (match hi.isNone && mx.isSome with | true => False | false => (match T.lookup e with
        | some te => ifD (te.size = sz) ((0 ≤ l ∧ l ≤ h ∧ h ≤ m ∧ m ≤ c) ∧ K (.c (.view i sz (k + l.toNat) (h.toNat - l.toNat) (m.toNat - l.toNat))))
        | none => False))
      | _, _, _, _ => False)
    | _, _ => False
/-- What is read at the cells cs, of type t. -/
def strOfSl (K : AV → Prop) (rune : Bool) (n : Nat) (f : Nat → List IC) : Prop :=
  match rune with
  | true => ∃ l : List Int, l.length = n ∧ (∀ k, k < n → f k = [.v (.int .i32 (l.getD k 0))]) ∧ K (.c (.v (.string (runesBytes l))))
  | false => ∃ l : List UInt8, l.length = n ∧ (∀ k, k < n → f k = [.v (.int .u8 ((l.getD k 0).toNat : Int))]) ∧ K (.c (.v (.string ⟨l.toArray⟩)))
def convP (T : TT) (st : St) (ts td : TI) (a : AV) (K : AV → Prop) : Prop :=
  match td.desc, a with
  | .int k', .c (.v (.int k n)) => K (.c (.v (.int k' (k'.wrap n))))
  | .string, .c (.v (.int k n)) => K (.c (.v (.string (Utf8.encode n))))
  | .string, .c (.v (.string s)) => K (.c (.v (.string s)))
  | .string, .c (.v (.slice none 0 0)) => (match ts.desc with
    | .slice e => (match T.lookup e with
      | some te => (match te.desc with | .int .u8 => K (.c (.v (.string .empty))) | .int .i32 => K (.c (.v (.string .empty))) | _ => False)
      | none => False)
    | _ => False)
  | .string, .c (.sl sz n f) => (match ts.desc with
    | .slice e => (match T.lookup e with
      | some te => (match te.desc with | .int .u8 => ifD (sz = 1) (strOfSl K false n f) | .int .i32 => ifD (sz = 1) (strOfSl K true n f) | _ => False)
      | none => False)
    | _ => False)
  | .string, .c (.row i) => (match ts.desc, st.own[i]? with
    | .slice e, some (some (.row _ sz n f)) => (match T.lookup e with
      | some te => (match te.desc with | .int .u8 => ifD (sz = 1) (strOfSl K false n f) | .int .i32 => ifD (sz = 1) (strOfSl K true n f) | _ => False)
      | none => False)
    | _, _ => False)
  | _, _ => False
def assertP (T : TT) (st : St) (a : AV) (xt t : TypeId) (commaOk : Bool) (K : AV → Prop) : Prop :=
  match T.lookup t with
  | some ti => match ti.desc with
    | .interface _ => False
    | _ => match commaOk, a with
      | true, .c (.v .nilIface) => (match ti.zero with | .agg _ => False | z => ifD (z.oneCell' = true) (K (.tup [.c (.v z), .c (.v (.bool false))])))
      | true, .c (.v (.iface t' v)) => (match Nat.beq t' t with
        | true => (match v with | .agg _ => False | v => ifD (v.oneCell' = true) (K (.tup [.c (.v v), .c (.v (.bool true))])))
        | false => (match ti.zero with | .agg _ => False | z => ifD (z.oneCell' = true) (K (.tup [.c (.v z), .c (.v (.bool false))]))))
      | true, .c (.ifc t' c) => (match Nat.beq t' t with
        | true => K (.tup [.c c, .c (.v (.bool true))])
        | false => (match ti.zero with | .agg _ => False | z => ifD (z.oneCell' = true) (K (.tup [.c (.v z), .c (.v (.bool false))]))))
      | false, .c (.v (.iface t' v)) => (match Nat.beq t' t with | true => (match v with | .agg _ => False | v => ifD (v.oneCell' = true) (K (.c (.v v)))) | false => False)
      | false, .c (.ifc t' c) => (match Nat.beq t' t with | true => K (.c c) | false => False)
      | _, _ => False
  | none => False
def capsOf (st : St) : List Operand → Option (List (Bool × List IC))
  | [] => some []
  | x :: r => match ev st x, capsOf st r with
    | some (.c c), some l => some ((false, [c]) :: l)
    | some (.agg cs), some l => some ((true, cs) :: l)
    | _, _ => none
/-- What is loaded through a cell. -/
def loadP (T : TT) (st : St) (t : TypeId) (c : IC) (K : AV → Prop) : Prop := match c with
    | .own i off => match st.own[i]? with
      | some (some (.cells _ cs)) => ldP T t (cs.drop off) K
      | _ => False
    | .fp cs => ldP T t cs K
    | .rel i sz k off => match st.own[i]? with
      | some (some (.row _ sz' n f)) => ifD (sz = sz') (ldP T t ((f k).drop off) K)
      | some (some (.arr _ sz' cap n f)) => ifD (sz = sz') (k < n ∧ ldP T t ((f k).drop off) K)
      | _ => False
    | _ => False
/-- Operations that leave the world as it is, and hang on nothing that is new in it. -/
def aopP (T : TT) (st : St) (o : Op) (K : AV → Prop) : Prop :=
  match o with
  | .move x | .assign x => match ev st x with | some a => K a | none => False
  | .pick c a b => match ev st c with
    | some (.c (.v (.bool true))) => (match ev st a with | some u => K u | none => False)
    | some (.c (.v (.bool false))) => (match ev st b with | some u => K u | none => False)
    | _ => False
  | .load t p => match ev st p with | some (.c c) => loadP T st t c K | _ => False
  | .fieldAddr s x i => match fieldOff T s i, ev st x with
    | some o, some (.c (.own j off)) => K (.c (.own j (off + o)))
    | some o, some (.c (.fp cs)) => K (.c (.fp (cs.drop o)))
    | some o, some (.c (.rel j sz k off)) => K (.c (.rel j sz k (off + o)))
    | _, _ => False
  | .field s x i => match T.lookup s, ev st x with
    | some ti, some (.agg cs) => (match ti.desc with
      | .struct fs => (match fs[i]? with | some f => ldP T f.type (cs.drop f.offset) K | none => False)
      | _ => False)
    | _, _ => False
  | .indexAddr t x i => match T.lookup t, ev st x, idxOf (ev st i) with
    | some ti, some (.c (.sl sz n f)), some (_, j) => (match ti.desc with
      | .slice e => (match T.lookup e with | some te => ifD (te.size = sz) ((0 ≤ j ∧ j < n) ∧ K (.c (.fp (f j.toNat)))) | none => False)
      | _ => False)
    | some ti, some (.c (.row r)), some (_, j) => (match ti.desc, st.own[r]? with
      | .slice e, some (some (.row _ sz n f)) => (match T.lookup e with | some te => ifD (te.size = sz) ((0 ≤ j ∧ j < n) ∧ K (.c (.rel r sz j.toNat 0))) | none => False)
      | _, _ => False)
    | some ti, some (.c (.view r sz k n c)), some (_, j) => (match ti.desc with
      | .slice e => (match T.lookup e with | some te => ifD (te.size = sz) ((0 ≤ j ∧ j < n) ∧ K (.c (.rel r sz (k + j.toNat) 0))) | none => False)
      | _ => False)
    | _, _, _ => False
  | .index t x i => match T.lookup t, ev st x, idxOf (ev st i) with
    | some ti, some (.c (.v (.string s))), some (_, j) => (match ti.desc with | .string => (0 ≤ j ∧ j < s.size) ∧ K (.c (.v (.int .u8 (s[j.toNat]!).toNat))) | _ => False)
    | _, _, _ => False
  | .slice t x lo hi mx => sliceP T st t x lo hi mx K
  | .binOp op t x y _ => match ev st x, ev st y with
    | some a, some b => (match avVal a, avVal b with
      | some u, some v => binP T op t x y u v (fun r => K (.c (.v r)))
      | _, _ => nilP op (nilT st T t a b) K)
    | _, _ => False
  | .unOp op t x => match op, ev st x with
    | .not, some (.c (.v (.bool b))) => K (.c (.v (.bool (!b))))
    | .neg, some (.c (.v (.int k n))) => K (.c (.v (.int k (k.wrap (0 - n)))))
    | _, _ => False
  | .extract x i => match ev st x with
    | some (.tup as) => (match as[i]? with | some (.c y) => K (.c y) | some (.agg ys) => K (.agg ys) | _ => False)
    | _ => False
  | .makeInterface t x => match T.lookup t, ev st x with
    | some ti, some a => (match ti.desc with | .interface _ => False | _ => match avVal a with
      | some u => K (.c (.v (.iface t u)))
      | none => match a with | .c c => K (.c (.ifc t c)) | _ => False)
    | _, _ => False
  | .makeFunc (.func f) ⟨[]⟩ ⟨xs⟩ => match capsOf st xs with
    | some cs => K (.c (.fn f cs))
    | none => False
  | .convert src dst x => match T.lookup src, T.lookup dst, ev st x with
    | some ts, some td, some a => convP T st ts td a K
    | _, _, _ => False
  | .typeAssert x xt t commaOk => match ev st x with
    | some a => assertP T st a xt t commaOk K
    | none => False
  | .nilCheck x => match ev st x with
    | some (.c (.own j off)) => K (.c (.own j off))
    | some (.c (.fp cs)) => K (.c (.fp cs))
    | some (.c (.rel i sz k off)) => K (.c (.rel i sz k off))
    | _ => False
  | .build t parts => buildP T st t parts.toList K
  | .call { callee := .builtin b, args, argTypes } => builtinP T st b args.toList argTypes.toList K
  | _ => False
/-- What is known lies in w' as in w. -/
def Same (F : Nat → Nat → Prop) (own : List (Option Ob)) (h : Hp) (w w' : World) : Prop := ∀ b, (h.m b ≠ none ∨ footOf F own b) → w'.heap[b]? = w.heap[b]?
section
variable {P : Program} {T : TT} {mine : Nat → Prop} {L : Nat → Value} {F : Nat → Nat → Prop} {h : Hp} {st : St} {a : Act} {w : World}
theorem same_cell {w' : World} (hm : Mem mine L F h st.own w) (hs : Same F st.own h w w') {a : Addr} {v : Value} (hc : hcell h a = some v) : w'.cell? a = some v := by
  refine hcell_cell (fun k o hk => ?_) hc
  rw [hs k (.inl (by rw [hk]; simp))]
  exact hm.hsub k o hk
theorem ld_run (hT : TTok P T) {t : TypeId} {cs : List IC} {vs : List Value} {K : AV → Prop} (hp : ldP T t cs K) (hd : DenL L h cs vs) :
    ∃ av v, K av ∧ DenA L h av v ∧ ∀ (w : World) (ad : Addr), (∀ (j : Nat) u, vs[j]? = some u → w.cell? (ad.add j) = some u) → (loadVar t ad).run P w = .ok v w := by
  unfold ldP at hp
  split at hp
  · rename_i ti hl
    have hf := hT _ _ hl
    split at hp
    · rename_i ha
      obtain ⟨hle, hK⟩ := ifD_and hp
      refine ⟨_, .agg (vs.take ti.size).toArray, hK, ⟨_, rfl, hd.take _⟩, fun w ad hc => ?_⟩
      have hlen : (vs.take ti.size).length = ti.size := by have := hd.1; simp; omega
      have := run_loadCells_list (P := P) w ad (vs.take ti.size) (fun j v hj => by
        refine hc j v ?_
        rw [List.getElem?_take] at hj
        split at hj
        · exact hj
        · cases hj)
      rw [hlen] at this
      unfold loadVar
      simp only [Sem.run_bind, hf.agg, Result.andThen_ok, ha, if_true, hf.size, this]
      rfl
    · rename_i ha
      split at hp
      · rename_i c rest
        obtain ⟨v, r, rfl, h1, h2⟩ := hd.uncons
        refine ⟨_, v, hp, h1, fun w ad hc => ?_⟩
        have h0 := hc 0 v (by simp)
        have e : ad.add 0 = ad := by simp [Addr.add]
        rw [e] at h0
        unfold loadVar
        simp only [Sem.run_bind, hf.agg, Result.andThen_ok, ha]
        simp [run_load, h0]
      · exact hp.elim
  · exact hp.elim

theorem addr_add_add (x : Addr) (i j : Nat) : (x.add i).add j = x.add (i + j) := by
  unfold Addr.add
  by_cases hi : i = 0 <;> by_cases hj : j = 0 <;> simp [hi, hj, Nat.add_assoc]
theorem addr_plain (b o j : Nat) : (⟨b, o, none⟩ : Addr).add j = ⟨b, o + j, none⟩ := by unfold Addr.add; split <;> simp_all
theorem blk_cell_at {w : World} {b : Nat} {t : TypeId} {cs : List Value} {z : Nat × Nat} (hb : w.heap[b]? = some (.cells cs.toArray t z)) (j : Nat) : w.cell? ⟨b, j, none⟩ = cs[j]? := by
  simp [World.cell?, hb]
theorem blk_cell_at' {w : World} {b : Nat} {t : TypeId} {cs : Array Value} {z : Nat × Nat} (hb : w.heap[b]? = some (.cells cs t z)) (j : Nat) : w.cell? ⟨b, j, none⟩ = cs.toList[j]? := by
  simp [World.cell?, hb]
theorem fieldOff_run (hT : TTok P T) {s : TypeId} {i o : Nat} (hf : fieldOff T s i = some o) (w : World) (ad : Addr) : (Instr.fieldAt s (.pointer (some ad)) i).run P w = .ok (.pointer (some (ad.add o))) w := by
  unfold fieldOff at hf
  split at hf
  · rename_i ti hl
    have h1 := hT _ _ hl
    split at hf
    · rename_i fs hd
      split at hf
      · rename_i f hfi
        split at hf
        · rename_i tf hl2
          have h2 := hT _ _ hl2
          split at hf
          · cases hf
          · rename_i hz
            cases hf
            have hu := h1.und
            rw [hd] at hu
            simp [Instr.fieldAt, run_underlying hu, hfi, Instr.sureAddr, fieldPlace, h2.size, hz]
        · cases hf
      · cases hf
    · cases hf
  · cases hf
/-- Element k of a row. -/
theorem rowD_el {sz n : Nat} {f : Nat → List IC} {vs : List Value} (hr : RowD L h sz n f vs) {k : Nat} (hk : k < n) : ∃ us, DenL L h (f k) us ∧ ∀ (j : Nat) u, us[j]? = some u → vs[k * sz + j]? = some u := by
  have hd := DenL.of_fun (L := L) (h := h) (cs := f k) (g := fun j => (vs[k * sz + j]?).getD undef) (fun j c hc => by
    obtain ⟨u, h1, h2⟩ := hr.den k hk j c hc
    rw [h1]
    exact h2)
  refine ⟨_, hd, fun j u hu => ?_⟩
  have hj : j < (f k).length := by have := (List.getElem?_eq_some_iff.1 hu).1; simpa using this
  obtain ⟨u', h1, h2⟩ := hr.den k hk j (f k)[j] (by simp [hj])
  simp [hj] at hu
  rw [h1] at hu ⊢
  rw [← hu]; rfl
theorem row_mem {w : World} {v : Value} {G : Nat → Prop} {e : TypeId} {sz n : Nat} {f : Nat → List IC} (hob : ObOk L h w v G (.row e sz n f)) :
    ∃ A c vs, v = .slice A n c ∧ n ≤ c ∧ n ≤ 9223372036854775807 ∧ RowD L h sz n f vs ∧ (0 < n → ∃ g, A = some ⟨g, 0, none⟩ ∧ G g ∧ ∀ (j : Nat) u, vs[j]? = some u → w.cell? ⟨g, j, none⟩ = some u) := by
  obtain ⟨vs, ⟨hl, hr⟩, hG, hR⟩ := hob
  rcases hr with ⟨e1, e2⟩ | ⟨g, cap, cur, e1, e2, e3, e4, e5, e6, e7⟩
  · exact ⟨none, 0, vs, by rw [e1, e2], by omega, by omega, hR, fun hp => by omega⟩
  · refine ⟨some ⟨g, 0, none⟩, cap, vs, e1, e4, by unfold maxLen at e5; omega, hR, fun _ => ⟨g, rfl, hG g (by rw [e1]; rfl), fun j u hj => ?_⟩⟩
    rw [← e7, List.getElem?_take] at hj
    split at hj
    · rw [blk_cell_at' e3]; exact hj
    · cases hj
theorem same_own {w' : World} (hs : Same F st.own h w w') {i : Nat} {o : Ob} (hi : st.own[i]? = some (some o)) {b : Nat} (hb : F i b) : w'.heap[b]? = w.heap[b]? := hs b (.inr ⟨i, o, hi, hb⟩)
theorem load_ok (hT : TTok P T) (hm : Mem mine L F h st.own w) {t : TypeId} {c : IC} {p : Value} {K : AV → Prop} (hd : Den L h c p) (hp : loadP T st t c K) :
    ∃ av v, K av ∧ DenA L h av v ∧ ∀ w', Same F st.own h w w' → (Instr.loadAt t p).run P w' = .ok v w' := by
  have fin : ∀ (ad : Addr) (cs : List IC) (vs : List Value), p = .pointer (some ad) → DenL L h cs vs → (∀ w', Same F st.own h w w' → ∀ (j : Nat) u, vs[j]? = some u → w'.cell? (ad.add j) = some u) → ldP T t cs K →
      ∃ av v, K av ∧ DenA L h av v ∧ ∀ w', Same F st.own h w w' → (Instr.loadAt t p).run P w' = .ok v w' := fun ad cs vs e h1 h2 h3 => by
    obtain ⟨av, v, k1, k2, k3⟩ := ld_run hT h3 h1
    refine ⟨av, v, k1, k2, fun w' hs => ?_⟩
    simp only [e, Instr.loadAt, Instr.sureAddr, Sem.run_bind, Sem.run_pure, Result.andThen_ok]
    exact k3 w' ad (h2 w' hs)
  unfold loadP at hp
  split at hp
  · rename_i i off
    split at hp
    · rename_i u cs ho
      cases hd with
      | own _ _ ad h1 h2 =>
      obtain ⟨b, vs, e1, e2, e3, e4⟩ := hm.obs i _ ho
      rw [h2] at e1
      cases e1
      refine fin _ _ _ rfl (e4.drop off) (fun w' hs j u hj => ?_) hp
      rw [addr_plain, addr_plain, Nat.zero_add, blk_cell_at ((same_own hs ho e2).trans e3), ← List.getElem?_drop]
      exact hj
    · exact hp.elim
  · rename_i cs
    cases hd with
    | fp _ ad g hclo hg hr =>
    refine fin ad cs _ rfl (DenL.of_fun hr) (fun w' hs j u hj => ?_) hp
    have hlt : j < cs.length := by have := (List.getElem?_eq_some_iff.1 hj).1; simpa using this
    simp [hlt] at hj
    rw [← hj]
    exact same_cell hm hs (hg j hlt)
  · rename_i i sz k off
    cases hd with
    | rel _ _ _ _ ad h1 h2 h3 =>
    split at hp
    · rename_i e sz' n f ho
      obtain ⟨hz, hp2⟩ := ifD_and hp
      subst hz
      obtain ⟨A, c, vs, e1, e2, e3, e4, e5⟩ := row_mem (hm.obs i _ ho)
      have hk := h3 _ _ _ e1
      rw [e1] at h2
      obtain ⟨g, rfl, e6, e7⟩ := e5 (by omega)
      cases h2
      obtain ⟨us, k1, k2⟩ := rowD_el e4 hk
      refine fin _ _ _ rfl (k1.drop off) (fun w' hs j u hj => ?_) hp2
      rw [addr_plain, addr_plain, Nat.zero_add]
      rw [List.getElem?_drop] at hj
      have := e7 _ _ (k2 _ _ hj)
      rw [Nat.add_assoc]
      unfold World.cell? at this ⊢
      rw [same_own hs ho e6]
      exact this
    · rename_i e sz' cap n f ho
      obtain ⟨hz, hk, hp2⟩ := ifD_and hp
      subst hz
      obtain ⟨b, cur, e1, e2, e3, e4, e5, e6, e7⟩ := hm.obs i _ ho
      rw [e1] at h2
      cases h2
      obtain ⟨us, k1, k2⟩ := rowD_el e7 hk
      refine fin _ _ _ rfl (k1.drop off) (fun w' hs j u hj => ?_) hp2
      rw [addr_plain, addr_plain, Nat.zero_add, blk_cell_at' ((same_own hs ho e2).trans e3), Nat.add_assoc]
      rw [List.getElem?_drop] at hj
      exact k2 _ _ hj
    · exact hp.elim
  · exact hp.elim
theorem ev_v (ha : Agree L h st a) {x : Operand} {u : Value} (hx : ev st x = some (.c (.v u))) : a.eval x = u := by
  have : Den L h _ _ := ev_eval ha hx
  generalize a.eval x = z at this
  cases this
  rfl
theorem idxOf_eval (ha : Agree L h st a) {x : Operand} {k : IntKind} {j : Int} (hx : idxOf (ev st x) = some (k, j)) : a.eval x = .int k j := by
  unfold idxOf at hx
  split at hx
  · rename_i k' j' hv
    cases hx
    exact ev_v ha hv
  · cases hx
theorem indexAt_run {t e : TypeId} {ti te : TI} (h1 : TF P t ti) (hd : ti.desc = .slice e) (h2 : TF P e te) (ad : Addr) (n c : Nat) (k : IntKind) (j : Int) (h0 : 0 ≤ j) (hj : j < n) (w : World) :
    (Instr.indexAt t (.slice (some ad) n c) (.int k j)).run P w = .ok (.pointer (some (ad.add (j.toNat * te.size)))) w := by
  have hu := h1.und
  rw [hd] at hu
  simp [Instr.indexAt, run_underlying hu, asIntOf, h0, hj, h2.size]
theorem cellsOf_den {av : AV} {v : Value} {cs : List IC} (hc : cellsOf av = some cs) (hd : DenA L h av v) : ∃ vs, v.cells = vs.toArray ∧ DenL L h cs vs := by
  cases av with
  | c x =>
    cases hc
    have hd : Den L h x v := hd
    have h1 := hd.one
    refine ⟨[v], ?_, DenL.cons hd DenL.nil⟩
    cases v <;> simp_all [Value.cells, Value.oneCell']
  | agg xs => cases hc; obtain ⟨vs, rfl, hd⟩ := hd; exact ⟨vs, rfl, hd⟩
  | tup as => cases hc
  | top => cases hc
theorem cellsOf_all {av : AV} {v : Value} {cs : List IC} (hc : cellsOf av = some cs) (hd : DenA L h av v) : DenL L h cs v.cells.toList := by
  obtain ⟨vs, e, hd⟩ := cellsOf_den hc hd
  rw [e]
  exact hd
end
end Go.Eng
