/- A part of the proof: what the functions of the program come to, told by a small reckoner of states. -/
import Derived.Test.YteglopjljejjkaaDoorA8
import Derived.Maps.AppendAt
import Derived.Deep.Upon
import Derived.Great.BuildSlice
import Derived.Laws.IdiomStrings
import Derived.Laws.RangeAny
set_option linter.unusedVariables false
set_option linter.unusedSimpArgs false
namespace Go.Eng
open Go Go.RowKit

structure DenAs (L : Nat → Value) (h : Hp) (as : List AV) (vs : List Value) : Prop where
  len : as.length = vs.length
  den : ∀ (j : Nat) a v, as[j]? = some a → vs[j]? = some v → DenA L h a v
/-- What a call comes to: of what is handed in and of the own objects; the others are left alone. -/
structure CallV (P : Program) [HasGl P] (f : FuncId) (args : List AV) (own : List (Option Ob)) (Q : AV → List (Option Ob) → Prop) : Prop where
  out : ∀ (mine : Nat → Prop) (L : Nat → Value) (F : Nat → Nat → Prop) (h : Hp) (w : World) (vs : List Value), HasGl.ok P h.m → Mem mine L F h own w → DenAs L h args vs →
    Calls P f vs.toArray w (fun e w' => ∃ (r : AV) (v : Value) (L' : Nat → Value) (F' : Nat → Nat → Prop) (h' : Hp) (own' : List (Option Ob)), e = .returned v ∧ DenA L' h' r v ∧ (∀ i, i < h.n → L' i = L i) ∧ Mem (mineOf (footOf F own) w) L' F' h' own' w' ∧
      Keep (footOf F own) w w' ∧ Sub h h' ∧ (∀ k, h'.m k ≠ none → h.m k ≠ none ∨ mineOf (footOf F own) w k) ∧ Q r own')
theorem CallV.mono {P : Program} [HasGl P] {f : FuncId} {args : List AV} {own : List (Option Ob)} {Q Q' : AV → List (Option Ob) → Prop} (hc : CallV P f args own Q) (hq : ∀ r o, Q r o → Q' r o) : CallV P f args own Q' := by
  refine ⟨fun mine L F h w vs hgl hm ha => ?_⟩
  refine (hc.out mine L F h w vs hgl hm ha).mono ?_
  rintro e w' ⟨r, v, L', F', h', own', h1, h2, h3, h4, h5, h6, h7, h8⟩
  exact ⟨r, v, L', F', h', own', h1, h2, h3, h4, h5, h6, h7, hq _ _ h8⟩

/-- What a call of a function without a body comes to (the model's own entry). -/
structure ExtV (P : Program) [HasGl P] (f : FuncId) (args : List AV) (own : List (Option Ob)) (Q : AV → List (Option Ob) → Prop) : Prop where
  out : ∀ (mine : Nat → Prop) (L : Nat → Value) (F : Nat → Nat → Prop) (h : Hp) (w : World) (vs : List Value), HasGl.ok P h.m → Mem mine L F h own w → DenAs L h args vs →
    ∃ (v : Value) (w' : World), (callFunc f vs.toArray).run P w = .ok (.value v) w' ∧ ∃ (r : AV) (L' : Nat → Value) (F' : Nat → Nat → Prop) (h' : Hp) (own' : List (Option Ob)), DenA L' h' r v ∧ (∀ i, i < h.n → L' i = L i) ∧ Mem (mineOf (footOf F own) w) L' F' h' own' w' ∧
      Keep (footOf F own) w w' ∧ Sub h h' ∧ (∀ k, h'.m k ≠ none → h.m k ≠ none ∨ mineOf (footOf F own) w k) ∧ Q r own'
/-- The functions that may be called: are own rows that are handed in laid still? None: a function without a body. -/
abbrev FL := List (Nat × Option Bool)
def FTok (P : Program) (F : FL) : Prop := ∀ f b, F.lookup f = some (some b) → ∀ args w, (callFunc f args).run P w = .ok (.enter f args) w
theorem FTok.nil {P : Program} : FTok P [] := fun f b h => by cases h
theorem FTok.cons {P : Program} {F : FL} {f : FuncId} {b : Bool} {fn : Func} (hf : P.funcs[f]? = some fn) (hname : (fn.name == "runtime.NumGoroutine") = false) (hb : fn.body.isSome = true) (k : FTok P F) : FTok P ((f, some b) :: F) := by
  intro g b' hg args w
  rw [List.lookup_cons] at hg
  by_cases e : g = f
  · subst e
    have h1 : fn.name ≠ "runtime.NumGoroutine" := by simpa using hname
    obtain ⟨c, hc⟩ := Option.isSome_iff_exists.1 hb
    simp [callFunc, hf, h1, hc]
  · have e' : (g == f) = false := by simpa using e
    rw [e'] at hg
    exact k g b' hg args w
theorem FTok.consX {P : Program} {F : FL} {f : FuncId} (k : FTok P F) : FTok P ((f, none) :: F) := by
  intro g b' hg args w
  rw [List.lookup_cons] at hg
  by_cases e : g = f
  · subst e; simp at hg
  · have e' : (g == f) = false := by simpa using e
    rw [e'] at hg
    exact k g b' hg args w
def putK (st : St) (dst : Option Nat) (av : AV) (K : St → Prop) : Prop :=
  match dst with
  | some d => match st with
    | ⟨n, k, env, own⟩ => ifD (d < n) (forceA av fun av => K ⟨n, k, (d, av) :: env, own⟩)
  | none => K st
theorem putK_some {st : St} {d : Nat} {av : AV} {K : St → Prop} (h : putK st (some d) av K) : d < st.n ∧ K (st.put (some d) av) := by
  obtain ⟨n, k, env, own⟩ := st
  simp only [putK, forceA_eq] at h
  exact ifD_and h
/-- An object more; c: what names it. -/
def St.push (st : St) (ob : Ob) : St := { st with own := st.own ++ [some ob] }
def pushK (st : St) (ob : Ob) (c : Nat → IC) (dst : Option Nat) (K : St → Prop) : Prop :=
  match st with
  | ⟨n, k, env, own⟩ => forceN own.length fun l => forceL (own ++ [some ob]) fun own' => putK ⟨n, k, env, own'⟩ dst (.c (c l)) K
theorem pushK_eq {st : St} {ob : Ob} {c : Nat → IC} {dst : Option Nat} {K : St → Prop} : pushK st ob c dst K = putK (st.push ob) dst (.c (c st.own.length)) K := by
  obtain ⟨n, k, env, own⟩ := st
  simp only [pushK, forceN_eq, forceL_eq]
  rfl
def argsOf (st : St) : List Operand → Option (List AV)
  | [] => some []
  | x :: r => match ev st x, argsOf st r with
    | some a, some l => some (a :: l)
    | _, _ => none
def capsA : List (Bool × List IC) → List AV
  | [] => []
  | (false, [c]) :: r => .c c :: capsA r
  | (_, xs) :: r => .agg xs :: capsA r
/-- What function a value is, and what it has captured. -/
def fnOf : Option AV → Option (Nat × List AV)
  | some (.c (.v (.func (.func f) ⟨[]⟩ ⟨[]⟩))) => some (f, [])
  | some (.c (.fn f cs)) => some (f, capsA cs)
  | _ => none
def rowsC : List IC → List Nat
  | [] => []
  | .row j :: r => j :: rowsC r
  | _ :: r => rowsC r
def rowsA : List AV → List Nat
  | [] => []
  | .c x :: r => rowsC [x] ++ rowsA r
  | .agg xs :: r => rowsC xs ++ rowsA r
  | .tup _ :: r => rowsA r
  | .top :: r => rowsA r
def rowC (sz : Nat) : Nat → List (Nat × AV) → Option (List (List IC))
  | _, [] => some []
  | i, (j, av) :: r => match Nat.beq i j, cellsOf av, rowC sz (i + 1) r with
    | true, some cs, some rest => if cs.length = sz then some (cs :: rest) else none
    | _, _, _ => none
/-- Code points, bytes, as elements. -/
abbrev runeF (l : List Int) (k : Nat) : List IC := [.v (.int .i32 (l.getD k 0))]
abbrev byteF (l : List UInt8) (k : Nat) : List IC := [.v (.int .u8 ((l.getD k 0).toNat : Int))]
/-- What is appended to. -/
def oldOf (st : St) (e : TypeId) (sz : Nat) (av : AV) : Option (Option Nat × Nat × (Nat → List IC)) :=
  match av with
  | .c (.v (.slice none 0 0)) => some (none, 0, fun _ => [])
  | .c (.row i) => match st.own[i]? with
    | some (some (.row e' sz' n f)) => (match Nat.beq e e' && Nat.beq sz sz' with | true => some (some i, n, f) | false => none)
    | _ => none
  | _ => none
/-- What is appended. -/
def newsOf (st : St) (d : TypeDesc) (sz : Nat) (av : AV) : Option (Nat × (Nat → List IC)) :=
  match av with
  | .c (.v (.slice none 0 0)) => (match d with | .slice _ => some (0, fun _ => []) | _ => none)
  | .c (.row j) => (match d, st.own[j]? with
    | .slice _, some (some (.row _ sz' n f)) => (match Nat.beq sz sz' with | true => some (n, f) | false => none)
    | _, _ => none)
  | .c (.sl sz' n f) => (match d with | .slice _ => (match Nat.beq sz sz' with | true => some (n, f) | false => none) | _ => none)
  | .c (.v (.string s)) => (match d, Nat.beq sz 1 with | .string, true => some (s.size, byteF s.data.toList) | _, _ => none)
  | _ => none
/-- What copy, and append onto a part of an own array, read: under which condition, how many elements, which. -/
def vsrc (st : St) (d : TypeDesc) (sz : Nat) (av : AV) : Option ((Nat → Prop) × Nat × (Nat → List IC)) :=
  match av with
  | .c (.v (.slice none 0 0)) => (match d with | .slice _ => some (fun _ => True, 0, fun _ => []) | _ => none)
  | .c (.row j) => (match d, st.own[j]? with
    | .slice _, some (some (.row _ sz' n f)) => (match Nat.beq sz sz' with | true => some (fun _ => True, n, f) | false => none)
    | _, _ => none)
  | .c (.sl sz' n f) => (match d with | .slice _ => (match Nat.beq sz sz' with | true => some (fun _ => True, n, f) | false => none) | _ => none)
  | .c (.view j sz' k n _) => (match d, st.own[j]? with
    | .slice _, some (some (.arr _ sz'' _ N f)) => (match Nat.beq sz sz' && Nat.beq sz sz'' with | true => some (fun r => k + r ≤ N, n, fun q => f (k + q)) | false => none)
    | _, _ => none)
  | _ => none
def without (own : List (Option Ob)) : Option Nat → List (Option Ob)
  | some i => own.set i none
  | none => own
/-- The code points of a text. -/
def runesL (s : ByteArray) : List Int := (Conv.runesFrom s s.size 0 #[]).toList.map fun v => match v with | .int _ n => n | _ => 0
/-- An own object put otherwise, and a value handed back. -/
def setK (st : St) (i : Nat) (ob : Ob) (dst : Option Nat) (av : AV) (K : St → Prop) : Prop :=
  match st with
  | ⟨n, k, env, own⟩ => forceL (own.set i (some ob)) fun own' => putK ⟨n, k, env, own'⟩ dst av K
theorem setK_eq {st : St} {i : Nat} {ob : Ob} {dst : Option Nat} {av : AV} {K : St → Prop} : setK st i ob dst av K = putK ⟨st.n, st.k, st.env, st.own.set i (some ob)⟩ dst av K := by
  cases st
  simp only [setK, forceL_eq]
/-- Written from kd on: m elements. -/
def wrote (kd m N : Nat) (f g : Nat → List IC) (N' : Nat) (f' : Nat → List IC) : Prop := ∀ q, q < N' → (kd ≤ q ∧ q < kd + m ∧ f' q = g (q - kd)) ∨ ((q < kd ∨ kd + m ≤ q) ∧ q < N ∧ f' q = f q)
/-- Append onto a part of an own array. -/
def vappP (st : St) (e : TypeId) (te tj : TI) (i sz k n c : Nat) (aw : AV) (dst : Option Nat) (K : St → Prop) : Prop :=
  match st.own[i]? with
  | some (some (.arr e' sz' cap N f)) => ifD (te.size = sz ∧ sz = sz' ∧ te.zero.cells.size = te.size ∧ e = e') (match aw, tj.desc with
    | .c (.v (.int ki m)), .int _ => ifD (te.zero.cells.toList.all (·.oneCell') = true ∧ 0 < te.size) (k + n ≤ N ∧ (0 < m ∧ (c : Int) < n + m ∧ n + m ≤ 9223372036854775807 ∧ (n + m) * te.bytes ≤ 140737488355328) ∧ ∃ f' : Nat → List IC, (∀ q, q < n → f' q = f (k + q)) ∧ (∀ q, q < m.toNat → f' (n + q) = te.zero.cells.toList.map IC.v) ∧
        ∀ cap', n + m.toNat ≤ cap' → pushK st (.arr e sz cap' (n + m.toNat) f') (fun l => .view l sz 0 (n + m.toNat) cap') dst K)
    | _, _ => match vsrc st tj.desc sz aw with
      | some (pre, m, g) => pre m ∧ (k + n ≤ N ∧ k + c ≤ cap) ∧ (n + m ≤ c → ∃ (N' : Nat) (f' : Nat → List IC), wrote (k + n) m N f g N' f' ∧ setK st i (.arr e sz cap N' f') dst (.c (.view i sz k (n + m) c)) K) ∧
          (c < n + m → (n + m ≤ 9223372036854775807 ∧ (n + m) * te.bytes ≤ 140737488355328) ∧ ∃ f' : Nat → List IC, (∀ q, q < n → f' q = f (k + q)) ∧ (∀ q, q < m → f' (n + q) = g q) ∧
            ∀ cap', n + m ≤ cap' → pushK st (.arr e sz cap' (n + m) f') (fun l => .view l sz 0 (n + m) cap') dst K)
      | none => False)
  | _ => False
/-- copy into a part of an own array. -/
def vcopyP (st : St) (te tj : TI) (i sz k n c : Nat) (aw : AV) (dst : Option Nat) (K : St → Prop) : Prop :=
  match st.own[i]? with
  | some (some (.arr e' sz' cap N f)) => ifD (te.size = sz ∧ sz = sz') (match vsrc st tj.desc sz aw with
      | some (pre, m, g) => pre (min m n) ∧ k + n ≤ cap ∧ ∃ (N' : Nat) (f' : Nat → List IC), wrote k (min m n) N f g N' f' ∧ setK st i (.arr e' sz cap N' f') dst (.c (.v (.int .i64 ((min m n : Nat) : Int)))) K
      | none => False)
  | _ => False
/-- clear of a part of an own array. -/
def vclearP (st : St) (te : TI) (i sz k n c : Nat) (dst : Option Nat) (K : St → Prop) : Prop :=
  match st.own[i]? with
  | some (some (.arr e' sz' cap N f)) => ifD (te.size = sz ∧ sz = sz' ∧ te.zero.cells.size = te.size ∧ te.zero.cells.toList.all (·.oneCell') = true) (k + n ≤ cap ∧ ∃ (N' : Nat) (f' : Nat → List IC), wrote k n N f (fun _ => te.zero.cells.toList.map IC.v) N' f' ∧ setK st i (.arr e' sz cap N' f') dst (.tup []) K)
  | _ => False
/-- One operation, in the text's order. -/
def stepP (P : Program) [HasGl P] (T : TT) (F : FL) (o : Oper) (st : St) (K : St → Prop) : Prop :=
  match o.op with
  | .alloc t => match T.lookup t with
    | some ti => ifD (ti.zero.cells.toList.all (·.oneCell') = true) (forceL (ti.zero.cells.toList.map IC.v) fun cs => pushK st (.cells t cs) (fun l => .own l 0) o.dst K)
    | none => False
  | .box t x => match ev st x with
    | some av => (match cellsOf av with
      | some cs => forceL cs fun cs => pushK st (.cells t cs) (fun l => .own l 0) o.dst K
      | none => False)
    | none => False
  | .store t p x => match ev st p, ev st x, T.lookup t with
    | some (.c (.own i off)), some av, some ti => (match st.own[i]?, cellsOf av with
      | some (some (.cells u cs)), some vs => ifD (vs.length = ti.size) (ifD (off + vs.length ≤ cs.length) (ifD (o.dst = none) (forceL (cs.take off ++ vs ++ cs.drop (off + vs.length)) fun cs' => match st with | ⟨n, k, env, own⟩ => forceL (own.set i (some (.cells u cs'))) fun own' => K ⟨n, k, env, own'⟩)))
      | _, _ => False)
    | some (.c (.rel i sz k off)), some av, some ti => (match st.own[i]?, cellsOf av with
      | some (some (.row e sz' n f)), some vs => ifD (vs.length = ti.size) (ifD (sz = sz') (ifD (off + vs.length ≤ sz) (ifD (o.dst = none) (∃ f' : Nat → List IC, (∀ j, j < n → f' j = if j = k then (f k).take off ++ vs ++ (f k).drop (off + vs.length) else f j) ∧ (match st with | ⟨n', kk, env, own⟩ => forceL (own.set i (some (.row e sz n f'))) fun own' => K ⟨n', kk, env, own'⟩)))))
      | some (some (.arr e sz' cap n f)), some vs => ifD (vs.length = ti.size) (ifD (sz = sz') (ifD (off = 0 ∧ vs.length = sz) (ifD (o.dst = none) (k < n ∧ ∃ f' : Nat → List IC, (∀ j, j < n → f' j = if j = k then vs else f j) ∧ (match st with | ⟨n', kk, env, own⟩ => forceL (own.set i (some (.arr e sz cap n f'))) fun own' => K ⟨n', kk, env, own'⟩)))))
      | _, _ => False)
    | _, _, _ => False
  | .call { callee := .value x, args, argTypes := _ } => match argsOf st args.toList, fnOf (ev st x) with
    | some avs, some (f, _) => (match F.lookup f with
      | some fz => frzL (match fz with | some true => rowsA avs | _ => []) st fun st => match argsOf st args.toList, fnOf (ev st x) with
        | some avs, some (f2, caps) => ifD (f = f2) (match st with | ⟨n, k, env, own⟩ => match fz with
          | some _ => CallV P f (avs ++ caps) own (fun r own' => putK ⟨n, k, env, own'⟩ o.dst r K)
          | none => ExtV P f (avs ++ caps) own (fun r own' => putK ⟨n, k, env, own'⟩ o.dst r K))
        | _, _ => False
      | none => False)
    | _, _ => False
  | .buildSlice t len parts => match T.lookup t, partsOf st parts.toList with
    | some ti, some l => (match ti.desc with
      | .slice e => (match T.lookup e with
        | some te => (match len, parts.toList with
          | 0, [] => pushK st (.row e te.size 0 fun _ => []) .row o.dst K
          | len, _ => frzL (rowsA (l.map (·.2))) st fun st => (match partsOf st parts.toList with
          | some l => (match rowC te.size 0 l with
            | some xs => ifD (l.length = len) (ifD (0 < len * te.size) (ifD (len * te.size ≤ 16777216) (ifD (0 < te.zero.cells.size) (∃ f : Nat → List IC, (∀ k, k < len → f k = xs.getD k []) ∧ pushK st (.row e te.size len f) .row o.dst K))))
            | none => False)
          | none => False))
        | none => False)
      | _ => False)
    | _, _ => False
  | .call { callee := .builtin .append, args, argTypes } => match args.toList, argTypes.toList with
    | [x, y], [t, tx] => (match T.lookup t, T.lookup tx, ev st x, ev st y with
      | some ti, some tj, some av, some aw => (match ti.desc with
        | .slice e => (match T.lookup e with
          | some te => (match av with | .c (.view i sz k n c) => vappP st e te tj i sz k n c aw o.dst K | av => (match oldOf st e te.size av, newsOf st tj.desc te.size aw with
            | some (oi, n, f), some (m, g) => (n + m ≤ 9223372036854775807 ∧ (n + m) * te.bytes ≤ 140737488355328) ∧ ifD (te.zero.cells.size = te.size) (∃ (n' : Nat) (f' : Nat → List IC), n' = n + m ∧ (∀ k, k < n → f' k = f k) ∧ (∀ k, k < m → f' (n + k) = g k) ∧
                (match st with | ⟨s, k, env, own⟩ => pushK ⟨s, k, env, without own oi⟩ (.row e te.size n' f') .row o.dst K))
            | _, _ => False))
          | none => False)
        | _ => False)
      | _, _, _, _ => False)
    | _, _ => False
  | .call { callee := .builtin .copy, args, argTypes } => match args.toList, argTypes.toList with
    | [x, y], [t, tx] => (match T.lookup t, T.lookup tx, ev st x, ev st y with
      | some ti, some tj, some (.c (.view i sz k n c)), some aw => (match ti.desc with
        | .slice e => (match T.lookup e with | some te => vcopyP st te tj i sz k n c aw o.dst K | none => False)
        | _ => False)
      | _, _, _, _ => False)
    | _, _ => False
  | .call { callee := .builtin .clear, args, argTypes } => match args.toList, argTypes.toList with
    | [x], [t] => (match T.lookup t, ev st x with
      | some ti, some (.c (.view i sz k n c)) => (match ti.desc with
        | .slice e => (match T.lookup e with | some te => vclearP st te i sz k n c o.dst K | none => False)
        | _ => False)
      | _, _ => False)
    | _, _ => False
  | .makeSlice t x y => match T.lookup t, idxOf (ev st x), idxOf (ev st y) with
    | some ti, some (_, a), some (_, b) => (match ti.desc with
      | .slice e => (match T.lookup e with
        | some te => ifD (te.zero.cells.toList.all (·.oneCell') = true) (ifD (te.zero.cells.size = te.size) (ifD (0 < te.size) ((0 ≤ a ∧ a = b ∧ a * te.bytes ≤ 140737488355328 ∧ a ≤ 140737488355328) ∧ ∃ (n : Nat) (f : Nat → List IC), n = a.toNat ∧ (∀ k, k < n → f k = te.zero.cells.toList.map IC.v) ∧ pushK st (.row e te.size n f) .row o.dst K)))
        | none => False)
      | _ => False)
    | _, _, _ => False
  | .range t x => match T.lookup t, ev st x with
    | some ti, some (.c (.v (.string s))) => (match ti.desc with | .string => pushK st (.iter s 0) (fun l => .own l 0) o.dst K | _ => False)
    | _, _ => False
  | .next x true => match ev st x with
    | some (.c (.own i 0)) => (match st.own[i]? with
      | some (some (.iter s pos)) => onIter (decide (pos < s.size))
          (match st with | ⟨n, k, env, own⟩ => forceL (own.set i (some (.iter s (pos + (Utf8.decode s pos).2)))) fun own' => putK ⟨n, k, env, own'⟩ o.dst (.tup [.c (.v (.bool true)), .c (.v (.int .i64 pos)), .c (.v (.int .i32 (Utf8.decode s pos).1))]) K)
          (putK st o.dst (.tup [.c (.v (.bool false))]) K)
      | _ => False)
    | _ => False
  | .convert src dst x => match T.lookup src, T.lookup dst, ev st x with
    | some ts, some td, some (.c (.v (.string s))) => (match ts.desc, td.desc with
      | .string, .slice e => (match T.lookup e with
        | some te => (match te.desc with
          | .int .i32 => ifD (te.size = 1) ((runesL s).length ≤ 70368744177664 ∧ pushK st (.row e 1 (runesL s).length (runeF (runesL s))) .row o.dst K)
          | .int .u8 => s.size ≤ 140737488355328 ∧ putK st o.dst (.c (.sl 1 s.size (byteF s.data.toList))) K
          | _ => False)
        | none => False)
      | _, _ => aopP T st (.convert src dst x) (fun av => putK st o.dst av K))
    | _, _, some a => frzL (rowsA [a]) st fun st => aopP T st (.convert src dst x) (fun av => putK st o.dst av K)
    | _, _, none => False
  | .slice t x lo hi mx => frzL (match ev st x with | some av => rowsA [av] | none => []) st fun st => aopP T st (.slice t x lo hi mx) (fun av => putK st o.dst av K)
  | _ => aopP T st o.op (fun av => putK st o.dst av K)
where onIter (b : Bool) (x y : Prop) : Prop := match b with | true => x | false => y

section
variable {P : Program} {T : TT} {FF : FL} {mine may : Nat → Prop} {L : Nat → Value} {F : Nat → Nat → Prop} {h : Hp} {st : St} {a : Act} {w w0 : World}
theorem keep_below {w' : World} (hk : Keep may w0 w) (hb : Below w.heap.size w w') : Keep may w0 w' :=
  ⟨hb.os.trans hk.os, hb.tape.trans hk.tape, hb.output.trans hk.output, Nat.le_trans hk.size hb.size, fun k hlt hn => by
    rw [hb.block k (Nat.lt_of_lt_of_le hlt hk.size)]
    exact hk.block k hlt hn⟩
theorem same_below {own : List (Option Ob)} {w' : World} (hm : Mem mine L F h own w) (hb : Below w.heap.size w w') : Same F own h w w' := fun b hbb => by
  refine hb.block b ?_
  rcases hbb with h1 | ⟨i, ob, hi, hF⟩
  · cases ho : h.m b with
    | none => exact absurd ho h1
    | some o => exact (Array.getElem?_eq_some_iff.1 (hm.hsub b o ho)).1
  · exact (hm.foot i ob b hi hF).1
theorem mem_same {own : List (Option Ob)} {w' : World} (hm : Mem mine L F h own w) (hs : Same F own h w w') (hsz : w.heap.size ≤ w'.heap.size) : Mem mine L F h own w' :=
  mem_move hm hsz (fun k o hk => hs k (.inl (by rw [hk]; simp))) (fun b hb => hs b (.inr hb))
theorem put_sat [HasGl P] {h0 : Base P} (hm : Mem (mineOf may w0) L F h st.own w) (ha : Agree L h st a) (hs : SubB h0 st.k L h) (hn : ∀ k, h.m k ≠ none → h0.h.m k ≠ none ∨ mineOf may w0 k) (hk : Keep may w0 w) {dst : Option Nat} {av : AV} {v : Value} (hok : DenA L h av v) {K : St → Prop}
    (hp : putK st dst av K) : ∃ st', Sat may w0 h0 st' (a.put dst v) w ∧ K st' := by
  cases dst with
  | none => exact ⟨st, ⟨⟨L, F, h, hm, ha, hs, hn⟩, hk⟩, hp⟩
  | some d => exact ⟨st.put (some d) av, ⟨⟨L, F, h, hm, agree_put ha (putK_some hp).1 hok, hs, hn⟩, hk⟩, (putK_some hp).2⟩
theorem heap_alloc_at (w : World) (o : Obj) : (w.alloc o).heap[w.heap.size]? = some o := by
  show (w.heap.push o)[w.heap.size]? = _
  simp
theorem below_alloc (w : World) (o : Obj) : Below w.heap.size w (w.alloc o) := (Below.refl _ w).alloc (Nat.le_refl _) o
/-- A new own object in a world that went on. -/
theorem push_sat [HasGl P] {h0 : Base P} {w' : World} {own : List (Option Ob)} (hm : Mem (mineOf may w0) L F h own w') (ha : Agree L h ⟨st.n, st.k, st.env, own⟩ a) (hs : SubB h0 st.k L h) (hn : ∀ k, h.m k ≠ none → h0.h.m k ≠ none ∨ mineOf may w0 k) (hk : Keep may w0 w')
    {v : Value} {G : Nat → Prop} {ob : Ob} {c : Nat → IC} (hob : ObOk (upd L own.length v) (h.more 1) w' v G ob) (hG : ∀ b, G b → b < w'.heap.size ∧ h.m b = none ∧ mineOf may w0 b) (hd : ∀ b, G b → ¬ footOf F own b)
    (hc : ∀ L' h', own.length < h'.n → L' own.length = v → Den L' h' (c own.length) v) {dst : Option Nat} {K : St → Prop} (hp : pushK ⟨st.n, st.k, st.env, own⟩ ob c dst K) : ∃ st', Sat may w0 h0 st' (a.put dst v) w' ∧ K st' := by
  rw [pushK_eq] at hp
  have hL : ∀ i, i < h.n → upd L own.length v i = L i := fun i hi => upd_lt (by have := hm.hn; omega)
  have hm' := mem_push hm hob hG hd
  have ha' : Agree (upd L own.length v) (h.more 1) (St.push ⟨st.n, st.k, st.env, own⟩ ob) a := agree_more ha hL (sub_more h 1) rfl rfl
  exact put_sat (st := St.push ⟨st.n, st.k, st.env, own⟩ ob) hm' ha' (hs.step hL (sub_more h 1)) hn hk (av := .c (c own.length)) (hc _ _ (by simp [Hp.more, hm.hn]) upd_eq) hp
/-- A new object in a new block. -/
theorem alloc_sat [HasGl P] {h0 : Base P} (hm : Mem (mineOf may w0) L F h st.own w) (ha : Agree L h st a) (hs : SubB h0 st.k L h) (hn : ∀ k, h.m k ≠ none → h0.h.m k ≠ none ∨ mineOf may w0 k) (hk : Keep may w0 w) {o : Obj} {v : Value} {ob : Ob} {c : Nat → IC}
    (hob : ∀ L' h', Sub h h' → (∀ i, i < h.n → L' i = L i) → ObOk L' h' (w.alloc o) v (fun b => b = w.heap.size) ob)
    (hc : ∀ L' h', st.own.length < h'.n → L' st.own.length = v → Den L' h' (c st.own.length) v) {dst : Option Nat} {K : St → Prop} (hp : pushK st ob c dst K) : ∃ st', Sat may w0 h0 st' (a.put dst v) (w.alloc o) ∧ K st' := by
  have hb := below_alloc w o
  have hm' := mem_same hm (same_below hm hb) hb.size
  have hn' := hm.hn
  refine push_sat (st := st) (own := st.own) (G := fun b => b = w.heap.size) hm' ⟨ha.size, ha.env, ha.defers⟩ hs hn (keep_below hk hb) (hob _ _ (sub_more h 1) (fun i hi => upd_lt (by omega))) (fun b hb => ?_) (fun b hb => ?_) hc hp
  · subst hb
    exact ⟨by simp, hp_new hm.hsub (Nat.le_refl _), .inr hk.size⟩
  · subst hb
    rintro ⟨i, oi, hi, hF⟩
    have := (hm.foot i oi _ hi hF).1
    omega
/-- A new own array in a new block, and a part of it. -/
theorem allocV_sat [HasGl P] {h0 : Base P} (hm : Mem (mineOf may w0) L F h st.own w) (ha : Agree L h st a) (hs : SubB h0 st.k L h) (hn : ∀ k, h.m k ≠ none → h0.h.m k ≠ none ∨ mineOf may w0 k) (hk : Keep may w0 w) {o : Obj} {u : Value} {ob : Ob} {c : Nat → IC}
    (hob : ∀ L' h', Sub h h' → (∀ i, i < h.n → L' i = L i) → ObOk L' h' (w.alloc o) (.pointer (some ⟨w.heap.size, 0, none⟩)) (fun b => b = w.heap.size) ob)
    (hc : ∀ L' h', st.own.length < h'.n → L' st.own.length = .pointer (some ⟨w.heap.size, 0, none⟩) → Den L' h' (c st.own.length) u) {dst : Option Nat} {K : St → Prop} (hp : pushK st ob c dst K) : ∃ st', Sat may w0 h0 st' (a.put dst u) (w.alloc o) ∧ K st' := by
  have hb := below_alloc w o
  have hm' := mem_same hm (same_below hm hb) hb.size
  have hn' := hm.hn
  rw [pushK_eq] at hp
  have hL : ∀ i, i < h.n → upd L st.own.length (.pointer (some ⟨w.heap.size, 0, none⟩)) i = L i := fun i hi => upd_lt (by have := hm.hn; omega)
  have hm2 := mem_push hm' (v := .pointer (some ⟨w.heap.size, 0, none⟩)) (G := fun b => b = w.heap.size) (hob _ _ (sub_more h 1) hL) (fun b hb => by
    subst hb
    exact ⟨by simp, hp_new hm.hsub (Nat.le_refl _), .inr hk.size⟩) (fun b hb => by
    subst hb
    rintro ⟨i, oi, hi, hF⟩
    have := (hm.foot i oi _ hi hF).1
    omega)
  have ha' : Agree (upd L st.own.length (.pointer (some ⟨w.heap.size, 0, none⟩))) (h.more 1) (St.push st ob) a := agree_more ha hL (sub_more h 1) rfl rfl
  exact put_sat (st := St.push st ob) hm2 ha' (hs.step hL (sub_more h 1)) hn (keep_below hk hb) (av := .c (c st.own.length)) (hc _ _ (by simp [Hp.more, hm.hn]) upd_eq) hp
theorem argsOf_ok (ha : Agree L h st a) : ∀ {xs : List Operand} {avs : List AV}, argsOf st xs = some avs → DenAs L h avs (xs.map a.eval)
  | [], avs, e => by cases e; exact ⟨rfl, fun j a v hj => by simp at hj⟩
  | x :: r, avs, e => by
    unfold argsOf at e
    split at e
    · rename_i av l hx hr
      cases e
      obtain ⟨h1, h2⟩ := argsOf_ok ha hr
      refine ⟨by simp [h1], fun j a' v hj hv => ?_⟩
      cases j with
      | zero => simp at hj hv; subst hj hv; exact ev_eval ha hx
      | succ j => simp at hj hv; exact h2 j a' v hj (by simpa using hv)
    · cases e
theorem DenAs.append {as bs : List AV} {us vs : List Value} (h1 : DenAs L h as us) (h2 : DenAs L h bs vs) : DenAs L h (as ++ bs) (us ++ vs) := by
  refine ⟨by simp [h1.len, h2.len], fun j x v hj hv => ?_⟩
  rcases Nat.lt_or_ge j as.length with hlt | hge
  · rw [List.getElem?_append_left hlt] at hj
    rw [List.getElem?_append_left (by rw [← h1.len]; exact hlt)] at hv
    exact h1.den j x v hj hv
  · rw [List.getElem?_append_right hge] at hj
    rw [List.getElem?_append_right (by rw [← h1.len]; exact hge), ← h1.len] at hv
    exact h2.den _ x v hj hv
theorem capsA_len : ∀ cs : List (Bool × List IC), (capsA cs).length = cs.length
  | [] => rfl
  | (false, []) :: r => by simp [capsA, capsA_len r]
  | (false, [c]) :: r => by simp [capsA, capsA_len r]
  | (false, c :: d :: l) :: r => by simp [capsA, capsA_len r]
  | (true, xs) :: r => by simp [capsA, capsA_len r]
theorem capsA_get : ∀ (cs : List (Bool × List IC)) (j : Nat), (capsA cs)[j]? = (cs[j]?).map fun p => match p with | (false, [c]) => .c c | (_, xs) => .agg xs
  | [], j => by simp [capsA]
  | p :: r, 0 => by
    obtain ⟨b, xs⟩ := p
    cases b <;> (try cases xs with | nil => simp [capsA] | cons c l => cases l <;> simp [capsA])
    all_goals (try simp [capsA])
  | p :: r, j + 1 => by
    obtain ⟨b, xs⟩ := p
    have := capsA_get r j
    cases b <;> (try cases xs with | nil => simpa [capsA] using this | cons c l => cases l <;> simpa [capsA] using this)
    all_goals (try simpa [capsA] using this)
theorem fnOf_ok (ha : Agree L h st a) {x : Operand} {f : Nat} {caps : List AV} (hf : fnOf (ev st x) = some (f, caps)) : ∃ vs : List Value, a.eval x = .func (.func f) #[] vs.toArray ∧ DenAs L h caps vs := by
  unfold fnOf at hf
  split at hf
  · rename_i f' hx
    cases hf
    exact ⟨[], ev_v ha hx, ⟨rfl, fun j a v hj => by simp at hj⟩⟩
  · rename_i f' cs hx
    cases hf
    have hd : Den L h _ _ := ev_eval ha hx
    generalize hz : a.eval x = z at hd
    cases hd with
    | fn _ _ vs g hl hv h1 hr =>
    refine ⟨vs, rfl, by rw [capsA_len]; exact hl, fun j x v hj hvj => ?_⟩
    rw [capsA_get] at hj
    cases hc : cs[j]? with
    | none => rw [hc] at hj; cases hj
    | some p =>
      rw [hc] at hj
      obtain ⟨b, xs⟩ := p
      have e := hv j b xs v hc hvj
      have hden := hr j b xs hc
      simp only [Option.map_some, Option.some.injEq] at hj
      split at hj
      · rename_i c heq
        cases heq
        subst hj
        simp at e
        subst e
        exact hden 0 c (by simp)
      · rename_i b' xs' hne heq
        cases heq
        subst hj
        cases b with
        | true =>
          simp at e
          exact ⟨_, by rw [e], DenL.of_fun (g := g j) hden⟩
        | false =>
          have hl1 := h1 j xs hc
          match xs, hl1, hne with
          | [c], _, hne => exact (hne c rfl rfl).elim
  · cases hf
end
end Go.Eng
