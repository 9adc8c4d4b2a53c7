/- A part of the proof: what the functions of the program come to, told by a small reckoner of states. -/
import Derived.Test.YteglopjljejjkaaDoorA12
import Derived.Tactics
set_option linter.unusedVariables false
set_option linter.unusedSimpArgs false
namespace Go.Eng
open Go Go.RowKit

/-! ### '&&' and '||' without parting: what is reckoned under a guard -/
abbrev Ctx := List (Nat × Bool)
/-- Slot, guards, value. -/
abbrev GD := List (Nat × Ctx × AV)
def subCtx : Ctx → Ctx → Bool
  | [], _ => true
  | x :: r, y :: s => Nat.beq x.1 y.1 && (match x.2, y.2 with | true, true => true | false, false => true | _, _ => false) && subCtx r s
  | _ :: _, [] => false
def gEnv (C : Ctx) (env : List (Nat × AV)) : GD → List (Nat × AV)
  | [] => env
  | x :: r => match subCtx x.2.1 C with | true => (x.1, x.2.2) :: gEnv C env r | false => gEnv C env r
def ctxFree (x : Nat) : Ctx → Bool
  | [] => true
  | y :: r => match Nat.beq y.1 x with | true => false | false => ctxFree x r
def dropG (x : Nat) : GD → GD
  | [] => []
  | y :: r => match Nat.beq y.1 x with
    | true => dropG x r
    | false => match ctxFree x y.2.1 with | true => y :: dropG x r | false => dropG x r
def boolOf : Option AV → Option Bool
  | some (.c (.v (.bool b))) => some b
  | _ => none
/-- Under which guards slot d was reckoned. -/
def ctxOf (d : Nat) : GD → Ctx
  | [] => []
  | x :: r => match Nat.beq x.1 d with | true => x.2.1 | false => ctxOf d r
def condP (env : List (Nat × AV)) : Ctx → Prop → Prop
  | [], X => X
  | x :: r, X => match boolOf (env.lookup x.1) with
    | some b => b = x.2 → condP env r X
    | none => condP env r X
def isLit : Operand → Option Bool
  | .const (.bool b) => some b
  | _ => none
def pickB (b : Bool) (x y : Operand) (u v : Bool) : Bool :=
  match isLit y with
  | some false => b && u
  | _ => match isLit x with
    | some true => b || v
    | _ => match b with | true => u | false => v
/-! What an operation yields, and what it asks, told apart. -/
def intF (op : BinOp) (k : IntKind) (a b : Int) : Option Value :=
  match op with
  | .add => some (.int k (k.wrap (a + b)))
  | .sub => some (.int k (k.wrap (a - b)))
  | .mul => some (.int k (k.wrap (a * b)))
  | .eql => some (.bool (a == b))
  | .neq => some (.bool (a != b))
  | .lss => some (.bool (decide (a < b)))
  | .leq => some (.bool (decide (a ≤ b)))
  | .gtr => some (.bool (decide (a > b)))
  | .geq => some (.bool (decide (a ≥ b)))
  | .and => some (.int k (bits .and k a b))
  | .or => some (.int k (bits .or k a b))
  | .xor => some (.int k (bits .xor k a b))
  | _ => none
def ifO {α : Type} (b : Bool) (x : Option α) : Option α := match b with | true => x | false => none
theorem ifO_and {α : Type} {b : Bool} {x : Option α} {y : α} (h : ifO b x = some y) : b = true ∧ x = some y := by
  unfold ifO at h
  split at h
  · exact ⟨rfl, h⟩
  · cases h
def eqB (T : TT) (t : TypeId) (ox oy : Operand) (x y : Value) : Option Bool :=
  match eqV T 10000 t x y with
  | some r => ifO (guardOk T t ox oy x y && plainEq x y) (some r)
  | none => none
def binF (T : TT) (op : BinOp) (t : TypeId) (ox oy : Operand) (x y : Value) : Option Value :=
  match x, y with
  | .int k a, .int k' b => match op with
    | .shl => none
    | .shr => none
    | op => ifO (decide (k = k')) (intF op k a b)
  | .string a, .string b => match op with
    | .eql => some (.bool (decide (a = b)))
    | .neq => some (.bool (!(decide (a = b))))
    | _ => none
  | x, y => match op with
    | .eql => match eqB T t ox oy x y with | some r => some (.bool r) | none => none
    | .neq => match eqB T t ox oy x y with | some r => some (.bool (!r)) | none => none
    | _ => none
def ldF (T : TT) (t : TypeId) (cs : List IC) : Option AV :=
  match T.lookup t with
  | some ti => match ti.agg with
    | true => ifO (decide (ti.size ≤ cs.length)) (some (.agg (cs.take ti.size)))
    | false => match cs with
      | c :: _ => some (.c c)
      | [] => none
  | none => none
def tag (p : Option Prop) (a : Option AV) : Option (Option Prop × AV) := match a with | some a => some (p, a) | none => none
def aopC (T : TT) (st : St) (o : Op) : Option (Option Prop × AV) :=
  match o with
  | .move x | .assign x => tag none (ev st x)
  | .load t p => match ev st p with
    | some (.c (.own i off)) => match st.own[i]? with
      | some (some (.cells _ cs)) => tag none (ldF T t (cs.drop off))
      | _ => none
    | some (.c (.fp cs)) => tag none (ldF T t cs)
    | some (.c (.rel i sz k off)) => match st.own[i]? with
      | some (some (.row _ sz' n f)) => ifO (decide (sz = sz')) (tag none (ldF T t ((f k).drop off)))
      | _ => none
    | _ => none
  | .fieldAddr s x i => match fieldOff T s i, ev st x with
    | some o, some (.c (.own j off)) => some (none, .c (.own j (off + o)))
    | some o, some (.c (.fp cs)) => some (none, .c (.fp (cs.drop o)))
    | some o, some (.c (.rel j sz k off)) => some (none, .c (.rel j sz k (off + o)))
    | _, _ => none
  | .indexAddr t x i => match T.lookup t, ev st x, idxOf (ev st i) with
    | some ti, some (.c (.sl sz n f)), some (_, j) => (match ti.desc with
      | .slice e => (match T.lookup e with | some te => ifO (decide (te.size = sz)) (some (some (0 ≤ j ∧ j < n), .c (.fp (f j.toNat)))) | none => none)
      | _ => none)
    | some ti, some (.c (.row r)), some (_, j) => (match ti.desc, st.own[r]? with
      | .slice e, some (some (.row _ sz n f)) => (match T.lookup e with | some te => ifO (decide (te.size = sz)) (some (some (0 ≤ j ∧ j < n), .c (.rel r sz j.toNat 0))) | none => none)
      | _, _ => none)
    | _, _, _ => none
  | .index t x i => match T.lookup t, ev st x, idxOf (ev st i) with
    | some ti, some (.c (.v (.string s))), some (_, j) => (match ti.desc with | .string => some (some (0 ≤ j ∧ j < s.size), .c (.v (.int .u8 (s[j.toNat]!).toNat))) | _ => none)
    | _, _, _ => none
  | .binOp op t x y _ => match ev st x, ev st y with
    | some a, some b => (match avVal a, avVal b with
      | some u, some v => (match binF T op t x y u v with | some r => some (none, .c (.v r)) | none => none)
      | _, _ => (match op, nilT st T t a b with | .eql, .never => some (none, .c (.v (.bool false))) | .neq, .never => some (none, .c (.v (.bool true))) | _, _ => none))
    | _, _ => none
  | .unOp op t x => match op, ev st x with
    | .not, some (.c (.v (.bool b))) => some (none, .c (.v (.bool (!b))))
    | _, _ => none
  | .extract x i => match ev st x with
    | some (.tup as) => (match as[i]? with | some (.c y) => some (none, .c y) | some (.agg ys) => some (none, .agg ys) | _ => none)
    | _ => none
  | .nilCheck x => match ev st x with
    | some (.c (.own j off)) => some (none, .c (.own j off))
    | some (.c (.fp cs)) => some (none, .c (.fp cs))
    | some (.c (.rel i sz k off)) => some (none, .c (.rel i sz k off))
    | _ => none
  | .convert src dst x => match T.lookup dst, T.lookup src, ev st x with
    | some td, some ts, some (.c (.v (.int k n))) => (match td.desc with | .int k' => some (none, .c (.v (.int k' (k'.wrap n)))) | _ => none)
    | _, _, _ => none
  | .call { callee := .builtin .len, args := ⟨[x]⟩, argTypes := ⟨[t]⟩ } => match T.lookup t with
    | some ti => match ti.desc, ev st x with
      | .string, some (.c (.v (.string s))) => some (some (s.size ≤ 9223372036854775807), .c (.v (.int .i64 s.size)))
      | .slice _, some (.c (.sl sz n f)) => some (none, .c (.v (.int .i64 n)))
      | .slice _, some (.c (.row i)) => (match st.own[i]? with | some (some (.row e sz n f)) => some (none, .c (.v (.int .i64 n))) | _ => none)
      | _, _ => none
    | none => none
  | .call { callee := .builtin .max, args := ⟨[x, y]⟩, argTypes := ⟨[_, _]⟩ } => match ev st x, ev st y with
    | some (.c (.v (.int k a))), some (.c (.v (.int k' b))) => some (none, .c (.v (.int k (maxI a b))))
    | _, _ => none
  | .call { callee := .builtin .min, args := ⟨[x, y]⟩, argTypes := ⟨[_, _]⟩ } => match ev st x, ev st y with
    | some (.c (.v (.int k a))), some (.c (.v (.int k' b))) => some (none, .c (.v (.int k (minI a b))))
    | _, _ => none
  | _ => none
theorem ifD_mk' {p : Prop} [d : Decidable p] {x : Prop} (hp : p) (hx : x) : ifD p x := by
  unfold ifD
  rw [decide_eq_true hp]
  exact hx
theorem ldF_ok {T : TT} {t : TypeId} {cs : List IC} {p : Option Prop} {q : Option Prop × AV} (h : tag p (ldF T t cs) = some q) : q.1 = p ∧ ldP T t cs (fun a => a = q.2) := by
  unfold ldF at h
  unfold ldP
  cases hl : T.lookup t with
  | none => rw [hl] at h; cases h
  | some ti =>
    rw [hl] at h
    simp only at h ⊢
    cases ha : ti.agg with
    | true =>
      rw [ha] at h
      simp only at h ⊢
      unfold ifO at h
      split at h
      · rename_i hd
        cases h
        exact ⟨rfl, ifD_mk' (of_decide_eq_true hd) rfl⟩
      · cases h
    | false =>
      rw [ha] at h
      simp only at h ⊢
      cases cs with
      | nil => cases h
      | cons c r => cases h; exact ⟨rfl, rfl⟩
theorem eqB_ok {T : TT} {t : TypeId} {ox oy : Operand} {x y : Value} {r : Bool} (h : eqB T t ox oy x y = some r) : eqV T 10000 t x y = some r ∧ guardOk T t ox oy x y = true ∧ plainEq x y = true := by
  unfold eqB at h
  split at h
  · rename_i r' hr
    obtain ⟨h1, h2⟩ := ifO_and h
    rw [Bool.and_eq_true] at h1
    cases h2
    exact ⟨hr, h1⟩
  · cases h
theorem binF_ok {T : TT} {op : BinOp} {t : TypeId} {ox oy : Operand} {x y r : Value} {K : Value → Prop} (h : binF T op t ox oy x y = some r) (hK : K r) : binP T op t ox oy x y K := by
  unfold binF at h
  unfold binP
  split at h
  · split at h
    · cases h
    · cases h
    · rename_i k a k' b op' hs1 hs2
      obtain ⟨h1, h2⟩ := ifO_and h
      have h1 := of_decide_eq_true h1
      simp only
      refine ifD_mk' h1 ?_
      unfold intF at h2
      unfold intOp
      split at h2 <;> first | (cases h2; exact hK) | cases h2
  · simp only
    unfold strOp
    split at h <;> first | (cases h; exact hK) | cases h
  · rename_i h1 h2
    split
    · exact absurd rfl (h1 _ _ _ _ rfl)
    · exact absurd rfl (h2 _ _ rfl)
    · split at h
      · split at h
        · rename_i r' hr
          obtain ⟨e1, e2, e3⟩ := eqB_ok hr
          cases h
          simp only [e1]
          exact ifD_mk' e2 (ifD_mk' e3 hK)
        · cases h
      · split at h
        · rename_i r' hr
          obtain ⟨e1, e2, e3⟩ := eqB_ok hr
          cases h
          simp only [e1]
          exact ifD_mk' e2 (ifD_mk' e3 hK)
        · cases h
      · cases h
theorem aopC_ok {T : TT} {st : St} {o : Op} {q : Option Prop × AV} (h : aopC T st o = some q) (hq : ∀ p, q.1 = some p → p) : aopP T st o (fun a => a = q.2) := by
  unfold aopC at h
  split at h
  · cases hx : ev st _ with
    | none => rw [hx] at h; cases h
    | some v => rw [hx] at h; cases h; simp only [aopP, hx]
  · cases hx : ev st _ with
    | none => rw [hx] at h; cases h
    | some v => rw [hx] at h; cases h; simp only [aopP, hx]
  · split at h
    · rename_i i off hx
      unfold aopP
      simp only [hx, loadP]
      split at h
      · rename_i ho; simp only [ho]; exact (ldF_ok h).2
      · cases h
    · rename_i cs hx
      unfold aopP
      simp only [hx, loadP]
      exact (ldF_ok h).2
    · rename_i i sz k off hx
      unfold aopP
      simp only [hx, loadP]
      split at h
      · rename_i ho
        simp only [ho]
        obtain ⟨h1, h2⟩ := ifO_and h
        exact ifD_mk' (of_decide_eq_true h1) (ldF_ok h2).2
      · cases h
    · cases h
  · split at h
    · rename_i hf hx; unfold aopP; simp only [hf, hx]; cases h; rfl
    · rename_i hf hx; unfold aopP; simp only [hf, hx]; cases h; rfl
    · rename_i hf hx; unfold aopP; simp only [hf, hx]; cases h; rfl
    · cases h
  · split at h
    · rename_i hl hx hi
      unfold aopP
      simp only [hl, hx, hi]
      split at h
      · rename_i hd
        simp only [hd]
        split at h
        · rename_i hl2
          simp only [hl2]
          obtain ⟨h1, h2⟩ := ifO_and h
          cases h2
          exact ifD_mk' (of_decide_eq_true h1) ⟨hq _ rfl, rfl⟩
        · cases h
      · cases h
    · rename_i hl hx hi
      unfold aopP
      simp only [hl, hx, hi]
      split at h
      · rename_i hd ho
        simp only [hd, ho]
        split at h
        · rename_i hl2
          simp only [hl2]
          obtain ⟨h1, h2⟩ := ifO_and h
          cases h2
          exact ifD_mk' (of_decide_eq_true h1) ⟨hq _ rfl, rfl⟩
        · cases h
      · cases h
    · cases h
  · split at h
    · rename_i hl hx hi
      unfold aopP
      simp only [hl, hx, hi]
      split at h
      · rename_i hd
        simp only [hd]
        cases h
        exact ⟨hq _ rfl, rfl⟩
      · cases h
    · cases h
  · split at h
    · rename_i hx hy
      split at h
      · rename_i hu hv
        split at h
        · rename_i hb
          cases h
          unfold aopP
          simp only [hx, hy, hu, hv]
          exact binF_ok hb rfl
        · cases h
      · rename_i hno
        split at h
        · rename_i hn
          cases h
          unfold aopP
          simp only [hx, hy, hn, nilP]
        · rename_i hn
          cases h
          unfold aopP
          simp only [hx, hy, hn, nilP]
        · cases h
    · cases h
  · split at h
    · rename_i hx; unfold aopP; simp only [hx]; cases h; rfl
    · cases h
  · split at h
    · rename_i hx
      unfold aopP
      simp only [hx]
      split at h
      · rename_i hi; simp only [hi]; cases h; rfl
      · rename_i hi; simp only [hi]; cases h; rfl
      · cases h
    · cases h
  · split at h
    · rename_i hx; unfold aopP; simp only [hx]; cases h; rfl
    · rename_i hx; unfold aopP; simp only [hx]; cases h; rfl
    · rename_i hx; unfold aopP; simp only [hx]; cases h; rfl
    · cases h
  · split at h
    · rename_i hl hl2 hx
      split at h
      · rename_i hd
        unfold aopP
        simp only [hl, hl2, hx, convP, hd]
        cases h; rfl
      · cases h
    · cases h
  · split at h
    · rename_i hl
      split at h
      · rename_i hd hx
        unfold aopP
        simp only [builtinP, hl, hd, hx]
        cases h
        exact ⟨hq _ rfl, rfl⟩
      · rename_i hd hx
        unfold aopP
        simp only [builtinP, hl, hd, hx, lenP]
        cases h; rfl
      · rename_i hd hx
        unfold aopP
        simp only [builtinP, hl, hd, hx, lenP]
        split at h
        · rename_i ho; simp only [ho]; cases h; rfl
        · cases h
      · cases h
    · cases h
  · split at h
    · rename_i hx hy
      unfold aopP
      simp only [builtinP, hx, hy]
      cases h; rfl
    · cases h
  · split at h
    · rename_i hx hy
      unfold aopP
      simp only [builtinP, hx, hy]
      cases h; rfl
    · cases h
  · cases h
/-- A quiet operation, under the guards C. -/
def gopP (T : TT) (n k : Nat) (own : List (Option Ob)) (env : List (Nat × AV)) (gds : GD) (C : Ctx) (o : Op) (K : AV → Prop) : Prop :=
  match o with
  | .pick (.tmp c) x y => match boolOf ((gEnv C env gds).lookup c), boolOf (ev ⟨n, k, gEnv (C ++ [(c, true)]) env gds, own⟩ x), boolOf (ev ⟨n, k, gEnv (C ++ [(c, false)]) env gds, own⟩ y) with
    | some b, some u, some v => K (.c (.v (.bool (pickB b x y u v))))
    | _, _, _ => False
  | o => match C with
    | [] => aopP T ⟨n, k, env, own⟩ o K
    | C => match aopC T ⟨n, k, gEnv C env gds, own⟩ o with
      | some (none, av) => K av
      | some (some p, av) => condP (gEnv C env gds) C p ∧ K av
      | none => False
def opsG (T : TT) (ops : Array Oper) (l : List Oper) : St → GD → (St → Prop) → Prop :=
  List.rec (motive := fun _ => St → GD → (St → Prop) → Prop) (fun st _ K => K st)
    (fun o _ ih st gds K => match st, o.dst with
      | ⟨n, k, env, own⟩, some dd => match o.guard with
        | none => gopP T n k own env gds [] o.op (fun av => ifD (dd < n) (forceA av fun av => forceL (dropG dd gds) fun gds' => ih ⟨n, k, (dd, av) :: env, own⟩ gds' K))
        | some (j, want) => match (ops[j]?).bind (·.dst) with
          | some d => match boolOf ((gEnv (ctxOf d gds) env gds).lookup d) with
            | some _ => forceL (ctxOf d gds ++ [(d, want)]) fun C => ifD (ctxFree dd C = true) (gopP T n k own env gds C o.op (fun av => ifD (dd < n) (forceA av fun av => forceL (dropG dd gds) fun gds' => ih ⟨n, k, (dd, .top) :: env, own⟩ ((dd, C, av) :: gds') K)))
            | none => False
          | none => False
      | _, none => False) l
/-- Operations that may be reckoned so. -/
def isG (T : TT) : Op → Bool
  | .move _ | .assign _ | .pick .. | .load .. | .fieldAddr .. | .indexAddr .. | .index .. | .binOp .. | .unOp .. | .extract .. | .nilCheck _ | .field .. => true
  | .convert s d _ => match T.lookup s, T.lookup d with
    | some ts, some td => (match ts.desc, td.desc with | .int _, .int _ => true | _, _ => false)
    | _, _ => false
  | .call { callee := .builtin .len, .. } | .call { callee := .builtin .min, .. } | .call { callee := .builtin .max, .. } => true
  | _ => false
def allG (T : TT) : List Oper → Bool
  | [] => true
  | o :: r => match o.dst with | some _ => (match isG T o.op with | true => allG T r | false => false) | none => false
def hasG : List Oper → Bool
  | [] => false
  | o :: r => match o.guard with | some _ => true | none => hasG r
section
variable {P : Program} {T : TT} {FF : FL} {mine may : Nat → Prop} {L : Nat → Value} {F : Nat → Nat → Prop} {h : Hp} {st : St} {a : Act} {w w0 : World}
def allT (a : Act) (C : Ctx) : Prop := ∀ d b, (d, b) ∈ C → a.tmps.getD d undef = .bool b
structure GOk (L : Nat → Value) (h : Hp) (gds : GD) (a : Act) : Prop where
  out : ∀ t C av, (t, C, av) ∈ gds → (allT a C → DenA L h av (a.tmps.getD t undef)) ∧ (¬ allT a C → a.tmps.getD t undef = undef)
theorem subCtx_ok : ∀ {C D : Ctx}, subCtx C D = true → allT a D → allT a C
  | [], D, _, _ => fun d b hm => nomatch hm
  | x :: r, [], hs, _ => by cases hs
  | x :: r, y :: s, hs, hD => by
    unfold subCtx at hs
    rw [Bool.and_eq_true, Bool.and_eq_true] at hs
    have e1 := Nat.eq_of_beq_eq_true hs.1.1
    have e2 : x.2 = y.2 := by
      have := hs.1.2
      cases hx : x.2 <;> cases hy : y.2 <;> rw [hx, hy] at this <;> first | rfl | cases this
    have ih := subCtx_ok hs.2 (fun d b hm => hD d b (List.mem_cons_of_mem _ hm))
    intro d b hm
    rcases List.mem_cons.1 hm with e | hm
    · refine hD d b ?_
      rw [e]
      have : x = y := Prod.ext e1 e2
      rw [this]
      exact List.mem_cons_self ..
    · exact ih d b hm
theorem gEnv_ok {n k : Nat} {env : List (Nat × AV)} {own : List (Option Ob)} {C : Ctx} (ha : Agree L h ⟨n, k, env, own⟩ a) (hC : allT a C) : ∀ {gds : GD}, GOk L h gds a → Agree L h ⟨n, k, gEnv C env gds, own⟩ a
  | [], _ => ha
  | x :: r, hg => by
    have ih := gEnv_ok (gds := r) ha hC ⟨fun t C av hm => hg.out t C av (List.mem_cons_of_mem _ hm)⟩
    unfold gEnv
    split
    · rename_i hs
      refine ⟨ih.size, fun t av ht => ?_, ih.defers⟩
      simp only [List.lookup_cons] at ht
      by_cases e : t = x.1
      · subst e
        simp at ht
        subst ht
        exact (hg.out x.1 x.2.1 x.2.2 (by simp)).1 (subCtx_ok hs hC)
      · have e' : (t == x.1) = false := by simpa using e
        rw [e'] at ht
        exact ih.env t av ht
    · exact ih
theorem boolOf_eq {o : Option AV} {b : Bool} (hb : boolOf o = some b) : o = some (.c (.v (.bool b))) := by
  unfold boolOf at hb
  split at hb
  · cases hb; rfl
  · cases hb
theorem condP_ok {n k : Nat} {env : List (Nat × AV)} {own : List (Option Ob)} (ha : Agree L h ⟨n, k, env, own⟩ a) {X : Prop} : ∀ {C : Ctx}, allT a C → condP env C X → X
  | [], _, hx => hx
  | x :: r, hC, hx => by
    have ih := condP_ok (C := r) ha (X := X) (fun d b hm => hC d b (List.mem_cons_of_mem _ hm))
    unfold condP at hx
    split at hx
    · rename_i b hb
      refine ih (hx ?_)
      have h1 := den_one (ha.env x.1 _ (boolOf_eq hb))
      have h2 := hC x.1 x.2 (by simp)
      rw [h2] at h1
      cases h1; rfl
    · exact ih hx
theorem pick_run {b : Bool} {x y : Operand} {u v : Bool} (hx : b = true → a.eval x = .bool u) (hy : b = false → a.eval y = .bool v) : (match b with | true => a.eval x | false => a.eval y) = .bool (pickB b x y u v) := by
  have lit : ∀ (z : Operand) (c : Bool), isLit z = some c → a.eval z = .bool c := fun z c hz => by
    unfold isLit at hz
    split at hz
    · cases hz; rfl
    · cases hz
  cases b with
  | true =>
    show a.eval x = _
    unfold pickB
    split
    · simpa using hx rfl
    · split
      · rename_i hl; simpa using lit x true hl
      · exact hx rfl
  | false =>
    show a.eval y = _
    unfold pickB
    split
    · rename_i hl; simpa using lit y false hl
    · split
      · simpa using hy rfl
      · exact hy rfl
theorem gop_ok (hT : TTok P T) {n k : Nat} {env : List (Nat × AV)} {own : List (Option Ob)} (hm : Mem mine L F h own w) (ha : Agree L h ⟨n, k, env, own⟩ a) {gds : GD} (hg : GOk L h gds a) {C : Ctx} {o : Oper} {K : AV → Prop} (hp : gopP T n k own env gds C o.op K) :
    ∃ av, K av ∧ (allT a C → ∃ v, DenA L h av v ∧ ∀ w', Same F own h w w' → (execOp a.eval o).run P w' = .ok (.value v) w') := by
  obtain ⟨dst, op, ty, pos, after, guard⟩ := o
  simp only at hp
  unfold gopP at hp
  split at hp
  · rename_i c x y
    split at hp
    · rename_i b u v hb hu hv
      refine ⟨_, hp, fun hC => ⟨.bool (pickB b x y u v), Den.v _ rfl, fun w' _ => ?_⟩⟩
      have e1 : a.tmps.getD c undef = .bool b := den_one ((gEnv_ok ha hC hg).env c _ (boolOf_eq hb))
      have hext : ∀ q : Bool, b = q → allT a (C ++ [(c, q)]) := fun q hq d b' hmm => by
        rcases List.mem_append.1 hmm with hmm | hmm
        · exact hC d b' hmm
        · simp at hmm
          obtain ⟨rfl, rfl⟩ := hmm
          rw [e1, hq]
      have hx : b = true → a.eval x = .bool u := fun hq => ev_v (gEnv_ok ha (hext true hq) hg) (boolOf_eq hu)
      have hy : b = false → a.eval y = .bool v := fun hq => ev_v (gEnv_ok ha (hext false hq) hg) (boolOf_eq hv)
      have hr := pick_run (a := a) hx hy
      have ec : a.eval (.tmp c) = .bool b := e1
      cases b with
      | true => simp only at hr; simp [execOp, ec, asBool, hr]
      | false => simp only at hr; simp [execOp, ec, asBool, hr]
    · exact hp.elim
  · split at hp
    · obtain ⟨av, v, h1, h2, h3⟩ := aop_ok hT (st := ⟨n, k, env, own⟩) hm ha (o := ⟨dst, op, ty, pos, after, guard⟩) hp
      exact ⟨av, h1, fun _ => ⟨v, h2, h3⟩⟩
    · have fin : ∀ (q : Option Prop × AV), aopC T ⟨n, k, gEnv C env gds, own⟩ op = some q → (allT a C → ∀ p, q.1 = some p → p) → (allT a C → ∃ v, DenA L h q.2 v ∧ ∀ w', Same F own h w w' → (execOp a.eval { dst := dst, op := op, type := ty, pos := pos, after := after, guard := guard }).run P w' = .ok (.value v) w') := fun q hq h1 hC => by
        have hag := gEnv_ok ha hC hg
        obtain ⟨av', v, k1, k2, k3⟩ := aop_ok hT (st := ⟨n, k, gEnv C env gds, own⟩) hm hag (o := ⟨dst, op, ty, pos, after, guard⟩) (aopC_ok hq (h1 hC))
        subst k1
        exact ⟨v, k2, k3⟩
      split at hp
      · rename_i av hq
        exact ⟨av, hp, fin _ hq (fun _ p e => by cases e)⟩
      · rename_i p av hq
        exact ⟨av, hp.2, fin _ hq (fun hC p' e => by cases e; exact condP_ok (gEnv_ok ha hC hg) hC hp.1)⟩
      · exact hp.elim
theorem put_other {x t : Nat} {v : Value} (hne : t ≠ x) : (a.put (some x) v).tmps.getD t undef = a.tmps.getD t undef := by
  simp [Act.put, Array.getD_eq_getD_getElem?, Array.getElem?_setIfInBounds, Ne.symm hne]
theorem put_self {x : Nat} {v : Value} (hx : x < a.tmps.size) : (a.put (some x) v).tmps.getD x undef = v := by simp [Act.put, hx]
theorem ctxFree_ok {x : Nat} : ∀ {C : Ctx}, ctxFree x C = true → ∀ d b, (d, b) ∈ C → d ≠ x
  | [], _, d, b, hm => nomatch hm
  | y :: r, hf, d, b, hm => by
    unfold ctxFree at hf
    split at hf
    · cases hf
    · rename_i hb
      rcases List.mem_cons.1 hm with e | hm
      · have e1 : d = y.1 := by rw [← e]
        intro e2
        rw [← e1, e2] at hb
        simp at hb
      · exact ctxFree_ok hf d b hm
theorem allT_put {x : Nat} {v : Value} {C : Ctx} (hf : ctxFree x C = true) : allT (a.put (some x) v) C ↔ allT a C := by
  constructor
  · intro hC d b hm
    rw [← put_other (v := v) (ctxFree_ok hf d b hm)]
    exact hC d b hm
  · intro hC d b hm
    rw [put_other (ctxFree_ok hf d b hm)]
    exact hC d b hm
theorem dropG_mem {x : Nat} : ∀ {gds : GD} {y : Nat × Ctx × AV}, y ∈ dropG x gds → y ∈ gds ∧ y.1 ≠ x ∧ ctxFree x y.2.1 = true
  | [], y, hm => nomatch hm
  | z :: r, y, hm => by
    unfold dropG at hm
    split at hm
    · have := dropG_mem hm
      exact ⟨List.mem_cons_of_mem _ this.1, this.2⟩
    · rename_i hb
      split at hm
      · rename_i hf
        rcases List.mem_cons.1 hm with rfl | hm
        · exact ⟨by simp, fun e => by rw [e] at hb; simp at hb, hf⟩
        · have := dropG_mem hm
          exact ⟨List.mem_cons_of_mem _ this.1, this.2⟩
      · have := dropG_mem hm
        exact ⟨List.mem_cons_of_mem _ this.1, this.2⟩
theorem gok_drop {gds : GD} (hg : GOk L h gds a) (x : Nat) (v : Value) : GOk L h (dropG x gds) (a.put (some x) v) := by
  refine ⟨fun t C av hm => ?_⟩
  obtain ⟨h1, h2, h3⟩ := dropG_mem hm
  obtain ⟨k1, k2⟩ := hg.out t C av h1
  rw [put_other h2]
  exact ⟨fun hC => k1 ((allT_put h3).1 hC), fun hC => k2 (fun hC' => hC ((allT_put h3).2 hC'))⟩
theorem ctxOf_mem {d : Nat} : ∀ {gds : GD}, ctxOf d gds = [] ∨ ∃ av, (d, ctxOf d gds, av) ∈ gds
  | [] => .inl rfl
  | x :: r => by
    unfold ctxOf
    split
    · rename_i hb
      have e := Nat.eq_of_beq_eq_true hb
      obtain ⟨x1, x2, x3⟩ := x
      simp only at e
      subst e
      exact .inr ⟨x3, by simp⟩
    · rcases ctxOf_mem (gds := r) with h1 | ⟨av, h1⟩
      · exact .inl h1
      · exact .inr ⟨av, List.mem_cons_of_mem _ h1⟩
/-- One operation more. -/
theorem opsG_step (hT : TTok P T) {ops : Array Oper} {o : Oper} {r : List Oper} {K : St → Prop} (hm : Mem mine L F h st.own w) (ha : Agree L h st a) {gds : GD} (hg : GOk L h gds a) (hp : opsG T ops (o :: r) st gds K) :
    ∃ v st' gds', (Region.wanted o (yielded ops a.tmps) = true ∧ (∀ w', Same F st.own h w w' → (execOp a.eval o).run P w' = .ok (.value v) w') ∨ Region.wanted o (yielded ops a.tmps) = false ∧ v = undef) ∧
      Agree L h st' (a.put o.dst v) ∧ GOk L h gds' (a.put o.dst v) ∧ (st'.own = st.own ∧ st'.k = st.k) ∧ opsG T ops r st' gds' K := by
  obtain ⟨n, k, env, own⟩ := st
  have hp : (match (⟨n, k, env, own⟩ : St), o.dst with
      | ⟨n, k, env, own⟩, some dd => match o.guard with
        | none => gopP T n k own env gds [] o.op (fun av => ifD (dd < n) (forceA av fun av => forceL (dropG dd gds) fun gds' => opsG T ops r ⟨n, k, (dd, av) :: env, own⟩ gds' K))
        | some (j, want) => match (ops[j]?).bind (·.dst) with
          | some d => match boolOf ((gEnv (ctxOf d gds) env gds).lookup d) with
            | some _ => forceL (ctxOf d gds ++ [(d, want)]) fun C => ifD (ctxFree dd C = true) (gopP T n k own env gds C o.op (fun av => ifD (dd < n) (forceA av fun av => forceL (dropG dd gds) fun gds' => opsG T ops r ⟨n, k, (dd, .top) :: env, own⟩ ((dd, C, av) :: gds') K)))
            | none => False
          | none => False
      | _, none => False) := hp
  cases hd : o.dst with
  | none => rw [hd] at hp; exact hp.elim
  | some dd =>
    rw [hd] at hp
    simp only at hp
    have hsize : a.tmps.size = n := ha.size
    cases hgd : o.guard with
    | none =>
      rw [hgd] at hp
      simp only at hp
      obtain ⟨av, hK, hrun⟩ := gop_ok hT hm ha hg hp
      obtain ⟨v, hden, hrun⟩ := hrun (fun d b hmm => nomatch hmm)
      obtain ⟨hlt, hK⟩ := ifD_and hK
      rw [forceA_eq, forceL_eq] at hK
      exact ⟨v, _, _, .inl ⟨by unfold Region.wanted; rw [hgd], hrun⟩, agree_put ha hlt hden, gok_drop hg dd v, ⟨rfl, rfl⟩, hK⟩
    | some jw =>
      obtain ⟨j, want⟩ := jw
      rw [hgd] at hp
      simp only at hp
      split at hp
      · rename_i d hdj
        split at hp
        · rename_i b hb
          rw [forceL_eq] at hp
          obtain ⟨hfree, hp⟩ := ifD_and hp
          obtain ⟨av, hK, hrun⟩ := gop_ok hT hm ha hg hp
          obtain ⟨hlt, hK⟩ := ifD_and hK
          rw [forceA_eq, forceL_eq] at hK
          have hwant : Region.wanted o (yielded ops a.tmps) = true ↔ allT a (ctxOf d gds ++ [(d, want)]) := by
            have hy : ∀ q, yielded ops a.tmps j = some q ↔ a.tmps.getD d undef = .bool q := fun q => by
              unfold yielded
              rw [hdj]
              simp only [Option.bind_some]
              rw [Array.getD_eq_getD_getElem?]
              cases a.tmps[d]? with
              | none => simp [undef]
              | some z => cases z <;> simp
            have h1 : Region.wanted o (yielded ops a.tmps) = true ↔ a.tmps.getD d undef = .bool want := by
              unfold Region.wanted
              rw [hgd]
              simp only [beq_iff_eq]
              exact hy want
            rw [h1]
            constructor
            · intro e d' b' hmm
              rcases List.mem_append.1 hmm with hmm | hmm
              · rcases ctxOf_mem (d := d) (gds := gds) with h2 | ⟨av2, h2⟩
                · rw [h2] at hmm; exact nomatch hmm
                · obtain ⟨_, k2⟩ := hg.out d _ av2 h2
                  by_cases hC : allT a (ctxOf d gds)
                  · exact hC d' b' hmm
                  · rw [k2 hC] at e; cases e
              · simp at hmm
                obtain ⟨rfl, rfl⟩ := hmm
                exact e
            · intro hC
              exact hC d want (by simp)
          have hps : ∀ v, (a.put (some dd) v).tmps.getD dd undef = v := fun v => put_self (by rw [hsize]; exact hlt)
          by_cases hC : allT a (ctxOf d gds ++ [(d, want)])
          · obtain ⟨v, hden, hrun⟩ := hrun hC
            refine ⟨v, _, _, .inl ⟨hwant.2 hC, hrun⟩, agree_put (av := .top) ha hlt trivial, ⟨fun t C av' hmm => ?_⟩, ⟨rfl, rfl⟩, hK⟩
            rcases List.mem_cons.1 hmm with e | hmm
            · cases e
              rw [hps]
              exact ⟨fun _ => hden, fun hno => absurd ((allT_put hfree).2 hC) hno⟩
            · exact (gok_drop hg dd v).out t C av' hmm
          · refine ⟨undef, _, _, .inr ⟨?_, rfl⟩, agree_put (av := .top) ha hlt trivial, ⟨fun t C av' hmm => ?_⟩, ⟨rfl, rfl⟩, hK⟩
            · cases hx : Region.wanted o (yielded ops a.tmps) with
              | false => rfl
              | true => exact absurd (hwant.1 hx) hC
            · rcases List.mem_cons.1 hmm with e | hmm
              · cases e
                rw [hps]
                exact ⟨fun hC' => absurd ((allT_put hfree).1 hC') hC, fun _ => rfl⟩
              · exact (gok_drop hg dd undef).out t C av' hmm
        · exact hp.elim
      · exact hp.elim
theorem gok_nil : GOk L h [] a := ⟨fun t C av hm => nomatch hm⟩
end
end Go.Eng
