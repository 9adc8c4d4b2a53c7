/- A part of the proof. -/
import Derived.Test.YteglopjljejjkacGreatDoorGA8TA12
import Derived.Tactics
import Derived.Orders
set_option linter.unusedVariables false
set_option linter.unusedSimpArgs false
namespace Go.Eng
open Go Go.RowKit
abbrev Ctx:=List (Nat × Bool)
abbrev GD:=List (Nat × Ctx × AV)
def subCtx : Ctx→Ctx→Bool
 | [],_=>true
 | x :: r,y :: s=>Nat.beq x.1 y.1 && (match x.2,y.2 with | true,true=>true | false,false=>true | _,_=>false) && subCtx r s
 | _ :: _,[]=>false
def gEnv (C : Ctx) (env : List (Nat × AV)) : GD→List (Nat × AV)
 | []=>env
 | x :: r=>match subCtx x.2.1 C with | true=>(x.1,x.2.2) :: gEnv C env r | false=>gEnv C env r
def ctxFree (x : Nat) : Ctx→Bool
 | []=>true
 | y :: r=>match Nat.beq y.1 x with | true=>false | false=>ctxFree x r
def dropG (x : Nat) : GD→GD
 | []=>[]
 | y :: r=>match Nat.beq y.1 x with
  | true=>dropG x r
  | false=>match ctxFree x y.2.1 with | true=>y :: dropG x r | false=>dropG x r
def boolOf : Option AV→Option Bool
 | some (.c (.v (.bool b)))=>some b
 | _=>none
def ctxOf (d : Nat) : GD→Ctx
 | []=>[]
 | x :: r=>match Nat.beq x.1 d with | true=>x.2.1 | false=>ctxOf d r
def condP (env : List (Nat × AV)) : Ctx→Prop→Prop
 | [],X=>X
 | x :: r,X=>match boolOf (env.lookup x.1) with
  | some b=>b = x.2→condP env r X
  | none=>condP env r X
def isLit : Operand→Option Bool
 | .const (.bool b)=>some b
 | _=>none
def pickB (b : Bool) (x y : Operand) (u v : Bool) : Bool :=
 match isLit y with
 | some false=>b && u
 | _=>match isLit x with
  | some true=>b || v
  | _=>match b with | true=>u | false=>v
def intF (op : BinOp) (k : IntKind) (a b : Int) : Option Value :=
 match op with
 | .add=>some (.int k (k.wrap (a + b)))
 | .sub=>some (.int k (k.wrap (a - b)))
 | .mul=>some (.int k (k.wrap (a * b)))
 | .eql=>some (.bool (a == b))
 | .neq=>some (.bool (a != b))
 | .lss=>some (.bool (decide (a < b)))
 | .leq=>some (.bool (decide (a≤b)))
 | .gtr=>some (.bool (decide (a > b)))
 | .geq=>some (.bool (decide (a ≥ b)))
 | .and=>some (.int k (bits .and k a b))
 | .or=>some (.int k (bits .or k a b))
 | .xor=>some (.int k (bits .xor k a b))
 | _=>none
def ifO {α : Type} (b : Bool) (x : Option α) : Option α:=match b with | true=>x | false=>none
theorem ifO_and {α : Type} {b : Bool} {x : Option α} {y : α} (h : ifO b x = some y) : b = true∧x = some y:=by
 unfold ifO at h
 split at h
 ·exact ⟨rfl,h⟩
 ·cases h
def eqB (T : TT) (t : TypeId) (ox oy : Operand) (x y : Value) : Option Bool :=
 match eqV T 10000 t x y with
 | some r=>ifO (guardOk T t ox oy x y && plainEq x y) (some r)
 | none=>none
def binF (T : TT) (op : BinOp) (t : TypeId) (ox oy : Operand) (x y : Value) : Option Value :=
 match x,y with
 | .int k a,.int k' b=>match op with
  | .shl=>none
  | .shr=>none
  | op=>ifO (decide (k = k')) (intF op k a b)
 | .string a,.string b=>match op with
  | .eql=>some (.bool (decide (a = b)))
  | .neq=>some (.bool (!(decide (a = b))))
  | _=>none
 | x,y=>match op with
  | .eql=>match eqB T t ox oy x y with | some r=>some (.bool r) | none=>none
  | .neq=>match eqB T t ox oy x y with | some r=>some (.bool (!r)) | none=>none
  | _=>none
def ldF (T : TT) (t : TypeId) (cs : List IC) : Option AV :=
 match T.lookup t with
 | some ti=>match ti.agg with
  | true=>ifO (decide (ti.size≤cs.length)) (some (.agg (cs.take ti.size)))
  | false=>match cs with
   | c :: _=>some (.c c)
   | []=>none
 | none=>none
def tag (p : Option Prop) (a : Option AV) : Option (Option Prop × AV):=match a with | some a=>some (p,a) | none=>none
def aopC (T : TT) (st : St) (o : Op) : Option (Option Prop × AV) :=
 match o with
 | .move x | .assign x=>tag none (ev st x)
 | .load t p=>match ev st p with
  | some (.c (.own i off))=>match st.own[i]? with
   | some (some (.cells _ cs))=>tag none (ldF T t (cs.drop off))
   | _=>none
  | some (.c (.fp cs))=>tag none (ldF T t cs)
  | some (.c (.rel i sz k off))=>match st.own[i]? with
   | some (some (.row _ sz' n f))=>ifO (decide (sz = sz')) (tag none (ldF T t ((f k).drop off)))
   | _=>none
  | _=>none
 | .fieldAddr s x i=>match fieldOff T s i,ev st x with
  | some o,some (.c (.own j off))=>some (none,.c (.own j (off + o)))
  | some o,some (.c (.fp cs))=>some (none,.c (.fp (cs.drop o)))
  | some o,some (.c (.rel j sz k off))=>some (none,.c (.rel j sz k (off + o)))
  | _,_=>none
 | .indexAddr t x i=>match T.lookup t,ev st x,idxOf (ev st i) with
  | some ti,some (.c (.sl sz n f)),some (_,j)=>(match ti.desc with
   | .slice e=>(match T.lookup e with | some te=>ifO (decide (te.size = sz)) (some (some (0≤j∧j < n),.c (.fp (f j.toNat)))) | none=>none)
   | _=>none)
  | some ti,some (.c (.row r)),some (_,j)=>(match ti.desc,st.own[r]? with
   | .slice e,some (some (.row _ sz n f))=>(match T.lookup e with | some te=>ifO (decide (te.size = sz)) (some (some (0≤j∧j < n),.c (.rel r sz j.toNat 0))) | none=>none)
   | _,_=>none)
  | _,_,_=>none
 | .index t x i=>match T.lookup t,ev st x,idxOf (ev st i) with
  | some ti,some (.c (.v (.string s))),some (_,j)=>(match ti.desc with | .string=>some (some (0≤j∧j < s.size),.c (.v (.int .u8 (s[j.toNat]!).toNat))) | _=>none)
  | _,_,_=>none
 | .binOp op t x y _=>match ev st x,ev st y with
  | some a,some b=>(match avVal a,avVal b with
   | some u,some v=>(match binF T op t x y u v with | some r=>some (none,.c (.v r)) | none=>none)
   | _,_=>(match op,nilT st T t a b with | .eql,.never=>some (none,.c (.v (.bool false))) | .neq,.never=>some (none,.c (.v (.bool true))) | _,_=>none))
  | _,_=>none
 | .unOp op t x=>match op,ev st x with
  | .not,some (.c (.v (.bool b)))=>some (none,.c (.v (.bool (!b))))
  | _,_=>none
 | .extract x i=>match ev st x with
  | some (.tup az)=>(match az[i]? with | some (.c y)=>some (none,.c y) | some (.agg ys)=>some (none,.agg ys) | _=>none)
  | _=>none
 | .nilCheck x=>match ev st x with
  | some (.c (.own j off))=>some (none,.c (.own j off))
  | some (.c (.fp cs))=>some (none,.c (.fp cs))
  | some (.c (.rel i sz k off))=>some (none,.c (.rel i sz k off))
  | _=>none
 | .convert src dst x=>match T.lookup dst,T.lookup src,ev st x with
  | some td,some ts,some (.c (.v (.int k n)))=>(match td.desc with | .int k'=>some (none,.c (.v (.int k' (k'.wrap n)))) | _=>none)
  | _,_,_=>none
 | .call { callee:=.builtin .len,args:=⟨[x]⟩,argTypes:=⟨[t]⟩ }=>match T.lookup t with
  | some ti=>match ti.desc,ev st x with
   | .string,some (.c (.v (.string s)))=>some (some (s.size≤9223372036854775807),.c (.v (.int .i64 s.size)))
   | .slice _,some (.c (.sl sz n f))=>some (none,.c (.v (.int .i64 n)))
   | .slice _,some (.c (.row i))=>(match st.own[i]? with | some (some (.row e sz n f))=>some (none,.c (.v (.int .i64 n))) | _=>none)
   | _,_=>none
  | none=>none
 | .call { callee:=.builtin .max,args:=⟨[x,y]⟩,argTypes:=⟨[_,_]⟩ }=>match ev st x,ev st y with
  | some (.c (.v (.int k a))),some (.c (.v (.int k' b)))=>some (none,.c (.v (.int k (maxI a b))))
  | _,_=>none
 | .call { callee:=.builtin .min,args:=⟨[x,y]⟩,argTypes:=⟨[_,_]⟩ }=>match ev st x,ev st y with
  | some (.c (.v (.int k a))),some (.c (.v (.int k' b)))=>some (none,.c (.v (.int k (minI a b))))
  | _,_=>none
 | _=>none
theorem ifD_mk' {p : Prop} [d : Decidable p] {x : Prop} (hp : p) (hx : x) : ifD p x:=by
 unfold ifD
 rw [decide_eq_true hp]
 exact hx
theorem ldF_ok {T : TT} {t : TypeId} {cs : List IC} {p : Option Prop} {q : Option Prop × AV} (h : tag p (ldF T t cs) = some q) : q.1 = p∧ldP T t cs (fun a=>a = q.2):=by
 unfold ldF at h
 unfold ldP
 cases hl : T.lookup t with
 | none=>rw [hl] at h;cases h
 | some ti =>
  rw [hl] at h
  simp only at h ⊢
  cases ha : ti.agg with
  | true =>
   rw [ha] at h
   simp only at h ⊢
   unfold ifO at h
   split at h
   ·rename_i hd
    cases h
    exact ⟨rfl,ifD_mk' (of_decide_eq_true hd) rfl⟩
   ·cases h
  | false =>
   rw [ha] at h
   simp only at h ⊢
   cases cs with
   | nil=>cases h
   | cons c r=>cases h;exact ⟨rfl,rfl⟩
theorem eqB_ok {T : TT} {t : TypeId} {ox oy : Operand} {x y : Value} {r : Bool} (h : eqB T t ox oy x y = some r) : eqV T 10000 t x y = some r∧guardOk T t ox oy x y = true∧plainEq x y = true:=by
 unfold eqB at h
 split at h
 ·rename_i r' hr
  obtain ⟨h1,h2⟩:=ifO_and h
  rw [Bool.and_eq_true] at h1
  cases h2
  exact ⟨hr,h1⟩
 ·cases h
theorem binF_ok {T : TT} {op : BinOp} {t : TypeId} {ox oy : Operand} {x y r : Value} {K : Value→Prop} (h : binF T op t ox oy x y = some r) (hK : K r) : binP T op t ox oy x y K:=by
 unfold binF at h
 unfold binP
 split at h
 ·split at h
  ·cases h
  ·cases h
  ·rename_i k a k' b op' hs1 hs2
   obtain ⟨h1,h2⟩:=ifO_and h
   have h1:=of_decide_eq_true h1
   simp only
   refine ifD_mk' h1 ?_
   unfold intF at h2
   unfold intOp
   split at h2 <;> first | (cases h2;exact hK) | cases h2
 ·simp only
  unfold strOp
  split at h <;> first | (cases h;exact hK) | cases h
 ·rename_i h1 h2
  split
  ·exact absurd rfl (h1 _ _ _ _ rfl)
  ·exact absurd rfl (h2 _ _ rfl)
  ·split at h
   ·split at h
    ·rename_i r' hr
     obtain ⟨e1,e2,e3⟩:=eqB_ok hr
     cases h
     simp only [e1]
     exact ifD_mk' e2 (ifD_mk' e3 hK)
    ·cases h
   ·split at h
    ·rename_i r' hr
     obtain ⟨e1,e2,e3⟩:=eqB_ok hr
     cases h
     simp only [e1]
     exact ifD_mk' e2 (ifD_mk' e3 hK)
    ·cases h
   ·cases h
theorem aopC_ok {T : TT} {st : St} {o : Op} {q : Option Prop × AV} (h : aopC T st o = some q) (hq : ∀ p,q.1 = some p→p) : aopP T st o (fun a=>a = q.2):=by
 unfold aopC at h
 split at h
 ·cases hx : ev st _ with
  | none=>rw [hx] at h;cases h
  | some v=>rw [hx] at h;cases h;simp only [aopP,hx]
 ·cases hx : ev st _ with
  | none=>rw [hx] at h;cases h
  | some v=>rw [hx] at h;cases h;simp only [aopP,hx]
 ·split at h
  ·rename_i i off hx
   unfold aopP
   simp only [hx,loadP]
   split at h
   ·rename_i ho;simp only [ho];exact (ldF_ok h).2
   ·cases h
  ·rename_i cs hx
   unfold aopP
   simp only [hx,loadP]
   exact (ldF_ok h).2
  ·rename_i i sz k off hx
   unfold aopP
   simp only [hx,loadP]
   split at h
   ·rename_i ho
    simp only [ho]
    obtain ⟨h1,h2⟩:=ifO_and h
    exact ifD_mk' (of_decide_eq_true h1) (ldF_ok h2).2
   ·cases h
  ·cases h
 ·split at h
  ·rename_i hf hx;unfold aopP;simp only [hf,hx];cases h;rfl
  ·rename_i hf hx;unfold aopP;simp only [hf,hx];cases h;rfl
  ·rename_i hf hx;unfold aopP;simp only [hf,hx];cases h;rfl
  ·cases h
 ·split at h
  ·rename_i hl hx hi
   unfold aopP
   simp only [hl,hx,hi]
   split at h
   ·rename_i hd
    simp only [hd]
    split at h
    ·rename_i hl2
     simp only [hl2]
     obtain ⟨h1,h2⟩:=ifO_and h
     cases h2
     exact ifD_mk' (of_decide_eq_true h1) ⟨hq _ rfl,rfl⟩
    ·cases h
   ·cases h
  ·rename_i hl hx hi
   unfold aopP
   simp only [hl,hx,hi]
   split at h
   ·rename_i hd ho
    simp only [hd,ho]
    split at h
    ·rename_i hl2
     simp only [hl2]
     obtain ⟨h1,h2⟩:=ifO_and h
     cases h2
     exact ifD_mk' (of_decide_eq_true h1) ⟨hq _ rfl,rfl⟩
    ·cases h
   ·cases h
  ·cases h
 ·split at h
  ·rename_i hl hx hi
   unfold aopP
   simp only [hl,hx,hi]
   split at h
   ·rename_i hd
    simp only [hd]
    cases h
    exact ⟨hq _ rfl,rfl⟩
   ·cases h
  ·cases h
 ·split at h
  ·rename_i hx hy
   split at h
   ·rename_i hu hv
    split at h
    ·rename_i hb
     cases h
     unfold aopP
     simp only [hx,hy,hu,hv]
     exact binF_ok hb rfl
    ·cases h
   ·rename_i hno
    split at h
    ·rename_i hn
     cases h
     unfold aopP
     simp only [hx,hy,hn,nilP]
    ·rename_i hn
     cases h
     unfold aopP
     simp only [hx,hy,hn,nilP]
    ·cases h
  ·cases h
 ·split at h
  ·rename_i hx;unfold aopP;simp only [hx];cases h;rfl
  ·cases h
 ·split at h
  ·rename_i hx
   unfold aopP
   simp only [hx]
   split at h
   ·rename_i hi;simp only [hi];cases h;rfl
   ·rename_i hi;simp only [hi];cases h;rfl
   ·cases h
  ·cases h
 ·split at h
  ·rename_i hx;unfold aopP;simp only [hx];cases h;rfl
  ·rename_i hx;unfold aopP;simp only [hx];cases h;rfl
  ·rename_i hx;unfold aopP;simp only [hx];cases h;rfl
  ·cases h
 ·split at h
  ·rename_i hl hl2 hx
   split at h
   ·rename_i hd
    unfold aopP
    simp only [hl,hl2,hx,convP,hd]
    cases h;rfl
   ·cases h
  ·cases h
 ·split at h
  ·rename_i hl
   split at h
   ·rename_i hd hx
    unfold aopP
    simp only [builtinP,hl,hd,hx]
    cases h
    exact ⟨hq _ rfl,rfl⟩
   ·rename_i hd hx
    unfold aopP
    simp only [builtinP,hl,hd,hx,lenP]
    cases h;rfl
   ·rename_i hd hx
    unfold aopP
    simp only [builtinP,hl,hd,hx,lenP]
    split at h
    ·rename_i ho;simp only [ho];cases h;rfl
    ·cases h
   ·cases h
  ·cases h
 ·split at h
  ·rename_i hx hy
   unfold aopP
   simp only [builtinP,hx,hy]
   cases h;rfl
  ·cases h
 ·split at h
  ·rename_i hx hy
   unfold aopP
   simp only [builtinP,hx,hy]
   cases h;rfl
  ·cases h
 ·cases h
def gopP (T : TT) (n k : Nat) (own : List (Option Ob)) (env : List (Nat × AV)) (gds : GD) (C : Ctx) (o : Op) (K : AV→Prop) : Prop :=
 match o with
 | .pick (.tmp c) x y=>match boolOf ((gEnv C env gds).lookup c),boolOf (ev ⟨n,k,gEnv (C ++ [(c,true)]) env gds,own⟩ x),boolOf (ev ⟨n,k,gEnv (C ++ [(c,false)]) env gds,own⟩ y) with
  | some b,some u,some v=>K (.c (.v (.bool (pickB b x y u v))))
  | _,_,_=>False
 | o=>match C with
  | []=>aopP T ⟨n,k,env,own⟩ o K
  | C=>match aopC T ⟨n,k,gEnv C env gds,own⟩ o with
   | some (none,av)=>K av
   | some (some p,av)=>condP (gEnv C env gds) C p∧K av
   | none=>False
def opsG (T : TT) (ops : Array Oper) (l : List Oper) : St→GD→(St→Prop)→Prop :=
 List.rec (motive:=fun _=>St→GD→(St→Prop)→Prop) (fun st _ K=>K st)
  (fun o _ ih st gds K=>match st,o.dst with
   | ⟨n,k,env,own⟩,some dd=>match o.guard with
    | none=>gopP T n k own env gds [] o.op (fun av=>ifD (dd < n) (forceA av fun av=>forceL (dropG dd gds) fun gds'=>ih ⟨n,k,(dd,av) :: env,own⟩ gds' K))
    | some (j,want)=>match (ops[j]?).bind (·.dst) with
     | some d=>match boolOf ((gEnv (ctxOf d gds) env gds).lookup d) with
      | some _=>forceL (ctxOf d gds ++ [(d,want)]) fun C=>ifD (ctxFree dd C = true) (gopP T n k own env gds C o.op (fun av=>ifD (dd < n) (forceA av fun av=>forceL (dropG dd gds) fun gds'=>ih ⟨n,k,(dd,.top) :: env,own⟩ ((dd,C,av) :: gds') K)))
      | none=>False
     | none=>False
   | _,none=>False) l
def isG (T : TT) : Op→Bool
 | .move _ | .assign _ | .pick .. | .load .. | .fieldAddr .. | .indexAddr .. | .index .. | .binOp .. | .unOp .. | .extract .. | .nilCheck _ | .field ..=>true
 | .convert s d _=>match T.lookup s,T.lookup d with
  | some ts,some td=>(match ts.desc,td.desc with | .int _,.int _=>true | _,_=>false)
  | _,_=>false
 | .call { callee:=.builtin .len,.. } | .call { callee:=.builtin .min,.. } | .call { callee:=.builtin .max,.. }=>true
 | _=>false
def allG (T : TT) : List Oper→Bool
 | []=>true
 | o :: r=>match o.dst with | some _=>(match isG T o.op with | true=>allG T r | false=>false) | none=>false
def hasG : List Oper→Bool
 | []=>false
 | o :: r=>match o.guard with | some _=>true | none=>hasG r
section
variable {P : Program} {T : TT} {FF : FL} {mine may : Nat→Prop} {L : Nat→Value} {F : Nat→Nat→Prop} {h : Hp} {st : St} {a : Act} {w w0 : World}
def allT (a : Act) (C : Ctx) : Prop:=∀ d b,(d,b) ∈ C→a.tmps.getD d undef = .bool b
structure GOk (L : Nat→Value) (h : Hp) (gds : GD) (a : Act) : Prop where
 out : ∀ t C av,(t,C,av) ∈ gds→(allT a C→DenA L h av (a.tmps.getD t undef))∧(¬ allT a C→a.tmps.getD t undef = undef)
theorem subCtx_ok : ∀ {C D : Ctx},subCtx C D = true→allT a D→allT a C
 | [],D,_,_=>fun d b hm=>nomatch hm
 | x :: r,[],hs,_=>by cases hs
 | x :: r,y :: s,hs,hD=>by
  unfold subCtx at hs
  rw [Bool.and_eq_true,Bool.and_eq_true] at hs
  have e1:=Nat.eq_of_beq_eq_true hs.1.1
  have e2 : x.2 = y.2:=by
   have:=hs.1.2
   cases hx : x.2 <;> cases hy : y.2 <;> rw [hx,hy] at this <;> first | rfl | cases this
  have ih:=subCtx_ok hs.2 (fun d b hm=>hD d b (List.mem_cons_of_mem _ hm))
  intro d b hm
  rcases List.mem_cons.1 hm with e | hm
  ·refine hD d b ?_
   rw [e]
   have : x = y:=Prod.ext e1 e2
   rw [this]
   exact List.mem_cons_self ..
  ·exact ih d b hm
theorem gEnv_ok {n k : Nat} {env : List (Nat × AV)} {own : List (Option Ob)} {C : Ctx} (ha : Agree L h ⟨n,k,env,own⟩ a) (hC : allT a C) : ∀ {gds : GD},GOk L h gds a→Agree L h ⟨n,k,gEnv C env gds,own⟩ a
 | [],_=>ha
 | x :: r,hg=>by
  have ih:=gEnv_ok (gds:=r) ha hC ⟨fun t C av hm=>hg.out t C av (List.mem_cons_of_mem _ hm)⟩
  unfold gEnv
  split
  ·rename_i hs
   refine ⟨ih.size,fun t av ht=>?_,ih.defers⟩
   simp only [List.lookup_cons] at ht
   by_cases e : t = x.1
   ·subst e
    simp at ht
    subst ht
    exact (hg.out x.1 x.2.1 x.2.2 (by simp)).1 (subCtx_ok hs hC)
   ·have e' : (t == x.1) = false:=by simpa using e
    rw [e'] at ht
    exact ih.env t av ht
  ·exact ih
theorem boolOf_eq {o : Option AV} {b : Bool} (hb : boolOf o = some b) : o = some (.c (.v (.bool b))):=by
 unfold boolOf at hb
 split at hb
 ·cases hb;rfl
 ·cases hb
theorem condP_ok {n k : Nat} {env : List (Nat × AV)} {own : List (Option Ob)} (ha : Agree L h ⟨n,k,env,own⟩ a) {X : Prop} : ∀ {C : Ctx},allT a C→condP env C X→X
 | [],_,hx=>hx
 | x :: r,hC,hx=>by
  have ih:=condP_ok (C:=r) ha (X:=X) (fun d b hm=>hC d b (List.mem_cons_of_mem _ hm))
  unfold condP at hx
  split at hx
  ·rename_i b hb
   refine ih (hx ?_)
   have h1:=den_one (ha.env x.1 _ (boolOf_eq hb))
   have h2:=hC x.1 x.2 (by simp)
   rw [h2] at h1
   cases h1;rfl
  ·exact ih hx
theorem pick_run {b : Bool} {x y : Operand} {u v : Bool} (hx : b = true→a.eval x = .bool u) (hy : b = false→a.eval y = .bool v) : (match b with | true=>a.eval x | false=>a.eval y) = .bool (pickB b x y u v):=by
 have lit : ∀ (z : Operand) (c : Bool),isLit z = some c→a.eval z = .bool c:=fun z c hz=>by
  unfold isLit at hz
  split at hz
  ·cases hz;rfl
  ·cases hz
 cases b with
 | true =>
  show a.eval x = _
  unfold pickB
  split
  ·simpa using hx rfl
  ·split
   ·rename_i hl;simpa using lit x true hl
   ·exact hx rfl
 | false =>
  show a.eval y = _
  unfold pickB
  split
  ·rename_i hl;simpa using lit y false hl
  ·split
   ·simpa using hy rfl
   ·exact hy rfl
theorem gop_ok (hT : TTok P T) {n k : Nat} {env : List (Nat × AV)} {own : List (Option Ob)} (hm : Mem mine L F h own w) (ha : Agree L h ⟨n,k,env,own⟩ a) {gds : GD} (hg : GOk L h gds a) {C : Ctx} {o : Oper} {K : AV→Prop} (hp : gopP T n k own env gds C o.op K) :
  ∃ av,K av∧(allT a C→∃ v,DenA L h av v∧∀ w',Same F own h w w'→(execOp a.eval o).run P w' = .ok (.value v) w'):=by
 obtain ⟨dst,op,ty,pos,after,guard⟩:=o
 simp only at hp
 unfold gopP at hp
 split at hp
 ·rename_i c x y
  split at hp
  ·rename_i b u v hb hu hv
   refine ⟨_,hp,fun hC=>⟨.bool (pickB b x y u v),Den.v _ rfl,fun w' _=>?_⟩⟩
   have e1 : a.tmps.getD c undef = .bool b:=den_one ((gEnv_ok ha hC hg).env c _ (boolOf_eq hb))
   have hext : ∀ q : Bool,b = q→allT a (C ++ [(c,q)]):=fun q hq d b' hmm=>by
    rcases List.mem_append.1 hmm with hmm | hmm
    ·exact hC d b' hmm
    ·simp at hmm
     obtain ⟨rfl,rfl⟩:=hmm
     rw [e1,hq]
   have hx : b = true→a.eval x = .bool u:=fun hq=>ev_v (gEnv_ok ha (hext true hq) hg) (boolOf_eq hu)
   have hy : b = false→a.eval y = .bool v:=fun hq=>ev_v (gEnv_ok ha (hext false hq) hg) (boolOf_eq hv)
   have hr:=pick_run (a:=a) hx hy
   have ec : a.eval (.tmp c) = .bool b:=e1
   cases b with
   | true=>simp only at hr;simp [execOp,ec,asBool,hr]
   | false=>simp only at hr;simp [execOp,ec,asBool,hr]
  ·exact hp.elim
 ·split at hp
  ·obtain ⟨av,v,h1,h2,h3⟩:=aop_ok hT (st:=⟨n,k,env,own⟩) hm ha (o:=⟨dst,op,ty,pos,after,guard⟩) hp
   exact ⟨av,h1,fun _=>⟨v,h2,h3⟩⟩
  ·have fin : ∀ (q : Option Prop × AV),aopC T ⟨n,k,gEnv C env gds,own⟩ op = some q→(allT a C→∀ p,q.1 = some p→p)→(allT a C→∃ v,DenA L h q.2 v∧∀ w',Same F own h w w'→(execOp a.eval { dst:=dst,op:=op,type:=ty,pos:=pos,after:=after,guard:=guard }).run P w' = .ok (.value v) w'):=fun q hq h1 hC=>by
    have hag:=gEnv_ok ha hC hg
    obtain ⟨av',v,k1,k2,k3⟩:=aop_ok hT (st:=⟨n,k,gEnv C env gds,own⟩) hm hag (o:=⟨dst,op,ty,pos,after,guard⟩) (aopC_ok hq (h1 hC))
    subst k1
    exact ⟨v,k2,k3⟩
   split at hp
   ·rename_i av hq
    exact ⟨av,hp,fin _ hq (fun _ p e=>by cases e)⟩
   ·rename_i p av hq
    exact ⟨av,hp.2,fin _ hq (fun hC p' e=>by cases e;exact condP_ok (gEnv_ok ha hC hg) hC hp.1)⟩
   ·exact hp.elim
theorem put_other {x t : Nat} {v : Value} (hne : t≠x) : (a.put (some x) v).tmps.getD t undef = a.tmps.getD t undef:=by
 simp [Act.put,Array.getD_eq_getD_getElem?,Array.getElem?_setIfInBounds,Ne.symm hne]
theorem put_self {x : Nat} {v : Value} (hx : x < a.tmps.size) : (a.put (some x) v).tmps.getD x undef = v:=by simp [Act.put,hx]
theorem ctxFree_ok {x : Nat} : ∀ {C : Ctx},ctxFree x C = true→∀ d b,(d,b) ∈ C→d≠x
 | [],_,d,b,hm=>nomatch hm
 | y :: r,hf,d,b,hm=>by
  unfold ctxFree at hf
  split at hf
  ·cases hf
  ·rename_i hb
   rcases List.mem_cons.1 hm with e | hm
   ·have e1 : d = y.1:=by rw [←e]
    intro e2
    rw [←e1,e2] at hb
    simp at hb
   ·exact ctxFree_ok hf d b hm
theorem allT_put {x : Nat} {v : Value} {C : Ctx} (hf : ctxFree x C = true) : allT (a.put (some x) v) C↔allT a C:=by
 constructor
 ·intro hC d b hm
  rw [←put_other (v:=v) (ctxFree_ok hf d b hm)]
  exact hC d b hm
 ·intro hC d b hm
  rw [put_other (ctxFree_ok hf d b hm)]
  exact hC d b hm
theorem dropG_mem {x : Nat} : ∀ {gds : GD} {y : Nat × Ctx × AV},y ∈ dropG x gds→y ∈ gds∧y.1≠x∧ctxFree x y.2.1 = true
 | [],y,hm=>nomatch hm
 | z :: r,y,hm=>by
  unfold dropG at hm
  split at hm
  ·have:=dropG_mem hm
   exact ⟨List.mem_cons_of_mem _ this.1,this.2⟩
  ·rename_i hb
   split at hm
   ·rename_i hf
    rcases List.mem_cons.1 hm with rfl | hm
    ·exact ⟨by simp,fun e=>by rw [e] at hb;simp at hb,hf⟩
    ·have:=dropG_mem hm
     exact ⟨List.mem_cons_of_mem _ this.1,this.2⟩
   ·have:=dropG_mem hm
    exact ⟨List.mem_cons_of_mem _ this.1,this.2⟩
theorem gok_drop {gds : GD} (hg : GOk L h gds a) (x : Nat) (v : Value) : GOk L h (dropG x gds) (a.put (some x) v):=by
 refine ⟨fun t C av hm=>?_⟩
 obtain ⟨h1,h2,h3⟩:=dropG_mem hm
 obtain ⟨k1,k2⟩:=hg.out t C av h1
 rw [put_other h2]
 exact ⟨fun hC=>k1 ((allT_put h3).1 hC),fun hC=>k2 (fun hC'=>hC ((allT_put h3).2 hC'))⟩
theorem ctxOf_mem {d : Nat} : ∀ {gds : GD},ctxOf d gds = []∨∃ av,(d,ctxOf d gds,av) ∈ gds
 | []=>.inl rfl
 | x :: r=>by
  unfold ctxOf
  split
  ·rename_i hb
   have e:=Nat.eq_of_beq_eq_true hb
   obtain ⟨x1,x2,x3⟩:=x
   simp only at e
   subst e
   exact .inr ⟨x3,by simp⟩
  ·rcases ctxOf_mem (gds:=r) with h1 | ⟨av,h1⟩
   ·exact .inl h1
   ·exact .inr ⟨av,List.mem_cons_of_mem _ h1⟩
theorem opsG_step (hT : TTok P T) {ops : Array Oper} {o : Oper} {r : List Oper} {K : St→Prop} (hm : Mem mine L F h st.own w) (ha : Agree L h st a) {gds : GD} (hg : GOk L h gds a) (hp : opsG T ops (o :: r) st gds K) :
  ∃ v st' gds',(Region.wanted o (yielded ops a.tmps) = true∧(∀ w',Same F st.own h w w'→(execOp a.eval o).run P w' = .ok (.value v) w')∨Region.wanted o (yielded ops a.tmps) = false∧v = undef) ∧
   Agree L h st' (a.put o.dst v)∧GOk L h gds' (a.put o.dst v)∧(st'.own = st.own∧st'.k = st.k)∧opsG T ops r st' gds' K:=by
 obtain ⟨n,k,env,own⟩:=st
 have hp : (match (⟨n,k,env,own⟩ : St),o.dst with
   | ⟨n,k,env,own⟩,some dd=>match o.guard with
    | none=>gopP T n k own env gds [] o.op (fun av=>ifD (dd < n) (forceA av fun av=>forceL (dropG dd gds) fun gds'=>opsG T ops r ⟨n,k,(dd,av) :: env,own⟩ gds' K))
    | some (j,want)=>match (ops[j]?).bind (·.dst) with
     | some d=>match boolOf ((gEnv (ctxOf d gds) env gds).lookup d) with
      | some _=>forceL (ctxOf d gds ++ [(d,want)]) fun C=>ifD (ctxFree dd C = true) (gopP T n k own env gds C o.op (fun av=>ifD (dd < n) (forceA av fun av=>forceL (dropG dd gds) fun gds'=>opsG T ops r ⟨n,k,(dd,.top) :: env,own⟩ ((dd,C,av) :: gds') K)))
      | none=>False
     | none=>False
   | _,none=>False):=hp
 cases hd : o.dst with
 | none=>rw [hd] at hp;exact hp.elim
 | some dd =>
  rw [hd] at hp
  simp only at hp
  have hsize : a.tmps.size = n:=ha.size
  cases hgd : o.guard with
  | none =>
   rw [hgd] at hp
   simp only at hp
   obtain ⟨av,hK,hrun⟩:=gop_ok hT hm ha hg hp
   obtain ⟨v,hden,hrun⟩:=hrun (fun d b hmm=>nomatch hmm)
   obtain ⟨hlt,hK⟩:=ifD_and hK
   rw [forceA_eq,forceL_eq] at hK
   exact ⟨v,_,_,.inl ⟨by unfold Region.wanted;rw [hgd],hrun⟩,agree_put ha hlt hden,gok_drop hg dd v,⟨rfl,rfl⟩,hK⟩
  | some jw =>
   obtain ⟨j,want⟩:=jw
   rw [hgd] at hp
   simp only at hp
   split at hp
   ·rename_i d hdj
    split at hp
    ·rename_i b hb
     rw [forceL_eq] at hp
     obtain ⟨hfree,hp⟩:=ifD_and hp
     obtain ⟨av,hK,hrun⟩:=gop_ok hT hm ha hg hp
     obtain ⟨hlt,hK⟩:=ifD_and hK
     rw [forceA_eq,forceL_eq] at hK
     have hwant : Region.wanted o (yielded ops a.tmps) = true↔allT a (ctxOf d gds ++ [(d,want)]):=by
      have hy : ∀ q,yielded ops a.tmps j = some q↔a.tmps.getD d undef = .bool q:=fun q=>by
       unfold yielded
       rw [hdj]
       simp only [Option.bind_some]
       rw [Array.getD_eq_getD_getElem?]
       cases a.tmps[d]? with
       | none=>simp [undef]
       | some z=>cases z <;> simp
      have h1 : Region.wanted o (yielded ops a.tmps) = true↔a.tmps.getD d undef = .bool want:=by
       unfold Region.wanted
       rw [hgd]
       simp only [beq_iff_eq]
       exact hy want
      rw [h1]
      constructor
      ·intro e d' b' hmm
       rcases List.mem_append.1 hmm with hmm | hmm
       ·rcases ctxOf_mem (d:=d) (gds:=gds) with h2 | ⟨av2,h2⟩
        ·rw [h2] at hmm;exact nomatch hmm
        ·obtain ⟨_,k2⟩:=hg.out d _ av2 h2
         by_cases hC : allT a (ctxOf d gds)
         ·exact hC d' b' hmm
         ·rw [k2 hC] at e;cases e
       ·simp at hmm
        obtain ⟨rfl,rfl⟩:=hmm
        exact e
      ·intro hC
       exact hC d want (by simp)
     have hps : ∀ v,(a.put (some dd) v).tmps.getD dd undef = v:=fun v=>put_self (by rw [hsize];exact hlt)
     by_cases hC : allT a (ctxOf d gds ++ [(d,want)])
     ·obtain ⟨v,hden,hrun⟩:=hrun hC
      refine ⟨v,_,_,.inl ⟨hwant.2 hC,hrun⟩,agree_put (av:=.top) ha hlt trivial,⟨fun t C av' hmm=>?_⟩,⟨rfl,rfl⟩,hK⟩
      rcases List.mem_cons.1 hmm with e | hmm
      ·cases e
       rw [hps]
       exact ⟨fun _=>hden,fun hno=>absurd ((allT_put hfree).2 hC) hno⟩
      ·exact (gok_drop hg dd v).out t C av' hmm
     ·refine ⟨undef,_,_,.inr ⟨?_,rfl⟩,agree_put (av:=.top) ha hlt trivial,⟨fun t C av' hmm=>?_⟩,⟨rfl,rfl⟩,hK⟩
      ·cases hx : Region.wanted o (yielded ops a.tmps) with
       | false=>rfl
       | true=>exact absurd (hwant.1 hx) hC
      ·rcases List.mem_cons.1 hmm with e | hmm
       ·cases e
        rw [hps]
        exact ⟨fun hC'=>absurd ((allT_put hfree).1 hC') hC,fun _=>rfl⟩
       ·exact (gok_drop hg dd undef).out t C av' hmm
    ·exact hp.elim
   ·exact hp.elim
theorem gok_nil : GOk L h [] a:=⟨fun t C av hm=>nomatch hm⟩
end
end Go.Eng
namespace Go.Eng
open Go Go.RowKit
def onB (x y : Prop) (b : Bool) : Prop:=match b with | true=>x | false=>y
theorem onB_intro {b : Bool} {x y : Prop} (hx : b = true→x) (hy : b = false→y) : onB x y b:=by cases b;exact hy rfl;exact hx rfl
def guardP (ops : Array Oper) (o : Oper) (st : St) (x y : Prop) : Prop :=
 match o.guard with
 | none=>x
 | some (j,want)=>match (ops[j]?).bind (·.dst) with
  | some d=>match st.env.lookup d with
   | some (.c (.v (.bool b)))=>(match want with | true=>onB x y b | false=>onB y x b)
   | some (.tup [])=>y
   | _=>False
  | none=>False
def skipK (st : St) (dst : Option Nat) (K : St→Prop) : Prop:=putK st dst (.tup []) K
def opsP (P : Program) [HasGl P] (T : TT) (FF : FL) (ops : Array Oper) (l : List Oper) : St→(St→Prop)→Prop :=
 List.rec (motive:=fun _=>St→(St→Prop)→Prop) (fun st K=>K st)
  (fun o _ ih st K=>guardP ops o st (stepP P T FF o st (fun st'=>ih st' K)) (skipK st o.dst (fun st'=>ih st' K))) l
inductive Ex where
 | normal
 | exit (id : Nat)
 | ret
def Ex.to : Ex→Exit
 | .normal=>.normal
 | .exit id=>.exit id
 | .ret=>.ret
section
variable {P : Program} {T : TT} {FF : FL} {may : Nat→Prop} {w0 : World} {st : St} {a : Act} {w : World}
theorem guard_wanted {L : Nat→Value} {h : Hp} (ha : Agree L h st a) {ops : Array Oper} {o : Oper} {x y : Prop} (hg : guardP ops o st x y) : (Region.wanted o (yielded ops a.tmps) = true∧x)∨(Region.wanted o (yielded ops a.tmps) = false∧y):=by
 unfold guardP at hg
 unfold Region.wanted
 split at hg
 ·rename_i e;rw [e];exact .inl ⟨rfl,hg⟩
 ·rename_i j want e
  rw [e]
  simp only
  split at hg
  ·rename_i d hd
   have key : ∀ av,st.env.lookup d = some av→DenA L h av ((a.tmps[d]?).getD undef):=fun av hl=>by
    have:=ha.env d av hl
    rw [Array.getD_eq_getD_getElem?] at this
    exact this
   split at hg
   ·rename_i b hl
    have hk:=den_one (key _ hl)
    have hy : yielded ops a.tmps j = some b:=by
     unfold yielded
     rw [hd]
     simp only [Option.bind_some]
     cases ht : a.tmps[d]? with
     | none=>rw [ht] at hk;simp [undef] at hk
     | some v=>rw [ht] at hk;simp only [Option.getD_some] at hk;rw [hk]
    rw [hy]
    cases want <;> cases b <;> simp_all [onB]
   ·rename_i hl
    obtain ⟨vs,hk,hlen,_⟩:=key _ hl
    have hvs : vs = []:=List.eq_nil_of_length_eq_zero (by simpa using hlen.symm)
    subst hvs
    have hy : yielded ops a.tmps j = none:=by
     unfold yielded
     rw [hd]
     simp only [Option.bind_some]
     cases ht : a.tmps[d]? with
     | none=>rfl
     | some v=>rw [ht] at hk;simp only [Option.getD_some] at hk;rw [hk]
    rw [hy]
    exact .inr ⟨by simp,hg⟩
   ·exact hg.elim
  ·exact hg.elim
theorem tup_nil {L : Nat→Value} {h : Hp} : DenA L h (.tup []) undef:=⟨[],rfl,rfl,fun j a u ha=>by simp at ha⟩
theorem ops_ok [HasGl P] {h0 : Base P} (hT : TTok P T) (hF : FTok P FF) {ops : Array Oper} {Q : Exit→Act→World→Prop} {K : St→Prop} (hQ : ∀ st a w,Sat may w0 h0 st a w→K st→Q .normal a w) : ∀ (l : List Oper) (st : St) (a : Act) (w : World),opsP P T FF ops l st K→Sat may w0 h0 st a w→wpList P ops Q l a w
 | [],st,a,w,hp,hs=>by
  refine wpList_nil ?_
  exact hQ st a w hs hp
 | o :: r,st,a,w,hp,hs=>by
  refine wpList_step (fun Kc hKc=>?_)
  obtain ⟨⟨L,F,h,hm,ha,hsub,hnew⟩,hk⟩:=hs
  rcases guard_wanted ha hp with ⟨hw,hp⟩ | ⟨hw,hp⟩
  ·rw [if_pos hw]
   have:=step_ok (Q:=Q) hT hF hp ⟨⟨L,F,h,hm,ha,hsub,hnew⟩,hk⟩
   unfold Oper.wp at this ⊢
   generalize (execOp a.eval o).run P w = res at this ⊢
   have mono : ∀ a' w',(∃ st',Sat may w0 h0 st' a' w'∧opsP P T FF ops r st' K)→Kc a' w':=fun a' w' ⟨st',h1,h2⟩=>hKc a' w' (ops_ok hT hF hQ r st' a' w' h2 h1)
   cases res with
   | ok n w' =>
    cases n <;> simp only [Oper.upon] at this ⊢ <;> first | exact mono _ _ this | exact this | skip
    ·exact this.mono (fun e w'' h=>by cases e <;> first | exact mono _ _ h | exact h)
    ·exact this.mono (fun v w'' h=>mono _ _ h)
   | halt x w'=>cases x <;> exact this
  ·rw [if_neg (by rw [hw];simp)]
   obtain ⟨st',h1,h2⟩:=put_sat hm ha hsub hnew hk (av:=.tup []) tup_nil hp
   exact hKc _ _ (ops_ok hT hF hQ r st' _ w h2 h1)
theorem opsG_ok [HasGl P] {h0 : Base P} (hT : TTok P T) {ops : Array Oper} {Q : Exit→Act→World→Prop} {K : St→Prop} (hQ : ∀ st a w,Sat may w0 h0 st a w→K st→Q .normal a w) : ∀ (l : List Oper) (st : St) (gds : GD) (a : Act) (w : World),opsG T ops l st gds K→Sat may w0 h0 st a w →
  (∀ L h,Agree L h st a→GOk L h gds a)→wpList P ops Q l a w:=by
 intro l st gds a w hp hs hg
 obtain ⟨⟨L,F,h,hm,ha,hsub,hnew⟩,hk⟩:=hs
 replace hg:=hg L h ha
 induction l generalizing st gds a with
 | nil=>exact wpList_nil (hQ st a w ⟨⟨L,F,h,hm,ha,hsub,hnew⟩,hk⟩ hp)
 | cons o r ih =>
  refine wpList_step (fun Kc hKc=>?_)
  obtain ⟨v,st',gds',hrun,h1,h2,h3,h4⟩:=opsG_step (P:=P) hT hm ha hg hp
  have go : Kc (a.put o.dst v) w:=hKc _ _ (ih st' gds' _ h4 (by rw [h3.1];exact hm) h1 (by rw [h3.2];exact hsub) h2)
  rcases hrun with ⟨hw,hrun⟩ | ⟨hw,rfl⟩
  ·rw [if_pos hw]
   exact value_upon (hrun w (fun _ _=>rfl)) go
  ·rw [if_neg (by rw [hw];simp)]
   exact go
structure LoopV (P : Program) [HasGl P] (c : Code) (Q : Ex→St→Prop) (st : St) : Prop where
 out : ∀ (may : Nat→Prop) (w0 : World) (h0 : Base P) (a : Act) (w : World),Sat may w0 h0 st a w→(Code.loop c).wp P (fun e a' w'=>∃ e' st',e = Ex.to e'∧Sat may w0 h0 st' a' w'∧Q e' st') a w
structure DrawV (P : Program) [HasGl P] (id : Nat) (ops : Array Oper) (K : St→Prop) (st : St) : Prop where
 out : ∀ (may : Nat→Prop) (w0 : World) (h0 : Base P) (a : Act) (w : World),Sat may w0 h0 st a w→(Code.region id ops true).wp P (fun e a' w'=>e = .normal∧∃ st',Sat may w0 h0 st' a' w'∧K st') a w
def vc (P : Program) [HasGl P] (T : TT) (FF : FL) (c : Code) : (Ex→St→Prop)→St→Prop :=
 Code.rec (motive:=fun _=>(Ex→St→Prop)→St→Prop)
  (fun Q st=>Q .normal st)
  (fun id ops draw Q st=>match draw with
   | false=>(match hasG ops.toList && allG T ops.toList with | true=>opsG T ops ops.toList st [] (Q .normal) | false=>opsP P T FF ops ops.toList st (Q .normal))
   | true=>DrawV P id ops (Q .normal) st)
  (fun _ _ ihx ihy Q st=>ihx (fun e st'=>match e with | .normal=>ihy Q st' | .exit i=>Q (.exit i) st' | .ret=>Q .ret st') st)
  (fun c _ _ ihx ihy Q st=>match ev st c with
   | some (.c (.v (.bool b)))=>onB (ihx Q st) (ihy Q st) b
   | _=>False)
  (fun id _ ih Q st=>ih (fun e st'=>match e with | .normal=>Q .normal st' | .exit i=>if i = id then Q .normal st' else Q (.exit i) st' | .ret=>Q .ret st') st)
  (fun c _ Q st=>LoopV P c Q st)
  (fun _ _ _ _ _ _ _ _=>False)
  (fun id Q st=>Q (.exit id) st)
  (fun _ _ _ _=>False)
  (fun _ _ _=>False)
  (fun _ _ _=>False)
  (fun Q st=>Q .ret st)
  (fun _ _ _=>False) c
theorem vc_cond (P : Program) [HasGl P] (T : TT) (FF : FL) (c : Operand) (x y : Code) (Q : Ex→St→Prop) (st : St) : vc P T FF (.cond c x y) Q st = (match ev st c with
   | some (.c (.v (.bool b)))=>onB (vc P T FF x Q st) (vc P T FF y Q st) b
   | _=>False):=rfl
theorem vc_ok [HasGl P] {h0 : Base P} (hT : TTok P T) (hF : FTok P FF) : ∀ (c : Code) (Q : Ex→St→Prop) (st : St) (a : Act) (w : World),vc P T FF c Q st→Sat may w0 h0 st a w→c.wp P (fun e a' w'=>∃ e' st',e = Ex.to e'∧Sat may w0 h0 st' a' w'∧Q e' st') a w
 | .skip,Q,st,a,w,hp,hs=>wp_skip ⟨.normal,st,rfl,hs,hp⟩
 | .region id ops draw,Q,st,a,w,hp,hs=>by
  cases draw with
  | false =>
   have hp : (match hasG ops.toList && allG T ops.toList with | true=>opsG T ops ops.toList st [] (Q .normal) | false=>opsP P T FF ops ops.toList st (Q .normal)):=hp
   split at hp
   ·exact wp_region_list (opsG_ok hT (fun st' a' w' h1 h2=>⟨.normal,st',rfl,h1,h2⟩) _ st [] a w hp hs (fun _ _ _=>gok_nil))
   ·exact wp_region_list (ops_ok hT hF (fun st' a' w' h1 h2=>⟨.normal,st',rfl,h1,h2⟩) _ st a w hp hs)
  | true=>exact Code.wp_mono (fun e a' w' ⟨he,st',h1,h2⟩=>⟨.normal,st',he,h1,h2⟩) (hp.out may w0 h0 a w hs)
 | .seq x y,Q,st,a,w,hp,hs=>by
  refine wp_seq (Code.wp_mono (fun e a' w' h=>?_) (vc_ok hT hF x _ st a w hp hs))
  obtain ⟨e',st',rfl,h1,h2⟩:=h
  cases e' with
  | normal=>exact vc_ok hT hF y Q st' a' w' h2 h1
  | exit i=>exact ⟨.exit i,st',rfl,h1,h2⟩
  | ret=>exact ⟨.ret,st',rfl,h1,h2⟩
 | .cond c x y,Q,st,a,w,hp,hs=>by
  rw [vc_cond] at hp
  split at hp
  ·rename_i b hc
   obtain ⟨⟨L,F,h,hm,ha,hsub,hnew⟩,hk⟩:=hs
   have hev : a.eval c = .bool b:=ev_v ha hc
   cases b with
   | true=>exact wp_cond_true hev (vc_ok hT hF x Q st a w hp ⟨⟨L,F,h,hm,ha,hsub,hnew⟩,hk⟩)
   | false=>exact wp_cond_false hev (vc_ok hT hF y Q st a w hp ⟨⟨L,F,h,hm,ha,hsub,hnew⟩,hk⟩)
  ·exact hp.elim
 | .block id c,Q,st,a,w,hp,hs=>by
  refine wp_block (Code.wp_mono (fun e a' w' h=>?_) (vc_ok hT hF c _ st a w hp hs))
  obtain ⟨e',st',rfl,h1,h2⟩:=h
  cases e' with
  | normal=>exact ⟨.normal,st',rfl,h1,h2⟩
  | exit i =>
   simp only at h2
   show Exit.inBlock id _ (.exit i) a' w'
   simp only [Exit.inBlock]
   split at h2
   ·rename_i e;rw [if_pos e];exact ⟨.normal,st',rfl,h1,h2⟩
   ·rename_i e;rw [if_neg e];exact ⟨.exit i,st',rfl,h1,h2⟩
  | ret=>exact ⟨.ret,st',rfl,h1,h2⟩
 | .loop c,Q,st,a,w,hp,hs=>hp.out may w0 h0 a w hs
 | .exit id,Q,st,a,w,hp,hs=>wp_exit ⟨.exit id,st,rfl,hs,hp⟩
 | .ret,Q,st,a,w,hp,hs=>wp_ret ⟨.ret,st,rfl,hs,hp⟩
 | .rangeFunc _ _ _ _,Q,st,a,w,hp,hs=>hp.elim
 | .scope _,Q,st,a,w,hp,hs=>hp.elim
 | .label _,Q,st,a,w,hp,hs=>hp.elim
 | .goto _,Q,st,a,w,hp,hs=>hp.elim
 | .refuse _,Q,st,a,w,hp,hs=>hp.elim
end
end Go.Eng
namespace Go.Eng
open Go Go.RowKit
def flat : AV→Bool
 | .tup _=>false
 | .top=>false
 | _=>true
def res1 (T : TT) (st : St) (rv : ResultVar) (K : AV→Prop) : Prop :=
 match rv with
 | .tmp t=>match st.env.lookup t with
  | some a=>ifD (flat a = true) (K a)
  | none=>False
 | .cell p ty=>match st.env.lookup p with
  | some (.c c)=>loadP T st ty c (fun a=>ifD (flat a = true) (K a))
  | _=>False
def resL (T : TT) (st : St) (l : List ResultVar) : (List AV→Prop)→Prop :=
 List.rec (motive:=fun _=>(List AV→Prop)→Prop) (fun K=>K []) (fun r _ ih K=>res1 T st r (fun a=>ih (fun l=>K (a :: l)))) l
def retV : List AV→AV
 | [a]=>a
 | l=>.tup l
def retK (Q : AV→Prop) (l : List AV) : Prop :=
 match l with
 | [a]=>ifD (cloA a = true) (Q a)
 | l=>ifD (cloA (.tup l) = true) (Q (.tup l))
theorem retK_eq {Q : AV→Prop} {l : List AV} (h : retK Q l) : cloA (retV l) = true∧Q (retV l):=by
 match l,h with
 | [],h=>exact ifD_and (p:=cloA (.tup []) = true) h
 | [a],h=>exact ifD_and (p:=cloA a = true) h
 | a :: b :: r,h=>exact ifD_and (p:=cloA (.tup (a :: b :: r)) = true) h
def ownsC (own : List (Option Ob)) : List IC→List Nat
 | []=>[]
 | .row j :: r=>j :: ownsC own r
 | .own j _ :: r=>(match own[j]? with | some (some (.cells _ cs))=>rowsC cs ++ [j] | _=>[]) ++ ownsC own r
 | .ifc _ (.own j _) :: r=>(match own[j]? with | some (some (.cells _ cs))=>rowsC cs ++ [j] | _=>[]) ++ ownsC own r
 | _ :: r=>ownsC own r
def ownsA (own : List (Option Ob)) : AV→List Nat
 | .c x=>ownsC own [x]
 | .agg xs=>ownsC own xs
 | .tup _=>[]
 | .top=>[]
def resOwns (st : St) : List ResultVar→List Nat
 | []=>[]
 | .tmp t :: r=>(match st.env.lookup t with | some a=>ownsA st.own a | none=>[]) ++ resOwns st r
 | .cell p _ :: r=>(match st.env.lookup p with
  | some (.c (.own i _))=>(match st.own[i]? with | some (some (.cells _ cs))=>ownsC st.own cs | _=>[])
  | _=>[]) ++ resOwns st r
def env0 (args : List AV) : List (Nat × AV):=args.zipIdx.map fun x=>(x.2,x.1)
section
variable {P : Program} {T : TT} {FF : FL} {mine may : Nat→Prop} {L : Nat→Value} {F : Nat→Nat→Prop} {h : Hp} {st : St} {a : Act} {w w0 : World}
theorem ldP_mono {t : TypeId} {cs : List IC} {K K' : AV→Prop} (hk : ∀ a,K a→K' a) (h : ldP T t cs K) : ldP T t cs K':=by
 unfold ldP at *
 split at h
 ·split at h
  ·have:=ifD_and h
   unfold ifD at *
   split <;> simp_all
  ·split at h
   ·exact hk _ h
   ·exact h
 ·exact h
theorem ifD_mk {p : Prop} [d : Decidable p] {x : Prop} (hp : p) (hx : x) : ifD p x:=by
 unfold ifD
 rw [decide_eq_true hp]
 exact hx
theorem loadP_mono {t : TypeId} {c : IC} {K K' : AV→Prop} (hk : ∀ a,K a→K' a) (h : loadP T st t c K) : loadP T st t c K':=by
 unfold loadP at *
 split at h
 ·split at h
  ·exact ldP_mono hk h
  ·exact h
 ·exact ldP_mono hk h
 ·split at h
  ·have:=ifD_and h
   exact ifD_mk this.1 (ldP_mono hk this.2)
  ·have:=ifD_and h
   exact ifD_mk this.1 ⟨this.2.1,ldP_mono hk this.2.2⟩
  ·exact h
 ·exact h
theorem res1_mono {rv : ResultVar} {K K' : AV→Prop} (hk : ∀ a,K a→K' a) (h : res1 T st rv K) : res1 T st rv K':=by
 unfold res1 at *
 split at h
 ·split at h
  ·have:=ifD_and h
   exact ifD_mk this.1 (hk _ this.2)
  ·exact h
 ·split at h
  ·exact loadP_mono (fun a ha=>by have:=ifD_and ha;exact ifD_mk this.1 (hk _ this.2)) h
  ·exact h
theorem resL_mono : ∀ {rs : List ResultVar} {K K' : List AV→Prop},(∀ l,K l→K' l)→resL T st rs K→resL T st rs K'
 | [],K,K',hk,h=>hk _ h
 | r :: rs,K,K',hk,h=>res1_mono (fun a ha=>resL_mono (fun l hl=>hk _ hl) ha) h
theorem flat_den {av : AV} {v : Value} (hf : flat av = true) (hd : DenA L h av v) : Den1 L h av v:=by cases av <;> first | exact hd | cases hf
theorem den_flat {av : AV} {v : Value} (hd : Den1 L h av v) : DenA L h av v:=by cases av <;> first | exact hd | exact hd.elim
theorem load_addr {c : IC} {K : AV→Prop} {p : Value} {t : TypeId} (hd : Den L h c p) (hp : loadP T st t c K) : ∃ ad,p = .pointer (some ad):=by
 unfold loadP at hp
 cases hd <;> first | exact ⟨_,rfl⟩ | exact hp.elim
theorem res1_ok (hT : TTok P T) (hm : Mem mine L F h st.own w) (ha : Agree L h st a) {rv : ResultVar} {K : AV→Prop} (hp : res1 T st rv K) : ∃ av v,K av∧Den1 L h av v∧flat av = true ∧
  ∀ (f : ResultVar→Sem Value),(∀ u,f (.tmp u) = pure (a.tmps.getD u undef))→(∀ p t,f (.cell p t) = (do loadVar t (← asAddr (a.tmps.getD p undef))))→(f rv).run P w = .ok v w:=by
 unfold res1 at hp
 split at hp
 ·split at hp
  ·rename_i t av hl
   have h1:=ha.env _ _ hl
   have hp:=ifD_and hp
   refine ⟨av,_,hp.2,flat_den hp.1 h1,hp.1,fun f hf _=>?_⟩
   rw [hf]
   rfl
  ·exact hp.elim
 ·rename_i p ty
  split at hp
  ·rename_i c hl
   have hd : Den L h c _:=ha.env _ _ hl
   obtain ⟨av,v,hK0,h2,h3⟩:=load_ok hT hm hd hp
   obtain ⟨hfl,hK⟩:=ifD_and hK0
   obtain ⟨ad,e⟩:=load_addr hd hp
   refine ⟨av,v,hK,flat_den hfl h2,hfl,fun f _ hf=>?_⟩
   have:=h3 w (fun _ _=>rfl)
   rw [hf]
   rw [e] at this ⊢
   simp only [Instr.loadAt,Instr.sureAddr,Sem.run_bind,Sem.run_pure,Result.andThen_ok] at this ⊢
   simp only [asAddr,Sem.run_pure,Result.andThen_ok]
   exact this
  ·exact hp.elim
theorem resL_ok (hT : TTok P T) (hm : Mem mine L F h st.own w) (ha : Agree L h st a) : ∀ (rs : List ResultVar) (K : List AV→Prop),resL T st rs K→∃ l vs,K l∧l.length = vs.length∧(∀ (j : Nat) av v,l[j]? = some av→vs[j]? = some v→Den1 L h av v∧flat av = true) ∧
  ∀ (f : ResultVar→Sem Value),(∀ u,f (.tmp u) = pure (a.tmps.getD u undef))→(∀ p t,f (.cell p t) = (do loadVar t (← asAddr (a.tmps.getD p undef))))→(rs.mapM f).run P w = .ok vs w
 | [],K,hp=>⟨[],[],hp,rfl,(fun j av v hj=>by simp at hj),fun f _ _=>by simp⟩
 | r :: rs,K,hp=>by
  obtain ⟨av,v,h1,h2,h3,h4⟩:=res1_ok hT hm ha hp
  obtain ⟨l,vs,k1,k0,k2,k3⟩:=resL_ok hT hm ha rs _ h1
  refine ⟨av :: l,v :: vs,k1,by simp [k0],fun j av' v' hj hv=>?_,fun f hf hc=>?_⟩
  ·cases j with
   | zero=>simp at hj hv;subst hj hv;exact ⟨h2,h3⟩
   | succ j=>simp at hj hv;exact k2 j av' v' hj hv
  ·rw [List.mapM_cons]
   simp [h4 f hf hc,k3 f hf hc]
theorem results_ok (hT : TTok P T) (hm : Mem mine L F h st.own w) (ha : Agree L h st a) {fn : Func} {Q : AV→Prop} (hp : resL T st fn.results.toList (fun l=>Q (retV l))) : ∃ r v,Q r∧DenA L h r v∧(results fn a.tmps).run P w = .ok v w:=by
 obtain ⟨l,vs,h1,h0,h2,h3⟩:=resL_ok hT hm ha _ _ hp
 have hrun : (results fn a.tmps).run P w = .ok (if hl : vs.toArray.size = 1 then vs.toArray[0] else .tuple vs.toArray) w:=by
  unfold results
  rw [show fn.results = fn.results.toList.toArray from by simp,List.mapM_toArray]
  simp only [Sem.run_bind,Sem.run_map]
  rw [h3]
  ·simp
  ·intro u;rfl
  ·intro p t;rfl
 refine ⟨_,_,h1,?_,hrun⟩
 match l,vs,h0,h2 with
 | [],[],_,_=>exact ⟨[],rfl,rfl,fun j a u ha=>by simp at ha⟩
 | [x],[v],_,h2=>exact den_flat (h2 0 x v rfl rfl).1
 | x :: y :: l,v :: u :: vs,h0,h2=>exact ⟨_,rfl,h0,fun j a' u' ha hu=>(h2 j a' u' ha hu).1⟩
theorem lookup_env0 (args : List AV) (t : Nat) : ∀ (k : Nat),((args.zipIdx k).map fun x=>(x.2,x.1)).lookup t = if k≤t then args[t - k]? else none:=by
 induction args with
 | nil=>intro k;simp
 | cons x r ih =>
  intro k
  rw [List.zipIdx_cons,List.map_cons,List.lookup_cons]
  by_cases e : t = k
  ·subst e;simp
  ·have e' : (t == k) = false:=by simpa using e
   rw [e']
   simp only
   rw [ih (k + 1)]
   by_cases hk : k + 1≤t
   ·rw [if_pos hk,if_pos (by omega)]
    have : t - k = (t - (k + 1)) + 1:=by omega
    rw [this,List.getElem?_cons_succ]
   ·rw [if_neg hk,if_neg (by omega)]
theorem agree0 {args : List AV} {vs : List Value} {n : Nat} (hn : args.length≤n) (hd : DenAs L h args vs) (k : Nat) (own : List (Option Ob)) : Agree L h ⟨n,k,env0 args,own⟩ { tmps:=vs.toArray ++ Array.replicate (n - vs.toArray.size) undef,defers:=[] }:=by
 have hl:=hd.len
 refine ⟨by simp;omega,fun t av hl=>?_,rfl⟩
 unfold env0 at hl
 simp only [lookup_env0 args t 0,Nat.zero_le,if_true,Nat.sub_zero] at hl
 have hlt:=(List.getElem?_eq_some_iff.1 hl).1
 have hlv : t < vs.length:=by omega
 rw [Array.getD_eq_getD_getElem?,Array.getElem?_append_left (by simpa using hlv)]
 simp [hlv]
 exact hd.den t av _ hl (by simp [hlv])
theorem callV_own [HasGl P] {own : List (Option Ob)} {f : FuncId} {fn : Func} {c : Code} (hf : P.funcs[f]? = some fn) (hb : fn.body = some c) (hT : TTok P T) (hF : FTok P FF) {args : List AV} {n : Nat} (hnn : fn.ntmps = n) {rs : List ResultVar} (hrs : fn.results.toList = rs) {env : List (Nat × AV)} (henv : env0 args = env) (hn : args.length≤n) {k : Nat} (hk : own.length = k) {Q : AV→List (Option Ob)→Prop}
  (hv : vc P T FF c (fun e st'=>match e with | .exit _=>False | _=>∃ st1,Weak st' st1∧resL T st1 rs (fun l=>∃ ob,headOk k ob = true∧nodupB ob = true∧Q (sbA (up (renT ob)) (retV l)) (ob.map (pickOwn st1.own (up (renT ob)))))) ⟨n,k,env,own⟩) : CallV P f args own Q:=by
 subst hnn hrs henv hk
 refine ⟨fun mine L F h w vs hgl hm hden=>?_⟩
 have hm0 : Mem (mineOf (footOf F own) w) L F h own w:=hm.mine_mono (fun b hb=>.inl hb)
 have hs : Sat (footOf F own) w (⟨h,L,hgl⟩ : Base P) ⟨fn.ntmps,own.length,env0 args,own⟩ { tmps:=vs.toArray ++ Array.replicate (fn.ntmps - vs.toArray.size) undef,defers:=[] } w :=
  ⟨⟨L,F,h,hm0,agree0 hn hden own.length own,⟨Sub.refl h,fun _ _=>rfl,hm.hn.symm⟩,fun k hk=>.inl hk⟩,Keep.refl _ w⟩
 refine calls_of_wp hf hb (Code.wp_mono (fun e a' w' hh=>?_) (vc_ok hT hF c _ _ _ _ hv hs))
 obtain ⟨e',st0,rfl,hs1,he⟩:=hh
 have hr : ∃ st1,Weak st0 st1∧resL T st1 fn.results.toList (fun l=>∃ ob,headOk own.length ob = true∧nodupB ob = true∧Q (sbA (up (renT ob)) (retV l)) (ob.map (pickOwn st1.own (up (renT ob))))):=by
  cases e' with
  | normal=>exact he
  | exit i=>exact he.elim
  | ret=>exact he
 obtain ⟨st1,hw,hr⟩:=hr
 obtain ⟨⟨L',F',h',hm',ha',hsub,hnew'⟩,hk⟩:=hw.out _ _ _ _ _ hs1
 obtain ⟨r,v,⟨ob,ho1,ho2,hQ⟩,hd,hrun⟩:=results_ok (Q:=fun r=>∃ ob,headOk own.length ob = true∧nodupB ob = true∧Q (sbA (up (renT ob)) r) (ob.map (pickOwn st1.own (up (renT ob))))) hT hm' ha' hr
 have hkk : st1.k = own.length:=by rw [hsub.kk];exact hm.hn
 have hsub2:=subB_norm (by rw [hkk];exact ho1) hsub
 have fin : a'.defers = []∧∃ v,(results fn a'.tmps).run P w' = .ok v w'∧∃ (r : AV) (u : Value) (L' : Nat→Value) (F' : Nat→Nat→Prop) (h' : Hp) (own' : List (Option Ob)),Ending.returned v = .returned u∧DenA L' h' r u∧(∀ i,i < h.n→L' i = L i)∧Mem (mineOf (footOf F own) w) L' F' h' own' w' ∧
   Keep (footOf F own) w w'∧Sub h h'∧(∀ k,h'.m k≠none→h.m k≠none∨mineOf (footOf F own) w k)∧Q r own' :=
  ⟨ha'.defers,_,hrun,_,v,_,_,_,_,rfl,(renU_ok L' h' ob).denA hd,hsub2.at_,mem_norm ho2 hm',hk,hsub2.sub,hnew',hQ⟩
 cases e' with
 | normal=>exact fin
 | exit i=>exact he.elim
 | ret=>exact fin
theorem callV_pure [HasGl P] {f : FuncId} {fn : Func} {c : Code} (hf : P.funcs[f]? = some fn) (hb : fn.body = some c) (hT : TTok P T) (hF : FTok P FF) {args : List AV} {n : Nat} (hnn : fn.ntmps = n) {rs : List ResultVar} (hrs : fn.results.toList = rs) {env : List (Nat × AV)} (henv : env0 args = env) (hn : args.length≤n) {Q : AV→Prop}
  (hv : vc P T FF c (fun e st'=>match e with | .exit _=>False | _=>frzL (resOwns st' rs) st' fun st'=>resL T st' rs (retK Q)) ⟨n,0,env,[]⟩) : CallV P f args [] (fun r own'=>own' = []∧Q r):=by
 subst hnn hrs henv
 refine ⟨fun mine L F h w vs hgl hm hden=>?_⟩
 have hm0 : Mem (mineOf (footOf F []) w) L F h [] w:=hm.mine_mono (fun b hb=>.inl hb)
 have hs : Sat (footOf F []) w (⟨h,L,hgl⟩ : Base P) ⟨fn.ntmps,0,env0 args,[]⟩ { tmps:=vs.toArray ++ Array.replicate (fn.ntmps - vs.toArray.size) undef,defers:=[] } w :=
  ⟨⟨L,F,h,hm0,agree0 hn hden 0 [],⟨Sub.refl h,fun _ _=>rfl,hm.hn.symm⟩,fun k hk=>.inl hk⟩,Keep.refl _ w⟩
 refine calls_of_wp hf hb (Code.wp_mono (fun e a' w' hh=>?_) (vc_ok hT hF c _ _ _ _ hv hs))
 obtain ⟨e',st0,rfl,hs1,he⟩:=hh
 have hr0 : frzL (resOwns st0 fn.results.toList) st0 (fun st'=>resL T st' fn.results.toList (retK Q)):=by
  cases e' with
  | normal=>exact he
  | exit i=>exact he.elim
  | ret=>exact he
 obtain ⟨st',⟨⟨L',F',h',hm',ha',hsub,hnew'⟩,hk⟩,hr⟩:=frzL_sat _ st0 hr0 hs1
 obtain ⟨r,v,⟨hcl,hQ⟩,hd,hrun⟩:=results_ok (Q:=fun r=>cloA r = true∧Q r) hT hm' ha' (resL_mono (fun l h=>retK_eq h) hr)
 have h0n : h.n = 0:=hm.hn
 have fin : a'.defers = []∧∃ v,(results fn a'.tmps).run P w' = .ok v w'∧∃ (r : AV) (u : Value) (L' : Nat→Value) (F' : Nat→Nat→Prop) (h' : Hp) (own' : List (Option Ob)),Ending.returned v = .returned u∧DenA L' h' r u∧(∀ i,i < h.n→L' i = L i)∧Mem (mineOf (footOf F []) w) L' F' h' own' w' ∧
   Keep (footOf F []) w w'∧Sub h h'∧(∀ k,h'.m k≠none→h.m k≠none∨mineOf (footOf F []) w k)∧own' = []∧Q r :=
  ⟨ha'.defers,_,hrun,r,v,L',F',⟨h'.m,0⟩,[],rfl,hd.clo 0 hcl,fun i hi=>by omega,⟨rfl,hm'.hsub,fun i ob hi=>by simp at hi,fun i ob b hi=>by simp at hi,fun i j oi oj b hi=>by simp at hi⟩,hk,⟨hsub.sub.m,by rw [h0n];exact Nat.le_refl _⟩,hnew',rfl,hQ⟩
 cases e' with
 | normal=>exact fin
 | exit i=>exact he.elim
 | ret=>exact fin
theorem not_foot_nil {b : Nat} : ¬ footOf F [] b:=fun ⟨i,ob,hi,_⟩=>by simp at hi
theorem denAs_clo {args : List AV} {vs : List Value} {L' : Nat→Value} (hd : DenAs L h args vs) (n' : Nat) (hcl : args.all cloA = true) : DenAs L' ⟨h.m,n'⟩ args vs :=
 ⟨hd.len,fun j a v hj hv=>(hd.den j a v hj hv).clo n' (List.all_eq_true.1 hcl a (List.mem_of_getElem? hj))⟩
theorem call_pure [HasGl P] {f : FuncId} {args : List AV} {Q : AV→Prop} (hc : CallV P f args [] (fun r own'=>own' = []∧Q r)) (hcl : args.all cloA = true) {own : List (Option Ob)} {K : AV→List (Option Ob)→Prop} (hK : ∀ r,Q r→K r own) : CallV P f args own K:=by
 refine ⟨fun mine L F h w vs hgl hm hden=>?_⟩
 have:=hc.out mine L F ⟨h.m,0⟩ w vs hgl ⟨rfl,hm.hsub,fun i ob hi=>by simp at hi,fun i ob b hi=>by simp at hi,fun i j oi oj b hi=>by simp at hi⟩ (denAs_clo hden 0 hcl)
 refine this.mono ?_
 rintro e w' ⟨r,v,L',F',h',own',h1,h2,h3,h4,h5,h6,h7,rfl,hQ⟩
 have hn0 : h'.n = 0:=h4.hn
 have hkeep : ∀ k,k < w.heap.size→w'.heap[k]? = w.heap[k]?:=fun k hk=>h5.block k hk not_foot_nil
 have hsub : Sub h ⟨h'.m,h.n⟩:=⟨h6.m,Nat.le_refl _⟩
 have hs2 : Sub h' ⟨h'.m,h.n⟩:=⟨fun _ _ e=>e,by rw [hn0];exact Nat.zero_le _⟩
 refine ⟨r,v,L,F,⟨h'.m,h.n⟩,own,h1,h2.mono hs2 (fun i hi=>by omega),fun _ _=>rfl,⟨hm.hn,h4.hsub,fun i ob hi=>obOk_move (hm.obs i ob hi) (fun b hb=>hkeep b (hm.foot i ob b hi hb).1) (fun _ _=>rfl) hsub,fun i ob b hi hb=>?_,hm.dis⟩,⟨h5.os,h5.tape,h5.output,h5.size,fun k hk _=>hkeep k hk⟩,hsub,(fun k hk2=>by
   rcases h7 k hk2 with h9 | h9 | h9
   ·exact .inl h9
   ·exact absurd h9 not_foot_nil
   ·exact .inr (.inr h9)),hK r hQ⟩
 have hlt:=(hm.foot i ob b hi hb)
 refine ⟨Nat.lt_of_lt_of_le hlt.1 h5.size,?_,.inl ⟨i,ob,hi,hb⟩⟩
 cases hx : h'.m b with
 | none=>rfl
 | some o =>
  rcases h7 b (by rw [hx];simp) with h9 | h9 | h9
  ·exact absurd hlt.2.1 h9
  ·exact absurd h9 not_foot_nil
  ·omega
theorem pure_calls [HasGl P] {f : FuncId} {args : List AV} {Q : AV→Prop} (hc : CallV P f args [] (fun r own'=>own' = []∧Q r)) (m : Nat→Option Obj) (hgl : HasGl.ok P m) (w : World) (hs : ∀ k o,m k = some o→w.heap[k]? = some o) {vs : List Value} (hd : DenAs (fun _=>undef) ⟨m,0⟩ args vs) :
  Calls P f vs.toArray w fun e w'=>∃ (r : AV) (v : Value) (L : Nat→Value) (h' : Hp),e = .returned v∧DenA L h' r v∧Below w.heap.size w w'∧Sub ⟨m,0⟩ h'∧(∀ k o,h'.m k = some o→w'.heap[k]? = some o)∧Q r:=by
 have:=hc.out (fun _=>True) (fun _=>undef) (fun _ _=>False) ⟨m,0⟩ w vs hgl ⟨rfl,hs,fun i ob hi=>by simp at hi,fun i ob b hi=>by simp at hi,fun i j oi oj b hi=>by simp at hi⟩ hd
 refine this.mono ?_
 rintro e w' ⟨r,v,L',F',h',own',h1,h2,h3,h4,h5,h6,h7,rfl,hQ⟩
 exact ⟨r,v,L',h',h1,h2,⟨h5.os,h5.tape,h5.output,h5.size,fun k hk=>h5.block k hk not_foot_nil⟩,h6,h4.hsub,hQ⟩
end
end Go.Eng
namespace Go.Eng
open Go Go.RowKit
def scalC : IC → Bool
  | .v x => x.oneCell'
  | _ => false
def scal1 : AV → Bool
  | .c x => scalC x
  | .agg xs => xs.all scalC
  | .tup _ => false
  | .top => false
def scalA : AV → Bool
  | .tup az => az.all scal1
  | a => scal1 a
def detV : AV → Option Value
  | .tup az => (az.mapM avVal).map fun vs => .tuple vs.toArray
  | a => avVal a
structure CallQ (P : Program) [HasGl P] (f : FuncId) (args : List AV) (K : AV → Prop) : Prop where
  out : ∃ r u, CallV P f args [] (fun r' own' => own' = [] ∧ r' = r) ∧ detV r = some u ∧ scalA r = true ∧ K r
theorem callQ {P : Program} [HasGl P] {f : FuncId} {args : List AV} {K : AV → Prop} {r : AV} {u : Value} (hc : CallV P f args [] (fun r' own' => own' = [] ∧ r' = r)) (hd : detV r = some u) (hs : scalA r = true) (hk : K r) : CallQ P f args K := ⟨⟨r, u, hc, hd, hs, hk⟩⟩
def qstepP (P : Program) [HasGl P] (T : TT) (F : FL) (o : Oper) (st : St) (K : St → Prop) : Prop :=
  match o.op with
  | .call { callee := .value x, args, argTypes := _ } => match argsOf st args.toList, fnOf (ev st x) with
    | some avs, some (f, caps) => ifD ((match F.lookup f with | some (some _) => true | _ => false) = true) (ifD ((avs ++ caps).all cloA = true) (CallQ P f (avs ++ caps) (fun r => putK st o.dst r K)))
    | _, _ => False
  | _ => aopP T st o.op (fun av => putK st o.dst av K)
def qopsP (P : Program) [HasGl P] (T : TT) (F : FL) (ops : Array Oper) (l : List Oper) : St → (St → Prop) → Prop :=
  List.rec (motive := fun _ => St → (St → Prop) → Prop) (fun st K => K st)
    (fun o _ ih st K => guardP ops o st (qstepP P T F o st (fun st' => ih st' K)) (skipK st o.dst (fun st' => ih st' K))) l
section
variable {P : Program} {T : TT} {FF : FL} {mine may : Nat → Prop} {L : Nat → Value} {F : Nat → Nat → Prop} {h : Hp} {st : St} {a : Act} {w w0 : World}
theorem mapM_cons_some {α β : Type} {f : α → Option β} {x : α} {xs : List α} {us : List β} (e : (x :: xs).mapM f = some us) : ∃ u r, us = u :: r ∧ f x = some u ∧ xs.mapM f = some r := by
  rw [List.mapM_cons] at e
  cases h1 : f x with
  | none => rw [h1] at e; cases e
  | some u =>
    rw [h1] at e
    cases h2 : xs.mapM f with
    | none => rw [h2] at e; cases e
    | some r => rw [h2] at e; cases e; exact ⟨u, r, rfl, rfl, rfl⟩
theorem scalL_den : ∀ {xs : List IC} {us : List Value}, xs.mapM cellV = some us → xs.all scalC = true → DenL L h xs us
  | [], us, e, _ => by simp at e; subst e; exact DenL.nil
  | x :: xs, us, e, hs => by
    obtain ⟨u, r, rfl, h1, h2⟩ := mapM_cons_some e
    rw [List.all_cons, Bool.and_eq_true] at hs
    cases x <;> first | cases h1 | skip
    exact DenL.cons (.v _ hs.1) (scalL_den h2 hs.2)
theorem scal1_den {r : AV} {u : Value} (hs : scal1 r = true) (hd : avVal r = some u) : Den1 L h r u := by
  cases r with
  | c x => cases x <;> first | cases hs | skip
           cases hd
           exact Den.v _ hs
  | agg xs =>
    simp only [avVal] at hd
    cases hx : xs.mapM cellV with
    | none => rw [hx] at hd; cases hd
    | some us => rw [hx] at hd; cases hd; exact ⟨us, rfl, scalL_den hx hs⟩
  | tup az => cases hs
  | top => cases hs
theorem scalT_den : ∀ {az : List AV} {us : List Value}, az.mapM avVal = some us → az.all scal1 = true → az.length = us.length ∧ ∀ (j : Nat) a u, az[j]? = some a → us[j]? = some u → Den1 L h a u
  | [], us, e, _ => by simp at e; subst e; exact ⟨rfl, fun j a u ha => by simp at ha⟩
  | x :: xs, us, e, hs => by
    obtain ⟨u, r, rfl, h1, h2⟩ := mapM_cons_some e
    rw [List.all_cons, Bool.and_eq_true] at hs
    obtain ⟨k1, k2⟩ := scalT_den h2 hs.2
    refine ⟨by simp [k1], fun j a v ha hv => ?_⟩
    cases j with
    | zero => simp at ha hv; subst ha hv; exact scal1_den hs.1 h1
    | succ j => simp at ha hv; exact k2 j a v ha hv
theorem det_den {r : AV} {u : Value} (hs : scalA r = true) (hd : detV r = some u) : DenA L h r u := by
  cases r with
  | c x => exact scal1_den (r := .c x) hs hd
  | agg xs => exact scal1_den (r := .agg xs) hs hd
  | tup az =>
    simp only [detV] at hd
    cases hx : az.mapM avVal with
    | none => rw [hx] at hd; cases hd
    | some us =>
      rw [hx] at hd
      cases hd
      obtain ⟨k1, k2⟩ := scalT_den hx hs
      exact ⟨us, rfl, k1, k2⟩
  | top => cases hs
theorem detT : ∀ {az : List AV} {us vs : List Value}, az.mapM avVal = some us → az.length = vs.length → (∀ (j : Nat) a u, az[j]? = some a → vs[j]? = some u → Den1 L h a u) → vs = us
  | [], us, vs, e, hl, _ => by simp at e; subst e; exact List.eq_nil_of_length_eq_zero (by simpa using hl.symm)
  | x :: xs, us, [], e, hl, _ => by simp at hl
  | x :: xs, us, v :: vs, e, hl, hd => by
    obtain ⟨u, r, rfl, h1, h2⟩ := mapM_cons_some e
    have e1 := avVal_den h1 (den_flat (hd 0 x v rfl rfl))
    have e2 := detT h2 (vs := vs) (by simpa using hl) (fun j a u ha hu => hd (j + 1) a u (by simpa using ha) (by simpa using hu))
    rw [e1, e2]
theorem det_val {r : AV} {u v : Value} (hd : detV r = some u) (hr : DenA L h r v) : v = u := by
  cases r with
  | c x => exact avVal_den (a := .c x) hd hr
  | agg xs => exact avVal_den (a := .agg xs) hd hr
  | tup az =>
    simp only [detV] at hd
    cases hx : az.mapM avVal with
    | none => rw [hx] at hd; cases hd
    | some us =>
      rw [hx] at hd
      cases hd
      obtain ⟨vs, rfl, hl, hd⟩ := hr
      rw [detT hx hl hd]
  | top => cases hd
theorem put_agree (ha : Agree L h st a) {dst : Option Nat} {av : AV} {v : Value} (hok : DenA L h av v) {K : St → Prop} (hp : putK st dst av K) : ∃ st', Agree L h st' (a.put dst v) ∧ (st'.own = st.own ∧ st'.k = st.k) ∧ K st' := by
  cases dst with
  | none => exact ⟨st, ha, ⟨rfl, rfl⟩, hp⟩
  | some d => exact ⟨st.put (some d) av, agree_put ha (putK_some hp).1 hok, ⟨rfl, rfl⟩, (putK_some hp).2⟩
theorem wpQuiet_mono {ops : Array Oper} {C : World → Prop} {Q Q' : Act → Prop} (hq : ∀ a, Q a → Q' a) : ∀ (l : List Oper) (a : Act), wpQuiet P ops C Q l a → wpQuiet P ops C Q' l a
  | [], a, hw => hq a hw
  | o :: r, a, hw => by
    unfold wpQuiet at *
    split
    · rename_i e
      rw [if_pos e] at hw
      exact Oper.quiet_mono (fun a ha => wpQuiet_mono hq r a ha) hw
    · rename_i e
      rw [if_neg e] at hw
      exact wpQuiet_mono hq r _ hw
theorem quiet_ops [HasGl P] (hgl : HasGl.ok P h.m) (hT : TTok P T) (hF : FTok P FF) {kk : Nat} {own : List (Option Ob)} (hm : Mem mine L F h own w) {ops : Array Oper} {K : St → Prop} : ∀ (l : List Oper) (st : St) (a : Act), (st.own = own ∧ st.k = kk) → qopsP P T FF ops l st K → Agree L h st a →
    wpQuiet P ops (fun w' => Below w.heap.size w w') (fun a' => ∃ st', Agree L h st' a' ∧ (st'.own = own ∧ st'.k = kk) ∧ K st') l a
  | [], st, a, ho, hp, ha => wpQuiet_nil ⟨st, ha, ho, hp⟩
  | o :: r, st, a, ho, hp, ha => by
    refine wpQuiet_step (fun Kc hKc => ?_)
    have go : ∀ st' a', (st'.own = own ∧ st'.k = kk) → qopsP P T FF ops r st' K → Agree L h st' a' → Kc a' := fun st' a' h1 h2 h3 => hKc a' (quiet_ops hgl hT hF hm r st' a' h1 h2 h3)
    rcases guard_wanted ha hp with ⟨hw, hp⟩ | ⟨hw, hp⟩
    · rw [if_pos hw]
      obtain ⟨dst, op, ty, pos, after, guard⟩ := o
      unfold qstepP at hp
      simp only at hp
      split at hp
      · rename_i x args ts _
        split at hp
        · rename_i avs f caps hx hfn
          obtain ⟨hf, hp⟩ := ifD_and hp
          obtain ⟨hcl, hp⟩ := ifD_and hp
          obtain ⟨rv, u, hc, hdet, hs, hk⟩ := hp.out
          have h1 := argsOf_ok ha hx
          obtain ⟨cv, g1, g2⟩ := fnOf_ok (L := L) ha hfn
          have h12 := h1.append g2
          obtain ⟨st', k1, k2, k3⟩ := put_agree ha (det_den (L := L) (h := h) hs hdet) hk
          refine ⟨u, fun w' hw' => ?_, go st' _ ⟨k2.1.trans ho.1, k2.2.trans ho.2⟩ k3 k1⟩
          have hargs : args.map a.eval ++ cv.toArray = (args.toList.map a.eval ++ cv).toArray := by
            apply Array.ext'
            simp
          have hrun : (execOp a.eval { dst := dst, op := .call { callee := .value x, args := args, argTypes := ts }, type := ty, pos := pos, after := after, guard := guard }).run P w' = .ok (.enter f (args.toList.map a.eval ++ cv).toArray) w' := by
            obtain ⟨fz, hfz⟩ : ∃ fz, FF.lookup f = some (some fz) := by
              split at hf
              · rename_i fz e; exact ⟨fz, e⟩
              · cases hf
            have he := hF f fz hfz (args.toList.map a.eval ++ cv).toArray w'
            rw [← hargs] at he ⊢
            unfold execOp
            simp [resolve, g1, Deferred.ofValue, invoke]
            simpa using he
          unfold Oper.quietAt
          rw [hrun]
          refine ⟨rfl, ?_⟩
          have hm' := mem_same hm (same_below hm hw') hw'.size
          have hcall := hc.out mine L F ⟨h.m, 0⟩ w' _ hgl ⟨rfl, hm'.hsub, fun i ob hi => by simp at hi, fun i ob b hi => by simp at hi, fun i j oi oj b hi => by simp at hi⟩ (denAs_clo h12 0 hcl)
          refine hcall.mono ?_
          rintro e w'' ⟨r', v', L', F', h', own', e1, e2, e3, e4, e5, e6, e7, rfl, rfl⟩
          have := det_val hdet e2
          refine ⟨by rw [e1, this], hw'.trans ⟨e5.os, e5.tape, e5.output, e5.size, fun k hk2 => e5.block k (Nat.lt_of_lt_of_le hk2 hw'.size) not_foot_nil⟩⟩
        · exact hp.elim
      · rw [← ho.1] at hm
        obtain ⟨av, v, h1, h2, h3⟩ := aop_ok hT hm ha (o := ⟨dst, op, ty, pos, after, guard⟩) hp
        obtain ⟨st', k1, k2, k3⟩ := put_agree ha h2 h1
        refine ⟨v, fun w' hw' => ?_, go st' _ ⟨k2.1.trans ho.1, k2.2.trans ho.2⟩ k3 k1⟩
        unfold Oper.quietAt
        rw [h3 w' (same_below hm hw')]
        exact ⟨rfl, rfl⟩
    · rw [if_neg (by rw [hw]; simp)]
      obtain ⟨st', k1, k2, k3⟩ := put_agree (av := .tup []) ha tup_nil hp
      exact go st' _ ⟨k2.1.trans ho.1, k2.2.trans ho.2⟩ k3 k1
theorem quiet_G (hT : TTok P T) {kk : Nat} {own : List (Option Ob)} (hm : Mem mine L F h own w) {ops : Array Oper} {K : St → Prop} : ∀ (l : List Oper) (st : St) (gds : GD) (a : Act), (st.own = own ∧ st.k = kk) → opsG T ops l st gds K → Agree L h st a → GOk L h gds a →
    wpQuiet P ops (fun w' => Below w.heap.size w w') (fun a' => ∃ st', Agree L h st' a' ∧ (st'.own = own ∧ st'.k = kk) ∧ K st') l a
  | [], st, gds, a, ho, hp, ha, hg => wpQuiet_nil ⟨st, ha, ho, hp⟩
  | o :: r, st, gds, a, ho, hp, ha, hg => by
    refine wpQuiet_step (fun Kc hKc => ?_)
    rw [← ho.1] at hm
    obtain ⟨v, st', gds', hrun, h1, h2, h3, h4⟩ := opsG_step (P := P) hT hm ha hg hp
    have go : Kc (a.put o.dst v) := hKc _ (quiet_G hT (ho.1 ▸ hm) r st' gds' _ ⟨h3.1.trans ho.1, h3.2.trans ho.2⟩ h4 h1 h2)
    rcases hrun with ⟨hw, hrun⟩ | ⟨hw, rfl⟩
    · rw [if_pos hw]
      refine ⟨v, fun w' hw' => ?_, go⟩
      unfold Oper.quietAt
      rw [hrun w' (same_below hm hw')]
      exact ⟨rfl, rfl⟩
    · rw [if_neg (by rw [hw]; simp)]
      exact go
theorem drawV_join [HasGl P] {id : Nat} {ops : Array Oper} {K : St → Prop} (hmx : P.follows .mixedOrders = true) (hB : Region.lexB .any ops = true) (hT : TTok P T) (hp : opsG T ops ops.toList st [] K) : DrawV P id ops K st := by
  refine ⟨fun may w0 h0 a w hs => ?_⟩
  obtain ⟨⟨L, F, h, hm, ha, hsub, hnew⟩, hk⟩ := hs
  refine wp_region_quiet (C := fun w' => Below w.heap.size w w') hmx hB ⟨rfl, rfl, rfl, Nat.le_refl _, fun _ _ => rfl⟩ ?_
  refine wpQuiet_mono (fun a' hq w' hw' => ?_) _ _ (quiet_G hT hm ops.toList st [] a ⟨rfl, rfl⟩ hp ha gok_nil)
  obtain ⟨st', k1, k2, k3⟩ := hq
  refine ⟨rfl, st', ⟨⟨L, F, h, ?_, k1, by rw [k2.2]; exact hsub, hnew⟩, keep_below hk hw'⟩, k3⟩
  rw [k2.1]
  exact mem_same hm (same_below hm hw') hw'.size
theorem drawV_frz [HasGl P] (l : List Nat) {id : Nat} {ops : Array Oper} {K : St → Prop} (hp : frzL l st fun st => DrawV P id ops K st) : DrawV P id ops K st := by
  refine ⟨fun may w0 h0 a w hs => ?_⟩
  obtain ⟨st', h1, h2⟩ := frzL_sat l st hp hs
  exact h2.out may w0 h0 a w h1
theorem drawV_quiet [HasGl P] {id : Nat} {ops : Array Oper} {K : St → Prop} (hmx : P.follows .mixedOrders = true) (hB : Region.lexB .any ops = true) (hT : TTok P T) (hF : FTok P FF) (hp : qopsP P T FF ops ops.toList st K) : DrawV P id ops K st := by
  refine ⟨fun may w0 h0 a w hs => ?_⟩
  obtain ⟨⟨L, F, h, hm, ha, hsub, hnew⟩, hk⟩ := hs
  refine wp_region_quiet (C := fun w' => Below w.heap.size w w') hmx hB ⟨rfl, rfl, rfl, Nat.le_refl _, fun _ _ => rfl⟩ ?_
  refine wpQuiet_mono (fun a' hq w' hw' => ?_) _ _ (quiet_ops (HasGl.mono h0.gl hsub.sub.m) hT hF hm ops.toList st a ⟨rfl, rfl⟩ hp ha)
  obtain ⟨st', k1, k2, k3⟩ := hq
  refine ⟨rfl, st', ⟨⟨L, F, h, ?_, k1, by rw [k2.2]; exact hsub, hnew⟩, keep_below hk hw'⟩, k3⟩
  rw [k2.1]
  exact mem_same hm (same_below hm hw') hw'.size
end
def depsOf (md : Region.Mode) (ops : Array Oper) (i : Nat) : List Nat := match ops[i]? with
  | some o => (o.after.toList.filter (fun e => Region.binds md e)).map (fun e => e.on)
  | none => []
def clos (md : Region.Mode) (ops : Array Oper) : Nat → List Nat → List Nat
  | 0, S => S
  | f + 1, S => clos md ops f ((S ++ S.flatMap (depsOf md ops)).eraseDups)
def tailB (md : Region.Mode) (ops : Array Oper) (k : Nat) : Bool :=
  (List.range ops.size).all fun i => (depsOf md ops i).all (fun j => decide (j < i)) && (decide (i < k) || (List.range i).all (fun j => (clos md ops i (depsOf md ops i)).contains j))
def lexPre (md : Region.Mode) (ops : Array Oper) : Nat → Nat → Array Bool → Bool
  | 0, p, listed => (List.range p).all (fun j => listed.getD j false)
  | fuel + 1, p, listed => (Region.ready md ops listed).contains p && Region.free md ops listed p && lexPre md ops fuel (p + 1) (listed.setIfInBounds p true)
def mixB (ops : Array Oper) (k : Nat) : Bool := Region.noSelect ops && decide (k ≤ ops.size) && tailB .any ops k && lexPre .any ops k 0 (Array.replicate ops.size false)
def Lclosed (md : Region.Mode) (ops : Array Oper) (listed : Array Bool) : Prop := ∀ i, i < ops.size → listed.getD i false = true → ∀ j, j ∈ depsOf md ops i → listed.getD j false = true
section
variable {P : Program} {ops : Array Oper} {md : Region.Mode} {C : World → Prop} {k : Nat}
theorem mem_deps {i j : Nat} {o : Oper} (ho : ops[i]? = some o) : j ∈ depsOf md ops i ↔ ∃ e, e ∈ o.after ∧ Region.binds md e = true ∧ e.on = j := by
  unfold depsOf
  rw [ho]
  simp only [List.mem_map, List.mem_filter, Array.mem_toList_iff]
  exact ⟨fun ⟨e, ⟨h1, h2⟩, h3⟩ => ⟨e, h1, h2, h3⟩, fun ⟨e, h1, h2, h3⟩ => ⟨e, ⟨h1, h2⟩, h3⟩⟩
theorem ready_deps {i : Nat} {listed : Array Bool} (hr : i ∈ Region.ready md ops listed) : i < ops.size ∧ listed.getD i true = false ∧ ∀ j, j ∈ depsOf md ops i → listed.getD j false = true := by
  obtain ⟨h1, o, ho, h2⟩ := mem_ready.1 hr
  refine ⟨(Array.getElem?_eq_some_iff.1 ho).1, h1, fun j hj => ?_⟩
  obtain ⟨e, he, hb, rfl⟩ := (mem_deps ho).1 hj
  exact h2 e he hb
theorem ready_of {i : Nat} {listed : Array Bool} (hi : i < ops.size) (h1 : listed.getD i true = false) (h2 : ∀ j, j ∈ depsOf md ops i → listed.getD j false = true) : i ∈ Region.ready md ops listed := by
  have ho : ops[i]? = some ops[i] := Array.getElem?_eq_getElem hi
  exact mem_ready.2 ⟨h1, _, ho, fun e he hb => h2 _ ((mem_deps ho).2 ⟨e, he, hb, rfl⟩)⟩
theorem clos_listed {listed : Array Bool} (hc : Lclosed md ops listed) : ∀ (f : Nat) (S : List Nat), (∀ j, j ∈ S → listed.getD j false = true) → ∀ j, j ∈ clos md ops f S → listed.getD j false = true
  | 0, S, hS, j, hj => hS j hj
  | f + 1, S, hS, j, hj => by
    refine clos_listed hc f _ (fun i hi => ?_) j hj
    rw [List.mem_eraseDups, List.mem_append, List.mem_flatMap] at hi
    rcases hi with hi | ⟨x, hx, hi⟩
    · exact hS i hi
    · by_cases hlt : x < ops.size
      · exact hc x hlt (hS x hx) i hi
      · unfold depsOf at hi
        rw [Array.getElem?_eq_none (by omega)] at hi
        cases hi
theorem tailB_spec (h : tailB md ops k = true) (i : Nat) (hi : i < ops.size) : (∀ j, j ∈ depsOf md ops i → j < i) ∧ (k ≤ i → ∀ j, j < i → j ∈ clos md ops i (depsOf md ops i)) := by
  have := List.all_eq_true.1 h i (List.mem_range.2 hi)
  rw [Bool.and_eq_true, Bool.or_eq_true] at this
  refine ⟨fun j hj => by simpa using List.all_eq_true.1 this.1 j hj, fun hk j hj => ?_⟩
  rcases this.2 with h2 | h2
  · simp at h2; omega
  · simpa using List.all_eq_true.1 h2 j (List.mem_range.2 hj)
theorem ready_tail (h : tailB md ops k = true) {listed : Array Bool} (hc : Lclosed md ops listed) {i : Nat} (hr : i ∈ Region.ready md ops listed) (hk : k ≤ i) : ∀ j, j < i → listed.getD j false = true := by
  obtain ⟨h1, h2, h3⟩ := ready_deps hr
  exact fun j hj => clos_listed hc i _ h3 j ((tailB_spec h i h1).2 hk j hj)
theorem getD_flip {listed : Array Bool} {j : Nat} (h1 : listed.getD j true = false) (h2 : listed.getD j false = true) : False := by
  rcases Nat.lt_or_ge j listed.size with h | h
  · simp [h] at h1 h2; rw [h1] at h2; cases h2
  · simp [Array.getElem?_eq_none h] at h2
theorem closed_set {listed : Array Bool} (hc : Lclosed md ops listed) {i : Nat} (hr : i ∈ Region.ready md ops listed) : Lclosed md ops (listed.setIfInBounds i true) := by
  intro x hx hl j hj
  obtain ⟨h1, h2, h3⟩ := ready_deps hr
  by_cases e : i = x
  · subst e
    exact getD_set_true (h3 j hj)
  · rw [getD_set_ne false e] at hl
    exact getD_set_true (hc x hx hl j hj)
def wpAnyT (P : Program) (md : Region.Mode) (ops : Array Oper) (C : World → Prop) (k : Nat) (R : Act → Prop) : Nat → Array Bool → Act → Prop
  | 0, listed, a => (∀ j, j < k → listed.getD j false = true) ∧ R a
  | fuel + 1, listed, a => (∃ j, j < k ∧ listed.getD j true = false) ∧ ∀ i, i ∈ Region.ready md ops listed → i < k → qOp P ops C i (wpAnyT P md ops C k R fuel (listed.setIfInBounds i true)) a
theorem wpAnyT_first {R : Act → Prop} {i : Nat} {oi : Oper} {v : Value} (hik : i < k) (hi : ops[i]? = some oi) (hsel : ∀ (j : Nat) (o : Oper) cs b, ops[j]? = some o → o.op ≠ .select cs b) :
    ∀ (fuel : Nat) (listed : Array Bool) (a : Act),
      (∀ j oj, ops[j]? = some oj → j ≠ i → listed.getD j true = false → (∀ e ∈ oj.after, Region.binds md e = true → e.on ≠ i) → oi.apart ops oj = true) →
      i ∈ Region.ready md ops listed → YieldsIn P ops C oi v a →
      wpAnyT P md ops C k R fuel (listed.setIfInBounds i true) (a.put oi.dst v) → wpAnyT P md ops C k R (fuel + 1) listed a := by
  intro fuel
  induction fuel with
  | zero =>
    intro listed a _ hr hy H
    refine ⟨⟨i, hik, (mem_ready.1 hr).1⟩, fun j hj hjk => ?_⟩
    by_cases hji : j = i
    · subst hji; exact hy.qOp hi H
    · have h1 := (mem_ready.1 (ready_mono hj hji)).1
      exact (getD_flip h1 (H.1 j hjk)).elim
  | succ fuel ih =>
    intro listed a hfree hr hy H
    refine ⟨⟨i, hik, (mem_ready.1 hr).1⟩, fun j hj hjk => ?_⟩
    by_cases hji : j = i
    · subst hji; exact hy.qOp hi H
    · have h1 := H.2 j (ready_mono hj hji) hjk
      obtain ⟨hjun, oj, hoj, hall⟩ := mem_ready.1 hj
      have hnot : ∀ e ∈ oj.after, Region.binds md e = true → e.on ≠ i := fun e he hb heq => by
        have h1 := hall e he hb
        have h0 := (mem_ready.1 hr).1
        rw [heq] at h1
        exact getD_flip h0 h1
      have h2 := qOp_put hoj (hfree j oj hoj hji hjun hnot) (fun cs b => hsel i oi cs b hi) (fun cs b => hsel j oj cs b hoj) hy h1
      have hfree' : ∀ m om, ops[m]? = some om → m ≠ i → (listed.setIfInBounds j true).getD m true = false →
          (∀ e ∈ om.after, Region.binds md e = true → e.on ≠ i) → oi.apart ops om = true := fun m om hm hmi hun hno => by
        refine hfree m om hm hmi ?_ hno
        by_cases hjm : j = m
        · subst hjm; exact hjun
        · rw [getD_set_ne true hjm] at hun; exact hun
      refine qOp_mono (fun a' h3 => ih (listed.setIfInBounds j true) a' hfree' (ready_mono hr (Ne.symm hji)) h3.1 ?_) h2
      rw [Array.setIfInBounds_comm _ _ hji]
      exact h3.2
theorem wpAnyT_lex {R : Act → Prop} (hs : Region.noSelect ops = true) : ∀ (l : List Oper) (p : Nat) (listed : Array Bool) (a : Act), (∀ j, j < l.length → l[j]? = ops[p + j]?) → p + l.length = k →
    lexPre md ops l.length p listed = true → wpQuiet P ops C R l a → wpAnyT P md ops C k R l.length listed a
  | [], p, listed, a, _, hk, hB, h => by
    refine ⟨fun j hj => ?_, h⟩
    simp at hk
    exact List.all_eq_true.1 hB j (List.mem_range.2 (by omega))
  | o :: l, p, listed, a, hl, hk, hB, h => by
    have h0 : ops[p]? = some o := by simpa using (hl 0 (by simp)).symm
    simp only [List.length_cons] at hk
    simp only [List.length_cons, lexPre, Bool.and_eq_true] at hB
    obtain ⟨⟨hr, hf⟩, hB'⟩ := hB
    have hst : qOp P ops C p (wpQuiet P ops C R l) a := by unfold qOp; simp only [h0]; exact h
    obtain ⟨v, hy, hK⟩ := yieldsIn_of_qOp h0 hst
    exact wpAnyT_first (by omega) h0 (Region.noSelect_spec hs) l.length listed a (Region.free_spec h0 hf) (by simpa using hr) hy
      (wpAnyT_lex hs l (p + 1) _ _ (fun j hj => by have := hl (j + 1) (by simp; omega); simpa [Nat.add_assoc, Nat.add_comm 1 j] using this) (by omega) hB' hK)
theorem least_ready (h : tailB md ops k = true) (hk : k ≤ ops.size) {listed : Array Bool} (hex : ∃ j, j < k ∧ listed.getD j true = false) : Region.ready md ops listed ≠ [] := by
  have key : ∀ n, ∀ j, j < n → j < k → listed.getD j true = false → ∃ i, i ∈ Region.ready md ops listed := by
    intro n
    induction n with
    | zero => intro j hj; omega
    | succ n ih =>
      intro j hj hjk hun
      by_cases hall : ∀ x, x < j → listed.getD x false = true
      · exact ⟨j, ready_of (by omega) hun (fun x hx => hall x ((tailB_spec h j (by omega)).1 x hx))⟩
      · obtain ⟨x, hx⟩ := Classical.not_forall.1 hall
        obtain ⟨hxj, hxu⟩ := Classical.not_imp.1 hx
        rcases Nat.lt_or_ge x listed.size with hs | hs
        · refine ih x (by omega) (by omega) ?_
          simp [hs] at hxu ⊢
          exact hxu
        · have hj2 : listed.getD j true = true := by simp [Array.getElem?_eq_none (show listed.size ≤ j by omega)]
          rw [hj2] at hun; cases hun
  obtain ⟨j, hjk, hun⟩ := hex
  obtain ⟨i, hi⟩ := key (j + 1) j (by omega) hjk hun
  intro e
  rw [e] at hi
  cases hi
theorem wpAny_of_T {R : Act → Prop} {Q : Exit → Act → World → Prop} (ht : tailB md ops k = true) (hk : k ≤ ops.size) (m : Nat)
    (hR : ∀ (listed : Array Bool) (a : Act) (w : World), C w → R a → listed.size = ops.size → (∀ j, j < k → listed.getD j false = true) → (∀ j, k ≤ j → j < ops.size → listed.getD j true = false) → Lclosed md ops listed → wpAny P md ops Q m listed a w) :
    ∀ (fuel : Nat) (listed : Array Bool) (a : Act) (w : World), C w → listed.size = ops.size → (∀ j, k ≤ j → j < ops.size → listed.getD j true = false) → Lclosed md ops listed → wpAnyT P md ops C k R fuel listed a → wpAny P md ops Q (fuel + m) listed a w
  | 0, listed, a, w, hw, hsz, hun, hc, H => by rw [Nat.zero_add]; exact hR listed a w hw H.2 hsz H.1 hun hc
  | fuel + 1, listed, a, w, hw, hsz, hun, hc, H => by
    rw [show fuel + 1 + m = (fuel + m) + 1 by omega]
    refine ⟨fun e => absurd e (least_ready ht hk H.1), fun i hi => ?_⟩
    have hik : i < k := by
      rcases Nat.lt_or_ge i k with h | h
      · exact h
      · obtain ⟨j, hjk, hju⟩ := H.1
        exact (getD_flip hju (ready_tail ht hc hi h j (by omega))).elim
    refine wpOp_of_qOp hw (fun a' w' hw' h => wpAny_of_T ht hk m hR fuel _ a' w' hw' (by simp [hsz]) (fun j h1 h2 => ?_) (closed_set hc hi) h) (H.2 i hi hik)
    rw [getD_set_ne true (by omega)]
    exact hun j h1 h2
theorem wpAny_tail {Q : Exit → Act → World → Prop} (ht : tailB md ops k = true) : ∀ (l : List Oper) (m : Nat) (listed : Array Bool) (a : Act) (w : World), (∀ j, l[j]? = ops[m + j]?) → m + l.length = ops.size → k ≤ m → listed.size = ops.size → (∀ j, j < m → listed.getD j false = true) →
    (∀ j, m ≤ j → j < ops.size → listed.getD j true = false) → Lclosed md ops listed → wpList P ops Q l a w → wpAny P md ops Q l.length listed a w
  | [], m, listed, a, w, hl, hm, hk, hsz, h1, h2, hc, hw => by
    refine ⟨?_, hw⟩
    refine List.eq_nil_iff_forall_not_mem.2 (fun i hi => ?_)
    obtain ⟨hi1, hi2, _⟩ := ready_deps hi
    simp at hm
    exact getD_flip hi2 (h1 i (by omega))
  | o :: l, m, listed, a, w, hl, hm, hk, hsz, h1, h2, hc, hw => by
    have h0 : ops[m]? = some o := by simpa using (hl 0).symm
    simp only [List.length_cons] at hm
    have hml : m < ops.size := by omega
    have hmr : m ∈ Region.ready md ops listed := ready_of hml (h2 m (Nat.le_refl _) hml) (fun j hj => h1 j ((tailB_spec ht m hml).1 j hj))
    refine ⟨(fun e => by rw [e] at hmr; cases hmr), fun i hi => ?_⟩
    have him : i = m := by
      obtain ⟨hi1, hi2, _⟩ := ready_deps hi
      rcases Nat.lt_trichotomy i m with h | h | h
      · exact (getD_flip hi2 (h1 i h)).elim
      · exact h
      · exact (getD_flip (h2 m (Nat.le_refl _) hml) (ready_tail ht hc hi (by omega) m h)).elim
    subst him
    have hop : wpOp P ops Q i (wpList P ops Q l) a w := by
      unfold wpOp
      simp only [h0]
      exact hw
    refine wpOp_mono (fun a' w' h => wpAny_tail ht l (i + 1) _ a' w' (fun j => by have := hl (j + 1); simpa [Nat.add_assoc, Nat.add_comm 1 j] using this) (by omega) (by omega) (by simp [hsz]) (fun j hj => ?_) (fun j hj1 hj2 => ?_) (closed_set hc hi) h) hop
    · by_cases e : i = j
      · subst e
        simp [hsz, hml]
      · rw [getD_set_ne false e]; exact h1 j (by omega)
    · rw [getD_set_ne true (by omega)]; exact h2 j (by omega) hj2
theorem wp_region_mix {id : Nat} {Q : Exit → Act → World → Prop} {a : Act} {w : World} (hmx : P.follows .mixedOrders = true) (hB : mixB ops k = true) (hC : C { w with drawn := w.drawn + 1 })
    (h : wpQuiet P ops C (fun a' => ∀ w', C w' → wpList P ops Q (ops.toList.drop k) a' w') (ops.toList.take k) a) : (Code.region id ops true).wp P Q a w := by
  unfold mixB at hB
  simp only [Bool.and_eq_true, decide_eq_true_eq] at hB
  obtain ⟨⟨⟨hs, hk⟩, ht⟩, hl⟩ := hB
  refine wp_region_any hmx ?_
  have hlen : (ops.toList.take k).length = k := by simp; omega
  have hT := wpAnyT_lex (P := P) (md := .any) (C := C) (k := k) hs (ops.toList.take k) 0 (Array.replicate ops.size false) a (fun j hj => by
    rw [hlen] at hj
    rw [List.getElem?_take, if_pos hj, Nat.zero_add, Array.getElem?_toList]) (by omega) (by rw [hlen]; exact hl) h
  rw [hlen] at hT
  have hsz : ops.size = k + (ops.toList.drop k).length := by simp; omega
  have hcl : Lclosed .any ops (Array.replicate ops.size false) := fun i hi hx => by simp [hi] at hx
  have key := wpAny_of_T (Q := Q) ht hk (ops.toList.drop k).length (fun listed a' w' hw' hR hz h1 h2 hc =>
    wpAny_tail ht (ops.toList.drop k) k listed a' w' (fun j => by rw [List.getElem?_drop, Array.getElem?_toList]) (by simp; omega) (Nat.le_refl _) hz h1 h2 hc (hR w' hw')) k _ a _ hC (by simp) (fun j _ hj => by simp [hj]) hcl hT
  rw [← hsz] at key
  exact key
end
section
variable {P : Program} {T : TT} {FF : FL} {st : St}
theorem drawV_mix [HasGl P] (k : Nat) {id : Nat} {ops : Array Oper} {K : St → Prop} (hmx : P.follows .mixedOrders = true) (hB : mixB ops k = true) (hT : TTok P T) (hF : FTok P FF)
    (hp : qopsP P T FF ops (ops.toList.take k) st (fun st' => opsP P T FF ops (ops.toList.drop k) st' K)) : DrawV P id ops K st := by
  refine ⟨fun may w0 h0 a w hs => ?_⟩
  obtain ⟨⟨L, F, h, hm, ha, hsub, hnew⟩, hk⟩ := hs
  refine wp_region_mix (k := k) (C := fun w' => Below w.heap.size w w') hmx hB ⟨rfl, rfl, rfl, Nat.le_refl _, fun _ _ => rfl⟩ ?_
  refine wpQuiet_mono (fun a' hq w' hw' => ?_) _ _ (quiet_ops (HasGl.mono h0.gl hsub.sub.m) hT hF hm (ops.toList.take k) st a ⟨rfl, rfl⟩ hp ha)
  obtain ⟨st', k1, k2, k3⟩ := hq
  refine ops_ok (may := may) (w0 := w0) (h0 := h0) (K := K) hT hF (fun st'' a'' w'' h1 h2 => ⟨rfl, st'', h1, h2⟩) _ st' a' w' k3 ⟨⟨L, F, h, ?_, k1, by rw [k2.2]; exact hsub, hnew⟩, keep_below hk hw'⟩
  rw [k2.1]
  exact mem_same hm (same_below hm hw') hw'.size
end
section
variable {P : Program} {T : TT} {FF : FL} {may : Nat → Prop} {st : St} {a : Act} {w w0 : World}
theorem exists_least {R : Nat → Prop} (h : ∃ n, R n) : ∃ n, R n ∧ ∀ m, R m → n ≤ m := by
  obtain ⟨n, hn⟩ := h
  induction n using Nat.strongRecOn with
  | ind n ih =>
    by_cases hl : ∃ m, m < n ∧ R m
    · obtain ⟨m, h1, h2⟩ := hl
      exact ih m h1 h2
    · exact ⟨n, hn, fun m hm => Nat.le_of_not_lt (fun h => hl ⟨m, h, hm⟩)⟩
theorem least_ex (R : Nat → Prop) : ∃ n, (∃ m, R m) → R n ∧ ∀ m, R m → n ≤ m := by
  by_cases h : ∃ m, R m
  · obtain ⟨n, hn⟩ := exists_least h
    exact ⟨n, fun _ => hn⟩
  · exact ⟨0, fun k => absurd k h⟩
theorem loopV [HasGl P] (hT : TTok P T) (hF : FTok P FF) {c : Code} {Q : Ex → St → Prop} (I : Nat → St → Prop) {n : Nat} {st st1 : St} (hw : Weak st st1) (hI : I n st1)
    (hs : ∀ n st, I n st → vc P T FF c (fun e st' => match e with | .normal => ∃ m st'', m < n ∧ Weak st' st'' ∧ I m st'' | .exit i => Q (.exit i) st' | .ret => Q .ret st') st) : LoopV P c Q st := by
  refine ⟨fun may w0 h0 a w hsat => ?_⟩
  let R : Nat → Act → World → Prop := fun n a w => ∃ st, I n st ∧ Sat may w0 h0 st a w
  have hR : ∃ n, R n a w := ⟨n, st1, hI, hw.out _ _ _ _ _ hsat⟩
  refine wp_loop (fun a w => ∃ n, R n a w) (fun a w => Classical.choose (least_ex fun n => R n a w)) hR (fun a w hex => ?_)
  obtain ⟨st2, h1, h2⟩ := (Classical.choose_spec (least_ex fun n => R n a w) hex).1
  refine Code.wp_mono (fun e a' w' hh => ?_) (vc_ok hT hF c _ st2 a w (hs _ st2 h1) h2)
  obtain ⟨e', st', rfl, k1, k2⟩ := hh
  cases e' with
  | normal =>
    obtain ⟨m, st'', hlt, hwk, hI2⟩ := k2
    have hm : R m a' w' := ⟨st'', hI2, hwk.out _ _ _ _ _ k1⟩
    exact ⟨⟨m, hm⟩, Nat.lt_of_le_of_lt ((Classical.choose_spec (least_ex fun n => R n a' w') ⟨m, hm⟩).2 m hm) hlt⟩
  | exit i => exact ⟨.exit i, st', rfl, k1, k2⟩
  | ret => exact ⟨.ret, st', rfl, k1, k2⟩
def vcR (P : Program) [HasGl P] (T : TT) (FF : FL) (c : Code) (Q : Ex → St → Prop) (n : Nat) : St → Prop :=
  Nat.rec (motive := fun _ => St → Prop) (fun _ => False)
    (fun _ ih st => vc P T FF c (fun e st' => match e with | .normal => ih st' | .exit i => Q (.exit i) st' | .ret => Q .ret st') st) n
theorem loop_rounds [HasGl P] (n : Nat) (hT : TTok P T) (hF : FTok P FF) {c : Code} {Q : Ex → St → Prop} {st : St} (hp : vcR P T FF c Q n st) : LoopV P c Q st := by
  refine ⟨fun may w0 h0 a w hsat => wp_loop_rounds n ?_⟩
  induction n generalizing st a w with
  | zero => exact hp.elim
  | succ n ih =>
    refine Code.wp_mono (fun e a' w' hh => ?_) (vc_ok hT hF c _ st a w hp hsat)
    obtain ⟨e', st', rfl, k1, k2⟩ := hh
    cases e' with
    | normal => exact ih k2 a' w' k1
    | exit i => exact ⟨.exit i, st', rfl, k1, k2⟩
    | ret => exact ⟨.ret, st', rfl, k1, k2⟩
theorem loopV_frz [HasGl P] (l : List Nat) {c : Code} {Q : Ex → St → Prop} {st : St} (hp : frzL l st fun st => LoopV P c Q st) : LoopV P c Q st := by
  refine ⟨fun may w0 h0 a w hs => ?_⟩
  obtain ⟨st', h1, h2⟩ := frzL_sat l st hp hs
  exact h2.out may w0 h0 a w h1
theorem loopV_cut [HasGl P] (id : Nat) (J : St → Prop) {c : Code} {Q : Ex → St → Prop} {st : St} (h1 : LoopV P c (fun e st' => match e with | .exit i => i = id ∧ ∃ st1, Weak st' st1 ∧ J st1 | .normal => False | .ret => Q .ret st') st) (h2 : ∀ st1, J st1 → Q (.exit id) st1) : LoopV P c Q st := by
  refine ⟨fun may w0 h0 a w hs => ?_⟩
  refine Code.wp_mono (fun e a' w' hh => ?_) (h1.out may w0 h0 a w hs)
  obtain ⟨e', st', rfl, k1, k2⟩ := hh
  cases e' with
  | normal => exact k2.elim
  | exit i =>
    obtain ⟨rfl, st1, q1, q2⟩ := k2
    exact ⟨.exit i, st1, rfl, q1.out _ _ _ _ _ k1, h2 st1 q2⟩
  | ret => exact ⟨.ret, st', rfl, k1, k2⟩
end
end Go.Eng
namespace Go.Eng
open Go Go.RowKit
def backI (ob : List (Option Nat)) (m j : Nat) : Nat:=match ob[j]? with | some (some i)=>i | _=>m + (j - ob.length)
def backT (ob : List (Option Nat)) (m : Nat) : IC→IC
 | .own j off=>.own (backI ob m j) off
 | .row j=>.row (backI ob m j)
 | .rel j sz k off=>.rel (backI ob m j) sz k off
 | .view j sz k n c=>.view (backI ob m j) sz k n c
 | .mp j=>.mp (backI ob m j)
 | .ifc t c=>match clo0 c with | true=>.ifc t c | false=>.any
 | .fn f cs=>match cs.all (fun x=>x.2.all clo0) with | true=>.fn f cs | false=>.any
 | c=>c
def backO (ob : List (Option Nat)) (m : Nat) : Option Ob→Option Ob
 | some o=>some (sbObj (up (backT ob m)) o)
 | none=>none
def mergeOwn (ob : List (Option Nat)) (m : Nat) (own2 : List (Option Ob)) : Nat→List (Option Ob)→List (Option Ob)
 | _,[]=>[]
 | i,o :: r=>(match idx? ob i with | some j=>backO ob m (own2.getD j none) | none=>o) :: mergeOwn ob m own2 (i + 1) r
def frameOwn (ob : List (Option Nat)) (own own2 : List (Option Ob)) : List (Option Ob):=mergeOwn ob own.length own2 0 own ++ (own2.drop ob.length).map (backO ob own.length)
def inB (m : Nat) : List (Option Nat)→Bool
 | []=>true
 | some i :: r=>Nat.blt i m && inB m r
 | none :: r=>false
section
variable {P : Program} {mine : Nat→Prop} {L L2 : Nat→Value} {F F2 : Nat→Nat→Prop} {h h2 : Hp} {own own2 : List (Option Ob)} {w w' : World} {ob : List (Option Nat)} {m : Nat}
theorem inB_lt : ∀ {ob : List (Option Nat)},inB m ob = true→∀ j : Nat,j < ob.length→∃ i,ob[j]? = some (some i)∧i < m
 | [],_,j,hj=>by simp at hj
 | some i :: r,hb,j,hj=>by
  unfold inB at hb
  rw [Bool.and_eq_true] at hb
  cases j with
  | zero=>exact ⟨i,rfl,by have:=hb.1;unfold Nat.blt at this;exact Nat.le_of_ble_eq_true this⟩
  | succ j =>
   obtain ⟨i',h1,h2⟩:=inB_lt hb.2 j (by simpa using hj)
   exact ⟨i',by simpa using h1,h2⟩
 | none :: r,hb,j,hj=>by cases hb
theorem mergeOwn_get : ∀ (own : List (Option Ob)) (i k : Nat),(mergeOwn ob m own2 i own)[k]? = own[k]?.map fun o=>match idx? ob (i + k) with | some j=>backO ob m (own2.getD j none) | none=>o
 | [],i,k=>by simp [mergeOwn]
 | o :: r,i,0=>by simp [mergeOwn]
 | o :: r,i,k + 1=>by
  simp only [mergeOwn,List.getElem?_cons_succ]
  rw [mergeOwn_get r (i + 1) k]
  have e : i + 1 + k = i + (k + 1):=by omega
  rw [e]
theorem mergeOwn_len : ∀ (own : List (Option Ob)) (i : Nat),(mergeOwn ob m own2 i own).length = own.length
 | [],i=>rfl
 | o :: r,i=>by simp [mergeOwn,mergeOwn_len r (i + 1)]
def frameL (L L2 : Nat→Value) (ob : List (Option Nat)) (m : Nat) (i : Nat) : Value:=if i < m then L i else L2 (i - m + ob.length)
def frameF (F F2 : Nat→Nat→Prop) (ob : List (Option Nat)) (m : Nat) (i : Nat) : Nat→Prop:=match idx? ob i with | some j=>F2 j | none=>if i < m then F i else F2 (i - m + ob.length)
theorem frame_back (hob : inB m ob = true) (hL : ∀ j,j < ob.length→L2 j = sel L ob j) {j : Nat} : frameL L L2 ob m (backI ob m j) = L2 j:=by
 rcases Nat.lt_or_ge j ob.length with hj | hj
 ·obtain ⟨i,h1,h2⟩:=inB_lt hob j hj
  have e : backI ob m j = i:=by unfold backI;rw [h1]
  rw [e]
  unfold frameL
  rw [if_pos h2,hL j hj]
  unfold sel
  rw [h1]
 ·have e : backI ob m j = m + (j - ob.length):=by unfold backI;rw [List.getElem?_eq_none hj]
  rw [e]
  unfold frameL
  rw [if_neg (by omega)]
  congr 1
  omega
theorem backI_lt (hob : inB m ob = true) {j n : Nat} (hj : j < n) (hn : ob.length≤n) : backI ob m j < m + (n - ob.length):=by
 rcases Nat.lt_or_ge j ob.length with hlt | hge
 ·obtain ⟨i,h1,h2⟩:=inB_lt hob j hlt
  have e : backI ob m j = i:=by unfold backI;rw [h1]
  omega
 ·have e : backI ob m j = m + (j - ob.length):=by unfold backI;rw [List.getElem?_eq_none hge]
  omega
theorem back_ok (hob : inB m ob = true) (hL : ∀ j,j < ob.length→L2 j = sel L ob j) (hn : ob.length≤h2.n) : SubstOk L2 (frameL L L2 ob m) h2 ⟨h2.m,m + (h2.n - ob.length)⟩ (backT ob m):=by
 refine ⟨fun c v hd=>?_⟩
 have h1:=hd.one
 cases hd with
 | own i off a k1 k2=>exact .own _ _ a (backI_lt hob k1 hn) ((frame_back hob hL).trans k2)
 | row i A n c k1 k2=>exact .row _ A n c (backI_lt hob k1 hn) ((frame_back hob hL).trans k2)
 | rel i sz k off a k1 k2 k3=>exact .rel _ _ _ _ a (backI_lt hob k1 hn) (by rw [frame_back hob hL];exact k2) (by rw [frame_back hob hL];exact k3)
 | view i sz k n c a b k1 k2 k3 k4 k5=>exact .view _ _ _ _ _ a b (backI_lt hob k1 hn) ((frame_back hob hL).trans k2) k3 k4 k5
 | mp i r k1 k2=>exact .mp _ r (backI_lt hob k1 hn) ((frame_back hob hL).trans k2)
 | ifc t c v hr =>
  simp only [backT]
  split
  ·rename_i e;exact (Den.ifc t c v hr).clo _ e
  ·exact .any _ h1
 | fn f cs vs g hl hv h3 hr =>
  simp only [backT]
  split
  ·rename_i e;exact (Den.fn f cs vs g hl hv h3 hr).clo _ e
  ·exact .any _ h1
 | v _ h2=>exact .v _ h2
 | sl sz n f A c ad g hc hm hA hg hl hclo hr=>exact (Den.sl sz n f A c ad g hc hm hA hg hl hclo hr).clo _ rfl
 | fp cs ad g hclo hg hr=>exact (Den.fp cs ad g hclo hg hr).clo _ rfl
 | any _ h2=>exact .any _ h2
theorem backO_some {o : Option Ob} {o2 : Ob} (h : backO ob m o = some o2) : ∃ o',o = some o'∧o2 = sbObj (up (backT ob m)) o':=by
 cases o with
 | none=>cases h
 | some o'=>cases h;exact ⟨o',rfl,rfl⟩
theorem idx_lt {i j : Nat} (h : idx? ob i = some j) : j < ob.length:=(List.getElem?_eq_some_iff.1 (idx_some h)).1
theorem idx_back (hd : nodupB ob = true) {i j : Nat} (h : ob[j]? = some (some i)) : idx? ob i = some j:=by
 obtain ⟨k,hk⟩:=idx_of h
 rw [hk,nodup_inj hd (idx_some hk) h]
theorem call_frame [HasGl P] {f : FuncId} {args args' : List AV} {own0 : List (Option Ob)} {Q : AV→List (Option Ob)→Prop} {K : AV→List (Option Ob)→Prop} (ob : List (Option Nat)) (hd : nodupB ob = true) (hob : inB own.length ob = true)
  (h0 : ob.map (pickOwn own (up (renT ob))) = own0) (ha : args.map (sbA (up (renT ob))) = args')
  (hc : CallV P f args' own0 Q) (hK : ∀ r own2,Q r own2→K (sbA (up (backT ob own.length)) r) (frameOwn ob own own2)) : CallV P f args own K:=by
 subst h0 ha
 refine ⟨fun mine L F h w vs hgl hm hden=>?_⟩
 have hren:=renU_ok L h ob
 have hm0:=mem_norm hd hm
 have hargs : DenAs (sel L ob) ⟨h.m,ob.length⟩ (args.map (sbA (up (renT ob)))) vs:=by
  refine ⟨by rw [List.length_map];exact hden.len,fun j a v hj hv=>?_⟩
  rw [List.getElem?_map] at hj
  cases hx : args[j]? with
  | none=>rw [hx] at hj;cases hj
  | some a0=>rw [hx] at hj;cases hj;exact hren.denA (hden.den j a0 v hx hv)
 refine (hc.out mine (sel L ob) (sel F ob) ⟨h.m,ob.length⟩ w vs hgl hm0 hargs).mono ?_
 rintro e w' ⟨r,v,L2,F2,h2,own2,rfl,e2,e3,e4,e5,e6,e7,e8⟩
 have hlen : ob.length≤h2.n:=e6.n
 have hn2 : h2.n = own2.length:=e4.hn
 have hback:=(back_ok (L:=L) hob e3 hlen).up
 have hfoot0 : ∀ b,footOf (sel F ob) (ob.map (pickOwn own (up (renT ob)))) b→∃ (i j : Nat) (o : Ob),ob[j]? = some (some i)∧own[i]? = some (some o)∧F i b:=fun b ⟨j,o',hj,hb⟩=>by
  obtain ⟨i,o,k1,k2,rfl⟩:=pick_some hj
  have : sel F ob j = F i:=by unfold sel;rw [k1]
  rw [this] at hb
  exact ⟨i,j,o,k1,k2,hb⟩
 have key : ∀ (i : Nat) (o : Ob),(frameOwn ob own own2)[i]? = some (some o)→(∃ j o2,own2[j]? = some (some o2)∧o = sbObj (up (backT ob own.length)) o2∧frameL L L2 ob own.length i = L2 j∧frameF F F2 ob own.length i = F2 j∧backI ob own.length j = i) ∨
   (i < own.length∧own[i]? = some (some o)∧(∀ j : Nat,ob[j]?≠some (some i))∧frameL L L2 ob own.length i = L i∧frameF F F2 ob own.length i = F i):=by
  intro i o hi
  unfold frameOwn at hi
  rcases Nat.lt_or_ge i own.length with hlt | hge
  ·rw [List.getElem?_append_left (by rw [mergeOwn_len];exact hlt),mergeOwn_get,Nat.zero_add] at hi
   rw [List.getElem?_eq_getElem hlt] at hi
   simp only [Option.map_some,Option.some.injEq] at hi
   split at hi
   ·rename_i j hj
    have hij:=idx_some hj
    obtain ⟨o2,ho2,rfl⟩:=backO_some hi
    refine .inl ⟨j,o2,?_,rfl,?_,?_,?_⟩
    ·rw [List.getD_eq_getElem?_getD] at ho2
     cases hx : own2[j]? with
     | none=>rw [hx] at ho2;cases ho2
     | some y=>rw [hx] at ho2;simp only [Option.getD_some] at ho2;rw [ho2]
    ·unfold frameL
     rw [if_pos hlt,e3 j (idx_lt hj)]
     unfold sel;rw [hij]
    ·unfold frameF;rw [hj]
    ·unfold backI;rw [hij]
   ·rename_i hj
    refine .inr ⟨hlt,by rw [List.getElem?_eq_getElem hlt,hi],fun j hx=>?_,by unfold frameL;rw [if_pos hlt],by unfold frameF;rw [hj];simp [hlt]⟩
    rw [idx_back hd hx] at hj;cases hj
  ·rw [List.getElem?_append_right (by rw [mergeOwn_len];exact hge),mergeOwn_len,List.getElem?_map,List.getElem?_drop] at hi
   cases hx : own2[ob.length + (i - own.length)]? with
   | none=>rw [hx] at hi;cases hi
   | some y =>
    rw [hx] at hi
    simp only [Option.map_some,Option.some.injEq] at hi
    obtain ⟨o2,rfl,rfl⟩:=backO_some hi
    have hno : idx? ob i = none:=by
     cases hh : idx? ob i with
     | none=>rfl
     | some j =>
      obtain ⟨i',k1,k2⟩:=inB_lt hob j (idx_lt hh)
      rw [idx_some hh] at k1
      cases k1
      omega
    refine .inl ⟨_,o2,hx,rfl,?_,?_,?_⟩
    ·unfold frameL
     rw [if_neg (by omega)]
     congr 1
     omega
    ·unfold frameF
     rw [hno]
     simp only
     rw [if_neg (by omega)]
     congr 1
     omega
    ·unfold backI
     rw [List.getElem?_eq_none (by omega)]
     simp only
     omega
 have hout : ∀ (i : Nat) (o : Ob) (b : Nat),own[i]? = some (some o)→(∀ j : Nat,ob[j]?≠some (some i))→F i b→¬ footOf (sel F ob) (ob.map (pickOwn own (up (renT ob)))) b:=fun i o b hi hno hb hf=>by
  obtain ⟨i',j,o',k1,k2,k3⟩:=hfoot0 b hf
  have:=hm.dis i i' o o' b hi k2 hb k3
  subst this
  exact hno j k1
 have hmine : ∀ b,mineOf (footOf (sel F ob) (ob.map (pickOwn own (up (renT ob))))) w b→mineOf (footOf F own) w b:=fun b hb=>by
  rcases hb with hb | hb
  ·obtain ⟨i,j,o,k1,k2,k3⟩:=hfoot0 b hb
   exact .inl ⟨i,o,k2,k3⟩
  ·exact .inr hb
 refine ⟨sbA (up (backT ob own.length)) r,v,frameL L L2 ob own.length,frameF F F2 ob own.length,⟨h2.m,own.length + (h2.n - ob.length)⟩,frameOwn ob own own2,rfl,hback.denA e2,fun i hi=>?_,⟨?_,e4.hsub,fun i o hi=>?_,fun i o b hi hb=>?_,fun i j oi oj b hi hj hbi hbj=>?_⟩,⟨e5.os,e5.tape,e5.output,e5.size,fun k hk hno=>?_⟩,⟨e6.m,?_⟩,fun k hk=>?_,hK r own2 e8⟩
 ·have : i < own.length:=by have:=hm.hn;omega
  unfold frameL
  rw [if_pos this]
 ·show own.length + (h2.n - ob.length) = (frameOwn ob own own2).length
  unfold frameOwn
  rw [List.length_append,mergeOwn_len,List.length_map,List.length_drop,hn2]
 ·rcases key i o hi with ⟨j,o2,k1,rfl,k3,k4,k5⟩ | ⟨k1,k2,k3,k4,k5⟩
  ·rw [k3,k4]
   exact hback.obOk (fun _ _ e=>e) (e4.obs j o2 k1)
  ·rw [k4,k5]
   have ho:=hm.obs i o k2
   refine obOk_move ho (fun b hb=>e5.block b (hm.foot i o b k2 hb).1 (hout i o b k2 k3 hb)) (fun i' hi'=>?_) ⟨e6.m,?_⟩
   ·have : i' < own.length:=by have:=hm.hn;omega
    unfold frameL
    rw [if_pos this]
   ·have:=hm.hn
    show h.n≤own.length + (h2.n - ob.length)
    omega
 ·rcases key i o hi with ⟨j,o2,k1,rfl,k3,k4,k5⟩ | ⟨k1,k2,k3,k4,k5⟩
  ·rw [k4] at hb
   obtain ⟨q1,q2,q3⟩:=e4.foot j o2 b k1 hb
   exact ⟨q1,q2,hmine b q3⟩
  ·rw [k5] at hb
   obtain ⟨q1,q2,q3⟩:=hm.foot i o b k2 hb
   refine ⟨Nat.lt_of_lt_of_le q1 e5.size,?_,.inl ⟨i,o,k2,hb⟩⟩
   show h2.m b = none
   cases hx : h2.m b with
   | none=>rfl
   | some x =>
    rcases e7 b (by rw [hx];simp) with h9 | h9 | h9
    ·exact absurd q2 h9
    ·exact absurd h9 (hout i o b k2 k3 hb)
    ·omega
 ·rcases key i oi hi with ⟨j1,o1,k1,rfl,k3,k4,k5⟩ | ⟨k1,k2,k3,k4,k5⟩ <;> rcases key j oj hj with ⟨j2,o2,q1,rfl,q3,q4,q5⟩ | ⟨q1,q2,q3,q4,q5⟩
  ·rw [k4] at hbi;rw [q4] at hbj
   have:=e4.dis j1 j2 o1 o2 b k1 q1 hbi hbj
   rw [←k5,←q5,this]
  ·rw [k4] at hbi;rw [q5] at hbj
   have hlt:=(hm.foot j oj b q2 hbj).1
   rcases (e4.foot j1 o1 b k1 hbi).2.2 with h9 | h9
   ·exact absurd h9 (hout j oj b q2 q3 hbj)
   ·omega
  ·rw [k5] at hbi;rw [q4] at hbj
   have hlt:=(hm.foot i oi b k2 hbi).1
   rcases (e4.foot j2 o2 b q1 hbj).2.2 with h9 | h9
   ·exact absurd h9 (hout i oi b k2 k3 hbi)
   ·omega
  ·rw [k5] at hbi;rw [q5] at hbj
   exact hm.dis i j oi oj b k2 q2 hbi hbj
 ·refine e5.block k hk (fun hx=>hno ?_)
  obtain ⟨i,j,o,g1,g2,g3⟩:=hfoot0 k hx
  exact ⟨i,o,g2,g3⟩
 ·have:=hm.hn
  show h.n≤own.length + (h2.n - ob.length)
  omega
 ·rcases e7 k hk with h9 | h9
  ·exact .inl h9
  ·exact .inr (hmine k h9)
end
end Go.Eng
namespace Go.Eng
open Go
section
variable {L : Nat→Value} {h : Hp}
theorem denAs_nil : DenAs L h [] []:=⟨rfl,fun j a v h1 _=>by simp at h1⟩
theorem denAs_cons {a : AV} {v : Value} {az : List AV} {vs : List Value} (h1 : DenA L h a v) (h2 : DenAs L h az vs) : DenAs L h (a :: az) (v :: vs):=by
 refine ⟨by simp [h2.len],fun j b u e1 e2=>?_⟩
 cases j with
 | zero=>simp at e1 e2;subst e1 e2;exact h1
 | succ j=>exact h2.den j b u (by simpa using e1) (by simpa using e2)
end
theorem ba_len (s : ByteArray) : s.data.toList.length = s.size:=by rw [Array.length_toList];rfl
end Go.Eng
namespace Go.Eng
open Go
section
variable {P : Program} {ops : Array Oper} {Q : Exit→Act→World→Prop} {md : Region.Mode} {C : World→Prop}
def YieldsW (P : Program) (ops : Array Oper) (C : World→Prop) (o : Oper) (v : Value) (a : Act) : Prop :=
 (Region.wanted o (yielded ops a.tmps) = true∧∀ w,C w→(execOp a.eval o).run P w = .ok (.value v) w) ∨
 (Region.wanted o (yielded ops a.tmps) = false∧v = undef)
theorem YieldsW.of_same {o : Oper} {v : Value} {a a' : Act} (hy : YieldsW P ops C o v a) (he : execOp a'.eval o = execOp a.eval o)
  (hw : Region.wanted o (yielded ops a'.tmps) = Region.wanted o (yielded ops a.tmps)) : YieldsW P ops C o v a':=by
 unfold YieldsW at *
 rw [he,hw]
 exact hy
theorem YieldsW.wpOp {i : Nat} {o : Oper} {v : Value} {a : Act} (hi : ops[i]? = some o) (hy : YieldsW P ops C o v a) {K : Act→World→Prop} {w : World} (hw : C w) (h : K (a.put o.dst v) w) : wpOp P ops Q i K a w:=by
 unfold Go.wpOp
 simp only [hi]
 rcases hy with ⟨h1,h2⟩ | ⟨h1,rfl⟩
 ·simp only [h1,if_true,Oper.wp,h2 w hw,Oper.upon];exact .inl h
 ·simp only [h1,Bool.false_eq_true,if_false];exact h
theorem wpOp_putC {j : Nat} {oi oj : Oper} {v : Value} (hj : ops[j]? = some oj) (hap : oi.apart ops oj = true)
  (hsi : ∀ cs b,oi.op≠.select cs b) (hsj : ∀ cs b,oj.op≠.select cs b)
  (hQ : ∀ c a w,Q (.panic c) (a.put oi.dst v) w→Q (.panic c) a w) {K : Act→World→Prop} {a : Act} {w : World}
  (hy : YieldsW P ops C oi v a) (h : wpOp P ops Q j K (a.put oi.dst v) w) :
  wpOp P ops Q j (fun a' w'=>YieldsW P ops C oi v a'∧K (a'.put oi.dst v) w') a w:=by
 obtain ⟨h1,h2,h3⟩:=Oper.apart_spec hap
 have keep : ∀ (a : Act),YieldsW P ops C oi v a→∀ u,YieldsW P ops C oi v (a.put oj.dst u):=fun a hy u =>
  hy.of_same (execOp_put oi hsi a oj.dst u h3) (wanted_put oi a oj.dst u h3)
 have keepD : ∀ d,YieldsW P ops C oi v { a with defers:=d :: a.defers }:=fun d=>hy.of_same rfl rfl
 unfold wpOp at *
 simp only [hj] at *
 rw [wanted_put oj a oi.dst v h1] at h
 split
 ·rename_i hw
  simp only [hw,if_true] at h
  rcases h with h | ⟨hasks,hlets⟩
  case inr=>exact .inr ⟨by unfold Oper.asks at *;rw [execOp_put oj hsj a oi.dst v h1] at hasks;exact hasks,hlets⟩
  refine .inl ?_
  unfold Oper.wp at *
  rw [execOp_put oj hsj a oi.dst v h1] at h
  generalize (execOp a.eval oj).run P w = r at *
  cases r with
  | ok n w' =>
   cases n <;> simp only [Oper.upon] at h ⊢
   case value u=>exact ⟨keep a hy u,by rw [←Act.put_comm a v u h2];exact h⟩
   case skip=>exact ⟨keep a hy _,by rw [←Act.put_comm a v undef h2];exact h⟩
   case defer d =>
    refine ⟨keep _ (keepD d) _,?_⟩
    rw [←Act.put_comm _ v undef h2,←Act.put_defers]
    exact h
   case enter f args =>
    refine Calls.mono h fun e w'' he=>?_
    cases e with
    | returned u=>exact ⟨keep a hy u,by rw [←Act.put_comm a v u h2];exact he⟩
    | panicked c=>exact hQ _ _ _ he
    | outgrown=>exact he
   case row row args=>exact Rows.mono h fun u w'' he=>⟨keep a hy u,by rw [←Act.put_comm a v u h2];exact he⟩
  | halt x w' =>
   cases x <;> simp only [Oper.upon] at h ⊢
   case panic u=>exact hQ _ _ _ h
 ·rename_i hw
  simp only [hw] at h
  exact ⟨keep a hy _,by rw [←Act.put_comm a v undef h2];exact h⟩
def wpAnyX (P : Program) (md : Region.Mode) (ops : Array Oper) (Q : Exit→Act→World→Prop) (C : World→Prop) (S : Nat→Bool) (R : Act→World→Prop) : Nat→Array Bool→Act→World→Prop
 | 0,listed,a,w=>(∀ j,j < ops.size→S j = true→listed.getD j false = true)∧R a w
 | fuel + 1,listed,a,w=>(∃ j,j < ops.size∧S j = true∧listed.getD j true = false)∧∀ i,i ∈ Region.ready md ops listed→S i = true→wpOp P ops Q i (fun a' w'=>C w'∧wpAnyX P md ops Q C S R fuel (listed.setIfInBounds i true) a' w') a w
theorem wpAnyX_first {S : Nat→Bool} {R : Act→World→Prop} {i : Nat} {oi : Oper} {v : Value} (hik : S i = true) (hi : ops[i]? = some oi) (hsel : ∀ (j : Nat) (o : Oper) cs b,ops[j]? = some o→o.op≠.select cs b)
  (hQ : ∀ c a w,Q (.panic c) (a.put oi.dst v) w→Q (.panic c) a w) :
  ∀ (fuel : Nat) (listed : Array Bool) (a : Act) (w : World),C w →
   (∀ j oj,ops[j]? = some oj→j≠i→listed.getD j true = false→(∀ e ∈ oj.after,Region.binds md e = true→e.on≠i)→oi.apart ops oj = true) →
   i ∈ Region.ready md ops listed→YieldsW P ops C oi v a →
   wpAnyX P md ops Q C S R fuel (listed.setIfInBounds i true) (a.put oi.dst v) w→wpAnyX P md ops Q C S R (fuel + 1) listed a w:=by
 intro fuel
 induction fuel with
 | zero =>
  intro listed a w hw _ hr hy H
  have hilt : i < ops.size:=(Array.getElem?_eq_some_iff.1 hi).1
  refine ⟨⟨i,hilt,hik,(mem_ready.1 hr).1⟩,fun j hj hjk=>?_⟩
  by_cases hji : j = i
  ·subst hji;exact hy.wpOp hi hw ⟨hw,H⟩
  ·have h1:=(mem_ready.1 (ready_mono hj hji)).1
   obtain ⟨hjun,oj,hoj,hall⟩:=mem_ready.1 hj
   exact (getD_flip h1 (H.1 j (Array.getElem?_eq_some_iff.1 hoj).1 hjk)).elim
 | succ fuel ih =>
  intro listed a w hw hfree hr hy H
  have hilt : i < ops.size:=(Array.getElem?_eq_some_iff.1 hi).1
  refine ⟨⟨i,hilt,hik,(mem_ready.1 hr).1⟩,fun j hj hjk=>?_⟩
  by_cases hji : j = i
  ·subst hji;exact hy.wpOp hi hw ⟨hw,H⟩
  ·obtain ⟨hjun,oj,hoj,hall⟩:=mem_ready.1 hj
   have hnot : ∀ e ∈ oj.after,Region.binds md e = true→e.on≠i:=fun e he hb heq=>by
    have h1:=hall e he hb
    have h0:=(mem_ready.1 hr).1
    rw [heq] at h1
    exact getD_flip h0 h1
   have hfree' : ∀ m om,ops[m]? = some om→m≠i→(listed.setIfInBounds j true).getD m true = false →
     (∀ e ∈ om.after,Region.binds md e = true→e.on≠i)→oi.apart ops om = true:=fun m om hm hmi hun hno=>by
    refine hfree m om hm hmi ?_ hno
    by_cases hjm : j = m
    ·subst hjm;exact hjun
    ·rw [getD_set_ne true hjm] at hun;exact hun
   have h1:=H.2 j (ready_mono hj hji) hjk
   have h2:=wpOp_putC hoj (hfree j oj hoj hji hjun hnot) (fun cs b=>hsel i oi cs b hi) (fun cs b=>hsel j oj cs b hoj) hQ hy h1
   refine wpOp_mono (fun a' w' h3=>⟨h3.2.1,ih (listed.setIfInBounds j true) a' w' h3.2.1 hfree' (ready_mono hr (Ne.symm hji)) h3.1 ?_⟩) h2
   rw [Array.setIfInBounds_comm _ _ hji]
   exact h3.2.2
def wpHoist (P : Program) (ops : Array Oper) (C : World→Prop) (Q : Act→Prop) : List Nat→Act→Prop
 | [],a=>Q a
 | i :: r,a=>∃ o v,ops[i]? = some o∧YieldsW P ops C o v a∧wpHoist P ops C Q r (a.put o.dst v)
def preB (md : Region.Mode) (ops : Array Oper) : List Nat→Array Bool→Bool
 | [],_=>true
 | p :: r,listed=>(Region.ready md ops listed).contains p && Region.free md ops listed p && preB md ops r (listed.setIfInBounds p true)
def setAll (l : List Nat) (listed : Array Bool) : Array Bool:=l.foldl (fun x i=>x.setIfInBounds i true) listed
theorem wpAnyX_hoist {S : Nat→Bool} {R : Act→World→Prop} (hs : Region.noSelect ops = true) (hQ : ∀ d v c a w,Q (.panic c) (a.put d v) w→Q (.panic c) a w) {K : Act→Prop} (n : Nat) : ∀ (l : List Nat) (listed : Array Bool) (a : Act) (w : World),C w→(∀ i,i ∈ l→S i = true) →
  preB md ops l listed = true→wpHoist P ops C K l a→(∀ a',K a'→wpAnyX P md ops Q C S R n (setAll l listed) a' w)→wpAnyX P md ops Q C S R (n + l.length) listed a w
 | [],listed,a,w,hw,hS,hB,h,hK=>hK a h
 | i :: r,listed,a,w,hw,hS,hB,h,hK=>by
  obtain ⟨o,v,h0,hy,h⟩:=h
  simp only [preB,Bool.and_eq_true] at hB
  obtain ⟨⟨hr,hf⟩,hB'⟩:=hB
  have:=wpAnyX_hoist hs hQ n r (listed.setIfInBounds i true) (a.put o.dst v) w hw (fun j hj=>hS j (List.mem_cons_of_mem _ hj)) hB' h hK
  exact wpAnyX_first (hS i (List.mem_cons_self ..)) h0 (Region.noSelect_spec hs) (hQ o.dst v) (n + r.length) listed a w hw (Region.free_spec h0 hf) (by simpa using hr) hy this
def wpListI (P : Program) (ops : Array Oper) (Q : Exit→Act→World→Prop) (C : World→Prop) (R : Act→World→Prop) : List Nat→Act→World→Prop
 | [],a,w=>R a w
 | i :: r,a,w=>wpOp P ops Q i (fun a' w'=>C w'∧wpListI P ops Q C R r a' w') a w
def chainB (md : Region.Mode) (ops : Array Oper) : List Nat→Bool
 | []=>true
 | i :: r=>decide (i < ops.size) && r.all (fun j=>(clos md ops j (depsOf md ops j)).contains i) && chainB md ops r
theorem wpAnyX_chain {S : Nat→Bool} {R : Act→World→Prop} : ∀ (l : List Nat) (listed : Array Bool) (a : Act) (w : World),listed.size = ops.size→Lclosed md ops listed→chainB md ops l = true →
  (∀ i,i ∈ l→S i = true∧listed.getD i true = false)→(∀ j,j < ops.size→S j = true→j ∉ l→listed.getD j false = true)→l.Nodup→wpListI P ops Q C R l a w→wpAnyX P md ops Q C S R l.length listed a w
 | [],listed,a,w,hz,hc,hB,h1,h2,hn,h=>⟨fun j hj hS=>h2 j hj hS (by simp),h⟩
 | i :: r,listed,a,w,hz,hc,hB,h1,h2,hn,h=>by
  simp only [chainB,Bool.and_eq_true,decide_eq_true_eq] at hB
  obtain ⟨⟨hi,hall⟩,hB'⟩:=hB
  have hnd:=List.nodup_cons.1 hn
  refine ⟨⟨i,hi,(h1 i (List.mem_cons_self ..)).1,(h1 i (List.mem_cons_self ..)).2⟩,fun j hj hS=>?_⟩
  obtain ⟨g1,g2,g3⟩:=ready_deps hj
  have hji : j = i:=by
   by_cases hm : j ∈ i :: r
   ·rcases List.mem_cons.1 hm with e | hm
    ·exact e
    ·have hcl : i ∈ clos md ops j (depsOf md ops j):=by simpa using List.all_eq_true.1 hall j hm
     exact (getD_flip (h1 i (List.mem_cons_self ..)).2 (clos_listed hc j _ g3 i hcl)).elim
   ·exact (getD_flip g2 (h2 j g1 hS hm)).elim
  subst hji
  refine wpOp_mono (fun a' w' h3=>⟨h3.1,wpAnyX_chain r _ a' w' (by simp [hz]) (closed_set hc hj) hB' (fun x hx=>?_) (fun x hx hS hm=>?_) hnd.2 h3.2⟩) h
  ·have hne : j≠x:=fun e=>hnd.1 (e ▸ hx)
   rw [getD_set_ne true hne]
   exact h1 x (List.mem_cons_of_mem _ hx)
  ·by_cases e : j = x
   ·subst e;simp [hz,hi]
   ·rw [getD_set_ne false e]
    exact h2 x hx hS (fun hm'=>(List.mem_cons.1 hm').elim (fun e'=>e e'.symm) hm)
theorem wpAny_of_X {k : Nat} {R : Act→World→Prop} (ht : tailB md ops k = true) (hk : k≤ops.size) (m : Nat)
  (hR : ∀ (listed : Array Bool) (a : Act) (w : World),R a w→listed.size = ops.size→(∀ j,j < k→listed.getD j false = true)→(∀ j,k≤j→j < ops.size→listed.getD j true = false)→Lclosed md ops listed→wpAny P md ops Q m listed a w) :
  ∀ (fuel : Nat) (listed : Array Bool) (a : Act) (w : World),listed.size = ops.size→(∀ j,k≤j→j < ops.size→listed.getD j true = false)→Lclosed md ops listed→wpAnyX P md ops Q C (fun i=>decide (i < k)) R fuel listed a w→wpAny P md ops Q (fuel + m) listed a w
 | 0,listed,a,w,hsz,hun,hc,H=>by
  rw [Nat.zero_add]
  exact hR listed a w H.2 hsz (fun j hj=>H.1 j (by omega) (decide_eq_true hj)) hun hc
 | fuel + 1,listed,a,w,hsz,hun,hc,H=>by
  rw [show fuel + 1 + m = (fuel + m) + 1 by omega]
  obtain ⟨j0,hj0,hjS,hju⟩:=H.1
  have hj0k : j0 < k:=of_decide_eq_true hjS
  refine ⟨fun e=>absurd e (least_ready ht hk ⟨j0,hj0k,hju⟩),fun i hi=>?_⟩
  have hik : i < k:=by
   rcases Nat.lt_or_ge i k with h | h
   ·exact h
   ·exact (getD_flip hju (ready_tail ht hc hi h j0 (by omega))).elim
  refine wpOp_mono (fun a' w' h=>wpAny_of_X ht hk m hR fuel _ a' w' (by simp [hsz]) (fun j h1 h2=>?_) (closed_set hc hi) h.2) (H.2 i hi (decide_eq_true hik))
  rw [getD_set_ne true (by omega)]
  exact hun j h1 h2
def loudB (ops : Array Oper) (k : Nat) (h e : List Nat) : Bool :=
 Region.noSelect ops && decide (k≤ops.size) && tailB .any ops k && preB .any ops h (Array.replicate ops.size false) && chainB .any ops e && h.all (fun i=>decide (i < k)) && e.all (fun i=>decide (i < k) && !h.contains i) && decide e.Nodup && (List.range k).all (fun i=>h.contains i || e.contains i) && decide (e.length + h.length = k)
theorem setAll_size : ∀ (l : List Nat) (x : Array Bool),(setAll l x).size = x.size
 | [],x=>rfl
 | i :: r,x=>by show (setAll r (x.setIfInBounds i true)).size = _;rw [setAll_size r];simp
theorem setAll_get : ∀ (l : List Nat) (x : Array Bool) (j : Nat) (d : Bool),j < x.size→(setAll l x).getD j d = (l.contains j || x.getD j d)
 | [],x,j,d,h=>by simp [setAll]
 | i :: r,x,j,d,h=>by
  show (setAll r (x.setIfInBounds i true)).getD j d = _
  rw [setAll_get r _ j d (by simpa using h)]
  by_cases e : i = j
  ·subst e;simp [h]
  ·rw [getD_set_ne d e]
   simp [List.contains_cons,Ne.symm e]
theorem preB_closed : ∀ (l : List Nat) (x : Array Bool),Lclosed md ops x→preB md ops l x = true→Lclosed md ops (setAll l x)
 | [],x,hc,_=>hc
 | i :: r,x,hc,hB=>by
  simp only [preB,Bool.and_eq_true] at hB
  exact preB_closed r _ (closed_set hc (by simpa using hB.1.1)) hB.2
theorem wp_region_loud {id k : Nat} {hl el : List Nat} {a : Act} {w : World} (hmx : P.follows .mixedOrders = true) (hB : loudB ops k hl el = true) (hQ : ∀ d v c a w,Q (.panic c) (a.put d v) w→Q (.panic c) a w) (hC : C { w with drawn:=w.drawn + 1 })
  (h : wpHoist P ops C (fun a'=>wpListI P ops Q C (fun a'' w'=>wpList P ops Q (ops.toList.drop k) a'' w') el a' { w with drawn:=w.drawn + 1 }) hl a) : (Code.region id ops true).wp P Q a w:=by
 unfold loudB at hB
 simp only [Bool.and_eq_true,decide_eq_true_eq] at hB
 obtain ⟨⟨⟨⟨⟨⟨⟨⟨⟨hs,hk⟩,ht⟩,hp⟩,hch⟩,hhk⟩,hek⟩,hnd⟩,hcov⟩,hlen⟩:=hB
 refine wp_region_any hmx ?_
 have hsz0 : (Array.replicate ops.size false).size = ops.size:=by simp
 have hcl : Lclosed .any ops (Array.replicate ops.size false):=fun i hi hx=>by simp [hi] at hx
 have hX : wpAnyX P .any ops Q C (fun i=>decide (i < k)) (fun a'' w'=>wpList P ops Q (ops.toList.drop k) a'' w') (el.length + hl.length) (Array.replicate ops.size false) a { w with drawn:=w.drawn + 1 }:=by
  refine wpAnyX_hoist hs hQ el.length hl _ a _ hC (fun i hi=>List.all_eq_true.1 hhk i hi) hp h (fun a' hK=>?_)
  refine wpAnyX_chain el _ a' _ (by rw [setAll_size,hsz0]) (preB_closed hl _ hcl hp) hch (fun i hi=>?_) (fun j hj hS hm=>?_) hnd hK
  ·have h1:=List.all_eq_true.1 hek i hi
   simp only [Bool.and_eq_true,Bool.not_eq_true'] at h1
   have hik : i < k:=of_decide_eq_true h1.1
   refine ⟨h1.1,?_⟩
   rw [setAll_get _ _ _ _ (by rw [hsz0];omega),h1.2]
   simp [show i < ops.size by omega]
  ·have h1:=List.all_eq_true.1 hcov j (List.mem_range.2 (of_decide_eq_true hS))
   rw [Bool.or_eq_true] at h1
   rw [setAll_get _ _ _ _ (by rw [hsz0];exact hj)]
   rcases h1 with h1 | h1
   ·rw [h1];rfl
   ·exact absurd (by simpa using h1) hm
 have hlenk : el.length + hl.length + (ops.toList.drop k).length = ops.size:=by
  rw [hlen,List.length_drop,Array.length_toList];omega
 have key:=wpAny_of_X (Q:=Q) ht hk (ops.toList.drop k).length (fun listed a' w' hR hz h1 h2 hc =>
  wpAny_tail ht (ops.toList.drop k) k listed a' w' (fun j=>by rw [List.getElem?_drop,Array.getElem?_toList]) (by simp;omega) (Nat.le_refl _) hz h1 h2 hc hR) (el.length + hl.length) _ a _ hsz0 (fun j _ hj=>by simp [hj]) hcl hX
 rw [hlenk] at key
 exact key
end
def hideL (ch : List Nat) : Nat→List (Option Ob)→List (Option Ob)
 | _,[]=>[]
 | i,o :: r=>(match ch.contains i with | true=>none | false=>o) :: hideL ch (i + 1) r
def onlyL (ch : List Nat) : Nat→List (Option Ob)→List (Option Ob)
 | _,[]=>[]
 | i,o :: r=>(match ch.contains i with | true=>o | false=>none) :: onlyL ch (i + 1) r
def mergeL (ch : List Nat) : Nat→List (Option Ob)→List (Option Ob)→List (Option Ob)
 | i,o :: r,o2 :: r2=>(match ch.contains i,o with | false,some x=>some x | _,_=>o2) :: mergeL ch (i + 1) r r2
 | _,[],r2=>r2
 | _,_ :: _,[]=>[]
def emptyL (ch : List Nat) : Nat→List (Option Ob)→List (Option Ob)→Bool
 | i,o :: r,o2 :: r2=>(match ch.contains i,o,o2 with | false,some _,some _=>false | _,_,_=>true) && emptyL ch (i + 1) r r2
 | _,_,_=>true
def getO (ops : Array Oper) : List Nat→List Oper
 | []=>[]
 | i :: r=>match ops[i]? with | some o=>o :: getO ops r | none=>getO ops r
def hopsP (T : TT) (l : List Oper) : St→(St→Prop)→Prop :=
 List.rec (motive:=fun _=>St→(St→Prop)→Prop) (fun st K=>K st)
  (fun o _ ih st K=>match o.guard with | none=>aopP T st o.op (fun av=>putK st o.dst av (fun st'=>ih st' K)) | some _=>False) l
def loudP (P : Program) [HasGl P] (T : TT) (F : FL) (ops : Array Oper) (k : Nat) (hl el ch : List Nat) (st : St) (K : St→Prop) : Prop :=
 match st with
 | ⟨n,kk,env,own⟩=>forceL (hideL ch 0 own) fun ownH=>hopsP T (getO ops hl) ⟨n,kk,env,ownH⟩ (fun st1=>match st1 with
  | ⟨n1,_,env1,_⟩=>forceL (onlyL ch 0 own) fun ownE=>opsP P T F ops (getO ops el) ⟨n1,own.length,env1,ownE⟩ (fun st2=>match st2 with
   | ⟨n2,_,env2,own2⟩=>emptyL ch 0 own own2 = true∧forceL (mergeL ch 0 own own2) fun own3=>opsP P T F ops (ops.toList.drop k) ⟨n2,kk,env2,own3⟩ K))
theorem hideL_get (ch : List Nat) : ∀ (own : List (Option Ob)) (i k : Nat) (ob : Ob),(hideL ch i own)[k]? = some (some ob)↔own[k]? = some (some ob)∧ch.contains (i + k) = false
 | [],i,k,ob=>by simp [hideL]
 | o :: r,i,0,ob=>by
  unfold hideL
  cases hc : ch.contains i <;> simp [hc]
 | o :: r,i,k + 1,ob=>by
  unfold hideL
  rw [List.getElem?_cons_succ,List.getElem?_cons_succ,hideL_get ch r (i + 1) k ob,show i + 1 + k = i + (k + 1) from by omega]
theorem onlyL_get (ch : List Nat) : ∀ (own : List (Option Ob)) (i k : Nat) (ob : Ob),(onlyL ch i own)[k]? = some (some ob)↔own[k]? = some (some ob)∧ch.contains (i + k) = true
 | [],i,k,ob=>by simp [onlyL]
 | o :: r,i,0,ob=>by
  unfold onlyL
  cases hc : ch.contains i <;> simp [hc]
 | o :: r,i,k + 1,ob=>by
  unfold onlyL
  rw [List.getElem?_cons_succ,List.getElem?_cons_succ,onlyL_get ch r (i + 1) k ob,show i + 1 + k = i + (k + 1) from by omega]
theorem hideL_len (ch : List Nat) : ∀ (own : List (Option Ob)) (i : Nat),(hideL ch i own).length = own.length
 | [],i=>rfl
 | o :: r,i=>by unfold hideL;rw [List.length_cons,List.length_cons,hideL_len ch r]
theorem onlyL_len (ch : List Nat) : ∀ (own : List (Option Ob)) (i : Nat),(onlyL ch i own).length = own.length
 | [],i=>rfl
 | o :: r,i=>by unfold onlyL;rw [List.length_cons,List.length_cons,onlyL_len ch r]
theorem mergeL_len (ch : List Nat) : ∀ (own own2 : List (Option Ob)) (i : Nat),(mergeL ch i own own2).length = own2.length
 | [],own2,i=>by unfold mergeL;rfl
 | o :: r,[],i=>rfl
 | o :: r,o2 :: r2,i=>by unfold mergeL;rw [List.length_cons,List.length_cons,mergeL_len ch r r2]
theorem mergeL_get (ch : List Nat) : ∀ (own own2 : List (Option Ob)) (i k : Nat) (ob : Ob),(mergeL ch i own own2)[k]? = some (some ob)→(own[k]? = some (some ob)∧ch.contains (i + k) = false)∨(own2[k]? = some (some ob)∧∀ x,own[k]? = some (some x)→ch.contains (i + k) = true)
 | [],own2,i,k,ob,h=>by unfold mergeL at h;exact .inr ⟨h,fun x hx=>by simp at hx⟩
 | o :: r,[],i,k,ob,h=>by unfold mergeL at h;simp at h
 | o :: r,o2 :: r2,i,0,ob,h=>by
  unfold mergeL at h
  simp only [List.getElem?_cons_zero,Option.some.injEq] at h
  split at h
  ·rename_i x hc
   cases h
   exact .inl ⟨rfl,hc⟩
  ·rename_i hno
   subst h
   refine .inr ⟨rfl,fun x hx=>?_⟩
   simp only [List.getElem?_cons_zero,Option.some.injEq] at hx
   cases hc : ch.contains (i + 0) with
   | true=>rfl
   | false=>exact absurd hx (fun e=>hno x hc e)
 | o :: r,o2 :: r2,i,k + 1,ob,h=>by
  unfold mergeL at h
  rw [List.getElem?_cons_succ] at h
  have:=mergeL_get ch r r2 (i + 1) k ob h
  rw [show i + 1 + k = i + (k + 1) from by omega] at this
  rw [List.getElem?_cons_succ,List.getElem?_cons_succ]
  exact this
section
variable {P : Program} {T : TT} {FF : FL} {mine may : Nat→Prop} {L : Nat→Value} {F : Nat→Nat→Prop} {h : Hp} {w w0 : World} {ops : Array Oper}
theorem hoist_ok (hT : TTok P T) {own : List (Option Ob)} {kk : Nat} (hm : Mem mine L F h own w) {C : World→Prop} (hC : ∀ w',C w'→Same F own h w w') {K : St→Prop} : ∀ (l : List Nat) (st : St) (a : Act),(∀ i,i ∈ l→i < ops.size)→(st.own = own∧st.k = kk)→hopsP T (getO ops l) st K→Agree L h st a →
  wpHoist P ops C (fun a'=>∃ st',Agree L h st' a'∧(st'.own = own∧st'.k = kk)∧K st') l a
 | [],st,a,hl,ho,hp,ha=>⟨st,ha,ho,hp⟩
 | i :: r,st,a,hl,ho,hp,ha=>by
  have hi : i < ops.size:=hl i (List.mem_cons_self ..)
  have hoi : ops[i]? = some ops[i]:=Array.getElem?_eq_getElem hi
  unfold getO at hp
  rw [hoi] at hp
  generalize ops[i] = o at hoi hp
  change (match o.guard with | none=>aopP T st o.op (fun av=>putK st o.dst av (fun st'=>hopsP T (getO ops r) st' K)) | some _=>False) at hp
  split at hp
  ·rename_i hg
   have hm1:=hm
   rw [←ho.1] at hm1
   obtain ⟨av,v,h1,h2,h3⟩:=aop_ok hT hm1 ha (o:=o) hp
   obtain ⟨st',k1,k2,k3⟩:=put_agree ha h2 h1
   refine ⟨o,v,hoi,.inl ⟨?_,fun w' hw'=>h3 w' (ho.1 ▸ hC w' hw')⟩,hoist_ok hT hm hC r st' _ (fun j hj=>hl j (List.mem_cons_of_mem _ hj)) ⟨k2.1.trans ho.1,k2.2.trans ho.2⟩ k3 k1⟩
   unfold Region.wanted
   rw [hg]
  ·exact hp.elim
theorem listI_ok [HasGl P] {h0 : Base P} (hT : TTok P T) (hF : FTok P FF) {C : World→Prop} {Q : Exit→Act→World→Prop} {K : St→Prop} (hC : ∀ w',Keep may w0 w'→C w') : ∀ (l : List Nat) (st : St) (a : Act) (w : World),(∀ i,i ∈ l→i < ops.size)→opsP P T FF ops (getO ops l) st K→Sat may w0 h0 st a w →
  wpListI P ops Q C (fun a' w'=>∃ st',Sat may w0 h0 st' a' w'∧K st') l a w
 | [],st,a,w,hl,hp,hs=>⟨st,hs,hp⟩
 | i :: r,st,a,w,hl,hp,hs=>by
  have hi : i < ops.size:=hl i (List.mem_cons_self ..)
  have hoi : ops[i]? = some ops[i]:=Array.getElem?_eq_getElem hi
  unfold getO at hp
  rw [hoi] at hp
  generalize ops[i] = o at hoi hp
  obtain ⟨⟨L,F,h,hm,ha,hsub,hnew⟩,hk⟩:=hs
  unfold wpListI wpOp
  simp only [hoi]
  have next : ∀ a' w' st',Sat may w0 h0 st' a' w'→opsP P T FF ops (getO ops r) st' K→C w'∧wpListI P ops Q C (fun a' w'=>∃ st',Sat may w0 h0 st' a' w'∧K st') r a' w':=fun a' w' st' h1 h2=>⟨hC w' h1.keep,listI_ok hT hF hC r st' a' w' (fun j hj=>hl j (List.mem_cons_of_mem _ hj)) h2 h1⟩
  rcases guard_wanted ha hp with ⟨hw,hp⟩ | ⟨hw,hp⟩
  ·rw [if_pos hw]
   refine .inl (Oper.wp_mono (fun a' w' ⟨st',h1,h2⟩=>next a' w' st' h1 h2) (step_ok (Q:=Q) hT hF hp ⟨⟨L,F,h,hm,ha,hsub,hnew⟩,hk⟩))
  ·rw [if_neg (by rw [hw];simp)]
   obtain ⟨st',h1,h2⟩:=put_sat hm ha hsub hnew hk (av:=.tup []) tup_nil hp
   exact next _ _ st' h1 h2
theorem wpListI_mono {Q : Exit→Act→World→Prop} {C : World→Prop} {R R' : Act→World→Prop} (hq : ∀ a w,R a w→R' a w) : ∀ (l : List Nat) (a : Act) (w : World),wpListI P ops Q C R l a w→wpListI P ops Q C R' l a w
 | [],a,w,h=>hq a w h
 | i :: r,a,w,h=>wpOp_mono (fun a' w' h=>⟨h.1,wpListI_mono hq r a' w' h.2⟩) h
theorem wpHoist_mono {C : World→Prop} {Q Q' : Act→Prop} (hq : ∀ a,Q a→Q' a) : ∀ (l : List Nat) (a : Act),wpHoist P ops C Q l a→wpHoist P ops C Q' l a
 | [],a,h=>hq a h
 | i :: r,a,⟨o,v,h1,h2,h3⟩=>⟨o,v,h1,h2,wpHoist_mono hq r _ h3⟩
theorem drawV_loud [HasGl P] (k : Nat) (hl el ch : List Nat) {id : Nat} {K : St→Prop} {st : St} (hmx : P.follows .mixedOrders = true) (hB : loudB ops k hl el = true) (hT : TTok P T) (hF : FTok P FF)
  (hp : loudP P T FF ops k hl el ch st K) : DrawV P id ops K st:=by
 refine ⟨fun may w0 h0 a w hs=>?_⟩
 obtain ⟨n,kk,env,own⟩:=st
 obtain ⟨⟨L,F,h,hm,ha,hsub,hnew⟩,hk⟩:=hs
 have hk0 : Keep may w0 { w with drawn:=w.drawn + 1 }:=⟨hk.os,hk.tape,hk.output,hk.size,hk.block⟩
 have hm0 : Mem (mineOf may w0) L F h own { w with drawn:=w.drawn + 1 }:=mem_same hm (fun b _=>rfl) (Nat.le_refl _)
 have hBk:=hB
 unfold loudB at hBk
 simp only [Bool.and_eq_true,decide_eq_true_eq] at hBk
 obtain ⟨⟨⟨⟨⟨⟨⟨⟨⟨_,hkk⟩,_⟩,_⟩,_⟩,hhk⟩,hek⟩,_⟩,_⟩,_⟩:=hBk
 generalize hwd : ({ w with drawn:=w.drawn + 1 } : World) = wd at hk0 hm0
 let may' : Nat→Prop:=footOf F (onlyL ch 0 own)
 have hmayF : ∀ b,may' b→∃ i ob,own[i]? = some (some ob)∧ch.contains i = true∧F i b:=fun b ⟨i,ob,hi,hb⟩=>by
  have:=(onlyL_get ch own 0 i ob).1 hi
  rw [Nat.zero_add] at this
  exact ⟨i,ob,this.1,this.2,hb⟩
 have hmay : ∀ b,may' b→mineOf may w0 b:=fun b hb=>by
  obtain ⟨i,ob,h1,_,h3⟩:=hmayF b hb
  exact (hm0.foot i ob b h1 h3).2.2
 have hmine' : ∀ b,mineOf may' wd b→mineOf may w0 b:=fun b hb=>by
  rcases hb with hb | hb
  ·exact hmay b hb
  ·exact .inr (Nat.le_trans hk0.size hb)
 have hmH : Mem (mineOf may w0) L F h (hideL ch 0 own) wd :=
  ⟨by rw [hideL_len];exact hm0.hn,hm0.hsub,fun i ob hi=>hm0.obs i ob ((hideL_get ch own 0 i ob).1 hi).1,fun i ob b hi=>hm0.foot i ob b ((hideL_get ch own 0 i ob).1 hi).1,
   fun i j oi oj b hi hj=>hm0.dis i j oi oj b ((hideL_get ch own 0 i oi).1 hi).1 ((hideL_get ch own 0 j oj).1 hj).1⟩
 have hmE : Mem (mineOf may' wd) L F h (onlyL ch 0 own) wd :=
  ⟨by rw [onlyL_len];exact hm0.hn,hm0.hsub,fun i ob hi=>hm0.obs i ob ((onlyL_get ch own 0 i ob).1 hi).1,fun i ob b hi hb=>⟨(hm0.foot i ob b ((onlyL_get ch own 0 i ob).1 hi).1 hb).1,(hm0.foot i ob b ((onlyL_get ch own 0 i ob).1 hi).1 hb).2.1,.inl ⟨i,ob,hi,hb⟩⟩,
   fun i j oi oj b hi hj=>hm0.dis i j oi oj b ((onlyL_get ch own 0 i oi).1 hi).1 ((onlyL_get ch own 0 j oj).1 hj).1⟩
 have hout : ∀ (i : Nat) (ob : Ob) (b : Nat),own[i]? = some (some ob)→ch.contains i = false→F i b→¬ may' b:=fun i ob b hi hc hb hmb=>by
  obtain ⟨j,oj,h1,h2,h3⟩:=hmayF b hmb
  have:=hm0.dis i j ob oj b hi h1 hb h3
  subst this
  rw [hc] at h2;cases h2
 have hC : ∀ w',Keep may' wd w'→Same F (hideL ch 0 own) h wd w':=fun w' hw' b hb=>by
  rcases hb with hb | ⟨i,ob,hi,hb⟩
  ·cases ho : h.m b with
   | none=>exact absurd ho hb
   | some o =>
    refine hw'.block b (Array.getElem?_eq_some_iff.1 (hm0.hsub b o ho)).1 (fun hmb=>?_)
    obtain ⟨j,oj,h1,_,h3⟩:=hmayF b hmb
    exact hb (hm0.foot j oj b h1 h3).2.1
  ·have h1:=(hideL_get ch own 0 i ob).1 hi
   rw [Nat.zero_add] at h1
   exact hw'.block b (hm0.foot i ob b h1.1 hb).1 (hout i ob b h1.1 h1.2 hb)
 have hlsz : ∀ i,i ∈ hl→i < ops.size:=fun i hi=>by
  have : i < k:=of_decide_eq_true (List.all_eq_true.1 hhk i hi)
  omega
 have elsz : ∀ i,i ∈ el→i < ops.size:=fun i hi=>by
  have:=List.all_eq_true.1 hek i hi
  rw [Bool.and_eq_true] at this
  have : i < k:=of_decide_eq_true this.1
  omega
 refine wp_region_loud (k:=k) (hl:=hl) (el:=el) (C:=Keep may' wd) hmx hB (fun d v c a w h=>by cases h.1) (by rw [hwd];exact Keep.refl _ _) ?_
 rw [hwd]
 unfold loudP at hp
 simp only [forceL_eq] at hp
 have hH:=hoist_ok (mine:=mineOf may w0) (C:=Keep may' wd) hT hmH hC hl ⟨n,kk,env,hideL ch 0 own⟩ a hlsz ⟨rfl,rfl⟩ hp ⟨ha.size,ha.env,ha.defers⟩
 refine wpHoist_mono (fun a1 h1=>?_) hl a hH
 obtain ⟨⟨n1,kk1,env1,own1⟩,ha1,⟨rfl,rfl⟩,hp1⟩:=h1
 simp only at hp1
 have hsatE : Sat may' wd (⟨h,L,HasGl.mono h0.gl hsub.sub.m⟩ : Base P) ⟨n1,own.length,env1,onlyL ch 0 own⟩ a1 wd :=
  ⟨⟨L,F,h,hmE,⟨ha1.size,ha1.env,ha1.defers⟩,⟨Sub.refl h,fun i hi=>rfl,hm0.hn.symm⟩,fun k hk=>.inl hk⟩,Keep.refl _ _⟩
 have hE:=listI_ok (Q:=fun e a' w'=>e = .normal∧∃ st',Sat may w0 h0 st' a' w'∧K st') (C:=Keep may' wd) hT hF (fun w' hw'=>hw') el _ a1 wd elsz hp1 hsatE
 refine wpListI_mono (fun a2 w2 h2=>?_) el a1 wd hE
 obtain ⟨⟨n2,kk2,env2,own2⟩,⟨⟨L2,F2,h2,hm2,ha2,hsub2,hnew2⟩,hk2⟩,hem,hp2⟩:=h2
 have hLL : ∀ i,i < h.n→L2 i = L i:=fun i hi=>hsub2.at_ i hi
 have hS2 : Sub h h2:=hsub2.sub
 let F3 : Nat→Nat→Prop:=fun i b=>(∃ x,own[i]? = some (some x)∧ch.contains i = false∧F i b)∨((∀ x,own[i]? = some (some x)→ch.contains i = true)∧F2 i b)
 have hnot : ∀ (i j : Nat) (ob o2 : Ob) (b : Nat),own[i]? = some (some ob)→ch.contains i = false→F i b→own2[j]? = some (some o2)→F2 j b→False:=fun i j ob o2 b hi hc hb hj hb2=>by
  obtain ⟨q1,q2,q3⟩:=hm2.foot j o2 b hj hb2
  rcases q3 with q3 | q3
  ·exact hout i ob b hi hc hb q3
  ·have:=(hm0.foot i ob b hi hb).1
   omega
 have hF3a : ∀ (i : Nat) (ob : Ob),own[i]? = some (some ob)→ch.contains i = false→F3 i = F i:=fun i ob hi hc=>by
  funext b
  refine propext ⟨fun hb=>?_,fun hb=>.inl ⟨ob,hi,hc,hb⟩⟩
  rcases hb with ⟨_,_,_,hb⟩ | ⟨hx,_⟩
  ·exact hb
  ·rw [hx ob hi] at hc;cases hc
 have hF3b : ∀ (i : Nat),(∀ x,own[i]? = some (some x)→ch.contains i = true)→F3 i = F2 i:=fun i hx=>by
  funext b
  refine propext ⟨fun hb=>?_,fun hb=>.inr ⟨hx,hb⟩⟩
  rcases hb with ⟨x,h1,h2,_⟩ | ⟨_,hb⟩
  ·rw [hx x h1] at h2;cases h2
  ·exact hb
 have hmg : ∀ (i : Nat) (ob : Ob),(mergeL ch 0 own own2)[i]? = some (some ob)→(own[i]? = some (some ob)∧ch.contains i = false∧F3 i = F i)∨(own2[i]? = some (some ob)∧F3 i = F2 i):=fun i ob hi=>by
  have:=mergeL_get ch own own2 0 i ob hi
  rw [Nat.zero_add] at this
  rcases this with ⟨h1,h2⟩ | ⟨h1,h2⟩
  ·exact .inl ⟨h1,h2,hF3a i ob h1 h2⟩
  ·exact .inr ⟨h1,hF3b i h2⟩
 have hm3 : Mem (mineOf may w0) L2 F3 h2 (mergeL ch 0 own own2) w2:=by
  refine ⟨by rw [mergeL_len];exact hm2.hn,hm2.hsub,fun i ob hi=>?_,fun i ob b hi hb=>?_,fun i j oi oj b hi hj hbi hbj=>?_⟩
  ·rcases hmg i ob hi with ⟨q1,q2,q3⟩ | ⟨q1,q3⟩
   ·have hlt : i < h.n:=by rw [hm0.hn];exact (List.getElem?_eq_some_iff.1 q1).1
    rw [q3,hLL i hlt]
    exact obOk_move (hm0.obs i ob q1) (fun b hb=>hk2.block b (hm0.foot i ob b q1 hb).1 (hout i ob b q1 q2 hb)) hLL hS2
   ·rw [q3];exact hm2.obs i ob q1
  ·rcases hmg i ob hi with ⟨q1,q2,q3⟩ | ⟨q1,q3⟩
   ·rw [q3] at hb
    obtain ⟨f1,f2,f3⟩:=hm0.foot i ob b q1 hb
    refine ⟨Nat.lt_of_lt_of_le f1 hk2.size,?_,f3⟩
    cases ho : h2.m b with
    | none=>rfl
    | some o =>
     rcases hnew2 b (by rw [ho];simp) with h9 | h9 | h9
     ·exact absurd f2 h9
     ·exact absurd h9 (hout i ob b q1 q2 hb)
     ·omega
   ·rw [q3] at hb
    obtain ⟨f1,f2,f3⟩:=hm2.foot i ob b q1 hb
    exact ⟨f1,f2,hmine' b f3⟩
  ·rcases hmg i oi hi with ⟨q1,q2,q3⟩ | ⟨q1,q3⟩ <;> rcases hmg j oj hj with ⟨r1,r2,r3⟩ | ⟨r1,r3⟩ <;> rw [q3] at hbi <;> rw [r3] at hbj
   ·exact hm0.dis i j oi oj b q1 r1 hbi hbj
   ·exact (hnot i j oi oj b q1 q2 hbi r1 hbj).elim
   ·exact (hnot j i oj oi b r1 r2 hbj q1 hbi).elim
   ·exact hm2.dis i j oi oj b q1 r1 hbi hbj
 refine ops_ok (may:=may) (w0:=w0) (h0:=h0) (K:=K) hT hF (fun st'' a'' w'' h1 h2=>⟨rfl,st'',h1,h2⟩) _ _ a2 w2 hp2 ⟨⟨L2,F3,h2,hm3,⟨ha2.size,ha2.env,ha2.defers⟩,hsub.step hLL hS2,fun x hx=>?_⟩,hk0.trans hk2 hmay⟩
 rcases hnew2 x hx with h9 | h9
 ·exact hnew x h9
 ·exact .inr (hmine' x h9)
end
end Go.Eng
namespace Go.Eng
open Go
section
variable {P : Program}
end
end Go.Eng
