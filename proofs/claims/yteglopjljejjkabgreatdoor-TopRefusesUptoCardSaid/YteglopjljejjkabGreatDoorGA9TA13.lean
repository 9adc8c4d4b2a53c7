/- A part of the proof. -/
import Derived.Test.YteglopjljejjkabGreatDoorGA1TA8
import Derived.Maps.AppendAt
import Derived.Deep.Upon
import Derived.Great.BuildSlice
import Derived.Laws.IdiomStrings
import Derived.Laws.RangeAny
import Derived.Laws.OwnMore
import Derived.Lib.AppendZerosOnto
import Derived.Tactics
set_option linter.unusedVariables false
set_option linter.unusedSimpArgs false
namespace Go.Eng
open Go Go.RowKit
structure a2W(L:Nat→Value)(h:Hp)(az:List AV)(vs:List Value):Prop where
 len:az.length=vs.length
 den:∀(j:Nat) a v,az[j]?=some a→vs[j]?=some v→DenA L h a v
structure a0f(P:Program)[a0h P](f:FuncId)(args:List AV)(own:List (Option Ob))(Q:AV→List (Option Ob)→Prop):Prop where
 out:∀(mine:Nat→Prop) (L:Nat→Value) (F:Nat→Nat→Prop) (h:Hp) (w:World) (vs:List Value),a0h.ok P h.m→Mem mine L F h own w→a2W L h args vs →
  Calls P f vs.toArray w (fun e w'=>∃(r:AV) (v:Value) (L':Nat→Value) (F':Nat→Nat→Prop) (h':Hp) (own':List (Option Ob)),e=.returned v∧DenA L' h' r v∧(∀ i,i<h.n→L' i=L i)∧Mem (a0g (a0l F own) w) L' F' h' own' w' ∧
   Keep (a0l F own) w w'∧Sub h h'∧(∀ k,h'.m k≠none→h.m k≠none∨a0g (a0l F own) w k)∧Q r own')
theorem a0f.mono{P:Program}[a0h P]{f:FuncId}{args:List AV}{own:List (Option Ob)}{Q Q':AV→List (Option Ob)→Prop}(hc:a0f P f args own Q)(hq:∀ r o,Q r o→Q' r o):a0f P f args own Q':=by
 refine⟨fun mine L F h w vs hgl hm ha=>?_⟩;refine(hc.out mine L F h w vs hgl hm ha).mono ?_;rintro e w' ⟨r,v,L',F',h',own',h1,h2,h3,h4,h5,h6,h7,h8⟩;exact⟨r,v,L',F',h',own',h1,h2,h3,h4,h5,h6,h7,hq _ _ h8⟩
structure ExtV(P:Program)[a0h P](f:FuncId)(args:List AV)(own:List (Option Ob))(Q:AV→List (Option Ob)→Prop):Prop where
 out:∀(mine:Nat→Prop) (L:Nat→Value) (F:Nat→Nat→Prop) (h:Hp) (w:World) (vs:List Value),a0h.ok P h.m→Mem mine L F h own w→a2W L h args vs →
  ∃(v:Value) (w':World),(callFunc f vs.toArray).run P w=.ok (.value v) w'∧∃(r:AV) (L':Nat→Value) (F':Nat→Nat→Prop) (h':Hp) (own':List (Option Ob)),DenA L' h' r v∧(∀ i,i<h.n→L' i=L i)∧Mem (a0g (a0l F own) w) L' F' h' own' w' ∧
   Keep (a0l F own) w w'∧Sub h h'∧(∀ k,h'.m k≠none→h.m k≠none∨a0g (a0l F own) w k)∧Q r own'
abbrev FL:=List (Nat × Option Bool)
def FTok(P:Program)(F:FL):Prop:=∀ f b,F.lookup f=some (some b)→∀ args w,(callFunc f args).run P w=.ok (.enter f args) w
theorem FTok.nil{P:Program}:FTok P []:=fun f b h=>by cases h
theorem FTok.cons{P:Program}{F:FL}{f:FuncId}{b:Bool}{fn:Func}(hf:P.funcs[f]?=some fn)(hname:(fn.name=="runtime.NumGoroutine")=false)(hb:fn.body.isSome=true)(k:FTok P F):FTok P ((f,some b)::F):=by
 intro g b' hg args w;rw[List.lookup_cons]at hg
 by_cases e:g=f
 ·subst e
  have h1:fn.name≠"runtime.NumGoroutine" := by simpa using hname
  obtain⟨c,hc⟩:=Option.isSome_iff_exists.1 hb;simp[callFunc,hf,h1,hc]
 ·have e':(g==f)=false:=by simpa using e
  rw[e']at hg;exact k g b' hg args w
theorem FTok.consX{P:Program}{F:FL}{f:FuncId}(k:FTok P F):FTok P ((f,none)::F):=by
 intro g b' hg args w;rw[List.lookup_cons]at hg
 by_cases e:g=f
 ·subst e;simp at hg
 ·have e':(g==f)=false:=by simpa using e
  rw[e']at hg;exact k g b' hg args w
def putK(st:St)(dst:Option Nat)(av:AV)(K:St→Prop):Prop :=
 match dst with
 | some d=>match st with
  | ⟨n,k,env,own⟩=>ifD (d<n) (a2l av fun av=>K ⟨n,k,(d,av)::env,own⟩)
 | none=>K st
theorem a4w{st:St}{d:Nat}{av:AV}{K:St→Prop}(h:putK st (some d) av K):d<st.n∧K (st.put (some d) av):=by
 obtain⟨n,k,env,own⟩:=st;simp only[putK,a4I]at h;exact a0j h
def St.push(st:St)(ob:Ob):St:={ st with own:=st.own++[some ob] }
def a3J(st:St)(ob:Ob)(c:Nat→IC)(dst:Option Nat)(K:St→Prop):Prop :=
 match st with
 | ⟨n,k,env,own⟩=>a3n own.length fun l=>a0H (own++[some ob]) fun own'=>putK ⟨n,k,env,own'⟩ dst (.c (c l)) K
theorem b1x{st:St}{ob:Ob}{c:Nat→IC}{dst:Option Nat}{K:St→Prop}:a3J st ob c dst K=putK (st.push ob) dst (.c (c st.own.length)) K:=by
 obtain⟨n,k,env,own⟩:=st;simp only[a3J,a6B,a0q];rfl
def a7F(st:St):List Operand→Option (List AV)
 | []=>some []
 | x::r=>match ev st x,a7F st r with
  | some a,some l=>some (a::l)
  | _,_=>none
def a2f:List (Bool × List IC)→List AV
 | []=>[]
 | (false,[c])::r=>.c c::a2f r
 | (_,xs)::r=>.agg xs::a2f r
def fnOf:Option AV→Option (Nat × List AV)
 | some (.c (.v (.func (.func f) ⟨[]⟩ ⟨[]⟩)))=>some (f,[])
 | some (.c (.fn f cs))=>some (f,a2f cs)
 | _=>none
def b2R:List IC→List Nat
 | []=>[]
 | .row j::r=>j::b2R r
 | _::r=>b2R r
def a9e:List AV→List Nat
 | []=>[]
 | .c x::r=>b2R [x]++a9e r
 | .agg xs::r=>b2R xs++a9e r
 | .tup _::r=>a9e r
 | .top::r=>a9e r
def rowC(sz:Nat):Nat→List (Nat × AV)→Option (List (List IC))
 | _,[]=>some []
 | i,(j,av)::r=>match Nat.beq i j,cellsOf av,rowC sz (i+1) r with
  | true,some cs,some rest=>if cs.length=sz then some (cs::rest)else none
  | _,_,_=>none
abbrev b9b(l:List Int)(k:Nat):List IC:=[.v (.int .i32 (l.getD k 0))]
abbrev a4O(l:List UInt8)(k:Nat):List IC:=[.v (.int .u8 ((l.getD k 0).toNat:Int))]
def b6U(st:St)(e:TypeId)(sz:Nat)(av:AV):Option (Option Nat × Nat × (Nat→List IC)) :=
 match av with
 | .c (.v (.slice none 0 0))=>some (none,0,fun _=>[])
 | .c (.row i)=>match st.own[i]? with
  | some (some (.row e' sz' n f))=>(match Nat.beq e e'&&Nat.beq sz sz' with | true=>some (some i,n,f) | false=>none)
  | _=>none
 | _=>none
def b1G(st:St)(d:TypeDesc)(sz:Nat)(av:AV):Option (Nat × (Nat→List IC)) :=
 match av with
 | .c (.v (.slice none 0 0))=>(match d with | .slice _=>some (0,fun _=>[]) | _=>none)
 | .c (.row j)=>(match d,st.own[j]? with
  | .slice _,some (some (.row _ sz' n f))=>(match Nat.beq sz sz' with | true=>some (n,f) | false=>none)
  | _,_=>none)
 | .c (.sl sz' n f)=>(match d with | .slice _=>(match Nat.beq sz sz' with | true=>some (n,f) | false=>none) | _=>none)
 | .c (.v (.string s))=>(match d,Nat.beq sz 1 with | .string,true=>some (s.size,a4O s.data.toList) | _,_=>none)
 | _=>none
def vsrc(st:St)(d:TypeDesc)(sz:Nat)(av:AV):Option ((Nat→Prop) × Nat × (Nat→List IC)) :=
 match av with
 | .c (.v (.slice none 0 0))=>(match d with | .slice _=>some (fun _=>True,0,fun _=>[]) | _=>none)
 | .c (.row j)=>(match d,st.own[j]? with
  | .slice _,some (some (.row _ sz' n f))=>(match Nat.beq sz sz' with | true=>some (fun _=>True,n,f) | false=>none)
  | _,_=>none)
 | .c (.sl sz' n f)=>(match d with | .slice _=>(match Nat.beq sz sz' with | true=>some (fun _=>True,n,f) | false=>none) | _=>none)
 | .c (.view j sz' k n _)=>(match d,st.own[j]? with
  | .slice _,some (some (.arr _ sz'' _ N f))=>(match Nat.beq sz sz'&&Nat.beq sz sz'' with | true=>some (fun r=>k+r≤N,n,fun q=>f (k+q)) | false=>none)
  | _,_=>none)
 | _=>none
def a2J(own:List (Option Ob)):Option Nat→List (Option Ob)
 | some i=>own.set i none
 | none=>own
def a1O(s:ByteArray):List Int:=(Conv.runesFrom s s.size 0 #[]).toList.map fun v=>match v with | .int _ n=>n | _=>0
def setK(st:St)(i:Nat)(ob:Ob)(dst:Option Nat)(av:AV)(K:St→Prop):Prop :=
 match st with
 | ⟨n,k,env,own⟩=>a0H (own.set i (some ob)) fun own'=>putK ⟨n,k,env,own'⟩ dst av K
theorem b0s{st:St}{i:Nat}{ob:Ob}{dst:Option Nat}{av:AV}{K:St→Prop}:setK st i ob dst av K=putK ⟨st.n,st.k,st.env,st.own.set i (some ob)⟩ dst av K:=by
 cases st;simp only[setK,a0q]
def b8v(kd m N:Nat)(f g:Nat→List IC)(N':Nat)(f':Nat→List IC):Prop:=∀ q,q<N'→(kd≤q∧q<kd+m∧f' q=g (q-kd))∨((q<kd∨kd+m≤q)∧q<N∧f' q=f q)
def b8y(st:St)(e:TypeId)(te tj:TI)(i sz k n c:Nat)(aw:AV)(dst:Option Nat)(K:St→Prop):Prop :=
 match st.own[i]? with
 | some (some (.arr e' sz' cap N f))=>ifD (te.size=sz∧sz=sz'∧te.zero.cells.size=te.size∧e=e') (match aw,tj.desc with
  | .c (.v (.int ki m)),.int _=>ifD (te.zero.cells.toList.all (·.oneCell')=true∧0<te.size) (k+n≤N∧(0<m∧(c:Int)<n+m∧n+m≤9223372036854775807∧(n+m)*te.bytes≤140737488355328)∧∃ f':Nat→List IC,(∀ q,q<n→f' q=f (k+q))∧(∀ q,q<m.toNat→f' (n+q)=te.zero.cells.toList.map IC.v) ∧
    ∀ cap',n+m.toNat≤cap'→a3J st (.arr e sz cap' (n+m.toNat) f') (fun l=>.view l sz 0 (n+m.toNat) cap') dst K)
  | _,_=>match vsrc st tj.desc sz aw with
   | some (pre,m,g)=>pre m∧(k+n≤N∧k+c≤cap)∧(n+m≤c→∃(N':Nat) (f':Nat→List IC),b8v (k+n) m N f g N' f'∧setK st i (.arr e sz cap N' f') dst (.c (.view i sz k (n+m) c)) K) ∧
     (c<n+m→(n+m≤9223372036854775807∧(n+m)*te.bytes≤140737488355328)∧∃ f':Nat→List IC,(∀ q,q<n→f' q=f (k+q))∧(∀ q,q<m→f' (n+q)=g q) ∧
      ∀ cap',n+m≤cap'→a3J st (.arr e sz cap' (n+m) f') (fun l=>.view l sz 0 (n+m) cap') dst K)
   | none=>False)
 | _=>False
def b3v(st:St)(te tj:TI)(i sz k n c:Nat)(aw:AV)(dst:Option Nat)(K:St→Prop):Prop :=
 match st.own[i]? with
 | some (some (.arr e' sz' cap N f))=>ifD (te.size=sz∧sz=sz') (match vsrc st tj.desc sz aw with
   | some (pre,m,g)=>pre (min m n)∧k+n≤cap∧∃(N':Nat) (f':Nat→List IC),b8v k (min m n) N f g N' f'∧setK st i (.arr e' sz cap N' f') dst (.c (.v (.int .i64 ((min m n:Nat):Int)))) K
   | none=>False)
 | _=>False
def b0i(st:St)(te:TI)(i sz k n c:Nat)(dst:Option Nat)(K:St→Prop):Prop :=
 match st.own[i]? with
 | some (some (.arr e' sz' cap N f))=>ifD (te.size=sz∧sz=sz'∧te.zero.cells.size=te.size∧te.zero.cells.toList.all (·.oneCell')=true) (k+n≤cap∧∃(N':Nat) (f':Nat→List IC),b8v k n N f (fun _=>te.zero.cells.toList.map IC.v) N' f'∧setK st i (.arr e' sz cap N' f') dst (.tup []) K)
 | _=>False
structure OpV(P:Program)[a0h P](o:Oper)(st:St)(K:St→Prop):Prop where
 out:∀(Q:Exit→Act→World→Prop) (may:Nat→Prop) (w0:World) (h0:Base P) (a:Act) (w:World),Sat may w0 h0 st a w→o.wp P a w (fun a' w'=>∃ st',Sat may w0 h0 st' a' w'∧K st') Q
def b2K(P:Program)[a0h P](T:TT)(F:FL)(o:Oper)(st:St)(K:St→Prop):Prop :=
 match o.op with
 | .alloc t=>match T.lookup t with
  | some ti=>ifD (ti.zero.cells.toList.all (·.oneCell')=true) (a0H (ti.zero.cells.toList.map IC.v) fun cs=>a3J st (.cells t cs) (fun l=>.own l 0) o.dst K)
  | none=>False
 | .box t x=>match ev st x with
  | some av=>(match cellsOf av with
   | some cs=>a0H cs fun cs=>a3J st (.cells t cs) (fun l=>.own l 0) o.dst K
   | none=>False)
  | none=>False
 | .store t p x=>match ev st p,ev st x,T.lookup t with
  | some (.c (.own i off)),some av,some ti=>(match st.own[i]?,cellsOf av with
   | some (some (.cells u cs)),some vs=>ifD (vs.length=ti.size) (ifD (off+vs.length≤cs.length) (ifD (o.dst=none) (a0H (cs.take off++vs++cs.drop (off+vs.length)) fun cs'=>match st with|⟨n,k,env,own⟩=>a0H (own.set i (some (.cells u cs'))) fun own'=>K ⟨n,k,env,own'⟩)))
   | _,_=>False)
  | some (.c (.rel i sz k off)),some av,some ti=>(match st.own[i]?,cellsOf av with
   | some (some (.row e sz' n f)),some vs=>ifD (vs.length=ti.size) (ifD (sz=sz') (ifD (off+vs.length≤sz) (ifD (o.dst=none) (∃ f':Nat→List IC,(∀ j,j<n→f' j=if j=k then(f k).take off++vs++(f k).drop (off+vs.length)else f j)∧(match st with|⟨n',kk,env,own⟩=>a0H (own.set i (some (.row e sz n f'))) fun own'=>K ⟨n',kk,env,own'⟩)))))
   | some (some (.arr e sz' cap n f)),some vs=>ifD (vs.length=ti.size) (ifD (sz=sz') (ifD (off=0∧vs.length=sz) (ifD (o.dst=none) (k<n∧∃ f':Nat→List IC,(∀ j,j<n→f' j=if j=k then vs else f j)∧(match st with|⟨n',kk,env,own⟩=>a0H (own.set i (some (.arr e sz cap n f'))) fun own'=>K ⟨n',kk,env,own'⟩)))))
   | _,_=>False)
  | _,_,_=>False
 | .call { callee:=.value x,args,argTypes:=_ }=>match a7F st args.toList,fnOf (ev st x)with
  | some avs,some (f,_)=>(match F.lookup f with
   | some fz=>frzL (match fz with | some true=>a9e avs | _=>[]) st fun st=>match a7F st args.toList,fnOf (ev st x)with
    | some avs,some (f2,caps)=>ifD (f=f2) (match st with|⟨n,k,env,own⟩=>match fz with
     | some _=>a0f P f (avs++caps) own (fun r own'=>putK ⟨n,k,env,own'⟩ o.dst r K)
     | none=>ExtV P f (avs++caps) own (fun r own'=>putK ⟨n,k,env,own'⟩ o.dst r K))
    | _,_=>False
   | none=>False)
  | _,_=>False
 | .buildSlice t len parts=>match T.lookup t,a5h st parts.toList with
  | some ti,some l=>(match ti.desc with
   | .slice e=>(match T.lookup e with
    | some te=>(match len,parts.toList with
     | 0,[]=>a3J st (.row e te.size 0 fun _=>[]) .row o.dst K
     | len,_=>frzL (a9e (l.map (·.2))) st fun st=>(match a5h st parts.toList with
     | some l=>(match rowC te.size 0 l with
      | some xs=>ifD (l.length=len) (ifD (0<len*te.size) (ifD (len*te.size≤16777216) (ifD (0<te.zero.cells.size) (∃ f:Nat→List IC,(∀ k,k<len→f k=xs.getD k [])∧a3J st (.row e te.size len f) .row o.dst K))))
      | none=>False)
     | none=>False))
    | none=>False)
   | _=>False)
  | _,_=>False
 | .call { callee:=.builtin .append,args,argTypes }=>match args.toList,argTypes.toList with
  | [x,y],[t,tx]=>(match T.lookup t,T.lookup tx,ev st x,ev st y with
   | some ti,some tj,some av,some aw=>(match ti.desc with
    | .slice e=>(match T.lookup e with
     | some te=>(match av with | .c (.view i sz k n c)=>b8y st e te tj i sz k n c aw o.dst K | av=>(match b6U st e te.size av,b1G st tj.desc te.size aw with
      | some (oi,n,f),some (m,g)=>(n+m≤9223372036854775807∧(n+m)*te.bytes≤140737488355328)∧ifD (te.zero.cells.size=te.size) (∃(n':Nat) (f':Nat→List IC),n'=n+m∧(∀ k,k<n→f' k=f k)∧(∀ k,k<m→f' (n+k)=g k) ∧
        (match st with|⟨s,k,env,own⟩=>a3J ⟨s,k,env,a2J own oi⟩ (.row e te.size n' f') .row o.dst K))
      | _,_=>False))
     | none=>False)
    | _=>False)
   | _,_,_,_=>False)
  | _,_=>False
 | .call { callee:=.builtin .copy,args,argTypes }=>match args.toList,argTypes.toList with
  | [x,y],[t,tx]=>(match T.lookup t,T.lookup tx,ev st x,ev st y with
   | some ti,some tj,some (.c (.view i sz k n c)),some aw=>(match ti.desc with
    | .slice e=>(match T.lookup e with | some te=>b3v st te tj i sz k n c aw o.dst K | none=>False)
    | _=>False)
   | _,_,_,_=>False)
  | _,_=>False
 | .call { callee:=.builtin .clear,args,argTypes }=>match args.toList,argTypes.toList with
  | [x],[t]=>(match T.lookup t,ev st x with
   | some ti,some (.c (.view i sz k n c))=>(match ti.desc with
    | .slice e=>(match T.lookup e with | some te=>b0i st te i sz k n c o.dst K | none=>False)
    | _=>False)
   | _,_=>False)
  | _,_=>False
 | .makeSlice t x y=>match T.lookup t,a8n (ev st x),a8n (ev st y)with
  | some ti,some (_,a),some (_,b)=>(match ti.desc with
   | .slice e=>(match T.lookup e with
    | some te=>ifD (te.zero.cells.toList.all (·.oneCell')=true) (ifD (te.zero.cells.size=te.size) (ifD (0<te.size) ((0≤a∧a=b∧a*te.bytes≤140737488355328∧a≤140737488355328)∧∃(n:Nat) (f:Nat→List IC),n=a.toNat∧(∀ k,k<n→f k=te.zero.cells.toList.map IC.v)∧a3J st (.row e te.size n f) .row o.dst K)))
    | none=>False)
   | _=>False)
  | _,_,_=>False
 | .range t x=>match T.lookup t,ev st x with
  | some ti,some (.c (.v (.string s)))=>(match ti.desc with | .string=>a3J st (.iter s 0) (fun l=>.own l 0) o.dst K | _=>False)
  | some _,some (.c (.mp _))=>OpV P o st K
  | _,_=>False
 | .next x true=>match ev st x with
  | some (.c (.own i 0))=>(match st.own[i]? with
   | some (some (.iter s pos))=>onIter (decide (pos<s.size))
     (match st with|⟨n,k,env,own⟩=>a0H (own.set i (some (.iter s (pos+(Utf8.decode s pos).2)))) fun own'=>putK ⟨n,k,env,own'⟩ o.dst (.tup [.c (.v (.bool true)),.c (.v (.int .i64 pos)),.c (.v (.int .i32 (Utf8.decode s pos).1))]) K)
     (putK st o.dst (.tup [.c (.v (.bool false))]) K)
   | _=>False)
  | _=>False
 | .convert src dst x=>match T.lookup src,T.lookup dst,ev st x with
  | some ts,some td,some (.c (.v (.string s)))=>(match ts.desc,td.desc with
   | .string,.slice e=>(match T.lookup e with
    | some te=>(match te.desc with
     | .int .i32=>ifD (te.size=1) ((a1O s).length≤70368744177664∧a3J st (.row e 1 (a1O s).length (b9b (a1O s))) .row o.dst K)
     | .int .u8=>s.size≤140737488355328∧putK st o.dst (.c (.sl 1 s.size (a4O s.data.toList))) K
     | _=>False)
    | none=>False)
   | _,_=>aopP T st (.convert src dst x) (fun av=>putK st o.dst av K))
  | _,_,some a=>frzL (a9e [a]) st fun st=>aopP T st (.convert src dst x) (fun av=>putK st o.dst av K)
  | _,_,none=>False
 | .slice t x lo hi mx=>frzL (match ev st x with | some av=>a9e [av] | none=>[]) st fun st=>aopP T st (.slice t x lo hi mx) (fun av=>putK st o.dst av K)
 | .makeMap ..=>OpV P o st K
 | .lookup ..=>OpV P o st K
 | .mapUpdate ..=>OpV P o st K
 | .next _ false=>OpV P o st K
 | .entry ..=>OpV P o st K
 | .mapEntry ..=>OpV P o st K
 | .entryStore ..=>OpV P o st K
 | _=>aopP T st o.op (fun av=>putK st o.dst av K)
where onIter (b:Bool) (x y:Prop):Prop:=match b with | true=>x | false=>y
section
variable {P:Program} {T:TT} {FF:FL} {mine may:Nat→Prop} {L:Nat→Value} {F:Nat→Nat→Prop} {h:Hp} {st:St} {a:Act} {w w0:World}
theorem a1T{w':World}(hk:Keep may w0 w)(hb:Below w.heap.size w w'):Keep may w0 w' :=
 ⟨hb.os.trans hk.os,hb.tape.trans hk.tape,hb.output.trans hk.output,Nat.le_trans hk.size hb.size,fun k hlt hn=>by
  rw[hb.block k (Nat.lt_of_lt_of_le hlt hk.size)]
  exact hk.block k hlt hn⟩
theorem a0T{own:List (Option Ob)}{w':World}(hm:Mem mine L F h own w)(hb:Below w.heap.size w w'):Same F own h w w':=fun b hbb=>by
 refine hb.block b ?_;rcases hbb with h1|⟨i,ob,hi,hF⟩
 ·cases ho:h.m b with
  | none=>exact absurd ho h1
  | some o=>exact(Array.getElem?_eq_some_iff.1 (hm.hsub b o ho)).1
 ·exact(hm.foot i ob b hi hF).1
theorem a1t{own:List (Option Ob)}{w':World}(hm:Mem mine L F h own w)(hs:Same F own h w w')(hsz:w.heap.size≤w'.heap.size):Mem mine L F h own w' :=
 a4C hm hsz (fun k o hk=>hs k (.inl (by rw[hk];simp))) (fun b hb=>hs b (.inr hb))
theorem a1f[a0h P]{h0:Base P}(hm:Mem (a0g may w0) L F h st.own w)(ha:a0r P L h st a)(hs:SubB h0 st.k L h)(hn:∀ k,h.m k≠none→h0.h.m k≠none∨a0g may w0 k)(hk:Keep may w0 w){dst:Option Nat}{av:AV}{v:Value}(hok:DenA L h av v){K:St→Prop}
  (hp:putK st dst av K):∃ st',Sat may w0 h0 st' (a.put dst v) w∧K st':=by
 cases dst with
 | none=>exact⟨st,⟨⟨L,F,h,hm,ha,hs,hn⟩,hk⟩,hp⟩
 | some d=>exact⟨st.put (some d) av,⟨⟨L,F,h,hm,a1u ha (a4w hp).1 hok,hs,hn⟩,hk⟩,(a4w hp).2⟩
theorem a0C(w:World)(o:Obj):(w.alloc o).heap[w.heap.size]?=some o:=by
 show(w.heap.push o)[w.heap.size]?=_;simp
theorem a4d(w:World)(o:Obj):Below w.heap.size w (w.alloc o):=(Below.refl _ w).alloc (Nat.le_refl _) o
theorem b1w[a0h P]{h0:Base P}{w':World}{own:List (Option Ob)}(hm:Mem (a0g may w0) L F h own w')(ha:a0r P L h ⟨st.n,st.k,st.env,own⟩ a)(hs:SubB h0 st.k L h)(hn:∀ k,h.m k≠none→h0.h.m k≠none∨a0g may w0 k)(hk:Keep may w0 w')
  {v:Value} {G:Nat→Prop} {ob:Ob} {c:Nat→IC} (hob:ObOk (upd L own.length v) (h.more 1) w' v G ob) (hG:∀ b,G b→b<w'.heap.size∧h.m b=none∧a0g may w0 b) (hd:∀ b,G b→¬a0l F own b)
  (hc:∀ L' h',own.length<h'.n→L' own.length=v→Den L' h' (c own.length) v) {dst:Option Nat} {K:St→Prop} (hp:a3J ⟨st.n,st.k,st.env,own⟩ ob c dst K):∃ st',Sat may w0 h0 st' (a.put dst v) w'∧K st':=by
 rw[b1x]at hp;have hL:∀ i,i<h.n→upd L own.length v i=L i:=fun i hi=>a2t (by have:=hm.hn;omega)
 have hm':=a1R hm hob hG hd;have ha':a0r P (upd L own.length v) (h.more 1) (St.push ⟨st.n,st.k,st.env,own⟩ ob) a:=a1e ha hL (a0z h 1) rfl rfl;exact a1f (st:=St.push ⟨st.n,st.k,st.env,own⟩ ob) hm' ha' (hs.step hL (a0z h 1)) hn hk (av:=.c (c own.length)) (hc _ _ (by simp[Hp.more,hm.hn]) a3M) hp
theorem a2g[a0h P]{h0:Base P}(hm:Mem (a0g may w0) L F h st.own w)(ha:a0r P L h st a)(hs:SubB h0 st.k L h)(hn:∀ k,h.m k≠none→h0.h.m k≠none∨a0g may w0 k)(hk:Keep may w0 w){o:Obj}{v:Value}{ob:Ob}{c:Nat→IC}
  (hob:∀ L' h',Sub h h'→(∀ i,i<h.n→L' i=L i)→ObOk L' h' (w.alloc o) v (fun b=>b=w.heap.size) ob)
  (hc:∀ L' h',st.own.length<h'.n→L' st.own.length=v→Den L' h' (c st.own.length) v) {dst:Option Nat} {K:St→Prop} (hp:a3J st ob c dst K):∃ st',Sat may w0 h0 st' (a.put dst v) (w.alloc o)∧K st':=by
 have hb:=a4d w o;have hm':=a1t hm (a0T hm hb) hb.size;have hn':=hm.hn;refine b1w (st:=st) (own:=st.own) (G:=fun b=>b=w.heap.size) hm' ⟨ha.size,ha.env,ha.defers⟩ hs hn (a1T hk hb) (hob _ _ (a0z h 1) (fun i hi=>a2t (by omega))) (fun b hb=>?_) (fun b hb=>?_) hc hp
 ·subst hb
  exact⟨by simp,a9y hm.hsub (Nat.le_refl _),.inr hk.size⟩
 ·subst hb
  rintro⟨i,oi,hi,hF⟩;have:=(hm.foot i oi _ hi hF).1;omega
theorem b3r[a0h P]{h0:Base P}(hm:Mem (a0g may w0) L F h st.own w)(ha:a0r P L h st a)(hs:SubB h0 st.k L h)(hn:∀ k,h.m k≠none→h0.h.m k≠none∨a0g may w0 k)(hk:Keep may w0 w){o:Obj}{u:Value}{ob:Ob}{c:Nat→IC}
  (hob:∀ L' h',Sub h h'→(∀ i,i<h.n→L' i=L i)→ObOk L' h' (w.alloc o) (.pointer (some ⟨w.heap.size,0,none⟩)) (fun b=>b=w.heap.size) ob)
  (hc:∀ L' h',st.own.length<h'.n→L' st.own.length=.pointer (some ⟨w.heap.size,0,none⟩)→Den L' h' (c st.own.length) u) {dst:Option Nat} {K:St→Prop} (hp:a3J st ob c dst K):∃ st',Sat may w0 h0 st' (a.put dst u) (w.alloc o)∧K st':=by
 have hb:=a4d w o;have hm':=a1t hm (a0T hm hb) hb.size;have hn':=hm.hn;rw[b1x]at hp;have hL:∀ i,i<h.n→upd L st.own.length (.pointer (some ⟨w.heap.size,0,none⟩)) i=L i:=fun i hi=>a2t (by have:=hm.hn;omega)
 have hm2:=a1R hm' (v:=.pointer (some ⟨w.heap.size,0,none⟩)) (G:=fun b=>b=w.heap.size) (hob _ _ (a0z h 1) hL) (fun b hb=>by
  subst hb;exact⟨by simp,a9y hm.hsub (Nat.le_refl _),.inr hk.size⟩) (fun b hb=>by
  subst hb;rintro⟨i,oi,hi,hF⟩;have:=(hm.foot i oi _ hi hF).1
  omega)
 have ha':a0r P (upd L st.own.length (.pointer (some ⟨w.heap.size,0,none⟩))) (h.more 1) (St.push st ob) a:=a1e ha hL (a0z h 1) rfl rfl;exact a1f (st:=St.push st ob) hm2 ha' (hs.step hL (a0z h 1)) hn (a1T hk hb) (av:=.c (c st.own.length)) (hc _ _ (by simp[Hp.more,hm.hn]) a3M) hp
theorem a6R[a0h P](ha:a0r P L h st a):∀{xs:List Operand} {avs:List AV},a7F st xs=some avs→a2W L h avs (xs.map a.eval)
 | [],avs,e=>by cases e;exact⟨rfl,fun j a v hj=>by simp at hj⟩
 | x::r,avs,e=>by
  unfold a7F at e;split at e
  ·rename_i av l hx hr
   cases e;obtain⟨h1,h2⟩:=a6R ha hr;refine⟨by simp[h1],fun j a' v hj hv=>?_⟩
   cases j with
   | zero=>simp at hj hv;subst hj hv;exact a0o ha hx
   | succ j=>simp at hj hv;exact h2 j a' v hj (by simpa using hv)
  ·cases e
theorem a2W.append{az bs:List AV}{us vs:List Value}(h1:a2W L h az us)(h2:a2W L h bs vs):a2W L h (az++bs) (us++vs):=by
 refine⟨by simp[h1.len,h2.len],fun j x v hj hv=>?_⟩
 rcases Nat.lt_or_ge j az.length with hlt | hge
 ·rw[List.getElem?_append_left hlt]at hj
  rw[List.getElem?_append_left (by rw[←h1.len];exact hlt)]at hv
  exact h1.den j x v hj hv
 ·rw[List.getElem?_append_right hge]at hj
  rw[List.getElem?_append_right (by rw[←h1.len];exact hge),←h1.len]at hv
  exact h2.den _ x v hj hv
theorem a3t:∀ cs:List (Bool × List IC),(a2f cs).length=cs.length
 | []=>rfl
 | (false,[])::r=>by simp[a2f,a3t r]
 | (false,[c])::r=>by simp[a2f,a3t r]
 | (false,c::d::l)::r=>by simp[a2f,a3t r]
 | (true,xs)::r=>by simp[a2f,a3t r]
theorem a9X:∀(cs:List (Bool × List IC)) (j:Nat),(a2f cs)[j]?=(cs[j]?).map fun p=>match p with | (false,[c])=>.c c | (_,xs)=>.agg xs
 | [],j=>by simp[a2f]
 | p::r,0=>by
  obtain⟨b,xs⟩:=p;cases b <;> (try cases xs with | nil=>simp[a2f] | cons c l=>cases l <;> simp[a2f])
  all_goals (try simp[a2f])
 | p::r,j+1=>by
  obtain⟨b,xs⟩:=p;have:=a9X r j;cases b <;> (try cases xs with | nil=>simpa [a2f]using this | cons c l=>cases l <;> simpa [a2f]using this)
  all_goals (try simpa [a2f]using this)
theorem b5g[a0h P](ha:a0r P L h st a){x:Operand}{f:Nat}{caps:List AV}(hf:fnOf (ev st x)=some (f,caps)):∃ vs:List Value,a.eval x=.func (.func f) #[] vs.toArray∧a2W L h caps vs:=by
 unfold fnOf at hf;split at hf
 ·rename_i f' hx
  cases hf;exact⟨[],ev_v ha hx,⟨rfl,fun j a v hj=>by simp at hj⟩⟩
 ·rename_i f' cs hx
  cases hf;have hd:Den L h _ _:=a0o ha hx;generalize hz:a.eval x=z at hd;cases hd with
  | fn _ _ vs g hl hv h1 hr =>
  refine⟨vs,rfl,by rw[a3t];exact hl,fun j x v hj hvj=>?_⟩
  rw[a9X]at hj;cases hc:cs[j]? with
  | none=>rw[hc]at hj;cases hj
  | some p =>
   rw[hc]at hj;obtain⟨b,xs⟩:=p;have e:=hv j b xs v hc hvj;have hden:=hr j b xs hc;simp only[Option.map_some,Option.some.injEq]at hj;split at hj
   ·rename_i c heq
    cases heq;subst hj;simp at e;subst e;exact hden 0 c (by simp)
   ·rename_i b' xs' hne heq
    cases heq;subst hj;cases b with
    | true =>
     simp at e;exact⟨_,by rw[e],DenL.of_fun (g:=g j) hden⟩
    | false =>
     have hl1:=h1 j xs hc
     match xs,hl1,hne with
     | [c],_,hne=>exact(hne c rfl rfl).elim
 ·cases hf
end
end Go.Eng
namespace Go.Eng
open Go Go.RowKit
section
variable {P:Program} (w:World)
theorem a4q(base:Nat)(t tx ty e:TypeId)(i:TypeInfo)(z:Value)(ht:P.underlying t=some (.slice e))(hi:P.info? e=some i)(hz:i.zero=some z)(hzs:z.cells.size=i.size)
  (v:Value) (n:Nat) (xs:List Value) (hown:w.ownsRow base e i.size v n xs) (x:Value) (m:Nat) (news:List Value) (hs:Src P i.size tx x m news w)
  (h63:n+m≤maxLen) (hbytes:(n+m)*i.bytes≤140737488355328) (hbase:base≤w.heap.size) :
  ∃ v' w',(Builtin.append_ #[t,tx] ty #[v,x]).run P w=.ok v' w'∧w'.ownsRow base e i.size v' (n+m) (xs++news)∧w.grownBy w' v.ownBlock ∧
   (v'.ownBlock=none∨v'.ownBlock=v.ownBlock∨v'.ownBlock=some w.heap.size):=by
 have hsmall:n+m≤9223372036854775807:=by simp only[maxLen]at h63;omega
 have hl:=hs.newsLen;have hlen:(xs++news).length=(n+m)*i.size:=by rw[List.length_append,hown.1,hl,Nat.add_mul]
 have grown:∀(old:Nat),old<n+m→∀(row:Option Nat),
   (w.drew.alloc (.cells ((xs++news).toArray++Builtin.zeroCells z.cells (grownCap w (n+m) old e-(n+m))) e)).ownsRow base e i.size
    (.slice (some ⟨w.heap.size,0,none⟩) (n+m) (grownCap w (n+m) old e)) (n+m) (xs++news) ∧
   w.grownBy (w.drew.alloc (.cells ((xs++news).toArray++Builtin.zeroCells z.cells (grownCap w (n+m) old e-(n+m))) e)) row:=by
  intro old ho row;have hge:=grownCap_ge w (n+m) old e;have hcm:grownCap w (n+m) old e≤maxLen:=grownCap_le_maxLen w (n+m) old e h63;refine⟨⟨hlen,.inr ⟨w.heap.size,_,_,rfl,hbase,_root_.Go.heap_alloc_new w.drew _,hge,hcm,?_,?_⟩⟩,⟨rfl,rfl,rfl,by simp,fun k hk _=>heap_alloc_old w.drew _ hk⟩⟩
  ·simp only[Array.size_append,List.size_toArray,size_zeroCells,hzs,hlen,←Nat.add_mul]
   congr 1
   omega
  ·simp only[Array.toList_append]
   rw[←hlen];exact List.take_left
 rcases hown.2 with⟨rfl,rfl⟩|⟨g,cap,cur,rfl,hbg,hg,hnc,hcm,hcs,htake⟩
 ·have hx:xs=[]:=List.eq_nil_of_length_eq_zero (by simpa using hown.1)
  subst hx
  by_cases hm:m=0
  ·subst hm
   have hn:news=[]:=List.eq_nil_of_length_eq_zero (by simpa using hl)
   subst hn;exact⟨.slice none 0 0,w,run_append_nothing w t tx ty e i ht hi none 0 0 (Nat.le_refl _) x hs,World.ownsRow_nil w base e i.size,⟨rfl,rfl,rfl,Nat.le_refl _,fun _ _ _=>rfl⟩,.inl rfl⟩
  ·have hr:=run_append_grow_src (P:=P) w t tx ty e i z ht hi hz none 0 0 [] (run_firstCells_none w.drew i.size 0 0 0) x m news hs (by omega) (by omega) (growslice_fits (by omega) hbytes)
   have hgr:=grown 0 (by omega) (Value.ownBlock (.slice none 0 0))
   exact⟨_,_,hr,hgr.1,hgr.2,.inr (.inr rfl)⟩
 ·by_cases hroom:n+m≤cap
  ·have hfit:n*i.size+news.length≤cur.size:=by rw[hl,hcs,←Nat.add_mul];exact Nat.mul_le_mul_right _ hroom
   have hst:=run_storeCells_at (P:=P) g (n*i.size) e news 0 cur w hg (by omega) hs.one
   simp only[Nat.add_zero]at hst;have hr:(Builtin.append_ #[t,tx] ty #[.slice (some ⟨g,0,none⟩) n cap,x]).run P w=.ok (.slice (some ⟨g,0,none⟩) (n+m) cap) (w.setRow g (cur.toList.take (n*i.size)++news++cur.toList.drop (n*i.size+news.length)).toArray):=by
    rcases hs.kind with⟨e',hk⟩ | hk <;> simp[Builtin.append_,run_underlying ht,run_underlying hk,sizeOf,typeInfo,hi,hs.len,hroom,hs.cells,Addr.add_lit,hst]
   refine⟨_,_,hr,⟨hlen,.inr ⟨g,cap,_,rfl,hbg,setRow_heap w g cur _ e _ hg,hroom,hcm,?_,?_⟩⟩,⟨rfl,rfl,rfl,by simp,fun k _ hk=>setRow_other w g k _ (fun e=>hk (by simp[Value.ownBlock,e]))⟩,.inr (.inl rfl)⟩
   ·simp only[List.size_toArray,List.length_append,List.length_take,List.length_drop,Array.length_toList]
    omega
   ·rw[htake,←hlen]
    exact List.take_left
  ·have holds:∀ j u,xs[j]?=some u→w.cell? ((⟨g,0,none⟩:Addr).add j)=some u:=hown.cells (g:=g) rfl
   have hr:=run_append_grow_src (P:=P) w t tx ty e i z ht hi hz (some ⟨g,0,none⟩) n cap xs (run_firstCells_some w.drew i.size n _ n cap xs hown.1 (by simpa using holds)) x m news hs (by omega) (by omega) (growslice_fits (by omega) hbytes)
   have hgr:=grown cap (by omega) (Value.ownBlock (.slice (some ⟨g,0,none⟩) n cap))
   exact⟨_,_,hr,hgr.1,hgr.2,.inr (.inr rfl)⟩
end
section
variable {P:Program} {T:TT} {FF:FL} {mine may:Nat→Prop} {L:Nat→Value} {F:Nat→Nat→Prop} {h:Hp} {st:St} {a:Act} {w w0:World}
theorem a0t{o:Oper}{v:Value}{w':World}{Kc:Act→World→Prop}{Q:Exit→Act→World→Prop}(hr:(execOp a.eval o).run P w=.ok (.value v) w')(hk:Kc (a.put o.dst v) w'):o.wp P a w Kc Q:=by
 unfold Oper.wp;rw[hr];exact hk
theorem a6d{o:Oper}{w':World}{Kc:Act→World→Prop}{Q:Exit→Act→World→Prop}(hr:(execOp a.eval o).run P w=.ok .skip w')(hk:Kc (a.put o.dst undef) w'):o.wp P a w Kc Q:=by
 unfold Oper.wp;rw[hr];exact hk
theorem a3C(hk:Keep may w0 w){b:Nat}(hb:a0g may w0 b)(cs:Array Value):Keep may w0 (w.setRow b cs) :=
 ⟨hk.os,hk.tape,hk.output,by rw[size_setRow];exact hk.size,fun k hlt hn=>by
  have hne:k≠b:=fun e=>by subst e;rcases hb with h | h;exact hn h;omega
  rw[setRow_other w b k _ hne]
  exact hk.block k hlt hn⟩
theorem b7v{cs xs:List IC}{vs us:List Value}(h1:DenL L h cs vs)(h2:DenL L h xs us)(off:Nat):DenL L h (cs.take off++xs++cs.drop (off+xs.length)) (vs.take off++us++vs.drop (off+us.length)):=by
 rw[h2.1];exact((h1.take _).append h2).append (h1.drop _)
theorem a9Z{v:Value}(hs:(∃ A n c,v=.slice A n c)):blk v=v.ownBlock:=by
 obtain⟨A,n,c,rfl⟩:=hs;cases A <;> rfl
theorem a4z{w:World}{base e size n:Nat}{v:Value}{xs:List Value}(h:w.ownsRow base e size v n xs):∃ A n c,v=.slice A n c:=by
 rcases h.2 with⟨h,_⟩|⟨g,cap,cur,h,_⟩
 ·exact⟨_,_,_,h⟩
 ·exact⟨_,_,_,h⟩
def a3L(n sz:Nat)(g:Nat→Nat→Value):List Value:=(List.range (n*sz)).map fun q=>g (q/sz) (q%sz)
theorem a4X(n sz:Nat)(g:Nat→Nat→Value):(a3L n sz g).length=n*sz:=by simp[a3L]
theorem b2F{n sz:Nat}{g:Nat→Nat→Value}{k j:Nat}(hk:k<n)(hj:j<sz):(a3L n sz g)[k*sz+j]?=some (g k j):=by
 have hlt:k*sz+j<n*sz:=by
  have:(k+1)*sz≤n*sz:=Nat.mul_le_mul_right _ hk
  rw[Nat.succ_mul]at this;omega
 have hpos:0<sz:=by omega
 have e1:(k*sz+j)/sz=k:=by rw[Nat.mul_comm,Nat.mul_add_div hpos,Nat.div_eq_of_lt hj,Nat.add_zero]
 have e2:(k*sz+j)%sz=j:=by rw[Nat.mul_comm,Nat.mul_add_mod,Nat.mod_eq_of_lt hj]
 simp[a3L,hlt,e1,e2]
theorem a4Y{n sz:Nat}{g:Nat→Nat→Value}{q:Nat}{u:Value}(hq:(a3L n sz g)[q]?=some u):∃ k j,k<n∧j<sz∧q=k*sz+j∧u=g k j:=by
 have hlt:q<n*sz:=by have:=(List.getElem?_eq_some_iff.1 hq).1;rwa [a4X]at this
 have hpos:0<sz:=by
  rcases Nat.eq_zero_or_pos sz with h0 | h0
  ·subst h0;simp at hlt
  ·exact h0
 refine⟨q/sz,q%sz,?_,Nat.mod_lt _ hpos,?_,?_⟩
 ·exact(Nat.div_lt_iff_lt_mul hpos).2 hlt
 ·rw[Nat.mul_comm];exact(Nat.div_add_mod q sz).symm
 ·simp[a3L,hlt]at hq;exact hq.symm
theorem a6l{n sz:Nat}{f:Nat→List IC}{g:Nat→Nat→Value}(hl:∀ k,k<n→(f k).length=sz)(hr:∀ k,k<n→∀(j:Nat) c,(f k)[j]?=some c→Den L h c (g k j)):RowD L h sz n f (a3L n sz g):=by
 refine⟨hl,fun k hk j c hc=>⟨g k j,b2F hk ?_,hr k hk j c hc⟩⟩;have:=(List.getElem?_eq_some_iff.1 hc).1;rw[hl k hk]at this;exact this
theorem b4v(hm:Mem mine L F h st.own w){tx:TypeId}{d:TypeDesc}(hu:P.underlying tx=some d){sz:Nat}{av:AV}{x:Value}(hd:DenA L h av x){m:Nat}{g:Nat→List IC}(hn:b1G st d sz av=some (m,g)) :
  ∃ vs,Src P sz tx x m vs w∧RowD L h sz m g vs:=by
 unfold b1G at hn;split at hn
 ·split at hn
  ·rename_i e'
   cases hn;obtain rfl:=a0u hd;exact⟨[],Src.ofNil w hu 0,⟨fun k hk=>by omega,fun k hk=>by omega⟩⟩
  ·cases hn
 ·rename_i j
  split at hn
  ·rename_i e' e sz' n f ho
   split at hn
   ·rename_i es
    have es:=Nat.eq_of_beq_eq_true es;subst es;cases hn;have hd:Den L h _ _:=hd;cases hd with
    | row _ A n' c h1 h2 =>
    obtain⟨vs,⟨hl,hr⟩,hG,hR⟩:=hm.obs j _ ho;rw[h2]at hr;rcases hr with⟨e1,e2⟩|⟨gb,cap,cur,e1,e2,e3,e4,e5,e6,e7⟩
    ·cases e1
     refine⟨[],?_,⟨fun k hk=>by omega,fun k hk=>by omega⟩⟩
     rw[e2];exact Src.ofNil w hu 0
    ·cases e1
     refine⟨vs,Src.ofSlice w hu ⟨gb,0,none⟩ _ _ vs hl (fun q u hq=>?_) (fun u hu2=>?_),hR⟩
     ·rw[a0n,Nat.zero_add,a1q e3]
      rw[←e7,List.getElem?_take]at hq;split at hq
      ·exact hq
      ·cases hq
     ·obtain⟨q,hq,rfl⟩:=List.getElem_of_mem hu2
      have hlt:q<m*sz:=by rw[←hl];exact hq
      have hpos:0<sz:=by
       rcases Nat.eq_zero_or_pos sz with h0 | h0
       ·subst h0;simp at hlt
       ·exact h0
      have hk:q/sz<m:=(Nat.div_lt_iff_lt_mul hpos).2 hlt;have hj:q%sz<(g (q/sz)).length:=by rw[hR.len _ hk];exact Nat.mod_lt _ hpos
      obtain⟨u,h1,h2⟩:=hR.den _ hk (q%sz) (g (q/sz))[q%sz] (by simp[hj])
      have eq:q/sz*sz+q%sz=q:=by rw[Nat.mul_comm];exact Nat.div_add_mod q sz
      rw[eq,List.getElem?_eq_getElem hq]at h1;cases h1;exact h2.one
   ·cases hn
  ·cases hn
 ·rename_i sz' n f
  split at hn
  ·rename_i e'
   split at hn
   ·rename_i es
    have es:=Nat.eq_of_beq_eq_true es;subst es;cases hn;have hd:Den L h _ _:=hd;cases hd with
    | sl _ _ _ A c ad g' hc hmx hA hg hl hclo hr =>
    rcases Nat.eq_zero_or_pos m with h0 | hp
    ·subst h0
     cases A with
     | none=>exact⟨[],Src.ofNil w hu c,⟨fun k hk=>by omega,fun k hk=>by omega⟩⟩
     | some a2=>exact⟨[],Src.ofSlice w hu a2 0 c [] (by simp) (fun j u hj=>by simp at hj) (fun u hu=>by simp at hu),⟨fun k hk=>by omega,fun k hk=>by omega⟩⟩
    ·obtain rfl:=hA hp
     refine⟨a3L m sz g',Src.ofSlice w hu ad m c _ (a4X _ _ _) (fun q u hq=>?_) (fun u hu2=>?_),a6l hl hr⟩
     ·obtain⟨k,j,hk,hj,rfl,rfl⟩:=a4Y hq
      exact a7q hm.hsub (hg k hk j hj)
     ·obtain⟨q,hq,e⟩:=List.getElem_of_mem hu2
      obtain⟨k,j,hk,hj,rfl,rfl⟩:=a4Y (q:=q) (by rw[List.getElem?_eq_getElem hq,e])
      have hjl:j<(g k).length:=by rw[hl k hk];exact hj
      exact(hr k hk j (g k)[j] (by simp[hjl])).one
   ·cases hn
  ·cases hn
 ·rename_i s
  split at hn
  ·rename_i es
   have es:=Nat.eq_of_beq_eq_true es;subst es;cases hn;obtain rfl:=a0u hd;refine⟨byteCells s,Src.ofString w hu s,⟨fun k hk=>rfl,fun k hk j c hc=>?_⟩⟩;have hj:j=0:=by have:=(List.getElem?_eq_some_iff.1 hc).1;simp at this;exact this
   subst hj;simp only[List.getElem?_cons_zero,Option.some.injEq]at hc;subst hc;refine⟨.int .u8 ((s.data.toList.getD k 0).toNat:Int),?_,.v _ rfl⟩;have hk:k<s.data.toList.length:=by simpa using hk
   have hk2:k<s.data.size:=by simpa using hk
   simp[byteCells,List.getD_eq_getElem?_getD];refine⟨_,Array.getElem?_eq_getElem hk2,?_⟩;rw[Array.getElem?_eq_getElem hk2];rfl
  ·cases hn
 ·cases hn
theorem b6T(hm:Mem mine L F h st.own w){e sz:Nat}{av:AV}{x:Value}(hd:DenA L h av x){oi:Option Nat}{n:Nat}{f:Nat→List IC}(ho:b6U st e sz av=some (oi,n,f)) :
  ∃(vs:List Value) (G:Nat→Prop),w.ownsRow 0 e sz x n vs∧(∀ b,blk x=some b→G b)∧RowD L h sz n f vs∧(∀ b,G b→b<w.heap.size∧h.m b=none∧mine b)∧Mem mine L F h (a2J st.own oi) w∧(a2J st.own oi).length=st.own.length∧(∀ b,G b→¬a0l F (a2J st.own oi) b):=by
 unfold b6U at ho;split at ho
 ·cases ho
  obtain rfl:=a0u hd;exact⟨[],fun _=>False,World.ownsRow_nil w 0 e sz,(fun b hb=>by cases hb),⟨fun k hk=>by omega,fun k hk=>by omega⟩,(fun b hb=>hb.elim),hm,rfl,fun b hb=>hb.elim⟩
 ·rename_i i
  split at ho
  ·rename_i e' sz' n' f' hoi
   split at ho
   ·rename_i es
    rw[Bool.and_eq_true]at es;have e1:=Nat.eq_of_beq_eq_true es.1;have e2:=Nat.eq_of_beq_eq_true es.2;subst e1 e2;cases ho;have hd:Den L h _ _:=hd;cases hd with
    | row _ A n' c h1 h2 =>
    obtain⟨vs,k1,k2,k3⟩:=hm.obs i _ hoi;rw[h2]at k1 k2;refine⟨vs,F i,k1,k2,k3,fun b hb=>hm.foot i _ b hoi hb,a2O hm i,List.length_set ..,fun b hb=>?_⟩;rintro⟨j,oj,hj,hF⟩;obtain⟨q1,q2⟩:=a0D hj;exact q2 (hm.dis j i oj _ b q1 hoi hF hb)
   ·cases ho
  ·cases ho
 ·cases ho
theorem b5W(hT:TTok P T)(hm:Mem mine L F h st.own w)(hmine:∀ b,w.heap.size≤b→mine b){t tx ty e:TypeId}{te:TI}{d:TypeDesc}(hte:TF P e te)(ht:P.underlying t=some (.slice e))(htx:P.underlying tx=some d)(hz:te.zero.cells.size=te.size)
  {av aw:AV} {vx vy:Value} (hx:DenA L h av vx) (hy:DenA L h aw vy) {oi:Option Nat} {n m:Nat} {f g:Nat→List IC} (ho:b6U st e te.size av=some (oi,n,f)) (hn:b1G st d te.size aw=some (m,g))
  (h63:n+m≤9223372036854775807) (hb:(n+m)*te.bytes≤140737488355328) {n':Nat} {f':Nat→List IC} (hn':n'=n+m) (hf1:∀ k,k<n→f' k=f k) (hf2:∀ k,k<m→f' (n+k)=g k) :
  ∃ v' w' G',(Builtin.append_ #[t,tx] ty #[vx,vy]).run P w=.ok v' w'∧Mem mine L F h (a2J st.own oi) w'∧(∀ L' h',Sub h h'→(∀ i,i<h.n→L' i=L i)→ObOk L' h' w' v' G' (.row e te.size n' f'))∧(∀ b,G' b→b<w'.heap.size∧h.m b=none∧mine b)∧(∀ b,G' b→¬a0l F (a2J st.own oi) b) ∧
   (a2J st.own oi).length=st.own.length∧(∃ A c,v'=.slice A n' c)∧(∀ may w0,mine=a0g may w0→Keep may w0 w→Keep may w0 w'):=by
 subst hn';have hi:=hte.info;cases hinfo:P.info? e with
 | none=>rw[hinfo]at hi;cases hi
 | some ie =>
 rw[hinfo]at hi;simp only[Option.map_some,Option.some.injEq,Prod.mk.injEq]at hi;obtain⟨i1,i2,i3⟩:=hi;have hml:maxLen=9223372036854775807:=rfl;obtain⟨vs,G,q1,q2,q3,q4,q5,q6,q7⟩:=b6T hm hx ho;obtain⟨us,s1,s2⟩:=b4v hm htx hy hn;have hsz:te.size=ie.size:=i2.symm;have q1':=q1;have s1':=s1;rw[hsz]at q1 s1;obtain⟨v',w',r1,r2,r3,r4⟩:=a4q (P:=P) w 0 t tx ty e ie te.zero ht hinfo i1 (by rw[hz,hsz]) vx n vs q1 vy m us s1 (by rw[hml];exact h63) (by rw[i3];exact hb) (Nat.zero_le _)
 have hblk:blk vx=vx.ownBlock:=a9Z (a4z q1);have hblk':blk v'=v'.ownBlock:=a9Z (a4z r2);have hw':∀ k,k<w.heap.size→¬G k→w'.heap[k]?=w.heap[k]?:=fun k hk hn=>r3.block k hk (fun e=>hn (q2 k (by rw[hblk,←e])))
 have hm1:Mem mine L F h (a2J st.own oi) w':=by
  refine a4C q5 r3.size (fun k o hk=>?_) (fun b hb=>?_)
  ·refine hw' k (Array.getElem?_eq_some_iff.1 (hm.hsub k o hk)).1 (fun hG=>?_)
   have:=(q4 k hG).2.1;rw[this]at hk;cases hk
  ·obtain⟨j,oj,hj,hF⟩:=hb
   exact hw' b (q5.foot j oj b hj hF).1 (fun hG=>q7 b hG ⟨j,oj,hj,hF⟩)
 have hnb:∀ b,blk v'=some b→h.m b=none∧mine b∧¬a0l F (a2J st.own oi) b∧b<w'.heap.size:=fun b hb=>by
  have hlt:b<w'.heap.size:=by
   rcases r2.2 with⟨e1,_⟩|⟨g,cap,cur,e1,e2,e3,_⟩
   ·rw[e1]at hb;cases hb
   ·rw[e1]at hb;cases hb;exact(Array.getElem?_eq_some_iff.1 e3).1
  rw[hblk']at hb;rcases r4 with r4 | r4 | r4
  ·rw[r4]at hb;cases hb
  ·rw[r4,←hblk]at hb
   have:=q4 b (q2 b hb);exact⟨this.2.1,this.2.2,q7 b (q2 b hb),hlt⟩
  ·rw[r4]at hb
   cases hb;refine⟨a9y hm.hsub (Nat.le_refl _),hmine _ (Nat.le_refl _),fun⟨j,oj,hj,hF⟩=>?_,hlt⟩;have:=(q5.foot j oj _ hj hF).1;omega
 refine⟨v',w',fun b=>blk v'=some b,r1,hm1,fun L' h' hs hL=>⟨vs++us,by rw[hsz];exact r2,fun b hb=>hb,?_⟩,fun b hb=>⟨(hnb b hb).2.2.2,(hnb b hb).1,(hnb b hb).2.1⟩,fun b hb=>(hnb b hb).2.2.1,q6,?_,fun may w0 hme hk=>?_⟩
 ·have hR:RowD L h te.size (n+m) f' (vs++us):=by
   have hlen:vs.length=n*te.size:=q1'.1;refine⟨fun k hk=>?_,fun k hk j c hc=>?_⟩
   ·rcases Nat.lt_or_ge k n with hlt | hge
    ·rw[hf1 k hlt];exact q3.len k hlt
    ·have:=hf2 (k-n) (by omega)
     rw[show n+(k-n)=k by omega]at this
     rw[this];exact s2.len _ (by omega)
   ·rcases Nat.lt_or_ge k n with hlt | hge
    ·rw[hf1 k hlt]at hc
     obtain⟨u,h1,h2⟩:=q3.den k hlt j c hc;refine⟨u,?_,h2⟩;rw[List.getElem?_append_left (List.getElem?_eq_some_iff.1 h1).1];exact h1
    ·have e1:=hf2 (k-n) (by omega)
     rw[show n+(k-n)=k by omega]at e1
     rw[e1]at hc;obtain⟨u,h1,h2⟩:=s2.den _ (by omega) j c hc
     refine⟨u,?_,h2⟩;have e2:k*te.size+j=vs.length+((k-n)*te.size+j):=by
      rw[hlen]
      have:k*te.size=n*te.size+(k-n)*te.size:=by rw[←Nat.add_mul];congr 1;omega
      omega
     rw[e2,List.getElem?_append_right (by omega),Nat.add_sub_cancel_left]
     exact h1
  exact hR.mono hs hL
 ·rcases r2.2 with⟨e1,e2⟩|⟨g,cap,cur,e1,_⟩
  ·exact⟨none,0,by rw[e1,e2]⟩
  ·exact⟨_,_,e1⟩
 ·refine⟨r3.os.trans hk.os,r3.tape.trans hk.tape,r3.output.trans hk.output,Nat.le_trans hk.size r3.size,fun k hlt hno=>?_⟩
  rw[hw' k (Nat.lt_of_lt_of_le hlt hk.size) (fun hG=>by
   have:=(q4 k hG).2.2;rw[hme]at this;rcases this with h3 | h3
   ·exact hno h3
   ·omega)]
  exact hk.block k hlt hno
end
end Go.Eng
namespace Go.Eng
open Go Go.RowKit
section
variable {P:Program} {T:TT} {FF:FL} {mine may:Nat→Prop} {L:Nat→Value} {F:Nat→Nat→Prop} {h:Hp} {st:St} {a:Act} {w w0:World}
theorem b4d{sz:Nat}:∀{l:List (Nat × AV)} {vs:List (Nat × Value)} {i:Nat} {xs:List (List IC)},rowC sz i l=some xs→DenP L h l vs →
  xs.length=l.length∧vs=(((vs.map (·.2)).zipIdx i).map fun x=>(x.2,x.1))∧(∀ v,v∈vs.map (·.2)→v.cells.size=sz)∧(∀ y,y∈xs→y.length=sz)∧DenL L h xs.flatten ((vs.map (·.2)).flatMap fun v=>v.cells.toList)
 | [],_,i,xs,hr,.nil=>by cases hr;exact⟨rfl,rfl,(fun v hv=>nomatch hv),(fun y hy=>nomatch hy),DenL.nil⟩
 | (j,av)::r,_,i,xs,hr,.cons (v:=v) (r:=us) h1 h2=>by
  unfold rowC at hr;split at hr
  ·rename_i cs rest hb hc hrest
   split at hr
   ·rename_i hcond
    cases hr;obtain⟨k1,k2,k3,k4,k5⟩:=b4d hrest h2;have hj:i=j:=Nat.eq_of_beq_eq_true hb;have hd:=a6K hc h1;refine⟨by simp[k1],?_,fun u hu=>?_,fun y hy=>?_,?_⟩
    ·rw[List.map_cons,List.zipIdx_cons,List.map_cons,←k2,hj]
    ·rw[List.map_cons]at hu
     rcases List.mem_cons.1 hu with rfl | hu
     ·have:=hd.1;rw[←hcond,this];simp
     ·exact k3 u hu
    ·rcases List.mem_cons.1 hy with rfl | hy
     ·exact hcond
     ·exact k4 y hy
    ·rw[List.map_cons,List.flatMap_cons,List.flatten_cons]
     exact hd.append k5
   ·cases hr
  ·cases hr
theorem a6C{α:Type}{sz:Nat}:∀{xs:List (List α)} (hx:∀ x,x∈xs→x.length=sz),xs.flatten.length=xs.length*sz
 | [],_=>by simp
 | x::r,hx=>by rw[List.flatten_cons,List.length_append,hx x (by simp),a6C (fun y hy=>hx y (by simp[hy])),List.length_cons,Nat.succ_mul,Nat.add_comm]
theorem a6D{sz:Nat}:∀{xs:List (List IC)} (hx:∀ x,x∈xs→x.length=sz) {k:Nat} {cs:List IC} (hk:xs[k]?=some cs) {j:Nat} {c:IC} (hj:cs[j]?=some c),xs.flatten[k*sz+j]?=some c
 | [],_,k,cs,hk,_,_,_=>by simp at hk
 | x::xs,hx,0,cs,hk,j,c,hj=>by
  simp only[List.getElem?_cons_zero,Option.some.injEq]at hk;subst hk;rw[List.flatten_cons,Nat.zero_mul,Nat.zero_add,List.getElem?_append_left (List.getElem?_eq_some_iff.1 hj).1];exact hj
 | x::xs,hx,k+1,cs,hk,j,c,hj=>by
  simp only[List.getElem?_cons_succ]at hk;have hl:=hx x (by simp)
  rw[List.flatten_cons,List.getElem?_append_right (by rw[hl,Nat.succ_mul];omega),hl]
  have e:(k+1)*sz+j-sz=k*sz+j:=by rw[Nat.succ_mul];omega
  rw[e];exact a6D (fun x hm=>hx x (by simp[hm])) hk hj
theorem b4b{sz n:Nat}{f:Nat→List IC}{xs:List (List IC)}{vs:List Value}(hx:∀ x,x∈xs→x.length=sz)(hn:xs.length=n)(hf:∀ k,k<n→f k=xs.getD k [])(hd:DenL L h xs.flatten vs):RowD L h sz n f vs:=by
 have hget:∀ k,k<n→xs[k]?=some (f k):=fun k hk=>by
  have hk':k<xs.length:=by omega
  rw[hf k hk];simp[List.getD_eq_getElem?_getD,hk']
 refine⟨fun k hk=>hx _ (List.mem_of_getElem? (hget k hk)),fun k hk j c hc=>?_⟩;have h1:=a6D hx (hget k hk) hc;have hlt:k*sz+j<vs.length:=by rw[←hd.1];exact(List.getElem?_eq_some_iff.1 h1).1
 exact⟨_,List.getElem?_eq_getElem hlt,hd.2 _ c _ h1 (List.getElem?_eq_getElem hlt)⟩
theorem b4a(hm:Mem mine L F h st.own w){i:Nat}{e:TypeId}{sz n:Nat}{f f':Nat→List IC}(hi:st.own[i]?=some (some (.row e sz n f))){k off:Nat}{p:Value}(hp:Den L h (.rel i sz k off) p){xs:List IC}{us:List Value}(hd:DenL L h xs us)(hl:off+xs.length≤sz)
  (hf:∀ j,j<n→f' j=if j=k then(f k).take off++xs++(f k).drop (off+xs.length)else f j) :
  ∃ g cur,p=.pointer (some ⟨g,k*sz+off,none⟩)∧w.heap[g]?=some (.cells cur e (0,0))∧F i g∧k*sz+off+us.length≤cur.size ∧
   Mem mine L F h (st.own.set i (some (.row e sz n f'))) (w.setRow g (cur.toList.take (k*sz+off)++us++cur.toList.drop (k*sz+off+us.length)).toArray):=by
 obtain⟨vs,⟨hvl,hr⟩,hG,hR⟩:=hm.obs i _ hi;cases hp with
 | rel _ _ _ _ ad h1 h2 h3 =>
 rcases hr with⟨e1,e2⟩|⟨g,cap,cur,e1,e2,e3,e4,e5,e6,e7⟩
 ·rw[e1]at h2;cases h2
 have hk:=h3 _ _ _ e1;rw[e1]at h2;cases h2;have hFg:=hG g (by rw[e1];rfl)
 have hle:k*sz+off+us.length≤n*sz:=by
  have:(k+1)*sz≤n*sz:=Nat.mul_le_mul_right _ hk
  rw[Nat.succ_mul]at this;have:=hd.1;omega
 have hcap:n*sz≤cur.size:=by rw[e6];exact Nat.mul_le_mul_right _ e4
 refine⟨g,cur,by rw[a0n,Nat.zero_add],e3,hFg,by omega,a3V hm hi (size_setRow ..) (fun b hb=>?_) ⟨vs.take (k*sz+off)++us++vs.drop (k*sz+off+us.length),⟨?_,.inr ⟨g,cap,_,e1,e2,setRow_heap w g cur _ e (0,0) e3,e4,e5,?_,?_⟩⟩,hG,⟨fun j hj=>?_,fun j hj q c hc=>?_⟩⟩⟩
 ·exact setRow_other w g b _ (fun e=>hb (by rw[e];exact hFg))
 ·simp only[List.length_append,List.length_take,List.length_drop];omega
 ·simp only[List.size_toArray,List.length_append,List.length_take,List.length_drop,Array.length_toList];omega
 ·rw[←e7]
  simp only;have e8:(cur.toList.take (k*sz+off)++us).length=k*sz+off+us.length:=by rw[List.length_append,List.length_take,Array.length_toList];omega
  rw[List.take_append,List.take_of_length_le (by omega),e8,List.take_take,Nat.min_eq_left (by omega),List.drop_take]
 ·rw[hf j hj]
  split
  ·rename_i e;subst e
   have:=hR.len j hk;simp;omega
  ·exact hR.len j hj
 ·rw[hf j hj]at hc
  have hmid:∀ q' u,q'<k*sz+off∨k*sz+off+us.length≤q'→vs[q']?=some u→(vs.take (k*sz+off)++us++vs.drop (k*sz+off+us.length))[q']?=some u:=fun q' u hq' hu=>by
   rcases hq' with hq' | hq'
   ·rw[List.append_assoc,List.getElem?_append_left (by rw[List.length_take];omega),List.getElem?_take,if_pos hq'];exact hu
   ·have e8:(vs.take (k*sz+off)++us).length=k*sz+off+us.length:=by rw[List.length_append,List.length_take];omega
    rw[List.getElem?_append_right (by omega),e8,List.getElem?_drop]
    rw[show k*sz+off+us.length+(q'-(k*sz+off+us.length))=q' by omega];exact hu
  split at hc
  ·rename_i e;subst e
   have hfl:=hR.len j hk;rcases Nat.lt_or_ge q off with hq | hq
   ·rw[List.append_assoc,List.getElem?_append_left (by rw[List.length_take];omega),List.getElem?_take,if_pos hq]at hc
    obtain⟨u,q1,q2⟩:=hR.den j hj q c hc;exact⟨u,hmid _ u (by omega) q1,q2⟩
   ·rcases Nat.lt_or_ge q (off+xs.length)with hq2 | hq2
    ·rw[List.append_assoc,List.getElem?_append_right (by rw[List.length_take];omega),List.length_take,Nat.min_eq_left (by omega),List.getElem?_append_left (by omega)]at hc
     have hlt:q-off<us.length:=by have:=hd.1;omega
     refine⟨us[q-off],?_,hd.2 _ c _ hc (List.getElem?_eq_getElem hlt)⟩;rw[List.append_assoc,List.getElem?_append_right (by rw[List.length_take];omega),List.length_take,Nat.min_eq_left (by omega),List.getElem?_append_left (by omega)]
     rw[show j*sz+q-(j*sz+off)=q-off by omega]
     exact List.getElem?_eq_getElem hlt
    ·have e8:((f j).take off++xs).length=off+xs.length:=by rw[List.length_append,List.length_take];omega
     rw[List.getElem?_append_right (by omega),e8,List.getElem?_drop,show off+xs.length+(q-(off+xs.length))=q by omega]at hc
     obtain⟨u,q1,q2⟩:=hR.den j hj q c hc;exact⟨u,hmid _ u (by have:=hd.1;omega) q1,q2⟩
  ·rename_i hne
   obtain⟨u,q1,q2⟩:=hR.den j hj q c hc;have hq:q<sz:=by have:=(List.getElem?_eq_some_iff.1 hc).1;rw[hR.len j hj]at this;exact this
   refine⟨u,hmid _ u ?_ q1,q2⟩;rcases Nat.lt_or_gt_of_ne hne with hlt | hgt
   ·left
    have:(j+1)*sz≤k*sz:=Nat.mul_le_mul_right _ hlt
    rw[Nat.succ_mul]at this;omega
   ·right
    have:(k+1)*sz≤j*sz:=Nat.mul_le_mul_right _ hgt
    rw[Nat.succ_mul]at this;have:=hd.1;omega
end
end Go.Eng
namespace Go.Eng
open Go Go.RowKit
section
variable {P:Program} {T:TT} {FF:FL} {mine may:Nat→Prop} {L:Nat→Value} {F:Nat→Nat→Prop} {h:Hp} {st:St} {a:Act} {w w0:World}
theorem a8a{own:List (Option Ob)}(hm:Mem mine L F h own w):Mem mine L F h own w.drew:=a4C hm (Nat.le_refl _) (fun _ _ _=>rfl) (fun _ _=>rfl)
theorem a6y(hk:Keep may w0 w):Keep may w0 w.drew:=⟨hk.os,hk.tape,hk.output,hk.size,hk.block⟩
structure VSrc(P:Program)(L:Nat→Value)(h:Hp)(w:World)(sz:Nat)(x:Value)(m r:Nat)(g:Nat→List IC)(vs:List Value):Prop where
 sl:∃ A c,x=.slice A m c
 len:vs.length=r*sz
 first:∀ k,k≤r→(Builtin.firstCells sz k x).run P w=.ok (vs.take (k*sz)).toArray w
 row:RowD L h sz r g vs
 one:∀ u∈vs,u.oneCell'=true
theorem b1u{sz m:Nat}{g:Nat→List IC}{vs:List Value}(hl:vs.length=m*sz)(hR:RowD L h sz m g vs):∀ u∈vs,u.oneCell'=true:=fun u hu2=>by
 obtain⟨q,hq,rfl⟩:=List.getElem_of_mem hu2;have hlt:q<m*sz:=by rw[←hl];exact hq
 have hpos:0<sz:=by
  rcases Nat.eq_zero_or_pos sz with h0 | h0
  ·subst h0;simp at hlt
  ·exact h0
 have hk:q/sz<m:=(Nat.div_lt_iff_lt_mul hpos).2 hlt;have hj:q%sz<(g (q/sz)).length:=by rw[hR.len _ hk];exact Nat.mod_lt _ hpos
 obtain⟨u,h1,h2⟩:=hR.den _ hk (q%sz) (g (q/sz))[q%sz] (by simp[hj])
 have eq:q/sz*sz+q%sz=q:=by rw[Nat.mul_comm];exact Nat.div_add_mod q sz
 rw[eq,List.getElem?_eq_getElem hq]at h1;cases h1;exact h2.one
theorem VSrc.mk'{sz m r c:Nat}{A:Option Addr}{ad:Addr}{g:Nat→List IC}{vs:List Value}(hl:vs.length=r*sz)(hA:0<r→A=some ad)(hc:∀(j:Nat) u,vs[j]?=some u→w.cell? (ad.add j)=some u)(hR:RowD L h sz r g vs) :
  VSrc P L h w sz (.slice A m c) m r g vs:=by
 refine⟨⟨A,c,rfl⟩,hl,fun k hk=>?_,hR,b1u hl hR⟩;have hlen:(vs.take (k*sz)).length=k*sz:=by
  rw[List.length_take,hl];exact Nat.min_eq_left (Nat.mul_le_mul_right _ hk)
 cases A with
 | none =>
  have hm:r=0:=by
   rcases Nat.eq_zero_or_pos r with h0 | h0
   ·exact h0
   ·have:=hA h0;cases this
  subst hm
  have:vs=[]:=List.eq_nil_of_length_eq_zero (by rw[hl];simp)
  subst this;simp[Builtin.firstCells]
 | some a2 =>
  rcases Nat.eq_zero_or_pos r with h0 | h0
  ·subst h0
   have:vs=[]:=List.eq_nil_of_length_eq_zero (by rw[hl];simp)
   subst this;obtain rfl:k=0:=by omega
   simp[Builtin.firstCells,loadCells,loadCellsFrom]
  ·obtain e:=hA h0
   cases e;have:=run_loadCells_list (P:=P) w ad (vs.take (k*sz)) (fun j v hj=>hc j v (by
    rw[List.getElem?_take]at hj;split at hj
    ·exact hj
    ·cases hj))
   rw[hlen]at this;simpa [Builtin.firstCells]using this
theorem VSrc.src{tx e':TypeId}(hk:P.underlying tx=some (.slice e')){sz m:Nat}{x:Value}{g:Nat→List IC}{vs:List Value}(hv:VSrc P L h w sz x m m g vs)(hd:VSrc P L h w.drew sz x m m g vs):Src P sz tx x m vs w:=by
 obtain⟨A,c,rfl⟩:=hv.sl;have e:vs.take (m*sz)=vs:=by rw[←hv.len];exact List.take_length ..
 refine⟨.inl ⟨e',hk⟩,fun _=>rfl,?_,?_,hv.len,hv.one⟩
 ·have:=hv.first m (Nat.le_refl _);rw[e]at this;exact this
 ·have:=hd.first m (Nat.le_refl _);rw[e]at this;exact this
theorem a9g{sz m:Nat}{g:Nat→List IC}{vs:List Value}(hR:RowD L h sz m g vs){k:Nat}(hk:k≤m):RowD L h sz k g (vs.take (k*sz)):=by
 refine⟨fun q hq=>hR.len q (by omega),fun q hq j c hc=>?_⟩
 obtain⟨u,h1,h2⟩:=hR.den q (by omega) j c hc
 have hj:j<sz:=by have:=(List.getElem?_eq_some_iff.1 hc).1;rw[hR.len q (by omega)]at this;exact this
 refine⟨u,?_,h2⟩
 have:(q+1)*sz≤k*sz:=Nat.mul_le_mul_right _ hq
 rw[Nat.succ_mul]at this;rw[List.getElem?_take,if_pos (by omega)]
 exact h1
theorem VSrc.less{sz m r:Nat}{x:Value}{g:Nat→List IC}{vs:List Value}(hv:VSrc P L h w sz x m m g vs)(hr:r≤m):VSrc P L h w sz x m r g (vs.take (r*sz)):=by
 have hle:r*sz≤m*sz:=Nat.mul_le_mul_right _ hr;refine⟨hv.sl,by rw[List.length_take,hv.len];exact Nat.min_eq_left hle,fun k hk=>?_,a9g hv.row hr,fun u hu=>hv.one u (List.mem_of_mem_take hu)⟩
 rw[List.take_take,Nat.min_eq_left (Nat.mul_le_mul_right _ hk)];exact hv.first k (Nat.le_trans hk hr)
theorem b3u(hm:Mem mine L F h st.own w){d:TypeDesc}{sz:Nat}{av:AV}{x:Value}(hd:DenA L h av x){pre:Nat→Prop}{m:Nat}{g:Nat→List IC}(hn:vsrc st d sz av=some (pre,m,g)){r:Nat}(hr0:r≤m)(hp:pre r) :
  (∃ e,d=.slice e)∧∃ vs,∀ w',(∀ b,(h.m b≠none∨a0l F st.own b)→w'.heap[b]?=w.heap[b]?)→VSrc P L h w' sz x m r g vs:=by
 unfold vsrc at hn;split at hn
 ·split at hn
  ·rename_i e'
   cases hn;obtain rfl:=a0u hd;exact⟨⟨_,rfl⟩,List.take (r*sz) [],fun w' _=>(VSrc.mk' (vs:=[]) (ad:=⟨0,0,none⟩) (by simp) (fun hp=>by omega) (fun j u hj=>by simp at hj) ⟨fun k hk=>by omega,fun k hk=>by omega⟩).less hr0⟩
  ·cases hn
 ·rename_i j
  split at hn
  ·rename_i e' e sz' n f ho
   split at hn
   ·rename_i es
    have es:=Nat.eq_of_beq_eq_true es;subst es;cases hn;have hd:Den L h _ _:=hd;cases hd with
    | row _ A n' c h1 h2 =>
    obtain⟨vs,⟨hl,hr⟩,hG,hR⟩:=hm.obs j _ ho;rw[h2]at hr hG;rcases hr with⟨e1,e2⟩|⟨gb,cap,cur,e1,e2,e3,e4,e5,e6,e7⟩
    ·cases e1
     refine⟨⟨_,rfl⟩,List.take (r*sz) [],fun w' _=>?_⟩;subst e2;exact(VSrc.mk' (vs:=[]) (ad:=⟨0,0,none⟩) (by simp) (fun hp=>by omega) (fun j u hj=>by simp at hj) ⟨fun k hk=>by omega,fun k hk=>by omega⟩).less hr0
    ·cases e1
     refine⟨⟨_,rfl⟩,List.take (r*sz) vs,fun w' hw=>(VSrc.mk' (vs:=vs) (ad:=⟨gb,0,none⟩) hl (fun _=>rfl) (fun q u hq=>?_) hR).less hr0⟩;have hF:F j gb:=hG gb rfl;rw[a0n,Nat.zero_add,a1q ((hw gb (.inr ⟨j,_,ho,hF⟩)).trans e3)];rw[←e7,List.getElem?_take]at hq;split at hq
     ·exact hq
     ·cases hq
   ·cases hn
  ·cases hn
 ·rename_i sz' n f
  split at hn
  ·rename_i e'
   split at hn
   ·rename_i es
    have es:=Nat.eq_of_beq_eq_true es;subst es;cases hn;have hd:Den L h _ _:=hd;cases hd with
    | sl _ _ _ A c ad g' hc hmx hA hg hl hclo hr =>
    refine⟨⟨_,rfl⟩,List.take (r*sz) (a3L m sz g'),fun w' hw=>(VSrc.mk' (vs:=a3L m sz g') (a4X _ _ _) hA (fun q u hq=>?_) (a6l hl hr)).less hr0⟩;obtain⟨k,j,hk,hj,rfl,rfl⟩:=a4Y hq;exact a6h (F:=F) (st:=st) hm (fun b hb=>hw b hb) (hg k hk j hj)
   ·cases hn
  ·cases hn
 ·rename_i j sz' k n c
  split at hn
  ·rename_i e' e sz'' cap N f ho
   split at hn
   ·rename_i es
    rw[Bool.and_eq_true]at es;have es1:=Nat.eq_of_beq_eq_true es.1;have es2:=Nat.eq_of_beq_eq_true es.2;subst es1 es2;cases hn;have hd:Den L h _ _:=hd;cases hd with
    | view _ _ _ _ _ a0 b0 h1 h2 h3 h4 h5 =>
    obtain⟨b,cur,e1,e2,e3,e4,e5,e6,e7⟩:=hm.obs j _ ho;rw[e1]at h2;cases h2;have hle:(k+r)*sz≤cur.size:=by rw[e6];exact Nat.mul_le_mul_right _ (by omega)
    have hs:(k+r)*sz=k*sz+r*sz:=Nat.add_mul ..;refine⟨⟨_,rfl⟩,(cur.toList.drop (k*sz)).take (r*sz),fun w' hw=>VSrc.mk' (ad:=⟨b,k*sz,none⟩) ?_ (fun hp=>?_) (fun q u hq=>?_) ⟨fun q hq=>e7.len _ (by omega),fun q hq i c hc=>?_⟩⟩
    ·rw[List.length_take,List.length_drop,Array.length_toList];omega
    ·rw[h3 (.inl (by omega)),a0n,Nat.zero_add]
    ·rw[a0n,a1q ((hw b (.inr ⟨j,_,ho,e2⟩)).trans e3)]
     rw[List.getElem?_take]at hq;split at hq
     ·rw[List.getElem?_drop]at hq;exact hq
     ·cases hq
    ·obtain⟨u,q1,q2⟩:=e7.den (k+q) (by omega) i c hc
     have hi:i<sz:=by have:=(List.getElem?_eq_some_iff.1 hc).1;rw[e7.len _ (by omega)]at this;exact this
     refine⟨u,?_,q2⟩
     have:(q+1)*sz≤r*sz:=Nat.mul_le_mul_right _ hq
     rw[Nat.succ_mul]at this;rw[List.getElem?_take,if_pos (by omega),List.getElem?_drop,←Nat.add_assoc,←Nat.add_mul]
     exact q1
   ·cases hn
  ·cases hn
 ·cases hn
theorem a4S(hm:Mem mine L F h st.own w){i:Nat}{e:TypeId}{sz cap N:Nat}{f:Nat→List IC}(hi:st.own[i]?=some (some (.arr e sz cap N f))){kd m:Nat}{g:Nat→List IC}{us:List Value}(hu:RowD L h sz m g us)(hul:us.length=m*sz)(hfit:kd+m≤cap)
  {N':Nat} {f':Nat→List IC} (hf:∀ q,q<N'→(kd≤q∧q<kd+m∧f' q=g (q-kd))∨((q<kd∨kd+m≤q)∧q<N∧f' q=f q)) :
  ∃ b cur,L i=.pointer (some ⟨b,0,none⟩)∧w.heap[b]?=some (.cells cur e (0,0))∧F i b∧cur.size=cap*sz ∧
   Mem mine L F h (st.own.set i (some (.arr e sz cap N' f'))) (w.setRow b (cur.toList.take (kd*sz)++us++cur.toList.drop (kd*sz+us.length)).toArray):=by
 obtain⟨b,cur,e1,e2,e3,e4,e5,e6,e7⟩:=hm.obs i _ hi;have hN:N'≤cap:=by
  rcases Nat.lt_or_ge cap N' with h1 | h1
  ·rcases hf cap h1 with h2 | h2
   ·omega
   ·omega
  ·exact h1
 have hle:kd*sz+us.length≤cap*sz:=by
  have:(kd+m)*sz≤cap*sz:=Nat.mul_le_mul_right _ hfit
  rw[Nat.add_mul]at this;omega
 refine⟨b,cur,e1,e3,e2,e6,a3V hm hi (size_setRow ..) (fun k hk=>setRow_other w b k _ (fun e=>hk (by rw[e];exact e2))) ⟨b,_,e1,e2,setRow_heap w b cur _ e (0,0) e3,hN,e5,?_,⟨fun q hq=>?_,fun q hq j c hc=>?_⟩⟩⟩
 ·simp only[List.size_toArray,List.length_append,List.length_take,List.length_drop,Array.length_toList];omega
 ·rcases hf q hq with⟨h1,h2,h3⟩|⟨h1,h2,h3⟩
  ·rw[h3];exact hu.len _ (by omega)
  ·rw[h3];exact e7.len _ h2
 ·rcases hf q hq with⟨h1,h2,h3⟩|⟨h1,h2,h3⟩
  ·rw[h3]at hc
   obtain⟨u,q1,q2⟩:=hu.den _ (by omega) j c hc
   refine⟨u,?_,q2⟩;have e8:q*sz+j=kd*sz+((q-kd)*sz+j):=by
    have:q*sz=kd*sz+(q-kd)*sz:=by rw[←Nat.add_mul];congr 1;omega
    omega
   have e9:(q-kd)*sz+j<us.length:=(List.getElem?_eq_some_iff.1 q1).1;have hmin:min (kd*sz) cur.toList.length=kd*sz:=Nat.min_eq_left (by rw[Array.length_toList];omega)
   rw[List.append_assoc,List.getElem?_append_right (by rw[List.length_take,hmin,e8];omega),List.length_take,hmin,e8,Nat.add_sub_cancel_left,List.getElem?_append_left e9]
   exact q1
  ·rw[h3]at hc
   obtain⟨u,q1,q2⟩:=e7.den _ h2 j c hc;refine⟨u,?_,q2⟩;have hj:j<sz:=by have:=(List.getElem?_eq_some_iff.1 hc).1;rw[e7.len _ h2]at this;exact this
   rcases h1 with h1 | h1
   ·have:(q+1)*sz≤kd*sz:=Nat.mul_le_mul_right _ h1
    rw[Nat.succ_mul]at this;rw[List.append_assoc,List.getElem?_append_left (by rw[List.length_take,Array.length_toList];omega),List.getElem?_take,if_pos (by omega)]
    exact q1
   ·have:(kd+m)*sz≤q*sz:=Nat.mul_le_mul_right _ h1
    rw[Nat.add_mul]at this;have e8:(cur.toList.take (kd*sz)++us).length=kd*sz+us.length:=by rw[List.length_append,List.length_take,Array.length_toList];omega
    rw[List.getElem?_append_right (by omega),e8,List.getElem?_drop,show kd*sz+us.length+(q*sz+j-(kd*sz+us.length))=q*sz+j by omega]
    exact q1
theorem b0h(hm:Mem mine L F h st.own w){i:Nat}{e:TypeId}{sz cap N k n c:Nat}{f:Nat→List IC}(hi:st.own[i]?=some (some (.arr e sz cap N f))){x:Value}(hx:Den L h (.view i sz k n c) x){b:Nat}(hb:L i=.pointer (some ⟨b,0,none⟩)) :
  ∃ ad,x=.slice (some ad) n c∧n≤c∧(0<c∨k=0→ad=⟨b,k*sz,none⟩):=by
 cases hx with
 | view _ _ _ _ _ a0 b0 h1 h2 h3 h4 h5 =>
 rw[hb]at h2;cases h2;exact⟨b0,rfl,h4,fun hc=>by rw[h3 hc,a0n,Nat.zero_add]⟩
theorem a9d{dT sT ty e:TypeId}{sz:Nat}(hu:P.underlying dT=some (.slice e))(hs:∀ w,(Go.sizeOf e).run P w=.ok sz w){ad:Addr}{n c m:Nat}{x:Value}{g:Nat→List IC}{vs:List Value}(hv:VSrc P L h w sz x m (min m n) g vs)
  {b o:Nat} {cur:Array Value} {t:TypeId} (hb:w.heap[b]?=some (.cells cur t (0,0))) (had:0<min m n→ad=⟨b,o,none⟩) (hfit:o+min m n*sz≤cur.size) :
  (Builtin.copy_ #[dT,sT] ty #[.slice (some ad) n c,x]).run P w=.ok (.int .i64 ((min m n:Nat):Int)) (w.setRow b (cur.toList.take o++vs.take (min m n*sz)++cur.toList.drop (o+(vs.take (min m n*sz)).length)).toArray):=by
 obtain⟨A,c',rfl⟩:=hv.sl;have h1:=hv.first (min m n) (Nat.le_refl _)
 have hone:∀ u∈vs.take (min m n*sz),u.oneCell'=true:=fun u hu=>hv.one u (List.mem_of_mem_take hu);have hlen:(vs.take (min m n*sz)).length=min m n*sz:=by
  rw[List.length_take,hv.len,Nat.min_self]
 have hst:(storeCells ad (vs.take (min m n*sz))).run P w=.ok () (w.setRow b (cur.toList.take o++vs.take (min m n*sz)++cur.toList.drop (o+(vs.take (min m n*sz)).length)).toArray):=by
  rcases Nat.eq_zero_or_pos (min m n)with h0 | h0
  ·simp only[h0,Nat.zero_mul,List.take_zero,storeCells,List.append_nil,List.length_nil,Nat.add_zero,List.take_append_drop,Array.toArray_toList]
   rw[setRow_self w b cur t (0,0) hb];rfl
  ·rw[had h0]
   have:=run_storeCells_at (P:=P) b o t (vs.take (min m n*sz)) 0 cur w hb (by simp only[hlen];omega) hone
   simpa using this
 have hmin:Nat.min m n=min m n:=rfl;simp[Builtin.copy_,run_underlying hu,Builtin.lenOf,hs,hmin,h1,hst,goInt]
theorem a6k{z:Array Value}(hz:z.toList.all (·.oneCell')=true)(n:Nat):RowD L h z.size n (fun _=>z.toList.map IC.v) (Builtin.zeroCells z n).toList:=by
 refine⟨fun k hk=>by simp,fun k hk j c hc=>?_⟩
 rw[List.getElem?_map]at hc;cases hq:z.toList[j]? with
 | none=>rw[hq]at hc;cases hc
 | some u =>
  rw[hq]at hc;cases hc;have hj:j<z.size:=by have:=(List.getElem?_eq_some_iff.1 hq).1;rw[Array.length_toList]at this;exact this
  refine⟨u,?_,.v u (List.all_eq_true.1 hz u (List.mem_of_getElem? hq))⟩;have hlt:k*z.size+j<n*z.size:=by
   have:(k+1)*z.size≤n*z.size:=Nat.mul_le_mul_right _ hk
   rw[Nat.succ_mul]at this;omega
  have hmod:(k*z.size+j)%z.size=j:=by rw[Nat.mul_comm,Nat.mul_add_mod,Nat.mod_eq_of_lt hj]
  have hu2:z[j]?=some u:=by rw[←Array.getElem?_toList];exact hq
  simp only[Builtin.zeroCells,Array.toList_map,Array.toList_range,List.getElem?_map];rw[List.getElem?_range hlt];simp only[Option.map_some,hmod,Option.some.injEq];rw[getElem!_pos z j hj];rw[Array.getElem?_eq_getElem hj]at hu2;exact Option.some.inj hu2
theorem a2G(z:Array Value)(n:Nat):(Builtin.zeroCells z n).toList.length=n*z.size:=by simp[Builtin.zeroCells]
theorem a7I{z:Array Value}(hz:z.toList.all (·.oneCell')=true)(n:Nat):∀ u∈(Builtin.zeroCells z n).toList,u.oneCell'=true:=by
 refine b1u (L:=fun _=>undef) (h:=⟨fun _=>none,0⟩) (a2G z n) (a6k hz n)
theorem b6e[a0h P]{h0:Base P}(hT:TTok P T)(hm:Mem (a0g may w0) L F h st.own w)(ha:a0r P L h st a)(hs:SubB h0 st.k L h)(hn:∀ k,h.m k≠none→h0.h.m k≠none∨a0g may w0 k)(hk:Keep may w0 w)
  {t tx ty e:TypeId} {te tj:TI} (hte:TF P e te) (ht:P.underlying t=some (.slice e)) (htx:TF P tx tj) {i sz k n c:Nat} {aw:AV} {vx vy:Value} (hx:Den L h (.view i sz k n c) vx) (hy:DenA L h aw vy) {dst:Option Nat} {K:St→Prop}
  (hp:b3v st te tj i sz k n c aw dst K):∃ v w',(Builtin.copy_ #[t,tx] ty #[vx,vy]).run P w=.ok v w'∧∃ st',Sat may w0 h0 st' (a.put dst v) w'∧K st':=by
 unfold b3v at hp;split at hp
 ·rename_i e' sz' cap N f hi
  obtain⟨hcond,hp2⟩:=a0j hp;clear hp;obtain⟨q1,q2⟩:=hcond;subst q2;have hp:=hp2;clear hp2;split at hp
  ·rename_i pre m g hv
   obtain⟨hpre,hfit,N',f',hw,hp⟩:=hp;obtain⟨_,vs,hvs⟩:=b3u (P:=P) hm hy hv (Nat.min_le_left m n) hpre;have hv1:=hvs w (fun _ _=>rfl);have hl:(vs.take (min m n*sz)).length=min m n*sz:=by
    rw[List.length_take,hv1.len,Nat.min_self]
   obtain⟨b,cur,g1,g2,g3,g4,g5⟩:=a4S hm hi (a9g hv1.row (Nat.le_refl _)) hl (by omega) hw
   obtain⟨ad,rfl,r2,r3⟩:=b0h hm hi hx g1;have hle:k*sz+min m n*sz≤cur.size:=by rw[g4,←Nat.add_mul];exact Nat.mul_le_mul_right _ (by omega)
   have hrun:=a9d (dT:=t) (sT:=tx) (ty:=ty) (n:=n) (c:=c) ht (by rw[←q1];exact hte.size) hv1 g2 (ad:=ad) (fun h0=>r3 (.inl (by omega))) hle
   refine⟨_,_,hrun,?_⟩;rw[b0s]at hp;exact a1f (st:=⟨st.n,st.k,st.env,_⟩) g5 ⟨ha.size,ha.env,ha.defers⟩ hs hn (a3C hk (hm.foot i _ b hi g3).2.2 _) (av:=.c (.v (.int .i64 ((min m n:Nat):Int)))) (show DenA L h (.c (.v _)) _ from Den.v (.int .i64 ((min m n:Nat):Int)) rfl) hp
  ·exact hp.elim
 ·exact hp.elim
theorem b3w[a0h P]{h0:Base P}(hT:TTok P T)(hm:Mem (a0g may w0) L F h st.own w)(ha:a0r P L h st a)(hs:SubB h0 st.k L h)(hn:∀ k,h.m k≠none→h0.h.m k≠none∨a0g may w0 k)(hk:Keep may w0 w)
  {t ty e:TypeId} {te:TI} (hte:TF P e te) (ht:P.underlying t=some (.slice e)) {i sz k n c:Nat} {vx:Value} (hx:Den L h (.view i sz k n c) vx) {dst:Option Nat} {K:St→Prop}
  (hp:b0i st te i sz k n c dst K):∃ w',(Builtin.clear_ #[t] ty #[vx]).run P w=.ok (.tuple #[]) w'∧∃ st',Sat may w0 h0 st' (a.put dst (.tuple #[])) w'∧K st':=by
 unfold b0i at hp;split at hp
 ·rename_i e' sz' cap N f hi
  obtain⟨hcond,hp2⟩:=a0j hp;clear hp;obtain⟨q1,q0,q2,q3⟩:=hcond;subst q0;obtain⟨hfit,N',f',hw,hp⟩:=hp2;have hzs:te.zero.cells.size=sz:=q2.trans q1;have hz:=a6k (L:=L) (h:=h) q3 n;rw[hzs]at hz;have hl:(Builtin.zeroCells te.zero.cells n).toList.length=n*sz:=by rw[a2G,hzs]
  obtain⟨b,cur,g1,g2,g3,g4,g5⟩:=a4S hm hi hz hl hfit hw;obtain⟨ad,rfl,r2,r3⟩:=b0h hm hi hx g1;rw[b0s]at hp;refine⟨_,?_,a1f (st:=⟨st.n,st.k,st.env,_⟩) g5 ⟨ha.size,ha.env,ha.defers⟩ hs hn (a3C hk (hm.foot i _ b hi g3).2.2 _) (av:=.tup []) ⟨[],rfl,rfl,fun j a u hj=>by simp at hj⟩ hp⟩
  cases n with
  | zero =>
   have e0:(Builtin.zeroCells te.zero.cells 0).toList=[]:=List.eq_nil_of_length_eq_zero (by rw[hl];simp)
   rw[e0];simp only[List.append_nil,List.length_nil,Nat.add_zero,List.take_append_drop,Array.toArray_toList];rw[setRow_self w b cur _ (0,0) g2];simp[Builtin.clear_,run_underlying ht]
  | succ n =>
   have hle:k*sz+(n+1)*sz≤cur.size:=by rw[g4,←Nat.add_mul];exact Nat.mul_le_mul_right _ hfit
   have hst:=run_storeCells_at (P:=P) b (k*sz) _ (Builtin.zeroCells te.zero.cells (n+1)).toList 0 cur w g2 (by simp only[hl];omega) (a7I q3 _)
   rw[←r3 (.inl (by omega))]at hst
   simp[Builtin.clear_,run_underlying ht,hte.zero,hst]
 ·exact hp.elim
theorem b8x[a0h P]{h0:Base P}(hT:TTok P T)(hm:Mem (a0g may w0) L F h st.own w)(ha:a0r P L h st a)(hs:SubB h0 st.k L h)(hn:∀ k,h.m k≠none→h0.h.m k≠none∨a0g may w0 k)(hk:Keep may w0 w)
  {t tx ty e:TypeId} {te tj:TI} (hte:TF P e te) (ht:P.underlying t=some (.slice e)) (htx:TF P tx tj) {i sz k n c:Nat} {aw:AV} {vx vy:Value} (hx:Den L h (.view i sz k n c) vx) (hy:DenA L h aw vy) {dst:Option Nat} {K:St→Prop}
  (hp:b8y st e te tj i sz k n c aw dst K):∃ v w',(Builtin.append_ #[t,tx] ty #[vx,vy]).run P w=.ok v w'∧∃ st',Sat may w0 h0 st' (a.put dst v) w'∧K st':=by
 unfold b8y at hp;split at hp
 ·rename_i e' sz' cap N f hi
  obtain⟨hcond,hp2⟩:=a0j hp;clear hp;obtain⟨q1,q2,q3,q4⟩:=hcond;subst q2 q4;have hp:=hp2;clear hp2;have hml:maxLen=9223372036854775807:=rfl;obtain⟨b,cur,e1,e2,e3,e4,e5,e6,e7⟩:=hm.obs i _ hi;obtain⟨ad,rfl,r2,r3⟩:=b0h hm hi hx e1;have hinf:=hte.info;cases hinfo:P.info? e with
  | none=>rw[hinfo]at hinf;cases hinf
  | some ie =>
  rw[hinfo]at hinf;simp only[Option.map_some,Option.some.injEq,Prod.mk.injEq]at hinf;obtain⟨i1,i2,i3⟩:=hinf;have hszi:ie.size=sz:=i2.trans q1;have holdV:k+n≤N→VSrc P L h w.drew sz (.slice (some ad) n c) n n (fun q=>f (k+q)) ((cur.toList.drop (k*sz)).take (n*sz)):=fun hkn=>by
   have hle:(k+n)*sz≤cur.size:=by rw[e6];exact Nat.mul_le_mul_right _ (by omega)
   have hadd:(k+n)*sz=k*sz+n*sz:=Nat.add_mul ..;refine VSrc.mk' (ad:=⟨b,k*sz,none⟩) ?_ (fun hp=>by rw[r3 (.inl (by omega))]) (fun q u hq=>?_) ⟨fun q hq=>e7.len _ (by omega),fun q hq i c hc=>?_⟩
   ·rw[List.length_take,List.length_drop,Array.length_toList];omega
   ·rw[a0n,a1q (show w.drew.heap[b]?=_ from e3)]
    rw[List.getElem?_take]at hq;split at hq
    ·rw[List.getElem?_drop]at hq;exact hq
    ·cases hq
   ·obtain⟨u,h1,h2⟩:=e7.den (k+q) (by omega) i c hc
    have hi:i<sz:=by have:=(List.getElem?_eq_some_iff.1 hc).1;rw[e7.len _ (by omega)]at this;exact this
    refine⟨u,?_,h2⟩
    have:(q+1)*sz≤n*sz:=Nat.mul_le_mul_right _ hq
    rw[Nat.succ_mul]at this;rw[List.getElem?_take,if_pos (by omega),List.getElem?_drop,←Nat.add_assoc,←Nat.add_mul]
    exact h1
  have hnew:∀(m:Nat) (g f':Nat→List IC) (us:List Value),k+n≤N→c<n+m→n+m≤9223372036854775807→us.length=m*sz→RowD L h sz m g us→(∀ q,q<n→f' q=f (k+q))→(∀ q,q<m→f' (n+q)=g q)→
    (∀ cap',n+m≤cap'→a3J st (.arr e sz cap' (n+m) f') (fun l=>.view l sz 0 (n+m) cap') dst K)→
    ∃ st',Sat may w0 h0 st' (a.put dst (.slice (some ⟨w.heap.size,0,none⟩) (n+m) (grownCap w (n+m) c e))) (w.drew.alloc (.cells (((cur.toList.drop (k*sz)).take (n*sz)++us).toArray++Builtin.zeroCells te.zero.cells (grownCap w (n+m) c e-(n+m))) e))∧K st':=fun m g f' us hkn hg h63 hul hus hf1 hf2 hp=>by
   have hge:=grownCap_ge w (n+m) c e;have hcm:grownCap w (n+m) c e≤maxLen:=grownCap_le_maxLen w (n+m) c e (by omega)
   have hov:=holdV hkn;have hlen:(((cur.toList.drop (k*sz)).take (n*sz))++us).length=(n+m)*sz:=by rw[List.length_append,hov.len,hul,Nat.add_mul]
   refine b3r (w:=w.drew) (a8a hm) ha hs hn (a6y hk) (o:=.cells (((((cur.toList.drop (k*sz)).take (n*sz))++us).toArray++Builtin.zeroCells te.zero.cells (grownCap w (n+m) c e-(n+m)))) e) (ob:=.arr e sz (grownCap w (n+m) c e) (n+m) f') (c:=fun l=>.view l sz 0 (n+m) (grownCap w (n+m) c e)) (u:=.slice (some ⟨w.heap.size,0,none⟩) (n+m) (grownCap w (n+m) c e)) (fun L' h' hs hL=>⟨w.heap.size,_,rfl,rfl,a0C w.drew _,hge,hcm,?_,⟨fun q hq=>?_,fun q hq j cc hc=>?_⟩⟩) (fun L' h' h1 h2=>?_) (hp _ hge)
   ·simp only[Array.size_append,List.size_toArray,size_zeroCells,q3,q1,hlen,←Nat.add_mul]
    congr 1
    omega
   ·rcases Nat.lt_or_ge q n with hlt | hge2
    ·rw[hf1 q hlt];exact hov.row.len q hlt
    ·have:=hf2 (q-n) (by omega)
     rw[show n+(q-n)=q by omega]at this
     rw[this];exact hus.len _ (by omega)
   ·rw[Array.toList_append]
    have pre:∀ x u,(((cur.toList.drop (k*sz)).take (n*sz))++us)[x]?=some u→((((cur.toList.drop (k*sz)).take (n*sz))++us).toArray.toList++(Builtin.zeroCells te.zero.cells (grownCap w (n+m) c e-(n+m))).toList)[x]?=some u:=fun x u hx=>by
     rw[List.getElem?_append_left (List.getElem?_eq_some_iff.1 hx).1];exact hx
    rcases Nat.lt_or_ge q n with hlt | hge2
    ·rw[hf1 q hlt]at hc
     obtain⟨u,h1,h2⟩:=hov.row.den q hlt j cc hc;refine⟨u,pre _ _ ?_,h2.mono hs hL⟩;rw[List.getElem?_append_left (List.getElem?_eq_some_iff.1 h1).1];exact h1
    ·have e1:=hf2 (q-n) (by omega)
     rw[show n+(q-n)=q by omega]at e1
     rw[e1]at hc;obtain⟨u,h1,h2⟩:=hus.den _ (by omega) j cc hc
     refine⟨u,pre _ _ ?_,h2.mono hs hL⟩;have e2:q*sz+j=n*sz+((q-n)*sz+j):=by
      have:q*sz=n*sz+(q-n)*sz:=by rw[←Nat.add_mul];congr 1;omega
      omega
     have hl2:=hov.len;rw[e2,List.getElem?_append_right (by omega),hl2,Nat.add_sub_cancel_left]
     exact h1
   ·exact Den.view _ sz 0 (n+m) _ ⟨w.heap.size,0,none⟩ ⟨w.heap.size,0,none⟩ h1 h2 (fun _=>by rw[a0n];simp) hge (by unfold maxLen at hcm;omega)
  have hfirst:k+n≤N→(Builtin.firstCells ie.size n (.slice (some ad) n c)).run P w.drew=.ok ((cur.toList.drop (k*sz)).take (n*sz)).toArray w.drew:=fun hkn=>by
   have:=(holdV hkn).first n (Nat.le_refl _)
   rw[List.take_take,Nat.min_self]at this;rw[hszi];exact this
  split at hp
  ·rename_i ki m kn hdj
   obtain⟨⟨z1,z2⟩,hkn,⟨m1,m2,m3,m4⟩,f',hf1,hf2,hp⟩:=a0j hp;obtain rfl:vy=.int ki m:=a0u hy;obtain⟨m,rfl⟩:∃ k:Nat,m=k:=⟨m.toNat,by omega⟩
   simp only[Int.toNat_natCast]at *;have hu2:=htx.und;rw[hdj]at hu2;have hrun:=Go.Lib.run_append_grow_zeros (P:=P) w t tx ty e ie te.zero ki kn ht hu2 hinfo i1 (some ad) n c _ (hfirst hkn) m (by omega) (by omega) (by omega) (by omega) (by
    have:((n+m:Nat):Int)*te.bytes≤140737488355328:=by simpa using m4
    have h4:(n+m)*te.bytes≤140737488355328:=by rw[←Int.natCast_mul]at this;omega
    rw[Nat.add_mul]at h4;rw[i3];omega) (growslice_fits (by omega) (by
    have:((n+m:Nat):Int)*te.bytes≤140737488355328:=by simpa using m4
    rw[←Int.natCast_mul]at this
    rw[i3];omega))
   refine⟨_,_,hrun,?_⟩;have hz:=a6k (L:=L) (h:=h) z1 m;rw[q3,q1]at hz;have:=hnew m _ f' (Builtin.zeroCells te.zero.cells m).toList hkn (by omega) (by omega) (by rw[a2G,q3,q1]) hz hf1 hf2 hp
   have e9:∀ xs:List Value,(xs++(Builtin.zeroCells te.zero.cells m).toList).toArray=xs.toArray++Builtin.zeroCells te.zero.cells m:=fun xs=>by apply Array.ext';simp
   rw[e9]at this;exact this
  ·split at hp
   ·rename_i pre m g hv
    obtain⟨hpre,⟨hkn,hkc⟩,hp1,hp2⟩:=hp;obtain⟨⟨e',hde⟩,vs,hvs⟩:=b3u (P:=P) hm hy hv (Nat.le_refl _) hpre;have hv1:=hvs w (fun _ _=>rfl);have hv2:=hvs w.drew (fun _ _=>rfl);have hu2:=htx.und;rw[hde]at hu2;have hsrc:=VSrc.src (P:=P) hu2 hv1 hv2;rw[←hszi]at hsrc;rcases Nat.lt_or_ge c (n+m)with hlt | hge
    ·obtain⟨⟨b1,b2⟩,f',hf1,hf2,hp⟩:=hp2 hlt
     have hrun:=run_append_grow_src (P:=P) w t tx ty e ie te.zero ht hinfo i1 (some ad) n c _ (hfirst hkn) vy m vs hsrc hlt (by omega) (growslice_fits hlt (by rw[i3];exact b2))
     exact⟨_,_,hrun,hnew m g f' vs hkn hlt b1 hv1.len hv1.row hf1 hf2 hp⟩
    ·obtain⟨N',f',hw,hp⟩:=hp1 hge
     obtain⟨b',cur',g1,g2,g3,g4,g5⟩:=a4S hm hi hv1.row hv1.len (by omega) hw
     rw[e1]at g1;cases g1;rw[e3]at g2;cases g2;rw[b0s]at hp;have hmd:(k+n)*sz=k*sz+n*sz:=Nat.add_mul ..;have hview:Den L h (.view i sz k (n+m) c) (.slice (some ad) (n+m) c):=by
      cases hx with
      | view _ _ _ _ _ a0 b0 h1 h2 h3 h4 h5=>exact Den.view _ _ _ _ _ a0 ad h1 h2 h3 hge h5
     have hfin:=a1f (st:=⟨st.n,st.k,st.env,_⟩) g5 ⟨ha.size,ha.env,ha.defers⟩ hs hn (a3C hk (hm.foot i _ b hi g3).2.2 _) (av:=.c (.view i sz k (n+m) c)) hview hp;refine⟨_,_,?_,hfin⟩;rcases Nat.eq_zero_or_pos m with h0 | h0
     ·subst h0
      have e0:vs=[]:=List.eq_nil_of_length_eq_zero (by rw[hv1.len];simp)
      subst e0;simp only[List.append_nil,List.length_nil,Nat.add_zero,List.take_append_drop,Array.toArray_toList];rw[setRow_self w b cur _ (0,0) e3];exact run_append_nothing w t tx ty e ie ht hinfo (some ad) n c r2 vy hsrc
     ·have had:=r3 (.inl (by omega))
      subst had;have hfit:k*sz+n*sz+vs.length≤cur.size:=by
       have:(k+n+m)*sz≤cap*sz:=Nat.mul_le_mul_right _ (by omega)
       rw[Nat.add_mul,hmd,←hv1.len,←e6]at this;exact this
      have hst:=run_storeCells_at (P:=P) b (k*sz+n*sz) e vs 0 cur w e3 (by omega) hv1.one
      simp only[Nat.add_zero]at hst;rw[hmd];rcases hsrc.kind with⟨e',hk⟩ | hk <;> simp[Builtin.append_,run_underlying ht,run_underlying hk,sizeOf,typeInfo,hinfo,hszi,hsrc.len,hge,hv1.first m (Nat.le_refl _),Addr.add_lit,hst,List.take_of_length_le (Nat.le_of_eq hv1.len)]
   ·exact hp.elim
 ·exact hp.elim
end
end Go.Eng
namespace Go.Eng
open Go Go.RowKit
section
variable {P:Program} {T:TT} {FF:FL} {mine may:Nat→Prop} {L:Nat→Value} {F:Nat→Nat→Prop} {h:Hp} {st:St} {a:Act} {w w0:World}
theorem b1t(s:ByteArray):Conv.runesFrom s s.size 0 #[]=((a1O s).map (Value.int .i32)).toArray:=by
 have key:∀(b i:Nat) (acc:Array Value),(∃ l:List Int,acc=(l.map (Value.int .i32)).toArray)→∃ l:List Int,Conv.runesFrom s b i acc=(l.map (Value.int .i32)).toArray:=by
  intro b
  induction b with
  | zero=>intro i acc h;exact h
  | succ b ih =>
   intro i acc h;unfold Conv.runesFrom;split
   ·refine ih _ _ ?_
    obtain⟨l,rfl⟩:=h;exact⟨l++[_],by rw[List.map_append,List.push_toArray];rfl⟩
   ·exact h
 obtain⟨l,hl⟩:=key s.size 0 #[] ⟨[],rfl⟩
 have:a1O s=l:=by
  unfold a1O;rw[hl];simp only[List.map_map];exact List.map_id' l
 rw[this];exact hl
theorem a7f(s:ByteArray):(Conv.runesFrom s s.size 0 #[]).size=(a1O s).length:=by rw[b1t];simp
theorem b1V(hm:Mem (a0g may w0) L F h st.own w)(hk:Keep may w0 w){i:Nat}{s:ByteArray}{pos p':Nat}(hi:st.own[i]?=some (some (.iter s pos))){v:Value}(hv:Den L h (.own i 0) v) :
  ∃ b,v=.pointer (some ⟨b,0,none⟩)∧w.heap[b]?=some (.stringIter s pos)∧Mem (a0g may w0) L F h (st.own.set i (some (.iter s p'))) { w with heap:=w.heap.setIfInBounds b (.stringIter s p') }∧Keep may w0 { w with heap:=w.heap.setIfInBounds b (.stringIter s p') }:=by
 obtain⟨b,e1,e2,e3⟩:=hm.obs i _ hi;cases hv with
 | own _ _ ad h1 h2 =>
 rw[e1]at h2;cases h2;have hne:∀ k,k≠b→(w.heap.setIfInBounds b (.stringIter s p'))[k]?=w.heap[k]?:=fun k hk=>by rw[Array.getElem?_setIfInBounds,if_neg (Ne.symm hk)]
 have hlt:=(Array.getElem?_eq_some_iff.1 e3).1;refine⟨b,by rw[a0n],e3,a3V hm hi (by simp) (fun k hk=>hne k (fun e=>hk (by rw[e];exact e2))) ⟨b,e1,e2,by show(w.heap.setIfInBounds b (.stringIter s p'))[b]?=_;simp[hlt]⟩,⟨hk.os,hk.tape,hk.output,by simpa using hk.size,fun k hlt2 hno=>?_⟩⟩
 show(w.heap.setIfInBounds b (.stringIter s p'))[k]?=_;rw[hne k (fun e=>by
  subst e;rcases(hm.foot i _ k hi e2).2.2 with h3 | h3
  ·exact hno h3
  ·omega)]
 exact hk.block k hlt2 hno
theorem b4O{e:TypeId}{te:TI}(hte:TF P e te):∃ ie,P.info? e=some ie∧ie.zero=some te.zero∧ie.size=te.size∧ie.bytes=te.bytes:=by
 have hi:=hte.info;cases hinfo:P.info? e with
 | none=>rw[hinfo]at hi;cases hi
 | some ie =>
  rw[hinfo]at hi;simp only[Option.map_some,Option.some.injEq,Prod.mk.injEq]at hi;exact⟨ie,rfl,hi.1,hi.2.1,hi.2.2⟩
theorem a5A{w:World}{g:Nat}{e:TypeId}{sz n:Nat}{cs:List Value}(hg:w.heap[g]?=some (.cells cs.toArray e (0,0)))(hl:cs.length=n*sz)(hn:n≤maxLen):w.ownsRow 0 e sz (.slice (some ⟨g,0,none⟩) n n) n cs :=
 ⟨hl,.inr ⟨g,n,_,rfl,Nat.zero_le _,hg,Nat.le_refl _,hn,by simp[hl],by rw[←hl];exact List.take_of_length_le (Nat.le_refl _)⟩⟩
theorem b0r[a0h P]{h0:Base P}{own':List (Option Ob)}(hm:Mem (a0g may w0) L F h own' w)(ha:a0r P L h st a)(hsub:SubB h0 st.k L h)(hnew:∀ k,h.m k≠none→h0.h.m k≠none∨a0g may w0 k)(hk:Keep may w0 w):Sat may w0 h0 ⟨st.n,st.k,st.env,own'⟩ a w:=⟨⟨L,F,h,hm,⟨ha.size,ha.env,ha.defers⟩,hsub,hnew⟩,hk⟩
theorem b0l[a0h P]{h0:Base P}(hT:TTok P T)(hF:FTok P FF){o:Oper}{K:St→Prop}{Q:Exit→Act→World→Prop}(hp:b2K P T FF o st K)(hs:Sat may w0 h0 st a w):o.wp P a w (fun a' w'=>∃ st',Sat may w0 h0 st' a' w'∧K st') Q:=by
 have hs0:=hs;obtain⟨⟨L,F,h,hm,ha,hsub,hnew⟩,hk⟩:=hs;obtain⟨dst,op,ty,pos,after,guard⟩:=o;unfold b2K at hp;simp only at hp;split at hp
 ·split at hp
  ·rename_i ti hl
   obtain⟨hz,hp⟩:=a0j hp;rw[a0q]at hp;have:=a2g hm ha hsub hnew hk (o:=.cells ti.zero.cells _) (v:=.pointer (some ⟨w.heap.size,0,none⟩)) (ob:=.cells _ _) (fun L' h' hs hL=>⟨w.heap.size,ti.zero.cells.toList,rfl,rfl,by rw[Array.toArray_toList];exact a0C w _,b1l hz⟩)
    (fun L' h' h1 h2=>by have:=Den.own st.own.length 0 ⟨w.heap.size,0,none⟩ h1 h2;rw[a0n]at this;exact this) hp
   refine a0t (v:=.pointer (some ⟨w.heap.size,0,none⟩)) ?_ this;simp[execOp,Instr.alloc,(hT _ _ hl).zero,newVar,newRow,run_newObj_alloc]
  ·exact hp.elim
 ·split at hp
  ·rename_i av hx
   split at hp
   ·rename_i cs hc
    rw[a0q]at hp;have hd:=a6K hc (a0o ha hx);have:=a2g hm ha hsub hnew hk (o:=.cells (a.eval _).cells _) (v:=.pointer (some ⟨w.heap.size,0,none⟩)) (ob:=.cells _ _) (fun L' h' hs hL=>⟨w.heap.size,_,rfl,rfl,by rw[Array.toArray_toList];exact a0C w _,hd.mono hs hL⟩)
     (fun L' h' h1 h2=>by have:=Den.own st.own.length 0 ⟨w.heap.size,0,none⟩ h1 h2;rw[a0n]at this;exact this) hp
    refine a0t (v:=.pointer (some ⟨w.heap.size,0,none⟩)) ?_ this;simp[execOp,Instr.box,newVar,newRow,run_newObj_alloc]
   ·exact hp.elim
  ·exact hp.elim
 ·rename_i t p x
  split at hp
  ·rename_i i off av ti hx hy hl
   split at hp
   ·rename_i u cs vs ho hc
    obtain⟨hlen,hp⟩:=a0j hp;obtain⟨hle,hp⟩:=a0j hp;obtain⟨hd0,hp4⟩:=a0j hp;rw[a0q]at hp4;obtain⟨n,k,env,own⟩:=st;simp only[a0q]at hp4;obtain⟨us,hce,hd⟩:=a2e hc (a0o ha hy);obtain⟨b,ws,e1,e2,e3,e4⟩:=hm.obs i _ ho;have hpv:Den L h (.own i off) (a.eval p):=a0o ha hx;generalize hz:a.eval p=z at hpv;cases hpv with
    | own _ _ ad h1 h2 =>
    rw[e1]at h2;cases h2;have hul:us.length=vs.length:=hd.1.symm;have hwl:ws.length=cs.length:=e4.1.symm;have hm':=a3V (w':=w.setRow b (ws.take off++us++ws.drop (off+us.length)).toArray) hm ho (size_setRow ..) (fun k hk=>setRow_other w b k _ (fun e=>hk (by rw[e];exact e2))) (ob:=.cells u (cs.take off++vs++cs.drop (off+vs.length)))
     ⟨b,_,e1,e2,setRow_heap w b _ _ u (0,0) e3,b7v e4 hd off⟩
    refine a6d (w':=w.setRow b (ws.take off++us++ws.drop (off+us.length)).toArray) ?_ ?_
    ·have hrun:=run_storeCells_at (P:=P) b off u us 0 _ w e3 (by simp;omega) hd.one
     simp only[execOp,hz,Instr.storeAt,Instr.sureAddr,storeVar,Sem.run_bind,Sem.run_pure,Result.andThen_ok,(hT _ _ hl).size,hce];simp only[List.size_toArray,hul,hlen,ne_eq,not_true_eq_false,if_false];simp[hrun,a0n,hul,hlen]
    ·subst hd0
     exact⟨_,b0r (st:=⟨n,k,env,own⟩) hm' ha hsub hnew (a3C hk (hm.foot i _ b ho e2).2.2 _),hp4⟩
   ·exact hp.elim
  ·rename_i i sz kx off av ti hx hy hl
   split at hp
   ·rename_i e sz' nn f vs ho hc
    obtain⟨hlen,hp⟩:=a0j hp;obtain⟨hsz,hp⟩:=a0j hp;obtain⟨hle,hp⟩:=a0j hp;obtain⟨hd0,f',hf,hp4⟩:=a0j hp;subst hsz;obtain⟨n,k,env,own⟩:=st;simp only[a0q]at hp4;obtain⟨us,hce,hd⟩:=a2e hc (a0o ha hy);have hul:us.length=vs.length:=hd.1.symm;obtain⟨g,cur,hg,hh,hb1,hfit,hm'⟩:=b4a hm ho (a0o ha hx) hd hle hf;refine a6d (w':=w.setRow g (cur.toList.take (kx*sz+off)++us++cur.toList.drop (kx*sz+off+us.length)).toArray) ?_ ?_
    ·have hrun:=run_storeCells_at (P:=P) g (kx*sz+off) e us 0 cur w hh (by omega) hd.one
     simp only[execOp,hg,Instr.storeAt,Instr.sureAddr,storeVar,Sem.run_bind,Sem.run_pure,Result.andThen_ok,(hT _ _ hl).size,hce];simp only[List.size_toArray,hul,hlen,ne_eq,not_true_eq_false,if_false];simp[hrun,hul,hlen]
    ·subst hd0
     exact⟨_,b0r (st:=⟨n,k,env,own⟩) hm' ha hsub hnew (a3C hk (hm.foot i _ g ho hb1).2.2 _),hp4⟩
   ·rename_i e sz' cap nn f vs ho hc
    obtain⟨hlen,hp⟩:=a0j hp;obtain⟨hsz,hp⟩:=a0j hp;obtain⟨hof,hp⟩:=a0j hp;obtain⟨hd0,hkn,f',hf,hp4⟩:=a0j hp;obtain⟨hof0,hvl⟩:=hof;subst hsz hof0;obtain⟨n,k,env,own⟩:=st;simp only[a0q]at hp4;obtain⟨us,hce,hd⟩:=a2e hc (a0o ha hy);have hul:us.length=vs.length:=hd.1.symm;obtain⟨b0,cur0,g1,g2,g3,g4,g5,g6,g7⟩:=hm.obs i _ ho;have hR:RowD L h sz 1 (fun _=>vs) us:=⟨fun _ _=>hvl,fun q hq j c hc=>by
     obtain rfl:q=0:=by omega
     have hlt:j<us.length:=by rw[hul];exact(List.getElem?_eq_some_iff.1 hc).1
     refine⟨us[j],?_,hd.2 j c _ hc (List.getElem?_eq_getElem hlt)⟩
     rw[Nat.zero_mul,Nat.zero_add];exact List.getElem?_eq_getElem hlt⟩
    obtain⟨b,cur,k1,k2,k3,k4,k5⟩:=a4S (f':=f') (N':=nn) hm ho hR (by rw[hul,hvl];omega) (kd:=kx) (by omega) (fun q hq=>by
     have:=hf q hq
     by_cases e:q=kx
     ·rw[if_pos e]at this;exact .inl ⟨by omega,by omega,this⟩
     ·rw[if_neg e]at this;exact .inr ⟨by omega,hq,this⟩)
    have hpv:Den L h (.rel i sz kx 0) (a.eval p):=a0o ha hx;generalize hz:a.eval p=z at hpv;cases hpv with
    | rel _ _ _ _ ad h1 h2 h3 =>
    rw[k1]at h2;cases h2;refine a6d (w':=w.setRow b (cur.toList.take (kx*sz)++us++cur.toList.drop (kx*sz+us.length)).toArray) ?_ ?_
    ·have hfit:kx*sz+us.length≤cur.size:=by
      have:(kx+1)*sz≤cap*sz:=Nat.mul_le_mul_right _ (by omega)
      rw[Nat.succ_mul]at this;omega
     have hrun:=run_storeCells_at (P:=P) b (kx*sz) e us 0 cur w k2 (by omega) hd.one
     simp only[execOp,hz,Instr.storeAt,Instr.sureAddr,storeVar,Sem.run_bind,Sem.run_pure,Result.andThen_ok,(hT _ _ hl).size,hce];simp only[List.size_toArray,hul,hlen,ne_eq,not_true_eq_false,if_false];simp[hrun,a0n,hul,hlen]
    ·subst hd0
     exact⟨_,b0r (st:=⟨n,k,env,own⟩) k5 ha hsub hnew (a3C hk (hm.foot i _ b ho k3).2.2 _),hp4⟩
   ·exact hp.elim
  ·exact hp.elim
 ·rename_i x args ts
  split at hp
  ·rename_i avs0 f caps0 hx0 hfn0
   split at hp
   ·rename_i fz hf
    obtain⟨st,hs,hp⟩:=a1E _ st hp hs0;split at hp
    ·rename_i avs f2 caps hx hfn
     obtain⟨hff,hc⟩:=a0j hp;subst hff;clear hm ha hsub hnew hk hp;obtain⟨⟨L,F,h,hm,ha,hsub,hnew⟩,hk⟩:=hs;obtain⟨n,k,env,own⟩:=st;simp only at hc;have h1:=a6R ha hx;obtain⟨cv,g1,g2⟩:=b5g (L:=L) ha hfn;have hargs:args.map a.eval++cv.toArray=(args.toList.map a.eval++cv).toArray:=by
      apply Array.ext';simp
     have hfoot:∀ b,a0l F own b→a0g may w0 b:=fun b ⟨i,ob,hi,hb⟩=>(hm.foot i ob b hi hb).2.2;have hmine:∀ b,a0g (a0l F own) w b→a0g may w0 b:=fun b hb=>by
      rcases hb with hb | hb
      ·exact hfoot b hb
      ·exact .inr (Nat.le_trans hk.size hb)
     have hglo:a0h.ok P h.m:=a0h.mono h0.gl hsub.sub.m;cases fz with
     | some fz =>
      have hcall:=hc.out (a0g may w0) L F h w _ hglo hm (h1.append g2);have hrun:(execOp a.eval { dst:=dst,op:=.call { callee:=.value x,args:=args,argTypes:=ts },type:=ty,pos:=pos,after:=after,guard:=guard }).run P w=.ok (.enter f (args.toList.map a.eval++cv).toArray) w:=by
       have he:=hF f fz hf (args.toList.map a.eval++cv).toArray w;rw[←hargs]at he ⊢;unfold execOp;simp[resolve,g1,Deferred.ofValue,invoke];simpa using he
      unfold Oper.wp;rw[hrun,Oper.upon_enter];refine hcall.mono ?_;rintro e w' ⟨r,v,L',F',h',own',rfl,k1,k2,k3,k4,k5,k6,k7⟩;have hm2:Mem (a0g may w0) L' F' h' own' w':=k3.mine_mono (fun b ⟨i,ob,hi,hb⟩=>hmine b (k3.foot i ob b hi hb).2.2);exact a1f (st:=⟨n,k,env,own'⟩) hm2 (a1e ha k2 k5 rfl rfl) (hsub.step k2 k5) (fun b hb=>by
       rcases k6 b hb with h3 | h3
       ·exact hnew b h3
       ·exact .inr (hmine b h3)) (hk.trans k4 hfoot) k1 k7
     | none =>
      obtain⟨v,w',hcall,r,L',F',h',own',k1,k2,k3,k4,k5,k6,k7⟩:=hc.out (a0g may w0) L F h w _ hglo hm (h1.append g2);have hrun:(execOp a.eval { dst:=dst,op:=.call { callee:=.value x,args:=args,argTypes:=ts },type:=ty,pos:=pos,after:=after,guard:=guard }).run P w=.ok (.value v) w':=by
       rw[←hargs]at hcall;unfold execOp;simp[resolve,g1,Deferred.ofValue,invoke];simpa using hcall
      have hm2:Mem (a0g may w0) L' F' h' own' w':=k3.mine_mono (fun b ⟨i,ob,hi,hb⟩=>hmine b (k3.foot i ob b hi hb).2.2);refine a0t hrun (a1f (st:=⟨n,k,env,own'⟩) hm2 (a1e ha k2 k5 rfl rfl) (hsub.step k2 k5) (fun b hb=>by
       rcases k6 b hb with h3 | h3
       ·exact hnew b h3
       ·exact .inr (hmine b h3)) (hk.trans k4 hfoot) k1 k7)
    ·exact hp.elim
   ·exact hp.elim
  ·exact hp.elim
 ·rename_i t len parts
  split at hp
  ·rename_i ti l0 hl hl0
   split at hp
   ·rename_i e hd
    split at hp
    ·rename_i te hle
     have hte:=hT _ _ hle;have hu:=(hT _ _ hl).und;rw[hd]at hu;split at hp
     ·rename_i hparts
      have hpa:parts=#[]:=by apply Array.ext';simpa using hparts
      subst hpa;have:=a2g hm ha hsub hnew hk (o:=.cells #[] e) (v:=.slice (some ⟨w.heap.size,0,none⟩) 0 0) (ob:=.row _ _ _ _) (fun L' h' hs hL=>⟨[],⟨by simp,.inr ⟨w.heap.size,0,#[],rfl,Nat.zero_le _,a0C w _,Nat.le_refl _,Nat.zero_le _,by simp,by simp⟩⟩,(fun b hb=>by cases hb;rfl),⟨fun k hk=>by omega,fun k hk=>by omega⟩⟩)
       (fun L' h' h1 h2=>.row _ _ _ _ h1 h2) hp
      refine a0t ?_ this;simp[execOp,Instr.buildSlice,run_underlying hu,hte.size,Instr.fill,newRow];rw[show Array.range 0=#[]from(by apply Array.ext';simp)]
      simp
     ·rename_i len len2 xx hne
      obtain⟨st,hs,hp⟩:=a1E _ st hp hs0;split at hp
      ·rename_i l hpl
       split at hp
       ·rename_i xs hrc
        obtain⟨q1,hp⟩:=a0j hp;obtain⟨q2,hp⟩:=a0j hp;obtain⟨q3,hp⟩:=a0j hp;obtain⟨q4,f,hf,hp⟩:=a0j hp;clear hm ha hsub hnew hk;obtain⟨⟨L,F,h,hm,ha,hsub,hnew⟩,hk⟩:=hs;have p1:=a5g ha hpl;obtain⟨r1,r2,r3,r4,r5⟩:=b4d hrc p1;obtain⟨ie,hinfo,i1,i2,i3⟩:=b4O hte;have hszp:0<te.size:=by
         rcases Nat.eq_zero_or_pos te.size with h0 | h0
         ·rw[h0]at q2;simp at q2
         ·exact h0
        have hvl:(parts.toList.map fun x=>(x.1,a.eval x.2)).length=l.length:=by
         have:∀{l:List (Nat × AV)} {vs:List (Nat × Value)},DenP L h l vs→vs.length=l.length:=fun hd=>by induction hd with | nil=>rfl | cons _ _ ih=>simp[ih]
         exact this p1
        have hpe:(parts.map fun(i,x)=>(i,a.eval x)).toList=(((parts.toList.map fun x=>(x.1,a.eval x.2)).map (·.2)).zipIdx 0).map fun x=>(x.2,x.1):=by
         rw[Array.toList_map,←r2]
        have hfill:=Go.Great.fill_whole (s:=te.size) hszp ((parts.toList.map fun x=>(x.1,a.eval x.2)).map (·.2)) ((Array.range (len*te.size)).map (te.zero.cells[·%te.zero.cells.size]!)) r3 (by simp[←q1,←hvl])
        have hrun:=run_buildSlice (P:=P) w t e len (parts.map fun(i,x)=>(i,a.eval x)) (((parts.toList.map fun x=>(x.1,a.eval x.2)).map (·.2)).flatMap fun v=>v.cells.toList).toArray ie te.zero hu hinfo i1 (by rw[i2];omega) (by rw[i2];omega) (by rw[i2,hpe,hfill])
        have hfl:=a6C r4;have hxl:xs.length=len:=by rw[r1,q1]
        have hlen:len≤len*te.size:=Nat.le_mul_of_pos_right _ hszp;have:=a2g hm ha hsub hnew hk (o:=.cells (((parts.toList.map fun x=>(x.1,a.eval x.2)).map (·.2)).flatMap fun v=>v.cells.toList).toArray e) (v:=.slice (some ⟨w.heap.size,0,none⟩) len len) (ob:=.row _ _ _ _)
         (fun L' h' hs hL=>⟨_,a5A (a0C w _) (by rw[←r5.1,hfl,hxl]) (by unfold maxLen;omega),(fun b hb=>by cases hb;rfl),b4b r4 hxl hf (r5.mono hs hL)⟩)
         (fun L' h' h1 h2=>.row _ _ _ _ h1 h2) hp
        refine a0t ?_ this;unfold execOp;simp only[Sem.run_bind,hrun,Result.andThen_ok];rfl
       ·exact hp.elim
      ·exact hp.elim
    ·exact hp.elim
   ·exact hp.elim
  ·exact hp.elim
 ·rename_i args ts
  split at hp
  ·rename_i x y t tx hargs hts
   have hargs':args=#[x,y]:=by apply Array.ext';simpa using hargs
   have hts':ts=#[t,tx]:=by apply Array.ext';simpa using hts
   subst hargs' hts';split at hp
   ·rename_i ti tj av aw hl hlx hx hy
    split at hp
    ·rename_i e hd
     split at hp
     ·rename_i te hle
      split at hp
      ·rename_i i sz k n c
       have hu:=(hT _ _ hl).und;rw[hd]at hu;obtain⟨v,w',hrun,hfin⟩:=b8x hT hm ha hsub hnew hk (ty:=ty) (hT _ _ hle) hu (hT _ _ hlx) (show Den L h (.view i sz k n c) (a.eval x)from a0o ha hx) (a0o ha hy) hp;refine a0t ?_ hfin;simp only[execOp,resolve,invoke,builtin,Sem.run_bind,Sem.run_pure,Result.andThen_ok,List.map_toArray,List.map_cons,List.map_nil,hrun]
      split at hp
      ·rename_i oi n f m g ho hn
       obtain⟨⟨b1,b2⟩,hp⟩:=hp;obtain⟨hz,n',f',hn',hf1,hf2,hp⟩:=a0j hp;obtain⟨sn,k,env,own⟩:=st;have hu:=(hT _ _ hl).und;rw[hd]at hu;obtain⟨v',w',G',r1,r2,r3,r4,r5,r6,⟨A,c,r7⟩,r8⟩:=b5W hT hm (fun b hb=>.inr (Nat.le_trans hk.size hb)) (ty:=ty) (hT _ _ hle) hu (hT _ _ hlx).und hz (a0o ha hx) (a0o ha hy) ho hn b1 b2 hn' hf1 hf2;have hnn:=hm.hn;have:=b1w (st:=⟨sn,k,env,own⟩) r2 (⟨ha.size,ha.env,ha.defers⟩) hsub hnew (r8 may w0 rfl hk) (v:=v') (c:=.row) (r3 _ _ (a0z h 1) (fun i hi=>a2t (by simp only at hnn r6 ⊢;rw[r6];omega))) r4 r5 (fun L' h' h1 h2=>by rw[r7]at h2 ⊢;exact .row _ _ _ _ h1 h2) hp
       refine a0t ?_ this;simp only[execOp,resolve,invoke,builtin,Sem.run_bind,Sem.run_pure,Result.andThen_ok,List.map_toArray,List.map_cons,List.map_nil,r1]
      ·exact hp.elim
     ·exact hp.elim
    ·exact hp.elim
   ·exact hp.elim
  ·exact hp.elim
 ·rename_i args ts
  split at hp
  ·rename_i x y t tx hargs hts
   have hargs':args=#[x,y]:=by apply Array.ext';simpa using hargs
   have hts':ts=#[t,tx]:=by apply Array.ext';simpa using hts
   subst hargs' hts';split at hp
   ·rename_i ti tj i sz k n c aw hl hlx hx hy
    split at hp
    ·rename_i e hd
     split at hp
     ·rename_i te hle
      have hu:=(hT _ _ hl).und;rw[hd]at hu;obtain⟨v,w',hrun,hfin⟩:=b6e hT hm ha hsub hnew hk (ty:=ty) (hT _ _ hle) hu (hT _ _ hlx) (show Den L h (.view i sz k n c) (a.eval x)from a0o ha hx) (a0o ha hy) hp;refine a0t ?_ hfin;simp only[execOp,resolve,invoke,builtin,Sem.run_bind,Sem.run_pure,Result.andThen_ok,List.map_toArray,List.map_cons,List.map_nil,hrun]
     ·exact hp.elim
    ·exact hp.elim
   ·exact hp.elim
  ·exact hp.elim
 ·rename_i args ts
  split at hp
  ·rename_i x t hargs hts
   have hargs':args=#[x]:=by apply Array.ext';simpa using hargs
   have hts':ts=#[t]:=by apply Array.ext';simpa using hts
   subst hargs' hts';split at hp
   ·rename_i ti i sz k n c hl hx
    split at hp
    ·rename_i e hd
     split at hp
     ·rename_i te hle
      have hu:=(hT _ _ hl).und;rw[hd]at hu;obtain⟨w',hrun,hfin⟩:=b3w hT hm ha hsub hnew hk (ty:=ty) (hT _ _ hle) hu (show Den L h (.view i sz k n c) (a.eval x)from a0o ha hx) hp;refine a0t ?_ hfin;simp only[execOp,resolve,invoke,builtin,Sem.run_bind,Sem.run_pure,Result.andThen_ok,List.map_toArray,List.map_cons,List.map_nil,hrun]
     ·exact hp.elim
    ·exact hp.elim
   ·exact hp.elim
  ·exact hp.elim
 ·rename_i t x y
  split at hp
  ·rename_i ti ka na kb nb hl hx hy
   split at hp
   ·rename_i e hd
    split at hp
    ·rename_i te hle
     obtain⟨q0,hp⟩:=a0j hp;obtain⟨q1,hp⟩:=a0j hp;obtain⟨q2,⟨b1,b2,b3,b4⟩,n,f,hn,hf,hp⟩:=a0j hp;have hu:=(hT _ _ hl).und;rw[hd]at hu;obtain⟨ie,hinfo,i1,i2,i3⟩:=b4O (hT _ _ hle);subst b2 hn;have e1:=a1A ha hx;have e2:=a1A ha hy;have hrun:=run_make (P:=P) w t e ie te.zero hu hinfo i1 ka kb na na b1 (Int.le_refl _) (by rw[i3,Int.mul_comm];omega) (by omega)
     have hmc:(madeCells te.zero.cells (na.toNat*ie.size)).toList.length=na.toNat*te.size:=by simp[madeCells,i2]
     have hrow:∀ L' h',RowD L' h' te.size na.toNat f (madeCells te.zero.cells (na.toNat*ie.size)).toList:=fun L' h'=>by
      refine⟨fun k hk=>by rw[hf k hk];simp[q1],fun k hk j c hc=>?_⟩
      rw[hf k hk]at hc;rw[List.getElem?_map]at hc;cases hz:te.zero.cells.toList[j]? with
      | none=>rw[hz]at hc;cases hc
      | some u =>
       rw[hz]at hc;cases hc;have hj:j<te.size:=by have:=(List.getElem?_eq_some_iff.1 hz).1;rw[Array.length_toList,q1]at this;exact this
       refine⟨u,?_,.v u (List.all_eq_true.1 q0 u (List.mem_of_getElem? hz))⟩;have hlt:k*te.size+j<na.toNat*te.size:=by
        have:(k+1)*te.size≤na.toNat*te.size:=Nat.mul_le_mul_right _ hk
        rw[Nat.succ_mul]at this;omega
       have hmod:(k*te.size+j)%te.size=j:=by rw[Nat.mul_comm,Nat.mul_add_mod,Nat.mod_eq_of_lt hj]
       have hj2:j<te.zero.cells.size:=by omega
       have hu2:te.zero.cells[j]?=some u:=by rw[←Array.getElem?_toList];exact hz
       simp[madeCells,i2,hlt,q1,hmod];have hj2:j<te.zero.cells.size:=by omega
       rw[getElem!_pos te.zero.cells j hj2];rw[Array.getElem?_eq_getElem hj2]at hu2;exact Option.some.inj hu2
     have:=a2g hm ha hsub hnew hk (o:=.cells (madeCells te.zero.cells (na.toNat*ie.size)) e) (v:=.slice (some ⟨w.heap.size,0,none⟩) na.toNat na.toNat) (ob:=.row _ _ _ _)
      (fun L' h' hs hL=>⟨(madeCells te.zero.cells (na.toNat*ie.size)).toList,a5A (by rw[Array.toArray_toList];exact a0C w _) hmc (by unfold maxLen;omega),(fun b hb=>by cases hb;rfl),hrow L' h'⟩)
      (fun L' h' h1 h2=>.row _ _ _ _ h1 h2) hp
     refine a0t ?_ this;unfold execOp;simp only[e1,e2,Sem.run_bind,hrun,Result.andThen_ok];rfl
    ·exact hp.elim
   ·exact hp.elim
  ·exact hp.elim
 ·rename_i t x
  split at hp
  ·rename_i ti s hl hx
   have ex:=ev_v ha hx;split at hp
   ·rename_i hd
    have hu:=(hT _ _ hl).und;rw[hd]at hu;have:=a2g hm ha hsub hnew hk (o:=.stringIter s 0) (v:=.pointer (some ⟨w.heap.size,0,none⟩)) (ob:=.iter _ _) (fun L' h' hs hL=>⟨w.heap.size,rfl,rfl,a0C w _⟩)
     (fun L' h' h1 h2=>by have:=Den.own st.own.length 0 ⟨w.heap.size,0,none⟩ h1 h2;rw[a0n]at this;exact this) hp
    refine a0t ?_ this;unfold execOp;simp only[ex,Sem.run_bind,run_range_string w t s hu,Result.andThen_ok];rfl
   ·exact hp.elim
  ·exact hp.out _ _ _ _ _ _ hs0
  ·exact hp.elim
 ·rename_i x
  split at hp
  ·rename_i i hx
   split at hp
   ·rename_i s pos hi
    have hv:Den L h (.own i 0) (a.eval x):=a0o ha hx;unfold b2K.onIter at hp;split at hp
    ·rename_i hlt
     have hlt:=of_decide_eq_true hlt;obtain⟨n,k,env,own⟩:=st;simp only[a0q]at hp;obtain⟨b,e1,e2,e3,e4⟩:=b1V (p':=pos+(Utf8.decode s pos).2) hm hk hi hv;have hd:DenA L h (.tup [.c (.v (.bool true)),.c (.v (.int .i64 pos)),.c (.v (.int .i32 (Utf8.decode s pos).1))]) (.tuple #[.bool true,.int .i64 pos,.int .i32 (Utf8.decode s pos).1]):=by
      refine⟨[_,_,_],rfl,rfl,fun j a' u ha' hu=>?_⟩
      match j with
      | 0=>simp at ha' hu;subst ha' hu;exact Den.v _ rfl
      | 1=>simp at ha' hu;subst ha' hu;exact Den.v _ rfl
      | 2=>simp at ha' hu;subst ha' hu;exact Den.v _ rfl
      | j+3=>simp at ha'
     have:=a1f (st:=⟨n,k,env,own.set i (some (.iter s (pos+(Utf8.decode s pos).2)))⟩) e3 ⟨ha.size,ha.env,ha.defers⟩ hsub hnew e4 hd hp;refine a0t ?_ this;simp[execOp,e1,Instr.next,getObj,setObj,Sem.run,e2,hlt,goInt]
    ·rename_i hlt
     have hlt:=of_decide_eq_false hlt;obtain⟨b,e1,e2,e3,e4⟩:=b1V (p':=pos) hm hk hi hv;have hd:DenA L h (.tup [.c (.v (.bool false))]) (.tuple #[.bool false]):=by
      refine⟨[_],rfl,rfl,fun j a' u ha' hu=>?_⟩
      match j with
      | 0=>simp at ha' hu;subst ha' hu;exact Den.v _ rfl
      | j+1=>simp at ha'
     have:=a1f hm ha hsub hnew hk hd hp;refine a0t ?_ this;simp[execOp,e1,Instr.next,getObj,Sem.run,e2,hlt]
   ·exact hp.elim
  ·exact hp.elim
 ·rename_i src dst' x
  split at hp
  ·rename_i ts td s hl1 hl2 hx
   have ex:=ev_v ha hx;have hu1:=(hT _ _ hl1).und;have hu2:=(hT _ _ hl2).und;split at hp
   ·rename_i e hd1 hd2
    rw[hd1]at hu1;rw[hd2]at hu2;split at hp
    ·rename_i te hle
     have hu3:=(hT _ _ hle).und;split at hp
     ·rename_i hde
      rw[hde]at hu3;obtain⟨hsz,hlen,hp⟩:=a0j hp;have hrun:=run_runes_of_string (P:=P) w src dst' e s hu1 hu2 hu3 (by rw[a7f];exact hlen)
      rw[a7f,b1t]at hrun;have hcap:=grownCap_ge w (a1O s).length 0 e;have hcm:=grownCap_le_maxLen w (a1O s).length 0 e (by unfold maxLen;omega)
      generalize grownCap w (a1O s).length 0 e=cap at hrun hcap hcm;have:=a2g (w:=w.drew) (a8a hm) ha hsub hnew (a6y hk) (o:=.cells (((a1O s).map (Value.int .i32)).toArray++Array.replicate (cap-(a1O s).length) (.int .i32 0)) e) (v:=.slice (some ⟨w.heap.size,0,none⟩) (a1O s).length cap) (ob:=.row e 1 (a1O s).length fun k=>[.v (.int .i32 ((a1O s).getD k 0))])
       (fun L' h' hs hL=>⟨(a1O s).map (Value.int .i32),⟨by simp,.inr ⟨w.heap.size,cap,_,rfl,Nat.zero_le _,a0C w.drew _,hcap,hcm,by simp;omega,by
        rw[Array.toList_append,Nat.mul_one]
        simp⟩⟩,(fun b hb=>by cases hb;rfl),⟨fun k hk=>rfl,fun k hk j c hc=>by
         have hj:j=0:=by have:=(List.getElem?_eq_some_iff.1 hc).1;simp at this;exact this
         subst hj;simp only[List.getElem?_cons_zero,Option.some.injEq]at hc;subst hc;refine⟨_,?_,.v _ rfl⟩
         simp[List.getD_eq_getElem?_getD,hk]⟩⟩)
       (fun L' h' h1 h2=>.row _ _ _ _ h1 h2) hp
      refine a0t ?_ this;unfold execOp;simp only[ex,Sem.run_bind,hrun,Result.andThen_ok];rfl
     ·rename_i hde
      rw[hde]at hu3;obtain⟨hlen,hp⟩:=hp;have hrun:=run_bytes_of_string (P:=P) w src dst' e s hu1 hu2 hu3;have hcap:=grownCap_ge w s.size 0 e;generalize grownCap w s.size 0 e=cap at hrun hcap;generalize hob:Obj.cells (bytesRow s cap) e ((bytesRow s cap).size,(bytesRow s cap).size+1)=ob at hrun;have hb:=a4d w.drew ob;have hm1:=a8a hm;have hm2:=a1t hm1 (a0T hm1 hb) hb.size;have hat:(w.drew.alloc ob).heap[w.heap.size]?=some ob:=a0C w.drew ob;have hno:h.m w.heap.size=none:=a9y hm.hsub (Nat.le_refl _)
      let h':Hp:=⟨fun k=>if k=w.heap.size then some ob else h.m k,h.n⟩
      have hs':Sub h h':=⟨fun k o hk=>by
       show(if k=w.heap.size then _ else _)=_
       by_cases ek:k=w.heap.size
       ·subst ek;rw[hno]at hk;cases hk
       ·rw[if_neg ek];exact hk,Nat.le_refl _⟩
      have hm3:Mem (a0g may w0) L F h' st.own (w.drew.alloc ob):=by
       refine⟨hm2.hn,fun k o hk=>?_,fun i oi hi=>a0X (hm2.obs i oi hi) (fun _ _=>rfl) (fun _ _=>rfl) hs',fun i oi b hi hb=>?_,hm2.dis⟩
       ·have hk:(if k=w.heap.size then some ob else h.m k)=some o:=hk
        by_cases ek:k=w.heap.size
        ·subst ek;rw[if_pos rfl]at hk;cases hk;exact hat
        ·rw[if_neg ek]at hk;exact hm2.hsub k o hk
       ·obtain⟨f1,f2,f3⟩:=hm2.foot i oi b hi hb
        have hlt:=(hm.foot i oi b hi hb).1;refine⟨f1,?_,f3⟩;show(if b=w.heap.size then _ else _)=_
        rw[if_neg (by omega)];exact f2
      have hd:Den L h' (.sl 1 s.size fun k=>[.v (.int .u8 ((s.data.toList.getD k 0).toNat:Int))]) (.slice (some ⟨w.heap.size,0,none⟩) s.size cap):=by
       refine .sl _ _ _ _ _ ⟨w.heap.size,0,none⟩ (fun k _=>.int .u8 ((s.data.toList.getD k 0).toNat:Int)) hcap (by omega) (fun _=>rfl) (fun k hk j hj=>?_) (fun _ _=>rfl) (fun _ _=>rfl) (fun k hk j c hc=>?_)
       ·obtain rfl:j=0:=by omega
        rw[a0n,Nat.zero_add]
        have:h'.m w.heap.size=some ob:=by show(if w.heap.size=w.heap.size then _ else _)=_;rw[if_pos rfl]
        rw[←hob]at this;rw[a5Q this];have hk2:k<s.data.size:=hk;have:=bytesRow_at s cap k hk2;rw[Array.getElem?_toList,Nat.mul_one,Nat.add_zero,this];simp only[List.getD_eq_getElem?_getD,Array.getElem?_toList];rw[Array.getElem?_eq_getElem hk2];rfl
       ·have hj:j=0:=by have:=(List.getElem?_eq_some_iff.1 hc).1;simp at this;exact this
        subst hj;simp only[List.getElem?_cons_zero,Option.some.injEq]at hc;subst hc;exact .v _ rfl
      have:=a1f (dst:=dst) hm3 (a1e (st':=st) ha (fun _ _=>rfl) hs' rfl rfl) (hsub.step (fun _ _=>rfl) hs') (fun k hk2=>by
       have hk2:(if k=w.heap.size then some ob else h.m k)≠none:=hk2
       by_cases ek:k=w.heap.size
       ·subst ek;exact .inr (.inr hk.size)
       ·rw[if_neg ek]at hk2;exact hnew k hk2) (a1T (a6y hk) hb) (show DenA L h' (.c _) _ from hd) hp
      refine a0t ?_ this;unfold execOp;simp only[ex,Sem.run_bind,hrun,Result.andThen_ok];rfl
     ·exact hp.elim
    ·exact hp.elim
   ·obtain⟨av,v,h1,h2,h3⟩:=a4T hT hm ha (o:=⟨dst,_,ty,pos,after,guard⟩) hp
    exact a0t (h3 w (fun _ _=>rfl)) (a1f hm ha hsub hnew hk h2 h1)
  ·obtain⟨st,hs,hp⟩:=a1E _ st hp hs0
   clear hm ha hsub hnew hk;obtain⟨⟨L,F,h,hm,ha,hsub,hnew⟩,hk⟩:=hs;obtain⟨av,v,h1,h2,h3⟩:=a4T hT hm ha (o:=⟨dst,_,ty,pos,after,guard⟩) hp;exact a0t (h3 w (fun _ _=>rfl)) (a1f hm ha hsub hnew hk h2 h1)
  ·exact hp.elim
 ·obtain⟨st,hs,hp⟩:=a1E _ st hp hs0
  clear hm ha hsub hnew hk;obtain⟨⟨L,F,h,hm,ha,hsub,hnew⟩,hk⟩:=hs;obtain⟨av,v,h1,h2,h3⟩:=a4T hT hm ha (o:=⟨dst,_,ty,pos,after,guard⟩) hp;exact a0t (h3 w (fun _ _=>rfl)) (a1f hm ha hsub hnew hk h2 h1)
 ·exact hp.out _ _ _ _ _ _ hs0
 ·exact hp.out _ _ _ _ _ _ hs0
 ·exact hp.out _ _ _ _ _ _ hs0
 ·exact hp.out _ _ _ _ _ _ hs0
 ·exact hp.out _ _ _ _ _ _ hs0
 ·exact hp.out _ _ _ _ _ _ hs0
 ·exact hp.out _ _ _ _ _ _ hs0
 ·obtain⟨av,v,h1,h2,h3⟩:=a4T hT hm ha (o:=⟨dst,op,ty,pos,after,guard⟩) hp
  exact a0t (h3 w (fun _ _=>rfl)) (a1f hm ha hsub hnew hk h2 h1)
end
end Go.Eng
namespace Go.Eng
open Go Go.RowKit
abbrev Ctx:=List (Nat × Bool)
abbrev GD:=List (Nat × Ctx × AV)
def b1n:Ctx→Ctx→Bool
 | [],_=>true
 | x::r,y::s=>Nat.beq x.1 y.1&&(match x.2,y.2 with | true,true=>true | false,false=>true | _,_=>false)&&b1n r s
 | _::_,[]=>false
def gEnv(C:Ctx)(env:List (Nat × AV)):GD→List (Nat × AV)
 | []=>env
 | x::r=>match b1n x.2.1 C with | true=>(x.1,x.2.2)::gEnv C env r | false=>gEnv C env r
def a3q(x:Nat):Ctx→Bool
 | []=>true
 | y::r=>match Nat.beq y.1 x with | true=>false | false=>a3q x r
def a6W(x:Nat):GD→GD
 | []=>[]
 | y::r=>match Nat.beq y.1 x with
  | true=>a6W x r
  | false=>match a3q x y.2.1 with | true=>y::a6W x r | false=>a6W x r
def a5G:Option AV→Option Bool
 | some (.c (.v (.bool b)))=>some b
 | _=>none
def a6G(d:Nat):GD→Ctx
 | []=>[]
 | x::r=>match Nat.beq x.1 d with | true=>x.2.1 | false=>a6G d r
def b5C(env:List (Nat × AV)):Ctx→Prop→Prop
 | [],X=>X
 | x::r,X=>match a5G (env.lookup x.1)with
  | some b=>b=x.2→b5C env r X
  | none=>b5C env r X
def a0O:Operand→Option Bool
 | .const (.bool b)=>some b
 | _=>none
def a0J(b:Bool)(x y:Operand)(u v:Bool):Bool :=
 match a0O y with
 | some false=>b&&u
 | _=>match a0O x with
  | some true=>b||v
  | _=>match b with | true=>u | false=>v
def intF(op:BinOp)(k:IntKind)(a b:Int):Option Value :=
 match op with
 | .add=>some (.int k (k.wrap (a+b)))
 | .sub=>some (.int k (k.wrap (a-b)))
 | .mul=>some (.int k (k.wrap (a*b)))
 | .eql=>some (.bool (a==b))
 | .neq=>some (.bool (a != b))
 | .lss=>some (.bool (decide (a<b)))
 | .leq=>some (.bool (decide (a≤b)))
 | .gtr=>some (.bool (decide (a>b)))
 | .geq=>some (.bool (decide (a≥b)))
 | .and=>some (.int k (bits .and k a b))
 | .or=>some (.int k (bits .or k a b))
 | .xor=>some (.int k (bits .xor k a b))
 | _=>none
def ifO{α:Type}(b:Bool)(x:Option α):Option α:=match b with | true=>x | false=>none
theorem a6z{α:Type}{b:Bool}{x:Option α}{y:α}(h:ifO b x=some y):b=true∧x=some y:=by
 unfold ifO at h;split at h
 ·exact⟨rfl,h⟩
 ·cases h
def eqB(T:TT)(t:TypeId)(ox oy:Operand)(x y:Value):Option Bool :=
 match eqV T 10000 t x y with
 | some r=>ifO (a5k T t ox oy x y&&a3S x y) (some r)
 | none=>none
def binF(T:TT)(op:BinOp)(t:TypeId)(ox oy:Operand)(x y:Value):Option Value :=
 match x,y with
 | .int k a,.int k' b=>match op with
  | .shl=>none
  | .shr=>none
  | op=>ifO (decide (k=k')) (intF op k a b)
 | .string a,.string b=>match op with
  | .eql=>some (.bool (decide (a=b)))
  | .neq=>some (.bool (!(decide (a=b))))
  | _=>none
 | x,y=>match op with
  | .eql=>match eqB T t ox oy x y with | some r=>some (.bool r) | none=>none
  | .neq=>match eqB T t ox oy x y with | some r=>some (.bool (!r)) | none=>none
  | _=>none
def ldF(T:TT)(t:TypeId)(cs:List IC):Option AV :=
 match T.lookup t with
 | some ti=>match ti.agg with
  | true=>ifO (decide (ti.size≤cs.length)) (some (.agg (cs.take ti.size)))
  | false=>match cs with
   | c::_=>some (.c c)
   | []=>none
 | none=>none
def tag(p:Option Prop)(a:Option AV):Option (Option Prop × AV):=match a with | some a=>some (p,a) | none=>none
def aopC(T:TT)(st:St)(o:Op):Option (Option Prop × AV) :=
 match o with
 | .move x | .assign x=>tag none (ev st x)
 | .load t p=>match ev st p with
  | some (.c (.own i off))=>match st.own[i]? with
   | some (some (.cells _ cs))=>tag none (ldF T t (cs.drop off))
   | _=>none
  | some (.c (.fp cs))=>tag none (ldF T t cs)
  | some (.c (.rel i sz k off))=>match st.own[i]? with
   | some (some (.row _ sz' n f))=>ifO (decide (sz=sz')) (tag none (ldF T t ((f k).drop off)))
   | _=>none
  | _=>none
 | .fieldAddr s x i=>match a5S T s i,ev st x with
  | some o,some (.c (.own j off))=>some (none,.c (.own j (off+o)))
  | some o,some (.c (.fp cs))=>some (none,.c (.fp (cs.drop o)))
  | some o,some (.c (.rel j sz k off))=>some (none,.c (.rel j sz k (off+o)))
  | _,_=>none
 | .indexAddr t x i=>match T.lookup t,ev st x,a8n (ev st i)with
  | some ti,some (.c (.sl sz n f)),some (_,j)=>(match ti.desc with
   | .slice e=>(match T.lookup e with | some te=>ifO (decide (te.size=sz)) (some (some (0≤j∧j<n),.c (.fp (f j.toNat)))) | none=>none)
   | _=>none)
  | some ti,some (.c (.row r)),some (_,j)=>(match ti.desc,st.own[r]? with
   | .slice e,some (some (.row _ sz n f))=>(match T.lookup e with | some te=>ifO (decide (te.size=sz)) (some (some (0≤j∧j<n),.c (.rel r sz j.toNat 0))) | none=>none)
   | _,_=>none)
  | _,_,_=>none
 | .index t x i=>match T.lookup t,ev st x,a8n (ev st i)with
  | some ti,some (.c (.v (.string s))),some (_,j)=>(match ti.desc with | .string=>some (some (0≤j∧j<s.size),.c (.v (.int .u8 (s[j.toNat]!).toNat))) | _=>none)
  | _,_,_=>none
 | .binOp op t x y _=>match ev st x,ev st y with
  | some a,some b=>(match a4e a,a4e b with
   | some u,some v=>(match binF T op t x y u v with | some r=>some (none,.c (.v r)) | none=>none)
   | _,_=>(match op,nilT st T t a b with | .eql,.never=>some (none,.c (.v (.bool false))) | .neq,.never=>some (none,.c (.v (.bool true))) | _,_=>none))
  | _,_=>none
 | .unOp op t x=>match op,ev st x with
  | .not,some (.c (.v (.bool b)))=>some (none,.c (.v (.bool (!b))))
  | _,_=>none
 | .extract x i=>match ev st x with
  | some (.tup az)=>(match az[i]? with | some (.c y)=>some (none,.c y) | some (.agg ys)=>some (none,.agg ys) | _=>none)
  | _=>none
 | .nilCheck x=>match ev st x with
  | some (.c (.own j off))=>some (none,.c (.own j off))
  | some (.c (.fp cs))=>some (none,.c (.fp cs))
  | some (.c (.rel i sz k off))=>some (none,.c (.rel i sz k off))
  | _=>none
 | .convert src dst x=>match T.lookup dst,T.lookup src,ev st x with
  | some td,some ts,some (.c (.v (.int k n)))=>(match td.desc with | .int k'=>some (none,.c (.v (.int k' (k'.wrap n)))) | _=>none)
  | _,_,_=>none
 | .call { callee:=.builtin .len,args:=⟨[x]⟩,argTypes:=⟨[t]⟩ }=>match T.lookup t with
  | some ti=>match ti.desc,ev st x with
   | .string,some (.c (.v (.string s)))=>some (some (s.size≤9223372036854775807),.c (.v (.int .i64 s.size)))
   | .slice _,some (.c (.sl sz n f))=>some (none,.c (.v (.int .i64 n)))
   | .slice _,some (.c (.row i))=>(match st.own[i]? with | some (some (.row e sz n f))=>some (none,.c (.v (.int .i64 n))) | _=>none)
   | _,_=>none
  | none=>none
 | .call { callee:=.builtin .max,args:=⟨[x,y]⟩,argTypes:=⟨[_,_]⟩ }=>match ev st x,ev st y with
  | some (.c (.v (.int k a))),some (.c (.v (.int k' b)))=>some (none,.c (.v (.int k (maxI a b))))
  | _,_=>none
 | .call { callee:=.builtin .min,args:=⟨[x,y]⟩,argTypes:=⟨[_,_]⟩ }=>match ev st x,ev st y with
  | some (.c (.v (.int k a))),some (.c (.v (.int k' b)))=>some (none,.c (.v (.int k (minI a b))))
  | _,_=>none
 | _=>none
theorem a2Q{p:Prop}[d:Decidable p]{x:Prop}(hp:p)(hx:x):ifD p x:=by
 unfold ifD;rw[decide_eq_true hp];exact hx
theorem b4F{T:TT}{t:TypeId}{cs:List IC}{p:Option Prop}{q:Option Prop × AV}(h:tag p (ldF T t cs)=some q):q.1=p∧ldP T t cs (fun a=>a=q.2):=by
 unfold ldF at h;unfold ldP;cases hl:T.lookup t with
 | none=>rw[hl]at h;cases h
 | some ti =>
  rw[hl]at h;simp only at h ⊢;cases ha:ti.agg with
  | true =>
   rw[ha]at h;simp only at h ⊢;unfold ifO at h;split at h
   ·rename_i hd
    cases h;exact⟨rfl,a2Q (of_decide_eq_true hd) rfl⟩
   ·cases h
  | false =>
   rw[ha]at h;simp only at h ⊢;cases cs with
   | nil=>cases h
   | cons c r=>cases h;exact⟨rfl,rfl⟩
theorem b8f{T:TT}{t:TypeId}{ox oy:Operand}{x y:Value}{r:Bool}(h:eqB T t ox oy x y=some r):eqV T 10000 t x y=some r∧a5k T t ox oy x y=true∧a3S x y=true:=by
 unfold eqB at h;split at h
 ·rename_i r' hr
  obtain⟨h1,h2⟩:=a6z h;rw[Bool.and_eq_true]at h1;cases h2;exact⟨hr,h1⟩
 ·cases h
theorem c0l{T:TT}{op:BinOp}{t:TypeId}{ox oy:Operand}{x y r:Value}{K:Value→Prop}(h:binF T op t ox oy x y=some r)(hK:K r):binP T op t ox oy x y K:=by
 unfold binF at h;unfold binP;split at h
 ·split at h
  ·cases h
  ·cases h
  ·rename_i k a k' b op' hs1 hs2
   obtain⟨h1,h2⟩:=a6z h;have h1:=of_decide_eq_true h1;simp only;refine a2Q h1 ?_;unfold intF at h2;unfold b9M;split at h2 <;> first | (cases h2;exact hK) | cases h2
 ·simp only
  unfold b8Q;split at h <;> first | (cases h;exact hK) | cases h
 ·rename_i h1 h2
  split
  ·exact absurd rfl (h1 _ _ _ _ rfl)
  ·exact absurd rfl (h2 _ _ rfl)
  ·split at h
   ·split at h
    ·rename_i r' hr
     obtain⟨e1,e2,e3⟩:=b8f hr;cases h;simp only[e1];exact a2Q e2 (a2Q e3 hK)
    ·cases h
   ·split at h
    ·rename_i r' hr
     obtain⟨e1,e2,e3⟩:=b8f hr;cases h;simp only[e1];exact a2Q e2 (a2Q e3 hK)
    ·cases h
   ·cases h
theorem c0t{T:TT}{st:St}{o:Op}{q:Option Prop × AV}(h:aopC T st o=some q)(hq:∀ p,q.1=some p→p):aopP T st o (fun a=>a=q.2):=by
 unfold aopC at h;split at h
 ·cases hx:ev st _ with
  | none=>rw[hx]at h;cases h
  | some v=>rw[hx]at h;cases h;simp only[aopP,hx]
 ·cases hx:ev st _ with
  | none=>rw[hx]at h;cases h
  | some v=>rw[hx]at h;cases h;simp only[aopP,hx]
 ·split at h
  ·rename_i i off hx
   unfold aopP;simp only[hx,a5I];split at h
   ·rename_i ho;simp only[ho];exact(b4F h).2
   ·cases h
  ·rename_i cs hx
   unfold aopP;simp only[hx,a5I];exact(b4F h).2
  ·rename_i i sz k off hx
   unfold aopP;simp only[hx,a5I];split at h
   ·rename_i ho
    simp only[ho];obtain⟨h1,h2⟩:=a6z h;exact a2Q (of_decide_eq_true h1) (b4F h2).2
   ·cases h
  ·cases h
 ·split at h
  ·rename_i hf hx;unfold aopP;simp only[hf,hx];cases h;rfl
  ·rename_i hf hx;unfold aopP;simp only[hf,hx];cases h;rfl
  ·rename_i hf hx;unfold aopP;simp only[hf,hx];cases h;rfl
  ·cases h
 ·split at h
  ·rename_i hl hx hi
   unfold aopP;simp only[hl,hx,hi];split at h
   ·rename_i hd
    simp only[hd];split at h
    ·rename_i hl2
     simp only[hl2];obtain⟨h1,h2⟩:=a6z h;cases h2;exact a2Q (of_decide_eq_true h1) ⟨hq _ rfl,rfl⟩
    ·cases h
   ·cases h
  ·rename_i hl hx hi
   unfold aopP;simp only[hl,hx,hi];split at h
   ·rename_i hd ho
    simp only[hd,ho];split at h
    ·rename_i hl2
     simp only[hl2];obtain⟨h1,h2⟩:=a6z h;cases h2;exact a2Q (of_decide_eq_true h1) ⟨hq _ rfl,rfl⟩
    ·cases h
   ·cases h
  ·cases h
 ·split at h
  ·rename_i hl hx hi
   unfold aopP;simp only[hl,hx,hi];split at h
   ·rename_i hd
    simp only[hd];cases h;exact⟨hq _ rfl,rfl⟩
   ·cases h
  ·cases h
 ·split at h
  ·rename_i hx hy
   split at h
   ·rename_i hu hv
    split at h
    ·rename_i hb
     cases h;unfold aopP;simp only[hx,hy,hu,hv];exact c0l hb rfl
    ·cases h
   ·rename_i hno
    split at h
    ·rename_i hn
     cases h;unfold aopP;simp only[hx,hy,hn,nilP]
    ·rename_i hn
     cases h;unfold aopP;simp only[hx,hy,hn,nilP]
    ·cases h
  ·cases h
 ·split at h
  ·rename_i hx;unfold aopP;simp only[hx];cases h;rfl
  ·cases h
 ·split at h
  ·rename_i hx
   unfold aopP;simp only[hx];split at h
   ·rename_i hi;simp only[hi];cases h;rfl
   ·rename_i hi;simp only[hi];cases h;rfl
   ·cases h
  ·cases h
 ·split at h
  ·rename_i hx;unfold aopP;simp only[hx];cases h;rfl
  ·rename_i hx;unfold aopP;simp only[hx];cases h;rfl
  ·rename_i hx;unfold aopP;simp only[hx];cases h;rfl
  ·cases h
 ·split at h
  ·rename_i hl hl2 hx
   split at h
   ·rename_i hd
    unfold aopP;simp only[hl,hl2,hx,b7x,hd];cases h;rfl
   ·cases h
  ·cases h
 ·split at h
  ·rename_i hl
   split at h
   ·rename_i hd hx
    unfold aopP;simp only[a2n,hl,hd,hx];cases h;exact⟨hq _ rfl,rfl⟩
   ·rename_i hd hx
    unfold aopP;simp only[a2n,hl,hd,hx,lenP];cases h;rfl
   ·rename_i hd hx
    unfold aopP;simp only[a2n,hl,hd,hx,lenP];split at h
    ·rename_i ho;simp only[ho];cases h;rfl
    ·cases h
   ·cases h
  ·cases h
 ·split at h
  ·rename_i hx hy
   unfold aopP;simp only[a2n,hx,hy];cases h;rfl
  ·cases h
 ·split at h
  ·rename_i hx hy
   unfold aopP;simp only[a2n,hx,hy];cases h;rfl
  ·cases h
 ·cases h
def gopP(T:TT)(n k:Nat)(own:List (Option Ob))(env:List (Nat × AV))(gds:GD)(C:Ctx)(o:Op)(K:AV→Prop):Prop :=
 match o with
 | .pick (.tmp c) x y=>match a5G ((gEnv C env gds).lookup c),a5G (ev ⟨n,k,gEnv (C++[(c,true)]) env gds,own⟩ x),a5G (ev ⟨n,k,gEnv (C++[(c,false)]) env gds,own⟩ y)with
  | some b,some u,some v=>K (.c (.v (.bool (a0J b x y u v))))
  | _,_,_=>False
 | o=>match C with
  | []=>aopP T ⟨n,k,env,own⟩ o K
  | C=>match aopC T ⟨n,k,gEnv C env gds,own⟩ o with
   | some (none,av)=>K av
   | some (some p,av)=>b5C (gEnv C env gds) C p∧K av
   | none=>False
def opsG(T:TT)(ops:Array Oper)(l:List Oper):St→GD→(St→Prop)→Prop :=
 List.rec (motive:=fun _=>St→GD→(St→Prop)→Prop) (fun st _ K=>K st)
  (fun o _ ih st gds K=>match st,o.dst with
   | ⟨n,k,env,own⟩,some dd=>match o.guard with
    | none=>gopP T n k own env gds [] o.op (fun av=>ifD (dd<n) (a2l av fun av=>a0H (a6W dd gds) fun gds'=>ih ⟨n,k,(dd,av)::env,own⟩ gds' K))
    | some (j,want)=>match(ops[j]?).bind (·.dst)with
     | some d=>match a5G ((gEnv (a6G d gds) env gds).lookup d)with
      | some _=>a0H (a6G d gds++[(d,want)]) fun C=>ifD (a3q dd C=true) (gopP T n k own env gds C o.op (fun av=>ifD (dd<n) (a2l av fun av=>a0H (a6W dd gds) fun gds'=>ih ⟨n,k,(dd,.top)::env,own⟩ ((dd,C,av)::gds') K)))
      | none=>False
     | none=>False
   | _,none=>False) l
def isG(T:TT):Op→Bool
 | .move _ | .assign _ | .pick .. | .load .. | .fieldAddr .. | .indexAddr .. | .index .. | .binOp .. | .unOp .. | .extract .. | .nilCheck _ | .field ..=>true
 | .convert s d _=>match T.lookup s,T.lookup d with
  | some ts,some td=>(match ts.desc,td.desc with | .int _,.int _=>true | _,_=>false)
  | _,_=>false
 | .call { callee:=.builtin .len,.. } | .call { callee:=.builtin .min,.. } | .call { callee:=.builtin .max,.. }=>true
 | _=>false
def allG(T:TT):List Oper→Bool
 | []=>true
 | o::r=>match o.dst with | some _=>(match isG T o.op with | true=>allG T r | false=>false) | none=>false
def hasG:List Oper→Bool
 | []=>false
 | o::r=>match o.guard with | some _=>true | none=>hasG r
section
variable {P:Program} {T:TT} {FF:FL} {mine may:Nat→Prop} {L:Nat→Value} {F:Nat→Nat→Prop} {h:Hp} {st:St} {a:Act} {w w0:World}
def allT(a:Act)(C:Ctx):Prop:=∀ d b,(d,b)∈C→a.tmps.getD d undef=.bool b
structure GOk(L:Nat→Value)(h:Hp)(gds:GD)(a:Act):Prop where
 out:∀ t C av,(t,C,av)∈gds→(allT a C→DenA L h av (a.tmps.getD t undef))∧(¬allT a C→a.tmps.getD t undef=undef)
theorem a8U:∀{C D:Ctx},b1n C D=true→allT a D→allT a C
 | [],D,_,_=>fun d b hm=>nomatch hm
 | x::r,[],hs,_=>by cases hs
 | x::r,y::s,hs,hD=>by
  unfold b1n at hs;rw[Bool.and_eq_true,Bool.and_eq_true]at hs;have e1:=Nat.eq_of_beq_eq_true hs.1.1;have e2:x.2=y.2:=by
   have:=hs.1.2;cases hx:x.2 <;> cases hy:y.2 <;> rw[hx,hy]at this <;> first | rfl | cases this
  have ih:=a8U hs.2 (fun d b hm=>hD d b (List.mem_cons_of_mem _ hm));intro d b hm;rcases List.mem_cons.1 hm with e | hm
  ·refine hD d b ?_
   rw[e]
   have:x=y:=Prod.ext e1 e2
   rw[this];exact List.mem_cons_self ..
  ·exact ih d b hm
theorem a5m[a0h P]{n k:Nat}{env:List (Nat × AV)}{own:List (Option Ob)}{C:Ctx}(ha:a0r P L h ⟨n,k,env,own⟩ a)(hC:allT a C):∀{gds:GD},GOk L h gds a→a0r P L h ⟨n,k,gEnv C env gds,own⟩ a
 | [],_=>ha
 | x::r,hg=>by
  have ih:=a5m (gds:=r) ha hC ⟨fun t C av hm=>hg.out t C av (List.mem_cons_of_mem _ hm)⟩;unfold gEnv;split
  ·rename_i hs
   refine⟨ih.size,fun t av ht=>?_,ih.defers⟩;simp only[List.lookup_cons]at ht
   by_cases e:t=x.1
   ·subst e
    simp at ht;subst ht;exact(hg.out x.1 x.2.1 x.2.2 (by simp)).1 (a8U hs hC)
   ·have e':(t==x.1)=false:=by simpa using e
    rw[e']at ht;exact ih.env t av ht
  ·exact ih
theorem a4P{o:Option AV}{b:Bool}(hb:a5G o=some b):o=some (.c (.v (.bool b))):=by
 unfold a5G at hb;split at hb
 ·cases hb;rfl
 ·cases hb
theorem b2x[a0h P]{n k:Nat}{env:List (Nat × AV)}{own:List (Option Ob)}(ha:a0r P L h ⟨n,k,env,own⟩ a){X:Prop}:∀{C:Ctx},allT a C→b5C env C X→X
 | [],_,hx=>hx
 | x::r,hC,hx=>by
  have ih:=b2x (C:=r) ha (X:=X) (fun d b hm=>hC d b (List.mem_cons_of_mem _ hm));unfold b5C at hx;split at hx
  ·rename_i b hb
   refine ih (hx ?_);have h1:=a0u (ha.env x.1 _ (a4P hb));have h2:=hC x.1 x.2 (by simp)
   rw[h2]at h1;cases h1;rfl
  ·exact ih hx
theorem b6Q{b:Bool}{x y:Operand}{u v:Bool}(hx:b=true→a.eval x=.bool u)(hy:b=false→a.eval y=.bool v):(match b with | true=>a.eval x | false=>a.eval y)=.bool (a0J b x y u v):=by
 have lit:∀(z:Operand) (c:Bool),a0O z=some c→a.eval z=.bool c:=fun z c hz=>by
  unfold a0O at hz;split at hz
  ·cases hz;rfl
  ·cases hz
 cases b with
 | true =>
  show a.eval x=_;unfold a0J;split
  ·simpa using hx rfl
  ·split
   ·rename_i hl;simpa using lit x true hl
   ·exact hx rfl
 | false =>
  show a.eval y=_;unfold a0J;split
  ·rename_i hl;simpa using lit y false hl
  ·split
   ·simpa using hy rfl
   ·exact hy rfl
theorem b8d[a0h P](hT:TTok P T){n k:Nat}{env:List (Nat × AV)}{own:List (Option Ob)}(hm:Mem mine L F h own w)(ha:a0r P L h ⟨n,k,env,own⟩ a){gds:GD}(hg:GOk L h gds a){C:Ctx}{o:Oper}{K:AV→Prop}(hp:gopP T n k own env gds C o.op K) :
  ∃ av,K av∧(allT a C→∃ v,DenA L h av v∧∀ w',Same F own h w w'→(execOp a.eval o).run P w'=.ok (.value v) w'):=by
 obtain⟨dst,op,ty,pos,after,guard⟩:=o;simp only at hp;unfold gopP at hp;split at hp
 ·rename_i c x y
  split at hp
  ·rename_i b u v hb hu hv
   refine⟨_,hp,fun hC=>⟨.bool (a0J b x y u v),Den.v _ rfl,fun w' _=>?_⟩⟩;have e1:a.tmps.getD c undef=.bool b:=a0u ((a5m ha hC hg).env c _ (a4P hb));have hext:∀ q:Bool,b=q→allT a (C++[(c,q)]):=fun q hq d b' hmm=>by
    rcases List.mem_append.1 hmm with hmm | hmm
    ·exact hC d b' hmm
    ·simp at hmm
     obtain⟨rfl,rfl⟩:=hmm;rw[e1,hq]
   have hx:b=true→a.eval x=.bool u:=fun hq=>ev_v (a5m ha (hext true hq) hg) (a4P hu);have hy:b=false→a.eval y=.bool v:=fun hq=>ev_v (a5m ha (hext false hq) hg) (a4P hv);have hr:=b6Q (a:=a) hx hy;have ec:a.eval (.tmp c)=.bool b:=e1;cases b with
   | true=>simp only at hr;simp[execOp,ec,asBool,hr]
   | false=>simp only at hr;simp[execOp,ec,asBool,hr]
  ·exact hp.elim
 ·split at hp
  ·obtain⟨av,v,h1,h2,h3⟩:=a4T hT (st:=⟨n,k,env,own⟩) hm ha (o:=⟨dst,op,ty,pos,after,guard⟩) hp
   exact⟨av,h1,fun _=>⟨v,h2,h3⟩⟩
  ·have fin:∀(q:Option Prop × AV),aopC T ⟨n,k,gEnv C env gds,own⟩ op=some q→(allT a C→∀ p,q.1=some p→p)→(allT a C→∃ v,DenA L h q.2 v∧∀ w',Same F own h w w'→(execOp a.eval { dst:=dst,op:=op,type:=ty,pos:=pos,after:=after,guard:=guard }).run P w'=.ok (.value v) w'):=fun q hq h1 hC=>by
    have hag:=a5m ha hC hg;obtain⟨av',v,k1,k2,k3⟩:=a4T hT (st:=⟨n,k,gEnv C env gds,own⟩) hm hag (o:=⟨dst,op,ty,pos,after,guard⟩) (c0t hq (h1 hC));subst k1;exact⟨v,k2,k3⟩
   split at hp
   ·rename_i av hq
    exact⟨av,hp,fin _ hq (fun _ p e=>by cases e)⟩
   ·rename_i p av hq
    exact⟨av,hp.2,fin _ hq (fun hC p' e=>by cases e;exact b2x (a5m ha hC hg) hC hp.1)⟩
   ·exact hp.elim
theorem a6o{x t:Nat}{v:Value}(hne:t≠x):(a.put (some x) v).tmps.getD t undef=a.tmps.getD t undef:=by
 simp[Act.put,Array.getD_eq_getD_getElem?,Array.getElem?_setIfInBounds,Ne.symm hne]
theorem b6O{x:Nat}{v:Value}(hx:x<a.tmps.size):(a.put (some x) v).tmps.getD x undef=v:=by simp[Act.put,hx]
theorem a5p{x:Nat}:∀{C:Ctx},a3q x C=true→∀ d b,(d,b)∈C→d≠x
 | [],_,d,b,hm=>nomatch hm
 | y::r,hf,d,b,hm=>by
  unfold a3q at hf;split at hf
  ·cases hf
  ·rename_i hb
   rcases List.mem_cons.1 hm with e | hm
   ·have e1:d=y.1:=by rw[←e]
    intro e2;rw[←e1,e2]at hb;simp at hb
   ·exact a5p hf d b hm
theorem a5U{x:Nat}{v:Value}{C:Ctx}(hf:a3q x C=true):allT (a.put (some x) v) C↔allT a C:=by
 constructor
 ·intro hC d b hm
  rw[←a6o (v:=v) (a5p hf d b hm)];exact hC d b hm
 ·intro hC d b hm
  rw[a6o (a5p hf d b hm)];exact hC d b hm
theorem a4L{x:Nat}:∀{gds:GD} {y:Nat × Ctx × AV},y∈a6W x gds→y∈gds∧y.1≠x∧a3q x y.2.1=true
 | [],y,hm=>nomatch hm
 | z::r,y,hm=>by
  unfold a6W at hm;split at hm
  ·have:=a4L hm
   exact⟨List.mem_cons_of_mem _ this.1,this.2⟩
  ·rename_i hb
   split at hm
   ·rename_i hf
    rcases List.mem_cons.1 hm with rfl | hm
    ·exact⟨by simp,fun e=>by rw[e]at hb;simp at hb,hf⟩
    ·have:=a4L hm
     exact⟨List.mem_cons_of_mem _ this.1,this.2⟩
   ·have:=a4L hm
    exact⟨List.mem_cons_of_mem _ this.1,this.2⟩
theorem a8s{gds:GD}(hg:GOk L h gds a)(x:Nat)(v:Value):GOk L h (a6W x gds) (a.put (some x) v):=by
 refine⟨fun t C av hm=>?_⟩;obtain⟨h1,h2,h3⟩:=a4L hm;obtain⟨k1,k2⟩:=hg.out t C av h1;rw[a6o h2];exact⟨fun hC=>k1 ((a5U h3).1 hC),fun hC=>k2 (fun hC'=>hC ((a5U h3).2 hC'))⟩
theorem a9O{d:Nat}:∀{gds:GD},a6G d gds=[]∨∃ av,(d,a6G d gds,av)∈gds
 | []=>.inl rfl
 | x::r=>by
  unfold a6G;split
  ·rename_i hb
   have e:=Nat.eq_of_beq_eq_true hb;obtain⟨x1,x2,x3⟩:=x;simp only at e;subst e;exact .inr ⟨x3,by simp⟩
  ·rcases a9O (gds:=r)with h1|⟨av,h1⟩
   ·exact .inl h1
   ·exact .inr ⟨av,List.mem_cons_of_mem _ h1⟩
theorem a6r[a0h P](hT:TTok P T){ops:Array Oper}{o:Oper}{r:List Oper}{K:St→Prop}(hm:Mem mine L F h st.own w)(ha:a0r P L h st a){gds:GD}(hg:GOk L h gds a)(hp:opsG T ops (o::r) st gds K) :
  ∃ v st' gds',(Region.wanted o (yielded ops a.tmps)=true∧(∀ w',Same F st.own h w w'→(execOp a.eval o).run P w'=.ok (.value v) w')∨Region.wanted o (yielded ops a.tmps)=false∧v=undef) ∧
   a0r P L h st' (a.put o.dst v)∧GOk L h gds' (a.put o.dst v)∧(st'.own=st.own∧st'.k=st.k)∧opsG T ops r st' gds' K:=by
 obtain⟨n,k,env,own⟩:=st;have hp:(match(⟨n,k,env,own⟩:St),o.dst with
   | ⟨n,k,env,own⟩,some dd=>match o.guard with
    | none=>gopP T n k own env gds [] o.op (fun av=>ifD (dd<n) (a2l av fun av=>a0H (a6W dd gds) fun gds'=>opsG T ops r ⟨n,k,(dd,av)::env,own⟩ gds' K))
    | some (j,want)=>match(ops[j]?).bind (·.dst)with
     | some d=>match a5G ((gEnv (a6G d gds) env gds).lookup d)with
      | some _=>a0H (a6G d gds++[(d,want)]) fun C=>ifD (a3q dd C=true) (gopP T n k own env gds C o.op (fun av=>ifD (dd<n) (a2l av fun av=>a0H (a6W dd gds) fun gds'=>opsG T ops r ⟨n,k,(dd,.top)::env,own⟩ ((dd,C,av)::gds') K)))
      | none=>False
     | none=>False
   | _,none=>False):=hp
 cases hd:o.dst with
 | none=>rw[hd]at hp;exact hp.elim
 | some dd =>
  rw[hd]at hp;simp only at hp;have hsize:a.tmps.size=n:=ha.size;cases hgd:o.guard with
  | none =>
   rw[hgd]at hp;simp only at hp;obtain⟨av,hK,hrun⟩:=b8d hT hm ha hg hp;obtain⟨v,hden,hrun⟩:=hrun (fun d b hmm=>nomatch hmm);obtain⟨hlt,hK⟩:=a0j hK;rw[a4I,a0q]at hK;exact⟨v,_,_,.inl ⟨by unfold Region.wanted;rw[hgd],hrun⟩,a1u ha hlt hden,a8s hg dd v,⟨rfl,rfl⟩,hK⟩
  | some jw =>
   obtain⟨j,want⟩:=jw;rw[hgd]at hp;simp only at hp;split at hp
   ·rename_i d hdj
    split at hp
    ·rename_i b hb
     rw[a0q]at hp;obtain⟨hfree,hp⟩:=a0j hp;obtain⟨av,hK,hrun⟩:=b8d hT hm ha hg hp;obtain⟨hlt,hK⟩:=a0j hK;rw[a4I,a0q]at hK;have hwant:Region.wanted o (yielded ops a.tmps)=true↔allT a (a6G d gds++[(d,want)]):=by
      have hy:∀ q,yielded ops a.tmps j=some q↔a.tmps.getD d undef=.bool q:=fun q=>by
       unfold yielded;rw[hdj];simp only[Option.bind_some];rw[Array.getD_eq_getD_getElem?];cases a.tmps[d]? with
       | none=>simp[undef]
       | some z=>cases z <;> simp
      have h1:Region.wanted o (yielded ops a.tmps)=true↔a.tmps.getD d undef=.bool want:=by
       unfold Region.wanted;rw[hgd];simp only[beq_iff_eq];exact hy want
      rw[h1];constructor
      ·intro e d' b' hmm
       rcases List.mem_append.1 hmm with hmm | hmm
       ·rcases a9O (d:=d) (gds:=gds)with h2|⟨av2,h2⟩
        ·rw[h2]at hmm;exact nomatch hmm
        ·obtain⟨_,k2⟩:=hg.out d _ av2 h2
         by_cases hC:allT a (a6G d gds)
         ·exact hC d' b' hmm
         ·rw[k2 hC]at e;cases e
       ·simp at hmm
        obtain⟨rfl,rfl⟩:=hmm;exact e
      ·intro hC
       exact hC d want (by simp)
     have hps:∀ v,(a.put (some dd) v).tmps.getD dd undef=v:=fun v=>b6O (by rw[hsize];exact hlt)
     by_cases hC:allT a (a6G d gds++[(d,want)])
     ·obtain⟨v,hden,hrun⟩:=hrun hC
      refine⟨v,_,_,.inl ⟨hwant.2 hC,hrun⟩,a1u (av:=.top) ha hlt trivial,⟨fun t C av' hmm=>?_⟩,⟨rfl,rfl⟩,hK⟩;rcases List.mem_cons.1 hmm with e | hmm
      ·cases e
       rw[hps];exact⟨fun _=>hden,fun hno=>absurd ((a5U hfree).2 hC) hno⟩
      ·exact(a8s hg dd v).out t C av' hmm
     ·refine⟨undef,_,_,.inr ⟨?_,rfl⟩,a1u (av:=.top) ha hlt trivial,⟨fun t C av' hmm=>?_⟩,⟨rfl,rfl⟩,hK⟩
      ·cases hx:Region.wanted o (yielded ops a.tmps)with
       | false=>rfl
       | true=>exact absurd (hwant.1 hx) hC
      ·rcases List.mem_cons.1 hmm with e | hmm
       ·cases e
        rw[hps];exact⟨fun hC'=>absurd ((a5U hfree).1 hC') hC,fun _=>rfl⟩
       ·exact(a8s hg dd undef).out t C av' hmm
    ·exact hp.elim
   ·exact hp.elim
theorem a5l:GOk L h [] a:=⟨fun t C av hm=>nomatch hm⟩
end
end Go.Eng
namespace Go.Eng
open Go Go.RowKit
def onB(x y:Prop)(b:Bool):Prop:=match b with | true=>x | false=>y
theorem a0d{b:Bool}{x y:Prop}(hx:b=true→x)(hy:b=false→y):onB x y b:=by cases b;exact hy rfl;exact hx rfl
def a5C(ops:Array Oper)(o:Oper)(st:St)(x y:Prop):Prop :=
 match o.guard with
 | none=>x
 | some (j,want)=>match(ops[j]?).bind (·.dst)with
  | some d=>match st.env.lookup d with
   | some (.c (.v (.bool b)))=>(match want with | true=>onB x y b | false=>onB y x b)
   | some (.tup [])=>y
   | _=>False
  | none=>False
def b2M(st:St)(dst:Option Nat)(K:St→Prop):Prop:=putK st dst (.tup []) K
def opsP(P:Program)[a0h P](T:TT)(FF:FL)(ops:Array Oper)(l:List Oper):St→(St→Prop)→Prop :=
 List.rec (motive:=fun _=>St→(St→Prop)→Prop) (fun st K=>K st)
  (fun o _ ih st K=>a5C ops o st (b2K P T FF o st (fun st'=>ih st' K)) (b2M st o.dst (fun st'=>ih st' K))) l
inductive Ex where
 | normal
 | exit (id:Nat)
 | ret
def Ex.to:Ex→Exit
 | .normal=>.normal
 | .exit id=>.exit id
 | .ret=>.ret
section
variable {P:Program} {T:TT} {FF:FL} {may:Nat→Prop} {w0:World} {st:St} {a:Act} {w:World}
theorem a1J[a0h P]{L:Nat→Value}{h:Hp}(ha:a0r P L h st a){ops:Array Oper}{o:Oper}{x y:Prop}(hg:a5C ops o st x y):(Region.wanted o (yielded ops a.tmps)=true∧x)∨(Region.wanted o (yielded ops a.tmps)=false∧y):=by
 unfold a5C at hg;unfold Region.wanted;split at hg
 ·rename_i e;rw[e];exact .inl ⟨rfl,hg⟩
 ·rename_i j want e
  rw[e];simp only;split at hg
  ·rename_i d hd
   have key:∀ av,st.env.lookup d=some av→DenA L h av ((a.tmps[d]?).getD undef):=fun av hl=>by
    have:=ha.env d av hl;rw[Array.getD_eq_getD_getElem?]at this;exact this
   split at hg
   ·rename_i b hl
    have hk:=a0u (key _ hl);have hy:yielded ops a.tmps j=some b:=by
     unfold yielded;rw[hd];simp only[Option.bind_some];cases ht:a.tmps[d]? with
     | none=>rw[ht]at hk;simp[undef]at hk
     | some v=>rw[ht]at hk;simp only[Option.getD_some]at hk;rw[hk]
    rw[hy];cases want <;> cases b <;> simp_all [onB]
   ·rename_i hl
    obtain⟨vs,hk,hlen,_⟩:=key _ hl;have hvs:vs=[]:=List.eq_nil_of_length_eq_zero (by simpa using hlen.symm)
    subst hvs;have hy:yielded ops a.tmps j=none:=by
     unfold yielded;rw[hd];simp only[Option.bind_some];cases ht:a.tmps[d]? with
     | none=>rfl
     | some v=>rw[ht]at hk;simp only[Option.getD_some]at hk;rw[hk]
    rw[hy];exact .inr ⟨by simp,hg⟩
   ·exact hg.elim
  ·exact hg.elim
theorem a6a{L:Nat→Value}{h:Hp}:DenA L h (.tup []) undef:=⟨[],rfl,rfl,fun j a u ha=>by simp at ha⟩
theorem a6q[a0h P]{h0:Base P}(hT:TTok P T)(hF:FTok P FF){ops:Array Oper}{Q:Exit→Act→World→Prop}{K:St→Prop}(hQ:∀ st a w,Sat may w0 h0 st a w→K st→Q .normal a w):∀(l:List Oper) (st:St) (a:Act) (w:World),opsP P T FF ops l st K→Sat may w0 h0 st a w→wpList P ops Q l a w
 | [],st,a,w,hp,hs=>by
  refine wpList_nil ?_;exact hQ st a w hs hp
 | o::r,st,a,w,hp,hs=>by
  refine wpList_step (fun Kc hKc=>?_);obtain⟨⟨L,F,h,hm,ha,hsub,hnew⟩,hk⟩:=hs;rcases a1J ha hp with⟨hw,hp⟩|⟨hw,hp⟩
  ·rw[if_pos hw]
   have:=b0l (Q:=Q) hT hF hp ⟨⟨L,F,h,hm,ha,hsub,hnew⟩,hk⟩;unfold Oper.wp at this ⊢;generalize (execOp a.eval o).run P w=res at this ⊢;have mono:∀ a' w',(∃ st',Sat may w0 h0 st' a' w'∧opsP P T FF ops r st' K)→Kc a' w':=fun a' w' ⟨st',h1,h2⟩=>hKc a' w' (a6q hT hF hQ r st' a' w' h2 h1);cases res with
   | ok n w' =>
    cases n <;> simp only[Oper.upon]at this ⊢ <;> first | exact mono _ _ this | exact this | skip
    ·exact this.mono (fun e w'' h=>by cases e <;> first | exact mono _ _ h | exact h)
    ·exact this.mono (fun v w'' h=>mono _ _ h)
   | halt x w'=>cases x <;> exact this
  ·rw[if_neg (by rw[hw];simp)]
   obtain⟨st',h1,h2⟩:=a1f hm ha hsub hnew hk (av:=.tup []) a6a hp;exact hKc _ _ (a6q hT hF hQ r st' _ w h2 h1)
theorem b9t[a0h P]{h0:Base P}(hT:TTok P T){ops:Array Oper}{Q:Exit→Act→World→Prop}{K:St→Prop}(hQ:∀ st a w,Sat may w0 h0 st a w→K st→Q .normal a w):∀(l:List Oper) (st:St) (gds:GD) (a:Act) (w:World),opsG T ops l st gds K→Sat may w0 h0 st a w →
  (∀ L h,a0r P L h st a→GOk L h gds a)→wpList P ops Q l a w:=by
 intro l st gds a w hp hs hg;obtain⟨⟨L,F,h,hm,ha,hsub,hnew⟩,hk⟩:=hs
 replace hg:=hg L h ha
 induction l generalizing st gds a with
 | nil=>exact wpList_nil (hQ st a w ⟨⟨L,F,h,hm,ha,hsub,hnew⟩,hk⟩ hp)
 | cons o r ih =>
  refine wpList_step (fun Kc hKc=>?_);obtain⟨v,st',gds',hrun,h1,h2,h3,h4⟩:=a6r (P:=P) hT hm ha hg hp;have go:Kc (a.put o.dst v) w:=hKc _ _ (ih st' gds' _ h4 (by rw[h3.1];exact hm) h1 (by rw[h3.2];exact hsub) h2)
  rcases hrun with⟨hw,hrun⟩|⟨hw,rfl⟩
  ·rw[if_pos hw]
   exact a0t (hrun w (fun _ _=>rfl)) go
  ·rw[if_neg (by rw[hw];simp)]
   exact go
structure b1k(P:Program)[a0h P](c:Code)(Q:Ex→St→Prop)(st:St):Prop where
 out:∀(may:Nat→Prop) (w0:World) (h0:Base P) (a:Act) (w:World),Sat may w0 h0 st a w→(Code.loop c).wp P (fun e a' w'=>∃ e' st',e=Ex.to e'∧Sat may w0 h0 st' a' w'∧Q e' st') a w
structure a4V(P:Program)[a0h P](id:Nat)(ops:Array Oper)(K:St→Prop)(st:St):Prop where
 out:∀(may:Nat→Prop) (w0:World) (h0:Base P) (a:Act) (w:World),Sat may w0 h0 st a w→(Code.region id ops true).wp P (fun e a' w'=>e=.normal∧∃ st',Sat may w0 h0 st' a' w'∧K st') a w
def vc(P:Program)[a0h P](T:TT)(FF:FL)(c:Code):(Ex→St→Prop)→St→Prop :=
 Code.rec (motive:=fun _=>(Ex→St→Prop)→St→Prop)
  (fun Q st=>Q .normal st)
  (fun id ops draw Q st=>match draw with
   | false=>(match hasG ops.toList&&allG T ops.toList with | true=>opsG T ops ops.toList st [] (Q .normal) | false=>opsP P T FF ops ops.toList st (Q .normal))
   | true=>a4V P id ops (Q .normal) st)
  (fun _ _ ihx ihy Q st=>ihx (fun e st'=>match e with | .normal=>ihy Q st' | .exit i=>Q (.exit i) st' | .ret=>Q .ret st') st)
  (fun c _ _ ihx ihy Q st=>match ev st c with
   | some (.c (.v (.bool b)))=>onB (ihx Q st) (ihy Q st) b
   | _=>False)
  (fun id _ ih Q st=>ih (fun e st'=>match e with | .normal=>Q .normal st' | .exit i=>if i=id then Q .normal st' else Q (.exit i) st' | .ret=>Q .ret st') st)
  (fun c _ Q st=>b1k P c Q st)
  (fun _ _ _ _ _ _ _ _=>False)
  (fun id Q st=>Q (.exit id) st)
  (fun _ _ _ _=>False)
  (fun _ _ _=>False)
  (fun _ _ _=>False)
  (fun Q st=>Q .ret st)
  (fun _ _ _=>False) c
theorem b8w(P:Program)[a0h P](T:TT)(FF:FL)(c:Operand)(x y:Code)(Q:Ex→St→Prop)(st:St):vc P T FF (.cond c x y) Q st=(match ev st c with
   | some (.c (.v (.bool b)))=>onB (vc P T FF x Q st) (vc P T FF y Q st) b
   | _=>False):=rfl
theorem a4i[a0h P]{h0:Base P}(hT:TTok P T)(hF:FTok P FF):∀(c:Code) (Q:Ex→St→Prop) (st:St) (a:Act) (w:World),vc P T FF c Q st→Sat may w0 h0 st a w→c.wp P (fun e a' w'=>∃ e' st',e=Ex.to e'∧Sat may w0 h0 st' a' w'∧Q e' st') a w
 | .skip,Q,st,a,w,hp,hs=>wp_skip ⟨.normal,st,rfl,hs,hp⟩
 | .region id ops draw,Q,st,a,w,hp,hs=>by
  cases draw with
  | false =>
   have hp:(match hasG ops.toList&&allG T ops.toList with | true=>opsG T ops ops.toList st [] (Q .normal) | false=>opsP P T FF ops ops.toList st (Q .normal)):=hp
   split at hp
   ·exact wp_region_list (b9t hT (fun st' a' w' h1 h2=>⟨.normal,st',rfl,h1,h2⟩) _ st [] a w hp hs (fun _ _ _=>a5l))
   ·exact wp_region_list (a6q hT hF (fun st' a' w' h1 h2=>⟨.normal,st',rfl,h1,h2⟩) _ st a w hp hs)
  | true=>exact Code.wp_mono (fun e a' w' ⟨he,st',h1,h2⟩=>⟨.normal,st',he,h1,h2⟩) (hp.out may w0 h0 a w hs)
 | .seq x y,Q,st,a,w,hp,hs=>by
  refine wp_seq (Code.wp_mono (fun e a' w' h=>?_) (a4i hT hF x _ st a w hp hs));obtain⟨e',st',rfl,h1,h2⟩:=h;cases e' with
  | normal=>exact a4i hT hF y Q st' a' w' h2 h1
  | exit i=>exact⟨.exit i,st',rfl,h1,h2⟩
  | ret=>exact⟨.ret,st',rfl,h1,h2⟩
 | .cond c x y,Q,st,a,w,hp,hs=>by
  rw[b8w]at hp;split at hp
  ·rename_i b hc
   obtain⟨⟨L,F,h,hm,ha,hsub,hnew⟩,hk⟩:=hs;have hev:a.eval c=.bool b:=ev_v ha hc;cases b with
   | true=>exact wp_cond_true hev (a4i hT hF x Q st a w hp ⟨⟨L,F,h,hm,ha,hsub,hnew⟩,hk⟩)
   | false=>exact wp_cond_false hev (a4i hT hF y Q st a w hp ⟨⟨L,F,h,hm,ha,hsub,hnew⟩,hk⟩)
  ·exact hp.elim
 | .block id c,Q,st,a,w,hp,hs=>by
  refine wp_block (Code.wp_mono (fun e a' w' h=>?_) (a4i hT hF c _ st a w hp hs));obtain⟨e',st',rfl,h1,h2⟩:=h;cases e' with
  | normal=>exact⟨.normal,st',rfl,h1,h2⟩
  | exit i =>
   simp only at h2;show Exit.inBlock id _ (.exit i) a' w';simp only[Exit.inBlock];split at h2
   ·rename_i e;rw[if_pos e];exact⟨.normal,st',rfl,h1,h2⟩
   ·rename_i e;rw[if_neg e];exact⟨.exit i,st',rfl,h1,h2⟩
  | ret=>exact⟨.ret,st',rfl,h1,h2⟩
 | .loop c,Q,st,a,w,hp,hs=>hp.out may w0 h0 a w hs
 | .exit id,Q,st,a,w,hp,hs=>wp_exit ⟨.exit id,st,rfl,hs,hp⟩
 | .ret,Q,st,a,w,hp,hs=>wp_ret ⟨.ret,st,rfl,hs,hp⟩
 | .rangeFunc _ _ _ _,Q,st,a,w,hp,hs=>hp.elim
 | .scope _,Q,st,a,w,hp,hs=>hp.elim
 | .label _,Q,st,a,w,hp,hs=>hp.elim
 | .goto _,Q,st,a,w,hp,hs=>hp.elim
 | .refuse _,Q,st,a,w,hp,hs=>hp.elim
end
end Go.Eng
