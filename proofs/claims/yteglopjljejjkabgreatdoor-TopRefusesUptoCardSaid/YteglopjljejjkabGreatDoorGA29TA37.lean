/- A part of the proof. -/
import Derived.Test.YteglopjljejjkabGreatDoorGA14TA28
import Derived.RangeFuncFrom
import Derived.RangeFuncLeaves
import Derived.RangeFuncCalls
import Derived.OrdersIn
import Derived.Shelf.SlSortCmp.WholeK
import Derived.Shelf.SlSortCmp.NoneTotal
import Derived.Shelf.Spec.SlicesGrow
set_option linter.unusedVariables false
set_option linter.unusedSimpArgs false
namespace Go.Eng
open Go Go.RowKit
def a1W:Option Nat→Fence
 | none=>Fence.wide
 | some l=>Fence.wide.inRound l
theorem a4h(ro:Option Nat)(f:FuncId):(a1W ro).fn f:=by cases ro <;> trivial
theorem a5v(ro:Option Nat):(a1W ro).depth=none:=by cases ro <;> rfl
theorem a5u(ro:Option Nat):(a1W ro).round=ro:=by cases ro <;> rfl
theorem a5F{ro:Option Nat}{n:Nat}{P:Program}{f:FuncId}{args:Array Value}{w:World}{R:Ending→World→Prop}(h:Calls P f args w R):CallsIn (a1W ro) n P f args w R:=by
 cases ro with
 | none=>exact callsIn_wide.2 h
 | some l=>exact CallsIn.inRound l (callsIn_wide.2 h)
theorem a6j{ro:Option Nat}{n:Nat}{P:Program}{row:String}{args:Array Value}{w:World}{R:Value→World→Prop}(h:Rows P row args w R):RowsIn (a1W ro) n P row args w R:=by
 cases ro with
 | none=>exact fun c cs _=>let ⟨v,w',r,s⟩:=h c cs;⟨v,w',r,stepsIn_wide.2 s⟩
 | some l=>exact fun c cs _=>let ⟨v,w',r,s⟩:=h c cs;⟨v,w',r,stepsIn_wide.2 s⟩
def a2Z(o:Oper):Bool:=match o.op with | .defer _=>false | _=>true
theorem a9Y{o:Oper}(h:a2Z o=true)(c:Go.Call):o.op≠.defer c:=fun e=>by
 unfold a2Z at h;rw[e]at h;cases h
def addD(ds:List Deferred)(a:Act):Act:={ a with defers:=a.defers++ds }
def onD(ds:List Deferred)(K:Act→World→Prop):Act→World→Prop:=fun a w=>∃ a0,a=addD ds a0∧K a0 w
theorem b0e(ds:List Deferred)(a:Act):(addD ds a).eval=a.eval:=by funext x;cases x <;> rfl
theorem a1l(ds:List Deferred)(a:Act)(d:Option Nat)(v:Value):(addD ds a).put d v=addD ds (a.put d v):=by cases d <;> rfl
section
variable {ro:Option Nat} {n:Nat} {P:Program} {ops:Array Oper} {Q:Exit→Act→World→Prop} {ds:List Deferred} {w:World} {a:Act}
theorem b0K(h:LetsOut Q):LetsOut (fun e=>onD ds (Q e)):=by
 obtain⟨a,w,h⟩:=h;exact⟨_,w,a,rfl,h⟩
theorem c3I{o:Oper}{K:Act→World→Prop}(hc:a2Z o=true)(h:o.wp P a w K Q):o.wpIn (a1W ro) n P (addD ds a) w (onD ds K) (fun e=>onD ds (Q e)):=by
 refine⟨fun f _=>a4h ro f,?_⟩;rw[a5u,Oper.semAt_eq _ _ _ (a9Y hc),b0e];unfold Oper.wp at h;have hd:(a1W ro).depth.isSome=true→1≤n:=fun e=>by rw[a5v]at e;cases e
 generalize (execOp a.eval o).run P w=r at *;cases r with
 | ok x w' =>
  cases x <;> simp only[Oper.uponIn,Oper.upon]at h ⊢
  case value v=>exact⟨_,a1l ds a _ v,h⟩
  case skip=>exact⟨_,a1l ds a _ undef,h⟩
  case defer d=>exact⟨_,by rw[←a1l];rfl,h⟩
  case enter f args =>
   refine⟨hd,(a5F h).mono (fun e w'' he=>?_)⟩;cases e with
   | returned v=>exact⟨_,a1l ds a _ v,he⟩
   | panicked c=>exact⟨_,rfl,he⟩
   | outgrown=>exact b0K he
  case row row args =>
   exact⟨hd,(a6j h).mono (fun v w'' he=>⟨_,a1l ds a _ v,he⟩)⟩
 | halt x w'=>cases x <;> simp only[Oper.uponIn,Oper.upon]at h ⊢;exact⟨_,rfl,h⟩
theorem c1H{o:Oper}{K:Act→World→Prop}{Q2:Exit→Act→World→Prop}(hQ:∀ e a w,Q e a w→e=.normal)(hc:a2Z o=true)(h:o.wp P a w K Q):o.wpIn (a1W ro) n P (addD ds a) w (onD ds K) Q2:=by
 refine⟨fun f _=>a4h ro f,?_⟩;rw[a5u,Oper.semAt_eq _ _ _ (a9Y hc),b0e];unfold Oper.wp at h;have hd:(a1W ro).depth.isSome=true→1≤n:=fun e=>by rw[a5v]at e;cases e
 generalize (execOp a.eval o).run P w=r at *;cases r with
 | ok x w' =>
  cases x <;> simp only[Oper.uponIn,Oper.upon]at h ⊢
  case value v=>exact⟨_,a1l ds a _ v,h⟩
  case skip=>exact⟨_,a1l ds a _ undef,h⟩
  case defer d=>exact⟨_,by rw[←a1l];rfl,h⟩
  case enter f args =>
   refine⟨hd,(a5F h).mono (fun e w'' he=>?_)⟩;cases e with
   | returned v=>exact⟨_,a1l ds a _ v,he⟩
   | panicked c=>cases hQ _ _ _ he
   | outgrown=>obtain⟨_,_,he⟩:=he;cases hQ _ _ _ he
  case row row args =>
   exact⟨hd,(a6j h).mono (fun v w'' he=>⟨_,a1l ds a _ v,he⟩)⟩
 | halt x w' =>
  cases x <;> simp only[Oper.uponIn,Oper.upon]at h ⊢
  cases hQ _ _ _ h
theorem b0J{Q2:Exit→Act→World→Prop}{l2:List Oper}(hQ:∀ e a w,Q e a w→e=.normal)(hk:∀ a w,Q .normal a w→wpListIn (a1W ro) n P ops Q2 l2 (addD ds a) w):∀(l:List Oper) (a:Act) (w:World),l.all a2Z=true→wpList P ops Q l a w→wpListIn (a1W ro) n P ops Q2 (l++l2) (addD ds a) w
 | [],a,w,_,h=>hk a w h
 | o::r,a,w,hc,h=>by
  simp only[List.all_cons,Bool.and_eq_true]at hc;unfold wpList at h;refine wpListIn_step (fun K hK=>?_);have hK':∀ a' w',onD ds (wpList P ops Q r) a' w'→K a' w':=fun a' w' ⟨a0,e,h0⟩=>by subst e;exact hK _ _ (b0J hQ hk r a0 w' hc.2 h0)
  have hy:yielded ops (addD ds a).tmps=yielded ops a.tmps:=rfl;rw[hy];split at h
  ·rename_i hw
   rw[if_pos hw];rcases h with h | h
   ·exact Oper.wpIn_mono hK' (c1H hQ hc.1 h)
   ·obtain⟨_,_,h⟩:=h.2
    cases hQ _ _ _ h
  ·rename_i hw
   rw[if_neg hw];refine⟨fun f _=>a4h ro f,hK' _ _ ⟨_,a1l ds a _ undef,h⟩⟩
theorem c1G{i:Nat}{K:Act→World→Prop}(hno:¬LetsOut Q)(hc:ops.all a2Z=true)(h:wpOp P ops Q i K a w):wpOpIn (a1W ro) n P ops (fun e=>onD ds (Q e)) i (onD ds K) (addD ds a) w:=by
 unfold wpOp at h;unfold wpOpIn;have hy:yielded ops (addD ds a).tmps=yielded ops a.tmps:=rfl;cases ho:ops[i]? with
 | none=>rw[ho]at h;exact⟨a,rfl,h⟩
 | some o =>
  rw[ho]at h;simp only at h ⊢;have hco:a2Z o=true:=by
   obtain⟨hi,e⟩:=Array.getElem?_eq_some_iff.1 ho;rw[←e];exact(Array.all_eq_true.1 hc) i hi
  rw[hy];split at h
  ·rename_i hw
   rw[if_pos hw];rcases h with h | h
   ·exact c3I hco h
   ·exact absurd h.2 hno
  ·rename_i hw
   rw[if_neg hw];exact⟨fun f _=>a4h ro f,_,a1l ds a _ undef,h⟩
theorem b8p{md:Region.Mode}(hno:¬LetsOut Q)(hc:ops.all a2Z=true):∀(fuel:Nat) (listed:Array Bool) (a:Act) (w:World),wpAny P md ops Q fuel listed a w→wpAnyIn (a1W ro) n P md ops (fun e=>onD ds (Q e)) fuel listed (addD ds a) w
 | 0,listed,a,w,h=>⟨h.1,a,rfl,h.2⟩
 | fuel+1,listed,a,w,h=>by
  refine⟨fun e=>⟨a,rfl,h.1 e⟩,fun i hi=>?_⟩;refine wpOpIn_mono (fun a' w' hh=>?_) (c1G hno hc (h.2 i hi));obtain⟨a0,e,h0⟩:=hh;subst e;exact b8p hno hc fuel _ a0 w' h0
end
section
variable {P:Program} {T:TT} {FF:FL} {mine may:Nat→Prop} {L:Nat→Value} {F:Nat→Nat→Prop} {h:Hp} {st:St} {a:Act} {w w0:World}
theorem b0Z[a0h P](l:List Nat){f:FuncId}{fn:Func}{c:Code}(hf:P.funcs[f]?=some fn)(hb:fn.body=some c)(hT:TTok P T)(hF:FTok P FF){args:List AV}{n:Nat}(hnn:fn.ntmps=n){rs:List ResultVar}(hrs:fn.results.toList=rs){env:List (Nat × AV)}(henv:env0 args=env)(hn:args.length≤n){Q:AV→Prop}
  (hv:vc P T FF c (fun e st'=>match e with | .exit _=>False | _=>frzL l st' fun st'=>resL T st' rs (retK Q)) ⟨n,0,env,[]⟩) (hD:a0h.ds P=[]:=by rfl):a0f P f args [] (fun r own'=>own'=[]∧Q r):=by
 subst hnn hrs henv;refine⟨fun mine L F h w vs hgl hm hden=>?_⟩;have hm0:Mem (a0g (a0l F []) w) L F h [] w:=hm.mine_mono (fun b hb=>.inl hb);have hs:Sat (a0l F []) w (⟨h,L,hgl⟩:Base P) ⟨fn.ntmps,0,env0 args,[]⟩ { tmps:=vs.toArray++Array.replicate (fn.ntmps-vs.toArray.size) undef,defers:=[] } w :=
  ⟨⟨L,F,h,hm0,a7G hn hden 0 [] hD,⟨Sub.refl h,fun _ _=>rfl,hm.hn.symm⟩,fun k hk=>.inl hk⟩,Keep.refl _ w⟩
 refine calls_of_wp hf hb (Code.wp_mono (fun e a' w' hh=>?_) (a4i hT hF c _ _ _ _ hv hs));obtain⟨e',st0,rfl,hs1,he⟩:=hh;have hr0:frzL l st0 (fun st'=>resL T st' fn.results.toList (retK Q)):=by
  cases e' with
  | normal=>exact he
  | exit i=>exact he.elim
  | ret=>exact he
 obtain⟨st',⟨⟨L',F',h',hm',ha',hsub,hnew'⟩,hk⟩,hr⟩:=a1E _ st0 hr0 hs1;obtain⟨r,v,⟨hcl,hQ⟩,hd,hrun⟩:=a2x (Q:=fun r=>cloA r=true∧Q r) hT hm' ha' (a4r (fun l h=>b0w h) hr);have h0n:h.n=0:=hm.hn;have fin:a'.defers=[]∧∃ v,(results fn a'.tmps).run P w'=.ok v w'∧∃(r:AV) (u:Value) (L':Nat→Value) (F':Nat→Nat→Prop) (h':Hp) (own':List (Option Ob)),Ending.returned v=.returned u∧DenA L' h' r u∧(∀ i,i<h.n→L' i=L i)∧Mem (a0g (a0l F []) w) L' F' h' own' w' ∧
   Keep (a0l F []) w w'∧Sub h h'∧(∀ k,h'.m k≠none→h.m k≠none∨a0g (a0l F []) w k)∧own'=[]∧Q r :=
  ⟨ha'.defers.trans hD,_,hrun,r,v,L',F',⟨h'.m,0⟩,[],rfl,hd.clo 0 hcl,fun i hi=>by omega,⟨rfl,hm'.hsub,fun i ob hi=>by simp at hi,fun i ob b hi=>by simp at hi,fun i j oi oj b hi=>by simp at hi⟩,hk,⟨hsub.sub.m,by rw[h0n];exact Nat.le_refl _⟩,hnew',rfl,hQ⟩
 cases e' with
 | normal=>exact fin
 | exit i=>exact he.elim
 | ret=>exact fin
end
def FzIn(m:Nat→Option Obj)(W:World):Prop:=∀ k o,m k=some o→W.heap[k]?=some o
theorem FzIn.mem{m:Nat→Option Obj}{W:World}(hf:FzIn m W)(L:Nat→Value):Mem (fun _=>True) L (fun _ _=>False) ⟨m,0⟩ [] W :=
 ⟨rfl,hf,fun i ob hi=>by simp at hi,fun i ob b hi=>by simp at hi,fun i j oi oj b hi=>by simp at hi⟩
theorem FzIn.below{m:Nat→Option Obj}{W W':World}(hf:FzIn m W)(h:Below W.heap.size W W'):FzIn m W':=fun k o hk=>by
 have:=hf k o hk;rw[h.block k (Array.getElem?_eq_some_iff.1 this).1];exact this
section
variable {P:Program} {T:TT} {FF:FL} {L:Nat→Value} {m:Nat→Option Obj} {W:World} {ops:Array Oper} {K:St→Prop}
theorem a4u[a0h P](hT:TTok P T)(hf:FzIn m W):∀(l:List Oper) (st:St) (gds:GD) (a:Act),st.own=[]→opsG T ops l st gds K→a0r P L ⟨m,0⟩ st a→GOk L ⟨m,0⟩ gds a →
  wpList P ops (fun e a' w'=>e=.normal∧w'=W∧∃ st',a0r P L ⟨m,0⟩ st' a'∧st'.own=[]∧K st') l a W
 | [],st,gds,a,ho,hp,ha,hg=>wpList_nil ⟨rfl,rfl,st,ha,ho,hp⟩
 | o::r,st,gds,a,ho,hp,ha,hg=>by
  refine wpList_step (fun Kc hKc=>?_);have hm:=hf.mem L;rw[←ho]at hm;obtain⟨v,st',gds',hrun,h1,h2,h3,h4⟩:=a6r (P:=P) hT hm ha hg hp;have go:Kc (a.put o.dst v) W:=hKc _ _ (a4u hT hf r st' gds' _ (h3.1.trans ho) h4 h1 h2);rcases hrun with⟨hw,hrun⟩|⟨hw,rfl⟩
  ·rw[if_pos hw]
   exact a0t (hrun W (fun _ _=>rfl)) go
  ·rw[if_neg (by rw[hw];simp)]
   exact go
theorem b4j[a0h P](hT:TTok P T)(hf:FzIn m W){st:St}{a:Act}{id:Nat}(ho:st.own=[])(hp:opsG T ops ops.toList st [] K)(ha:a0r P L ⟨m,0⟩ st a) :
  (Code.region id ops false).wp P (fun e a' w'=>e=.normal∧w'=W∧∃ st',a0r P L ⟨m,0⟩ st' a'∧st'.own=[]∧K st') a W :=
 wp_region_list (a4u hT hf _ st [] a ho hp ha a5l)
theorem c1F[a0h P](hgl:a0h.ok P m)(hmx:P.follows .mixedOrders=true)(hB:Region.lexB .any ops=true)(hT:TTok P T)(hF:FTok P FF)(hf:FzIn m W){st:St}{a:Act}{id:Nat}(ho:st.own=[])(hp:b4k P T FF ops ops.toList st K)(ha:a0r P L ⟨m,0⟩ st a) :
  (Code.region id ops true).wp P (fun e a' w'=>e=.normal∧Below W.heap.size W w'∧∃ st',a0r P L ⟨m,0⟩ st' a'∧st'.own=[]∧K st') a W:=by
 refine wp_region_quiet (C:=fun w'=>Below W.heap.size W w') hmx hB ⟨rfl,rfl,rfl,Nat.le_refl _,fun _ _=>rfl⟩ ?_;have hm:=hf.mem L;rw[←ho]at hm;refine a1n (fun a' hq w' hw'=>?_) _ _ (a4t (h:=⟨m,0⟩) hgl hT hF hm ops.toList st a ⟨rfl,rfl⟩ hp ha);obtain⟨st',k1,k2,k3⟩:=hq;exact⟨rfl,hw',st',k1,k2.1.trans ho,k3⟩
def a6p(env:List (Nat × AV)):List Nat→Option (List (Nat × AV))
 | []=>some []
 | t::r=>match env.lookup t,a6p env r with
  | some a,some l=>some ((t,a)::l)
  | _,_=>none
theorem b1z{env:List (Nat × AV)}:∀{ts:List Nat} {env':List (Nat × AV)},a6p env ts=some env'→∀ t av,env'.lookup t=some av→env.lookup t=some av
 | [],env',h,t,av,hl=>by cases h;simp at hl
 | t0::r,env',h,t,av,hl=>by
  unfold a6p at h;split at h
  ·rename_i a l h1 h2
   cases h;rw[List.lookup_cons]at hl
   by_cases e:t=t0
   ·subst e;simp at hl;subst hl;exact h1
   ·have e':(t==t0)=false:=by simpa using e
    rw[e']at hl;exact b1z h2 t av hl
  ·cases h
theorem a1d[a0h P]{h:Hp}{st:St}{a:Act}{n k:Nat}{ts:List Nat}{env:List (Nat × AV)}{own:List (Option Ob)}(ha:a0r P L h st a)(hn:st.n=n)(hp:a6p st.env ts=some env):a0r P L h ⟨n,k,env,own⟩ a :=
 ⟨ha.size.trans hn,fun t av ht=>ha.env t av (b1z hp t av ht),ha.defers⟩
theorem b6d{n ln:Nat}{o:Oper}{y x:Operand}{tys:Array TypeId}{a:Act}{w:World}{Kc:Act→World→Prop}{Q:Exit→Act→World→Prop}{R:Ending→World→Prop}(ho:o.op=.call { callee:=.value y,args:=#[x],argTypes:=tys })(hg:a.eval y=.func (.yield ln) #[] #[])
  (hY:YieldAt Fence.wide (n-1) P ln #[a.eval x] w R) (hR:∀ e w',R e w'→∃ v,e=.returned v∧Kc (a.put o.dst v) w'):o.wpIn Fence.wide n P a w Kc Q:=by
 obtain⟨fn,tmps,assign,body,hy,hr⟩:=hY;refine⟨fun f _=>trivial,?_⟩
 have:(Oper.semAt Fence.wide.round a.eval o).run P w=.ok (.round ln fn tmps assign body) w:=by
  show(execOp a.eval o).run P w=_;obtain⟨vx,e⟩:∃ vx,a.eval x=vx:=⟨_,rfl⟩;rw[e]at hy;have hres:resolve a.eval { callee:=.value y,args:=#[x],argTypes:=tys } o.type=Deferred.ofValue (.func (.yield ln) #[] #[]) #[vx]:=by
   unfold resolve;simp only[hg,List.map_toArray,List.map_cons,List.map_nil,e]
  unfold execOp;rw[ho];simp only[hres];simp[go_sem,invoke,hy]
 rw[this];refine⟨fun h=>(by cases h),hr.mono (fun e w' he=>?_)⟩
 obtain⟨v,rfl,hK⟩:=hR e w' he;exact hK
end
theorem a5V(a:Act):addD [] a=a:=by
 obtain⟨t,d⟩:=a;show(⟨t,d++[]⟩:Act)=_;rw[List.append_nil]
theorem a8d{n:Nat}{P:Program}{ops:Array Oper}{l l2:List Oper}{R:Act→World→Prop}{Q2:Exit→Act→World→Prop}{a:Act}{w:World}(hc:l.all a2Z=true)(hp:wpList P ops (fun e a' w'=>e=.normal∧R a' w') l a w)
  (hk:∀ a w,R a w→wpListIn Fence.wide n P ops Q2 l2 a w):wpListIn Fence.wide n P ops Q2 (l++l2) a w:=by
 have:=b0J (ro:=none) (ds:=[]) (n:=n) (Q2:=Q2) (l2:=l2) (fun e a w h=>h.1) (fun a w h=>by rw[a5V];exact hk a w h.2) l a w hc hp
 rw[a5V]at this;exact this
theorem b2U(k:Nat){n:Nat}{P:Program}{ops:Array Oper}{id:Nat}{R:Act→World→Prop}{Q2:Exit→Act→World→Prop}{a:Act}{w:World}(hc:(ops.toList.take k).all a2Z=true)(hp:wpList P ops (fun e a' w'=>e=.normal∧R a' w') (ops.toList.take k) a w)
  (hk:∀ a w,R a w→wpListIn Fence.wide n P ops Q2 (ops.toList.drop k) a w):(Code.region id ops false).wpIn Fence.wide n P Q2 a w:=by
 refine wpIn_region_list ?_;have:=a8d (l2:=ops.toList.drop k) hc hp hk
 rwa [List.take_append_drop]at this
theorem a2u{K:Act→World→Prop}{Q:Exit→Act→World→Prop}{a:Act}{w:World}(h:K a w):Exit.then K Q .normal a w:=h
theorem b7R{K:Act→World→Prop}{Q:Exit→Act→World→Prop}{a:Act}{w:World}{i:Nat}(h:Q (.exit i) a w):Exit.then K Q (.exit i) a w:=h
theorem b7Q{K:Act→World→Prop}{Q:Exit→Act→World→Prop}{a:Act}{w:World}(h:Q .ret a w):Exit.then K Q .ret a w:=h
theorem b9N{Q:Exit→Act→World→Prop}{a:Act}{w:World}{i:Nat}(h:Q .normal a w):Exit.inBlock i Q .normal a w:=h
theorem c2g{Q:Exit→Act→World→Prop}{a:Act}{w:World}{i:Nat}(h:Q .ret a w):Exit.inBlock i Q .ret a w:=h
theorem c3U{Q:Exit→Act→World→Prop}{a:Act}{w:World}{i:Nat}(h:Q .normal a w):Exit.inBlock i Q (.exit i) a w:=by show(if i=i then _ else _);rw[if_pos rfl];exact h
theorem b1c{W W':World}(h:Below W.heap.size W W'):W.grownBy W' none:=⟨h.os,h.tape,h.output,h.size,fun k hk _=>h.block k hk⟩
end Go.Eng
namespace Go.Eng
open Go Go.RowKit
theorem c2t{L:Nat→Value}{h h':Hp}(hn:h.n≤h'.n)(hh:∀ a v,a2c h a=some v→a2c h' a=some v){c:IC}{v:Value}(hd:Den L h c v):Den L h' c v:=by
 induction hd with
 | v x h1=>exact .v x h1
 | sl sz n f A c ad g hc hm hA hg hl hclo hr ih=>exact .sl sz n f A c ad g hc hm hA (fun k hk j hj=>hh _ _ (hg k hk j hj)) hl hclo ih
 | fp cs ad g hclo hg hr ih=>exact .fp cs ad g hclo (fun j hj=>hh _ _ (hg j hj)) ih
 | any x h1=>exact .any x h1
 | own i off a h1 h2=>exact .own i off a (Nat.lt_of_lt_of_le h1 hn) h2
 | row i A n c h1 h2=>exact .row i A n c (Nat.lt_of_lt_of_le h1 hn) h2
 | rel i sz k off a h1 h2 h3=>exact .rel i sz k off a (Nat.lt_of_lt_of_le h1 hn) h2 h3
 | view i sz k n c a b h1 h2 h3 h4 h5=>exact .view i sz k n c a b (Nat.lt_of_lt_of_le h1 hn) h2 h3 h4 h5
 | fn f cs vs g hl hv h1 hr ih=>exact .fn f cs vs g hl hv h1 ih
 | ifc t c v hr ih=>exact .ifc t c v ih
 | mp i r h1 h2=>exact .mp i r (Nat.lt_of_lt_of_le h1 hn) h2
def cutH(B:Nat)(h:Hp):Hp:=⟨fun k=>match h.m k with | some o=>if k<B∨o.isCells=true then some o else none | none=>none,h.n⟩
theorem b2v{B:Nat}{h:Hp}{k:Nat}{o:Obj}(e:(cutH B h).m k=some o):h.m k=some o∧(k<B∨o.isCells=true):=by
 unfold cutH at e;simp only at e;split at e
 ·rename_i o' ho
  split at e
  ·rename_i hc;cases e;exact⟨ho,hc⟩
  ·cases e
 ·cases e
theorem b5A{B:Nat}{h:Hp}{k:Nat}{o:Obj}(e:h.m k=some o)(hc:k<B∨o.isCells=true):(cutH B h).m k=some o:=by
 unfold cutH;simp only[e,if_pos hc]
theorem a9N{B:Nat}{h:Hp}{k:Nat}(e:h.m k=none):(cutH B h).m k=none:=by
 unfold cutH;simp only[e]
theorem b4U{B:Nat}{h:Hp}{a:Addr}{v:Value}(e:a2c h a=some v):a2c (cutH B h) a=some v:=by
 unfold a2c at *;cases hb:h.m a.block with
 | none=>rw[hb]at e;cases e
 | some o =>
  rw[hb]at e;cases o <;> first | (cases e;done) | skip
  rw[b5A hb (.inr rfl)];exact e
theorem b0W{B:Nat}{L:Nat→Value}{h:Hp}{c:IC}{v:Value}(hd:Den L h c v):Den L (cutH B h) c v:=c2t (h:=h) (h':=cutH B h) (Nat.le_refl _) (fun a v e=>@b4U B h a v e) hd
def b4n:Option Ob→Bool
 | none=>true
 | some (.cells _ _)=>true
 | some (.row _ _ _ _)=>true
 | some (.arr _ _ _ _ _)=>true
 | _=>false
def b5I(W:World)(b:Nat):Prop:=∃ o,W.heap[b]?=some o∧o.isCells=true
structure RInv{P:Program}[a0h P](may:Nat→Prop)(w0:World)(h0:Base P)(k B:Nat)(own:List (Option Ob))(W:World):Prop where
 ex:∃ L F h,Mem (a0g may w0) L F h own W∧SubB h0 k L h∧(∀ x,h.m x≠none→h0.h.m x≠none∨a0g may w0 x)∧(∀ x o,B≤x→h.m x=some o→o.isCells=true)∧(∀ b,a0l F own b→b5I W b)
 keep:Keep may w0 W
section
variable {P:Program} [a0h P] {may:Nat→Prop} {w0 W:World} {h0:Base P} {k B:Nat} {own:List (Option Ob)}
theorem a7j{L:Nat→Value}{h:Hp}{F:Nat→Prop}{v:Value}{ob:Ob}(hp:b4n (some ob)=true)(hob:ObOk L h W v F ob):ObOk L (cutH B h) W v (fun b=>F b∧blk v=some b) ob∧∀ b,F b∧blk v=some b→b5I W b:=by
 cases ob with
 | cells t cs =>
  obtain⟨b,vs,h1,h2,h3,h4⟩:=hob;refine⟨⟨b,vs,h1,⟨h2,by rw[h1];rfl⟩,h3,h4.1,fun j c u hc hu=>b0W (h4.2 j c u hc hu)⟩,fun b' hb'=>?_⟩
  have:=hb'.2;rw[h1]at this;cases this;exact⟨_,h3,rfl⟩
 | row e sz n f =>
  obtain⟨vs,h1,h2,h3⟩:=hob;refine⟨⟨vs,h1,fun b hb=>⟨h2 b hb,hb⟩,h3.len,fun k hk j c hc=>?_⟩,fun b' hb'=>?_⟩
  ·obtain⟨u,g1,g2⟩:=h3.den k hk j c hc
   exact⟨u,g1,b0W g2⟩
  ·rcases h1.2 with⟨e,_⟩|⟨g,cap,cur,e1,_,e3,_⟩
   ·rw[e]at hb';cases hb'.2
   ·rw[e1]at hb'
    cases hb'.2;exact⟨_,e3,rfl⟩
 | arr e sz cap n f =>
  obtain⟨b,cur,h1,h2,h3,h4,h5,h6,h7⟩:=hob;refine⟨⟨b,cur,h1,⟨h2,by rw[h1];rfl⟩,h3,h4,h5,h6,h7.len,fun k hk j c hc=>?_⟩,fun b' hb'=>?_⟩
  ·obtain⟨u,g1,g2⟩:=h7.den k hk j c hc
   exact⟨u,g1,b0W g2⟩
  ·have:=hb'.2
   rw[h1]at this;cases this;exact⟨_,h3,rfl⟩
 | mp t es=>cases hp
 | iter s pos=>cases hp
 | abs p=>cases hp
theorem RInv.of_sat{st:St}{a:Act}(hs:Sat may w0 h0 st a W)(hp:st.own.all b4n=true)(hB:∀ x,h0.h.m x≠none→x<B):RInv may w0 h0 st.k B st.own W:=by
 obtain⟨⟨L,F,h,hm,ha,hsub,hnew⟩,hk⟩:=hs;have hpl:∀(i:Nat) ob,st.own[i]?=some (some ob)→b4n (some ob)=true:=fun i ob hi=>List.all_eq_true.1 hp _ (List.mem_of_getElem? hi);refine⟨⟨L,fun i b=>F i b∧blk (L i)=some b,cutH B h,⟨hm.hn,fun x o e=>hm.hsub x o (b2v e).1,fun i ob hi=>(a7j (hpl i ob hi) (hm.obs i ob hi)).1,fun i ob b hi hb=>?_,fun i j oi oj b hi hj hbi hbj=>hm.dis i j oi oj b hi hj hbi.1 hbj.1⟩,⟨⟨fun x o e=>?_,hsub.sub.n⟩,hsub.at_,hsub.kk⟩,fun x hx=>?_,fun x o hB e=>?_,fun b hb=>?_⟩,hk⟩
 ·obtain⟨f1,f2,f3⟩:=hm.foot i ob b hi hb.1
  exact⟨f1,a9N f2,f3⟩
 ·exact b5A (hsub.sub.m x o e) (.inl (hB x (by rw[e];simp)))
 ·refine hnew x (fun e=>hx (a9N e))
 ·rcases(b2v e).2 with h1 | h1
  ·omega
  ·exact h1
 ·obtain⟨i,ob,hi,hb⟩:=hb
  exact(a7j (B:=B) (hpl i ob hi) (hm.obs i ob hi)).2 b hb
theorem RInv.grown{W':World}{row:Option Nat}(hr:RInv may w0 h0 k B own W)(hB:w0.heap.size≤B)(hg:W.grownBy W' row)(hrow:∀ r,row=some r→B≤r∧∃ o:Obj,W.heap[r]?=some o∧o.isCells=false):RInv may w0 h0 k B own W':=by
 obtain⟨⟨L,F,h,hm,hsub,hnew,hcc,hft⟩,hk⟩:=hr;have hbl:∀ x o,W.heap[x]?=some o→(x<B∨o.isCells=true)→W'.heap[x]?=W.heap[x]?:=fun x o hx hc=>by
  refine hg.block x (Array.getElem?_eq_some_iff.1 hx).1 (fun e=>?_);obtain⟨h1,o',h2,h3⟩:=hrow x e.symm;rw[hx]at h2;cases h2;rcases hc with hc | hc
  ·omega
  ·rw[hc]at h3;cases h3
 have hmb:∀ x o,h.m x=some o→W'.heap[x]?=W.heap[x]?:=fun x o hx=>hbl x o (hm.hsub x o hx) (by
  rcases Nat.lt_or_ge x B with h1 | h1
  ·exact .inl h1
  ·exact .inr (hcc x o h1 hx))
 have hfb:∀ b,a0l F own b→W'.heap[b]?=W.heap[b]?:=fun b hb=>by
  obtain⟨o,h1,h2⟩:=hft b hb;exact hbl b o h1 (.inr h2)
 refine⟨⟨L,F,h,a4C hm hg.size hmb hfb,hsub,hnew,hcc,fun b hb=>?_⟩,⟨hg.os.trans hk.os,hg.tape.trans hk.tape,hg.output.trans hk.output,Nat.le_trans hk.size hg.size,fun x hx hn=>?_⟩⟩
 ·obtain⟨o,h1,h2⟩:=hft b hb
  exact⟨o,(hfb b hb).trans h1,h2⟩
 ·rw[←hk.block x hx hn]
  exact hg.block x (Nat.lt_of_lt_of_le hx hk.size) (fun e=>by
   have:=(hrow x e.symm).1
   omega)
theorem b1r{st:St}{L:Nat→Value}{F:Nat→Nat→Prop}{h:Hp}{hgl:a0h.ok P h.m}(hm:Mem (a0g may w0) L F h own W)(hsub:SubB h0 k L h)(hnew:∀ x,h.m x≠none→h0.h.m x≠none∨a0g may w0 x)(hk:Keep may w0 W)
  {a':Act} {W':World} (hs:Sat (a0l F own) W (⟨h,L,hgl⟩:Base P) st a' W'):Sat may w0 h0 ⟨st.n,k,st.env,st.own⟩ a' W':=by
 obtain⟨⟨L',F',h',hm',ha',hsub',hnew'⟩,hk'⟩:=hs;have hmine:∀ b,a0g (a0l F own) W b→a0g may w0 b:=fun b hb=>by
  rcases hb with⟨i,ob,hi,hb⟩ | hb
  ·exact(hm.foot i ob b hi hb).2.2
  ·exact .inr (Nat.le_trans hk.size hb)
 refine⟨⟨L',F',h',hm'.mine_mono (fun b ⟨i,ob,hi,hb⟩=>hmine b (hm'.foot i ob b hi hb).2.2),⟨ha'.size,ha'.env,ha'.defers⟩,⟨hsub.sub.trans hsub'.sub,fun i hi=>(hsub'.at_ i (Nat.lt_of_lt_of_le hi hsub.sub.n)).trans (hsub.at_ i hi),hsub.kk⟩,fun x hx=>?_⟩,hk.trans hk' (fun b ⟨i,ob,hi,hb⟩=>(hm.foot i ob b hi hb).2.2)⟩;rcases hnew' x hx with h1 | h1
 ·exact hnew x h1
 ·exact .inr (hmine x h1)
theorem b2Q{st:St}{a:Act}(hs:Sat may w0 h0 st a W):∃(b:Base P) (f:Nat→Prop),FzIn b.h.m W∧b.h.n=st.own.length∧a0r P b.L b.h st a∧Sat f W b ⟨st.n,st.own.length,st.env,st.own⟩ a W∧∀ st' a' W',Sat f W b st' a' W'→Sat may w0 h0 ⟨st'.n,st.k,st'.env,st'.own⟩ a' W':=by
 obtain⟨⟨L,F,h,hm,ha,hsub,hnew⟩,hk⟩:=hs;have hgl:a0h.ok P h.m:=a0h.mono h0.gl hsub.sub.m;exact⟨⟨h,L,hgl⟩,a0l F st.own,hm.hsub,hm.hn,ha,⟨⟨L,F,h,hm.mine_mono (fun b hb=>.inl hb),⟨ha.size,ha.env,ha.defers⟩,⟨Sub.refl h,fun _ _=>rfl,hm.hn.symm⟩,fun x hx=>.inl hx⟩,Keep.refl _ _⟩,fun st' a' W' hs'=>b1r (hgl:=hgl) hm hsub hnew hk hs'⟩
theorem RInv.open{n:Nat}{env:List (Nat × AV)}{a:Act}(hr:RInv may w0 h0 k B own W)(hB:w0.heap.size≤B)(ha:∀(L:Nat→Value) (h:Hp),Sub h0.h h→(∀ i,i<h0.h.n→L i=h0.L i)→a0r P L h ⟨n,k,env,own⟩ a) :
  ∃(b:Base P) (f:Nat→Prop),Sat f W b ⟨n,own.length,env,own⟩ a W∧∀ st' a' W',Sat f W b st' a' W'→KeepsOthers W W'∧Sat may w0 h0 ⟨st'.n,k,st'.env,st'.own⟩ a' W' ∧
   ∀ D o o',B≤D→W.heap[D]?=some o→o.isCells=false→Sat may w0 h0 ⟨st'.n,k,st'.env,st'.own⟩ a' (W'.putObj D o'):=by
 obtain⟨⟨L,F,h,hm,hsub,hnew,hcc,hft⟩,hk⟩:=hr;have hgl:a0h.ok P h.m:=a0h.mono h0.gl hsub.sub.m;have ha1:=ha L h hsub.sub hsub.at_;refine⟨⟨h,L,hgl⟩,a0l F own,⟨⟨L,F,h,hm.mine_mono (fun b hb=>.inl hb),⟨ha1.size,ha1.env,ha1.defers⟩,⟨Sub.refl h,fun _ _=>rfl,hm.hn.symm⟩,fun x hx=>.inl hx⟩,Keep.refl _ _⟩,fun st' a' W' hs'=>?_⟩;have hback:=b1r (hgl:=hgl) hm hsub hnew hk hs';have hko:KeepsOthers W W':=⟨hs'.keep.size,fun x o hx ho=>by
  rw[←hx];refine hs'.keep.block x (Array.getElem?_eq_some_iff.1 hx).1 (fun hf=>?_);obtain⟨o2,h1,h2⟩:=hft x hf
  rw[hx]at h1;cases h1;rw[ho]at h2;cases h2⟩
 refine⟨hko,hback,fun D o o' hD hDo ho=>?_⟩;obtain⟨⟨L',F',h',hm',ha',hsub',hnew'⟩,hk'⟩:=hs';have hDl:=(Array.getElem?_eq_some_iff.1 hDo).1;have hnf:¬a0g (a0l F own) W D:=fun hf=>by
  rcases hf with hf | hf
  ·obtain⟨o2,h1,h2⟩:=hft D hf
   rw[hDo]at h1;cases h1;rw[ho]at h2;cases h2
  ·omega
 have hmn:h'.m D=none:=by
  cases e:h'.m D with
  | none=>rfl
  | some o2 =>
   rcases hnew' D (by rw[e];simp)with h1 | h1
   ·cases e1:h.m D with
    | none=>exact absurd e1 h1
    | some o3 =>
     have:=hcc D o3 hD e1;have h4:=hm.hsub D o3 e1;rw[hDo]at h4;cases h4;rw[ho]at this;cases this
   ·exact absurd h1 hnf
 have hms:∀ x,x≠D→(W'.putObj D o').heap[x]?=W'.heap[x]?:=fun x hx=>World.putObj_heap_other hx;have hm2:Mem (a0g (a0l F own) W) L' F' h' st'.own (W'.putObj D o'):=a4C hm' (by simp[World.putObj]) (fun x o hx=>hms x (fun e=>by subst e;rw[hmn]at hx;cases hx)) (fun b ⟨i,ob,hi,hb⟩=>hms b (fun e=>by subst e;exact hnf (hm'.foot i ob b hi hb).2.2))
 have hmine:∀ b,a0g (a0l F own) W b→a0g may w0 b:=fun b hb=>by
  rcases hb with⟨i,ob,hi,hb⟩ | hb
  ·exact(hm.foot i ob b hi hb).2.2
  ·exact .inr (Nat.le_trans hk.size hb)
 have hkb:=hback.keep;refine⟨⟨L',F',h',hm2.mine_mono (fun b ⟨i,ob,hi,hb⟩=>hmine b (hm2.foot i ob b hi hb).2.2),⟨ha'.size,ha'.env,ha'.defers⟩,⟨hsub.sub.trans hsub'.sub,fun i hi=>(hsub'.at_ i (Nat.lt_of_lt_of_le hi hsub.sub.n)).trans (hsub.at_ i hi),hsub.kk⟩,fun x hx=>?_⟩,
  ⟨hkb.os,hkb.tape,hkb.output,by simpa [World.putObj]using hkb.size,fun x hx hn=>(hms x (by omega)).trans (hkb.block x hx hn)⟩⟩
 rcases hnew' x hx with h1 | h1
 ·exact hnew x h1
 ·exact .inr (hmine x h1)
end
section
variable {P:Program} {T:TT} {FF:FL} {may:Nat→Prop} {w0:World} {ops:Array Oper}
theorem b5Q{F:Fence}{n:Nat}{id:Nat}{d:Nat}{x:Operand}{ty:TypeId}{pos:String}{after:Array Edge}{K:Act→World→Prop}{Q:Exit→Act→World→Prop}{a:Act}{w:World}(h:K (a.put (some d) (a.eval x)) w) :
  (Code.region id #[{ dst:=some d,op:=.assign x,type:=ty,pos:=pos,after:=after,guard:=none }] false).wpIn F n P (Exit.then K Q) a w:=by
 refine wpIn_region_list ?_;refine wpListIn_plain rfl (fun Kc hK=>?_);refine⟨fun f hf=>(by cases hf),?_⟩
 rw[Oper.semAt_eq _ _ _ (fun c e=>by cases e)]
 exact hK _ _ (wpListIn_nil h)
theorem b8Y[a0h P]{L:Nat→Value}{F:Nat→Nat→Prop}{h:Hp}{hgl:a0h.ok P h.m}{w w':World}{a':Act}{st0:St}{fn:Func}{Q:AV→Prop}(hT:TTok P T)(h0n:h.n=0)(hs1:Sat (a0l F []) w (⟨h,L,hgl⟩:Base P) st0 a' w')
  (hr0:frzL (a6m st0 fn.results.toList) st0 (fun st'=>resL T st' fn.results.toList (retK Q))) :
  ∃ v,(results fn a'.tmps).run P w'=.ok v w'∧∃(r:AV) (u:Value) (L':Nat→Value) (F':Nat→Nat→Prop) (h':Hp) (own':List (Option Ob)),Ending.returned v=.returned u∧DenA L' h' r u∧(∀ i,i<h.n→L' i=L i)∧Mem (a0g (a0l F []) w) L' F' h' own' w' ∧
   Keep (a0l F []) w w'∧Sub h h'∧(∀ k,h'.m k≠none→h.m k≠none∨a0g (a0l F []) w k)∧own'=[]∧Q r:=by
 obtain⟨st',⟨⟨L',F',h',hm',ha',hsub,hnew'⟩,hk⟩,hr⟩:=a1E _ st0 hr0 hs1;obtain⟨r,v,⟨hcl,hQ⟩,hd,hrun⟩:=a2x (Q:=fun r=>cloA r=true∧Q r) hT hm' ha' (a4r (fun l h=>b0w h) hr);exact⟨_,hrun,r,v,L',F',⟨h'.m,0⟩,[],rfl,hd.clo 0 hcl,fun i hi=>by omega,⟨rfl,hm'.hsub,fun i ob hi=>by simp at hi,fun i ob b hi=>by simp at hi,fun i j oi oj b hi=>by simp at hi⟩,hk,⟨hsub.sub.m,by rw[h0n];exact Nat.le_refl _⟩,hnew',rfl,hQ⟩
theorem a0r.mono2[a0h P]{L L':Nat→Value}{h h':Hp}{st:St}{a:Act}(ha:a0r P L h st a)(hs:Sub h h')(hL:∀ i,i<h.n→L' i=L i){k:Nat}{own:List (Option Ob)}:a0r P L' h' ⟨st.n,k,st.env,own⟩ a :=
 ⟨ha.size,fun t av ht=>(ha.env t av ht).mono hs hL,ha.defers⟩
end
end Go.Eng
namespace Go.Eng
open Go Go.RowKit
theorem a6T{P:Program}{ops:Array Oper}{Q:Exit→Act→World→Prop}{C:World→Prop}{k:Nat}{hl el:List Nat}{a:Act}{w:World}(hmx:P.follows .mixedOrders=true)(hB:a8c ops k hl el=true)(hQ:∀ d v c a w,Q (.panic c) (a.put d v) w→Q (.panic c) a w)(hC:C { w with drawn:=w.drawn+1 })
  (h:a3O P ops C (fun a'=>a2I P ops Q C (fun a'' w'=>wpList P ops Q (ops.toList.drop k) a'' w') el a' { w with drawn:=w.drawn+1 }) hl a):wpAny P .any ops Q ops.size (Array.replicate ops.size false) a { w with drawn:=w.drawn+1 }:=by
 unfold a8c at hB;simp only[Bool.and_eq_true,decide_eq_true_eq]at hB;obtain⟨⟨⟨⟨⟨⟨⟨⟨⟨hs,hk⟩,ht⟩,hp⟩,hch⟩,hhk⟩,hek⟩,hnd⟩,hcov⟩,hlen⟩:=hB;have hsz0:(Array.replicate ops.size false).size=ops.size:=by simp
 have hcl:a1g .any ops (Array.replicate ops.size false):=fun i hi hx=>by simp[hi]at hx
 have hX:a1V P .any ops Q C (fun i=>decide (i<k)) (fun a'' w'=>wpList P ops Q (ops.toList.drop k) a'' w') (el.length+hl.length) (Array.replicate ops.size false) a { w with drawn:=w.drawn+1 }:=by
  refine a3d hs hQ el.length hl _ a _ hC (fun i hi=>List.all_eq_true.1 hhk i hi) hp h (fun a' hK=>?_);refine a3e el _ a' _ (by rw[a3Q,hsz0]) (a3R hl _ hcl hp) hch (fun i hi=>?_) (fun j hj hS hm=>?_) hnd hK
  ·have h1:=List.all_eq_true.1 hek i hi
   simp only[Bool.and_eq_true,Bool.not_eq_true']at h1;have hik:i<k:=of_decide_eq_true h1.1;refine⟨h1.1,?_⟩;rw[a2w _ _ _ _ (by rw[hsz0];omega),h1.2]
   simp[show i<ops.size by omega]
  ·have h1:=List.all_eq_true.1 hcov j (List.mem_range.2 (of_decide_eq_true hS))
   rw[Bool.or_eq_true]at h1;rw[a2w _ _ _ _ (by rw[hsz0];exact hj)]
   rcases h1 with h1 | h1
   ·rw[h1];rfl
   ·exact absurd (by simpa using h1) hm
 have hlenk:el.length+hl.length+(ops.toList.drop k).length=ops.size:=by
  rw[hlen,List.length_drop,Array.length_toList];omega
 have key:=a3v (Q:=Q) ht hk (ops.toList.drop k).length (fun listed a' w' hR hz h1 h2 hc =>
  a2s ht (ops.toList.drop k) k listed a' w' (fun j=>by rw[List.getElem?_drop,Array.getElem?_toList]) (by simp;omega) (Nat.le_refl _) hz h1 h2 hc hR) (el.length+hl.length) _ a _ hsz0 (fun j _ hj=>by simp[hj]) hcl hX
 rw[hlenk]at key;exact key
theorem b7b{ro:Option Nat}{n:Nat}{P:Program}{ops:Array Oper}{Q Q2:Exit→Act→World→Prop}{ds:List Deferred}{w:World}{a:Act}{l:List Oper}(hQ:∀ e a w,Q e a w→e=.normal)(hk:∀ a w,Q .normal a w→Q2 .normal (addD ds a) w)
  (hc:l.all a2Z=true) (h:wpList P ops Q l a w):wpListIn (a1W ro) n P ops Q2 l (addD ds a) w:=by
 have:=b0J (ro:=ro) (n:=n) (ds:=ds) (Q2:=Q2) (l2:=[]) hQ (fun a w h=>wpListIn_nil (hk a w h)) l a w hc h
 rwa [List.append_nil]at this
theorem b5Z{a:Act}(hd:a.defers=[])(m:Deferred):({ a with defers:=m::a.defers }:Act)=addD [m] a:=by
 obtain⟨t,d⟩:=a;cases hd;rfl
section
variable {P:Program} {T:TT} {FF:FL} {may:Nat→Prop} {w0:World} {ops:Array Oper}
theorem b7K[a0h P](k:Nat)(hl el ch:List Nat){h0:Base P}{K:St→Prop}{st:St}{a:Act}{w:World}(hmx:P.follows .mixedOrders=true)(hB:a8c ops k hl el=true)(hT:TTok P T)(hF:FTok P FF)
  (hp:b4A P T FF ops k hl el ch st K) (hs:Sat may w0 h0 st a w):wpAny P .any ops (fun e a' w'=>e=.normal∧∃ st',Sat may w0 h0 st' a' w'∧K st') ops.size (Array.replicate ops.size false) a { w with drawn:=w.drawn+1 }:=by
 obtain⟨n,kk,env,own⟩:=st;obtain⟨⟨L,F,h,hm,ha,hsub,hnew⟩,hk⟩:=hs;have hk0:Keep may w0 { w with drawn:=w.drawn+1 }:=⟨hk.os,hk.tape,hk.output,hk.size,hk.block⟩;have hm0:Mem (a0g may w0) L F h own { w with drawn:=w.drawn+1 }:=a1t hm (fun b _=>rfl) (Nat.le_refl _);have hBk:=hB;unfold a8c at hBk;simp only[Bool.and_eq_true,decide_eq_true_eq]at hBk;obtain⟨⟨⟨⟨⟨⟨⟨⟨⟨_,hkk⟩,_⟩,_⟩,_⟩,hhk⟩,hek⟩,_⟩,_⟩,_⟩:=hBk;generalize hwd:({ w with drawn:=w.drawn+1 }:World)=wd at hk0 hm0
 let may':Nat→Prop:=a0l F (a1s ch 0 own)
 have hmayF:∀ b,may' b→∃ i ob,own[i]?=some (some ob)∧ch.contains i=true∧F i b:=fun b ⟨i,ob,hi,hb⟩=>by
  have:=(a0v ch own 0 i ob).1 hi;rw[Nat.zero_add]at this;exact⟨i,ob,this.1,this.2,hb⟩
 have hmay:∀ b,may' b→a0g may w0 b:=fun b hb=>by
  obtain⟨i,ob,h1,_,h3⟩:=hmayF b hb;exact(hm0.foot i ob b h1 h3).2.2
 have hmine':∀ b,a0g may' wd b→a0g may w0 b:=fun b hb=>by
  rcases hb with hb | hb
  ·exact hmay b hb
  ·exact .inr (Nat.le_trans hk0.size hb)
 have hmH:Mem (a0g may w0) L F h (a2S ch 0 own) wd :=
  ⟨by rw[a4F];exact hm0.hn,hm0.hsub,fun i ob hi=>hm0.obs i ob ((a0G ch own 0 i ob).1 hi).1,fun i ob b hi=>hm0.foot i ob b ((a0G ch own 0 i ob).1 hi).1,
   fun i j oi oj b hi hj=>hm0.dis i j oi oj b ((a0G ch own 0 i oi).1 hi).1 ((a0G ch own 0 j oj).1 hj).1⟩
 have hmE:Mem (a0g may' wd) L F h (a1s ch 0 own) wd :=
  ⟨by rw[a4A];exact hm0.hn,hm0.hsub,fun i ob hi=>hm0.obs i ob ((a0v ch own 0 i ob).1 hi).1,fun i ob b hi hb=>⟨(hm0.foot i ob b ((a0v ch own 0 i ob).1 hi).1 hb).1,(hm0.foot i ob b ((a0v ch own 0 i ob).1 hi).1 hb).2.1,.inl ⟨i,ob,hi,hb⟩⟩,
   fun i j oi oj b hi hj=>hm0.dis i j oi oj b ((a0v ch own 0 i oi).1 hi).1 ((a0v ch own 0 j oj).1 hj).1⟩
 have hout:∀(i:Nat) (ob:Ob) (b:Nat),own[i]?=some (some ob)→ch.contains i=false→F i b→¬may' b:=fun i ob b hi hc hb hmb=>by
  obtain⟨j,oj,h1,h2,h3⟩:=hmayF b hmb;have:=hm0.dis i j ob oj b hi h1 hb h3;subst this;rw[hc]at h2;cases h2
 have hC:∀ w',Keep may' wd w'→Same F (a2S ch 0 own) h wd w':=fun w' hw' b hb=>by
  rcases hb with hb|⟨i,ob,hi,hb⟩
  ·cases ho:h.m b with
   | none=>exact absurd ho hb
   | some o =>
    refine hw'.block b (Array.getElem?_eq_some_iff.1 (hm0.hsub b o ho)).1 (fun hmb=>?_);obtain⟨j,oj,h1,_,h3⟩:=hmayF b hmb;exact hb (hm0.foot j oj b h1 h3).2.1
  ·have h1:=(a0G ch own 0 i ob).1 hi
   rw[Nat.zero_add]at h1;exact hw'.block b (hm0.foot i ob b h1.1 hb).1 (hout i ob b h1.1 h1.2 hb)
 have hlsz:∀ i,i∈hl→i<ops.size:=fun i hi=>by
  have:i<k:=of_decide_eq_true (List.all_eq_true.1 hhk i hi)
  omega
 have elsz:∀ i,i∈el→i<ops.size:=fun i hi=>by
  have:=List.all_eq_true.1 hek i hi;rw[Bool.and_eq_true]at this
  have:i<k:=of_decide_eq_true this.1
  omega
 rw[←hwd];refine a6T (Q:=fun e a' w'=>e=.normal∧∃ st',Sat may w0 h0 st' a' w'∧K st') (k:=k) (hl:=hl) (el:=el) (C:=Keep may' wd) hmx hB (fun d v c a w h=>by cases h.1) (by rw[hwd];exact Keep.refl _ _) ?_
 rw[hwd];unfold b4A at hp;simp only[a0q]at hp;have hH:=a8p (mine:=a0g may w0) (C:=Keep may' wd) hT hmH hC hl ⟨n,kk,env,a2S ch 0 own⟩ a hlsz ⟨rfl,rfl⟩ hp ⟨ha.size,ha.env,ha.defers⟩;refine a3c (fun a1 h1=>?_) hl a hH;obtain⟨⟨n1,kk1,env1,own1⟩,ha1,⟨rfl,rfl⟩,hp1⟩:=h1;simp only at hp1;have hsatE:Sat may' wd (⟨h,L,a0h.mono h0.gl hsub.sub.m⟩:Base P) ⟨n1,own.length,env1,a1s ch 0 own⟩ a1 wd :=
  ⟨⟨L,F,h,hmE,⟨ha1.size,ha1.env,ha1.defers⟩,⟨Sub.refl h,fun i hi=>rfl,hm0.hn.symm⟩,fun k hk=>.inl hk⟩,Keep.refl _ _⟩
 have hE:=a8e (Q:=fun e a' w'=>e=.normal∧∃ st',Sat may w0 h0 st' a' w'∧K st') (C:=Keep may' wd) hT hF (fun w' hw'=>hw') el _ a1 wd elsz hp1 hsatE;refine a3b (fun a2 w2 h2=>?_) el a1 wd hE;obtain⟨⟨n2,kk2,env2,own2⟩,⟨⟨L2,F2,h2,hm2,ha2,hsub2,hnew2⟩,hk2⟩,hem,hp2⟩:=h2;have hLL:∀ i,i<h.n→L2 i=L i:=fun i hi=>hsub2.at_ i hi;have hS2:Sub h h2:=hsub2.sub
 let F3:Nat→Nat→Prop:=fun i b=>(∃ x,own[i]?=some (some x)∧ch.contains i=false∧F i b)∨((∀ x,own[i]?=some (some x)→ch.contains i=true)∧F2 i b)
 have hnot:∀(i j:Nat) (ob o2:Ob) (b:Nat),own[i]?=some (some ob)→ch.contains i=false→F i b→own2[j]?=some (some o2)→F2 j b→False:=fun i j ob o2 b hi hc hb hj hb2=>by
  obtain⟨q1,q2,q3⟩:=hm2.foot j o2 b hj hb2;rcases q3 with q3 | q3
  ·exact hout i ob b hi hc hb q3
  ·have:=(hm0.foot i ob b hi hb).1
   omega
 have hF3a:∀(i:Nat) (ob:Ob),own[i]?=some (some ob)→ch.contains i=false→F3 i=F i:=fun i ob hi hc=>by
  funext b
  refine propext ⟨fun hb=>?_,fun hb=>.inl ⟨ob,hi,hc,hb⟩⟩;rcases hb with⟨_,_,_,hb⟩|⟨hx,_⟩
  ·exact hb
  ·rw[hx ob hi]at hc;cases hc
 have hF3b:∀(i:Nat),(∀ x,own[i]?=some (some x)→ch.contains i=true)→F3 i=F2 i:=fun i hx=>by
  funext b
  refine propext ⟨fun hb=>?_,fun hb=>.inr ⟨hx,hb⟩⟩;rcases hb with⟨x,h1,h2,_⟩|⟨_,hb⟩
  ·rw[hx x h1]at h2;cases h2
  ·exact hb
 have hmg:∀(i:Nat) (ob:Ob),(a1i ch 0 own own2)[i]?=some (some ob)→(own[i]?=some (some ob)∧ch.contains i=false∧F3 i=F i)∨(own2[i]?=some (some ob)∧F3 i=F2 i):=fun i ob hi=>by
  have:=a3A ch own own2 0 i ob hi;rw[Nat.zero_add]at this;rcases this with⟨h1,h2⟩|⟨h1,h2⟩
  ·exact .inl ⟨h1,h2,hF3a i ob h1 h2⟩
  ·exact .inr ⟨h1,hF3b i h2⟩
 have hm3:Mem (a0g may w0) L2 F3 h2 (a1i ch 0 own own2) w2:=by
  refine⟨by rw[a3z];exact hm2.hn,hm2.hsub,fun i ob hi=>?_,fun i ob b hi hb=>?_,fun i j oi oj b hi hj hbi hbj=>?_⟩
  ·rcases hmg i ob hi with⟨q1,q2,q3⟩|⟨q1,q3⟩
   ·have hlt:i<h.n:=by rw[hm0.hn];exact(List.getElem?_eq_some_iff.1 q1).1
    rw[q3,hLL i hlt];exact a0X (hm0.obs i ob q1) (fun b hb=>hk2.block b (hm0.foot i ob b q1 hb).1 (hout i ob b q1 q2 hb)) hLL hS2
   ·rw[q3];exact hm2.obs i ob q1
  ·rcases hmg i ob hi with⟨q1,q2,q3⟩|⟨q1,q3⟩
   ·rw[q3]at hb
    obtain⟨f1,f2,f3⟩:=hm0.foot i ob b q1 hb;refine⟨Nat.lt_of_lt_of_le f1 hk2.size,?_,f3⟩;cases ho:h2.m b with
    | none=>rfl
    | some o =>
     rcases hnew2 b (by rw[ho];simp)with h9 | h9 | h9
     ·exact absurd f2 h9
     ·exact absurd h9 (hout i ob b q1 q2 hb)
     ·omega
   ·rw[q3]at hb
    obtain⟨f1,f2,f3⟩:=hm2.foot i ob b q1 hb;exact⟨f1,f2,hmine' b f3⟩
  ·rcases hmg i oi hi with⟨q1,q2,q3⟩|⟨q1,q3⟩ <;> rcases hmg j oj hj with⟨r1,r2,r3⟩|⟨r1,r3⟩ <;> rw[q3]at hbi <;> rw[r3]at hbj
   ·exact hm0.dis i j oi oj b q1 r1 hbi hbj
   ·exact(hnot i j oi oj b q1 q2 hbi r1 hbj).elim
   ·exact(hnot j i oj oi b r1 r2 hbj q1 hbi).elim
   ·exact hm2.dis i j oi oj b q1 r1 hbi hbj
 refine a6q (may:=may) (w0:=w0) (h0:=h0) (K:=K) hT hF (fun st'' a'' w'' h1 h2=>⟨rfl,st'',h1,h2⟩) _ _ a2 w2 hp2 ⟨⟨L2,F3,h2,hm3,⟨ha2.size,ha2.env,ha2.defers⟩,hsub.step hLL hS2,fun x hx=>?_⟩,hk0.trans hk2 hmay⟩;rcases hnew2 x hx with h9 | h9
 ·exact hnew x h9
 ·exact .inr (hmine' x h9)
theorem b2T[a0h P]{h0:Base P}(k:Nat)(hl el ch:List Nat){ro:Option Nat}{nn:Nat}{id:Nat}{K:St→Prop}{st:St}{a:Act}{w:World}(hmx:P.follows .mixedOrders=true)(hB:a8c ops k hl el=true)(hca:ops.all a2Z=true)(hT:TTok P T)(hF:FTok P FF)
  (hp:b4A P T FF ops k hl el ch st K) (hs:Sat may w0 h0 st a w):(Code.region id ops true).wpIn (a1W ro) nn P (fun e a' w'=>e=.normal∧∃ st',Sat may w0 h0 st' a' w'∧K st') a w:=by
 have hany:=b7K k hl el ch hmx hB hT hF hp hs;have hin:=b8p (ro:=ro) (n:=nn) (ds:=[]) (fun⟨_,_,h⟩=>by cases h.1) hca _ _ _ _ hany
 rw[a5V]at hin;refine wpIn_mono (wpIn_region_any hmx hin) ?_;rintro e a' w' ⟨a0,rfl,h⟩;rw[a5V];exact h
end
end Go.Eng
namespace Go.Eng
open Go Go.RowKit
section
variable {P:Program} [a0h P]
end
end Go.Eng
namespace Go.Eng
open Go Go.RowKit
end Go.Eng
namespace Go.Eng
open Go Go.RowKit
theorem a8Z{w:World}{b:Nat}{old v:Value}{t:TypeId}{fr:Nat × Nat}(h:w.heap[b]?=some (.cells #[old] t fr)):(w.setCell ⟨b,0,none⟩ v).heap[b]?=some (.cells #[v] t fr):=by
 unfold World.setCell;show(w.heap.modify b _)[b]?=_;rw[Array.getElem?_modify,if_pos rfl,h];rfl
theorem a4p{w:World}{b:Nat}{v:Value}{k:Nat}(hk:k≠b):(w.setCell ⟨b,0,none⟩ v).heap[k]?=w.heap[k]?:=by
 unfold World.setCell;show(w.heap.modify b _)[k]?=_;rw[Array.getElem?_modify,if_neg (fun e=>hk e.symm)]
theorem a5x{w:World}{b:Nat}{v:Value}:(w.setCell ⟨b,0,none⟩ v).heap.size=w.heap.size:=by
 unfold World.setCell;exact Array.size_modify
theorem a8Y{w:World}{b:Nat}{v:Value}:(w.setCell ⟨b,0,none⟩ v).os=w.os∧(w.setCell ⟨b,0,none⟩ v).tape=w.tape∧(w.setCell ⟨b,0,none⟩ v).output=w.output:=⟨rfl,rfl,rfl⟩
section
variable {P:Program} [a0h P]
theorem b7G{f:FuncId}{pc cc:TypeId}{e old v:Value}(he:e.oneCell'=true)(hv:v.oneCell'=true)
  (hC:∀(m:Nat→Option Obj) (w:World) (b:Nat),a0h.ok P m→(∀ k o,m k=some o→w.heap[k]?=some o)→w.heap[b]?=some (.cells #[old] cc (0,0)) →
   Calls P f #[e,.iface pc (.pointer (some ⟨b,0,none⟩))] w (fun ev w'=>ev=.returned (.bool true)∧∃ w1,Below w.heap.size w w1∧w'=w1.setCell ⟨b,0,none⟩ v)) :
  a0f P f [.c (.v e),.c (.ifc pc (.own 0 0))] [some (.cells cc [.v old])] (fun r own'=>own'=[some (.cells cc [.v v])]∧r=.c (.v (.bool true))):=by
 refine⟨fun mine L F h w ws hgl hm hden=>?_⟩;obtain⟨hlen,hden⟩:=hden
 match ws,hlen with
 | [x,y],_ =>
  have hx:Den L h (.v e) x:=hden 0 _ _ rfl rfl;have hy:Den L h (.ifc pc (.own 0 0)) y:=hden 1 _ _ rfl rfl;cases hx;obtain⟨b,vs,e1,e2,e3,e4⟩:=hm.obs 0 _ rfl;cases hy with
  | ifc _ _ z hz =>
  cases hz with
  | own _ _ ad h1 h2 =>
  rw[e1]at h2;cases h2;obtain⟨u,r,rfl,g1,g2⟩:=e4.uncons;have:=a0u g1;subst this;have hr:=List.eq_nil_of_length_eq_zero g2.1.symm;subst hr;refine(hC h.m w b hgl hm.hsub e3).mono ?_;rintro ev w' ⟨rfl,w1,hb,rfl⟩;have hm1:=a1t hm (a0T hm hb) hb.size;obtain⟨f1,f2,f3⟩:=hm.foot 0 _ b rfl e2;have e3':w1.heap[b]?=some (.cells #[u] cc (0,0)):=by rw[hb.block b f1];exact e3
  have hm2:=a3V (w':=w1.setCell ⟨b,0,none⟩ v) (ob:=.cells cc [.v v]) hm1 (i:=0) (o:=.cells cc [.v u]) rfl a5x (fun k hk=>a4p (fun e=>hk (by rw[e];exact e2)))
   ⟨b,[v],e1,e2,a8Z e3',DenL.cons (Den.v _ hv) DenL.nil⟩
  refine⟨.c (.v (.bool true)),.bool true,L,F,h,[some (.cells cc [.v v])],rfl,Den.v _ rfl,fun _ _=>rfl,?_,?_,Sub.refl h,fun k hk=>.inl hk,rfl,rfl⟩
  ·exact hm2.mine_mono (fun q hq=>by
    obtain⟨i,ob,hi,hF⟩:=hq
    match i,hi with
    | 0,_=>exact .inl ⟨0,_,rfl,hF⟩)
  ·have hs:=a8Y (w:=w1) (b:=b) (v:=v)
   refine⟨hs.1.trans hb.os,hs.2.1.trans hb.tape,hs.2.2.trans hb.output,by rw[a5x];exact hb.size,fun k hk hn=>?_⟩
   rw[a4p (fun e=>hn ⟨0,_,rfl,by rw[e];exact e2⟩)]
   exact hb.block k hk
end
end Go.Eng
namespace Go.Eng
open Go Go.RowKit Go.Proofs Go.Shelf Go.Sort
theorem a3Y{α:Type}[Inhabited α](d:Array α)(i:Nat):d.toList.getD i default=d[i]!:=by
 rw[List.getD_eq_getElem?_getD,Array.getElem?_toList,Array.getElem!_eq_getD,Array.getD_eq_getD_getElem?]
theorem a5D{α:Type}[Inhabited α](enc:α→List Value)(k:Nat)(d:Array α)(i j:Nat)(hi:i<d.size)(hj:j<k)(hk:∀ x,(enc x).length=k):(flatK enc k d).toList[i*k+j]?=(enc (d.toList.getD i default))[j]?:=by
 have lt:i*k+j<d.size*k:=by
  have:=Nat.mul_le_mul_right k (show i+1≤d.size from hi);rw[Nat.add_mul,Nat.one_mul]at this;omega
 have e1:(i*k+j)/k=i:=(blk_iff k i _ (by omega)).1 ⟨by omega,by omega⟩
 have e2:(i*k+j)%k=j:=by rw[Nat.mod_eq_sub_div_mul,e1];omega
 have h:=get_flatK enc k d _ lt;rw[e1,e2]at h;rw[Array.getElem?_toList,a3Y];rw[Array.getElem?_eq_getElem (by rw[size_flatK];exact lt),List.getElem?_eq_getElem (by rw[hk];exact hj)]
 rw[getElem!_pos _ _ (by rw[size_flatK];exact lt),getElem!_pos _ _ (by rw[hk];exact hj)]at h
 rw[h]
theorem b2S{α:Type}[Inhabited α](L:Nat→Value)(h:Hp)(enc:α→List Value)(k:Nat)(d:Array α)(hk:∀ x,(enc x).length=k)(h1:∀ x,∀ v∈enc x,v.oneCell'=true) :
  RowD L h k d.size (fun i=>(enc (d.toList.getD i default)).map IC.v) (flatK enc k d).toList:=by
 refine⟨fun i hi=>by rw[List.length_map,hk],fun i hi j c hc=>?_⟩
 rw[List.getElem?_map]at hc;cases hu:(enc (d.toList.getD i default))[j]? with
 | none=>rw[hu]at hc;cases hc
 | some u =>
  rw[hu]at hc;cases hc;have hj:j<k:=by rw[←hk (d.toList.getD i default)];exact(List.getElem?_eq_some_iff.1 hu).1
  exact⟨u,(a5D enc k d i j hi hj hk).trans hu,.v u (h1 _ u (List.mem_of_getElem? hu))⟩
section
variable {P:Program} [a0h P] {ρ:Ren} {α:Type} [Inhabited α]
theorem a5q(L:SlLaysF0.n6 P ρ)(k:Nat)(aE:∀ w,(isAgg (ρ.t 24)).run P w=.ok true w)(zE:∀ w,(Go.sizeOf (ρ.t 24)).run P w=.ok k w)(enc:α→List Value)(hk:∀ x,(enc x).length=k)(h1:∀ x,∀ v∈enc x,v.oneCell'=true)
  (cf:α→α→Int) (hO:SWO (ltOf cf)) (g:Nat) (eg:∀ args w,(callFunc g args).run P w=.ok (.enter g args) w)
  (hC:∀ x y W,Calls P g #[.agg (enc x).toArray,.agg (enc y).toArray] W fun e w'=>e=.returned (.int .i64 (cf x y))∧∃ q os',w'=grow (W.drewN q) os')
  (e:TypeId) (xs:List α) (hn:xs.length<4611686018427387904) :
  a0f P (ρ.f 6) [.c (.row 0),.c (.fn g [])] [some (.row e k xs.length fun i=>(enc (xs.getD i default)).map IC.v)]
   (fun r own'=>∃ ys:List α,ys.Perm xs∧(∀ i j,i<j→j<ys.length→ltOf cf (ys.getD j default) (ys.getD i default)=false)∧r=.tup []∧own'=[some (.row e k ys.length fun i=>(enc (ys.getD i default)).map IC.v)]):=by
 refine⟨fun mine Lc F h w vs hgl hm hden=>?_⟩;obtain⟨hlen,hden⟩:=hden
 match vs,hlen with
 | [s,fv],_ =>
  have hs:=hden 0 _ _ rfl rfl;have hf:=hden 1 _ _ rfl rfl;have hf:fv=.func (.func g) #[] #[]:=by
   have:Den Lc h (.fn g []) fv:=hf
   cases this with
   | fn _ _ vs _ hl =>
    have:vs=[]:=List.eq_nil_of_length_eq_zero hl.symm
    subst this;rfl
  subst hf;obtain⟨ws,hr,hF,hD⟩:=hm.obs 0 _ rfl;have hLs:Lc 0=s:=by
   have:Den Lc h (.row 0) s:=hs
   cases this with
   | row _ _ _ _ _ h2=>exact h2
  rw[hLs]at hr hF;have hnone:xs.length=0→Calls P (ρ.f 6) [s,.func (.func g) #[] #[]].toArray w (fun e' w'=>e'=.returned (.tuple #[])∧w'=w)→Calls P (ρ.f 6) [s,.func (.func g) #[] #[]].toArray w (fun e_1 w'=>∃(r:AV) (v:Value) (L':Nat→Value) (F':Nat→Nat→Prop) (h':Hp) (own':List (Option Ob)),e_1=.returned v∧DenA L' h' r v∧(∀ i,i<h.n→L' i=Lc i)∧Mem (a0g (a0l F [some (.row e k xs.length fun i=>(enc (xs.getD i default)).map IC.v)]) w) L' F' h' own' w' ∧
   Keep (a0l F [some (.row e k xs.length fun i=>(enc (xs.getD i default)).map IC.v)]) w w'∧Sub h h'∧(∀ k_1,h'.m k_1≠none→h.m k_1≠none∨a0g (a0l F [some (.row e k xs.length fun i=>(enc (xs.getD i default)).map IC.v)]) w k_1) ∧
   (∃ ys:List α,ys.Perm xs∧(∀ i j,i<j→j<ys.length→ltOf cf (ys.getD j default) (ys.getD i default)=false)∧r=.tup []∧own'=[some (.row e k ys.length fun i=>(enc (ys.getD i default)).map IC.v)])):=by
   intro h0 hcall;refine hcall.mono ?_;rintro _ w' ⟨rfl,rfl⟩;refine⟨.tup [],.tuple #[],Lc,F,h,_,rfl,⟨[],rfl,rfl,fun j a u ha=>by cases ha⟩,fun _ _=>rfl,hm.mine_mono (fun b hb=>.inl hb),Keep.refl _ _,Sub.refl h,fun k hk=>.inl hk,xs,.refl _,fun i j _ hj=>by omega,rfl,rfl⟩
  rcases hr with⟨hwl,⟨rfl,h0⟩|⟨gb,cap,cur,rfl,_,a2c,hcap,hmax,hsz,htake⟩⟩
  ·exact hnone h0 (AnyF.slices_SortFunc_none L none 0 _ w)
  ·by_cases h0:xs.length=0
   ·have:=AnyF.slices_SortFunc_none L (some ⟨gb,0,none⟩) cap (.func (.func g) #[] #[]) w
    rw[h0]at hnone ⊢;exact hnone rfl this
   have hbl:gb<w.heap.size:=(Array.getElem?_eq_some_iff.1 a2c).1;have hFb:F 0 gb:=hF gb rfl;have hflat:ws=(flatK enc k xs.toArray).toList:=by
    refine List.ext_getElem? fun t=>?_;rcases Nat.lt_or_ge t (xs.length*k)with ht | ht
    ·have k0:0<k:=by
      rcases Nat.eq_zero_or_pos k with h | h
      ·subst h;simp at ht
      ·exact h
     have e1:t=t/k*k+t%k:=by have:=Nat.div_add_mod t k;rw[Nat.mul_comm]at this;exact this.symm
     have hi:t/k<xs.length:=(Nat.div_lt_iff_lt_mul k0).2 ht;have hj:=Nat.mod_lt t k0;rw[e1,a5D enc k xs.toArray _ _ (by simpa using hi) hj hk]
     have hx:((enc (xs.getD (t/k) default)).map IC.v)[t%k]?=some (.v ((enc (xs.getD (t/k) default))[t%k]'(by rw[hk];exact hj))):=by
      rw[List.getElem?_map,List.getElem?_eq_getElem (by rw[hk];exact hj)];rfl
     obtain⟨u,hu,hd⟩:=hD.den _ hi _ _ hx;rw[hu];rw[List.getElem?_eq_getElem (by rw[hk];exact hj)]
     congr 1
     generalize (enc (xs.getD (t/k) default))[t%k]'(by rw[hk];exact hj)=z at hd
     cases hd;rfl
    ·rw[List.getElem?_eq_none (by omega),List.getElem?_eq_none (by simp;exact ht)]
   have hcurlen:xs.length*k≤cur.size:=by rw[hsz];exact Nat.mul_le_mul_right _ hcap
   have hcurget:∀ t,t<xs.length*k→cur[t]?=(flatK enc k xs.toArray)[t]?:=fun t ht=>by
    have:=congrArg (fun l=>l[t]?) (htake.trans hflat);simp only[List.getElem?_take,if_pos ht,Array.getElem?_toList]at this;exact this
   have hH:HoldsK enc k w gb 0 xs.toArray:=fun j hj=>by
    rw[size_flatK]at hj;have hj':j<xs.length*k:=by simpa using hj
    have:=hcurget j hj';rw[Nat.zero_add];refine⟨?_,by simp[World.frozen?,a2c]⟩
    simp only[World.cell?,a2c];rw[if_neg (by simp),this,Array.getElem?_eq_getElem (by rw[size_flatK];exact hj),getElem!_pos _ _ (by rw[size_flatK];exact hj)]
    rfl
   have hmain:=AnyQ.slices_SortFunc L k aE zE enc hk h1 cf hO g #[] gb 0 cap xs.toArray w eg (fun m os dk _ x y=>hC x y _) hH hbl (by simpa using hn)
   have hmain:Calls P (ρ.f 6) [Value.slice (some ⟨gb,0,none⟩) xs.length cap,.func (.func g) #[] #[]].toArray w _:=hmain;refine hmain.mono ?_;rintro _ w' ⟨rfl,d',n,os,hp,hsd,rfl⟩;have hds:d'.size=xs.length:=by simpa using hp.1
   have hheap:∀ b,b<w.heap.size→(sortWorldK enc k w gb 0 n d' os).heap[b]?=if b=gb then some (.cells (putCells id 0 (flatK enc k d') cur) e (0,0))else w.heap[b]?:=fun b hb=>by
    show(((Sort.ahead w n).heap.modify gb (onCells (putCells id 0 (flatK enc k d'))))++os)[b]?=_;rw[Array.getElem?_append_left (by simpa [Sort.ahead]using hb),Array.getElem?_modify]
    by_cases hbg:b=gb
    ·subst hbg;rw[if_pos rfl,if_pos rfl];show Option.map _ w.heap[b]?=_;rw[a2c];rfl
    ·rw[if_neg (Ne.symm hbg),if_neg hbg];rfl
   have hsize:w.heap.size≤(sortWorldK enc k w gb 0 n d' os).heap.size:=size_sortWorldK_c enc k w gb 0 n d' os;refine⟨.tup [],.tuple #[],Lc,F,h,[some (.row e k d'.toList.length fun i=>(enc (d'.toList.getD i default)).map IC.v)],rfl,⟨[],rfl,rfl,fun j a u ha=>by cases ha⟩,fun _ _=>rfl,
    ⟨hm.hn,fun b o hb=>?_,fun i ob hi=>?_,fun i ob b hi hb=>?_,fun i j oi oj b hi hj _ _=>?_⟩,⟨rfl,rfl,rfl,hsize,fun b hb hno=>?_⟩,Sub.refl h,fun b hb=>.inl hb,d'.toList,?_,fun i j hij hj=>?_,rfl,rfl⟩
   ·have h2:=hm.hsub b o hb
    rw[hheap b (Array.getElem?_eq_some_iff.1 h2).1,if_neg (fun hbg=>?_)]
    ·exact h2
    ·subst hbg
     have:=(hm.foot 0 _ b rfl hFb).2.1;rw[this]at hb;cases hb
   ·match i,hi with
    | 0,hi =>
     cases hi;rw[hLs];refine⟨(flatK enc k d').toList,⟨by simp,.inr ⟨gb,cap,putCells id 0 (flatK enc k d') cur,by simp[hds],Nat.zero_le _,by rw[hheap gb hbl,if_pos rfl],by simpa [hds]using hcap,hmax,by simpa [putCells]using hsz,?_⟩⟩,fun b hb=>hF b hb,?_⟩
     ·refine List.ext_getElem? fun t=>?_
      rw[List.getElem?_take]
      by_cases ht:t<d'.toList.length*k
      ·rw[if_pos ht,Array.getElem?_toList,Array.getElem?_toList]
       have ht':t<d'.size*k:=by simpa using ht
       have htc:t<cur.size:=by rw[hds]at ht';omega
       simp only[putCells,Array.getElem?_mapIdx];rw[Array.getElem?_eq_getElem htc,Option.map_some,if_pos ⟨Nat.zero_le _,by rw[size_flatK];omega⟩,Nat.sub_zero,Array.getElem?_eq_getElem (by rw[size_flatK];exact ht'),getElem!_pos _ _ (by rw[size_flatK];exact ht')]
       rfl
      ·rw[if_neg ht,List.getElem?_eq_none (by simpa using ht)]
     ·have:=b2S Lc h enc k d' hk h1
      simpa using this
    | i+1,hi=>simp at hi
   ·match i,hi with
    | 0,hi =>
     have hx:=hm.foot 0 _ b rfl hb;exact⟨Nat.lt_of_lt_of_le hx.1 hsize,hx.2.1,.inl ⟨0,_,rfl,hb⟩⟩
    | i+1,hi=>simp at hi
   ·match i,j,hi,hj with
    | 0,0,_,_=>rfl
    | i+1,_,hi,_=>simp at hi
    | 0,j+1,_,hj=>simp at hj
   ·rw[hheap b hb,if_neg (fun hbg=>hno ⟨0,_,rfl,by rw[hbg];exact hFb⟩)]
   ·have:=hp.2.2
    rw[Array.extract_eq_self_of_le (by simpa using Nat.le_of_eq hds),Array.extract_eq_self_of_le (by simp)]at this
    simpa using this
   ·rw[a3Y,a3Y]
    exact hsd i j (Nat.zero_le _) hij (by simpa [hds]using hj)
end
end Go.Eng
namespace Go.Eng
open Go Go.RowKit Go.Proofs Go.Shelf
section
variable {P:Program} [a0h P] {ρ:Ren}
theorem a4N(L:Lays8.n4 P ρ)(i0:TypeInfo)(z:Value)(hi0:P.info? (ρ.t 25)=some i0)(hz0:i0.zero=some z)(hs0:0<i0.size)(hzs:z.cells.size=i0.size)
  (n:Nat) (hbig:n*i0.bytes≤140737488355328) (hn:n≤4611686018427387904) (f:Nat→List IC) :
  a0f P (ρ.f 4) [.c (.v (.slice none 0 0)),.c (.v (.int .i64 n))] [] (fun r own'=>r=.c (.row 0)∧own'=[some (.row (ρ.t 25) i0.size 0 f)]):=by
 refine⟨fun mine Lc F h w vs hgl hm hden=>?_⟩;obtain⟨hlen,hden⟩:=hden
 match vs,hlen with
 | [s,nv],_ =>
  have hs:s=.slice none 0 0:=a0u (hden 0 _ _ rfl rfl);have hv:nv=.int .i64 n:=a0u (hden 1 _ _ rfl rfl);subst hs hv;have hn0:h.n=0:=hm.hn;have hL:∀(u:Value) i,i<h.n→upd Lc 0 u i=Lc i:=fun u i hi=>by omega
  by_cases h0:n=0
  ·subst h0
   refine(Any8.slices_Grow_room L none 0 0 0 w (Nat.le_refl _) (by omega) (by omega) (by omega)).mono ?_
   rintro _ w' ⟨rfl,rfl⟩;have hm':=a1R (v:=.slice none 0 0) (G:=fun _=>False) (ob:=.row (ρ.t 25) i0.size 0 f) hm ⟨[],World.ownsRow_nil _ 0 _ _,(fun b hb=>by cases hb),⟨fun k hk=>by omega,fun k hk=>by omega⟩⟩ (fun b hb=>hb.elim) (fun b hb=>hb.elim)
   refine⟨.c (.row 0),_,upd Lc 0 (.slice none 0 0),_,_,_,rfl,.row 0 none 0 0 (by simp[Hp.more]) rfl,hL _,hm'.mine_mono (fun b hb=>?_),Keep.refl _ _,a0z h 1,fun k hk=>.inl hk,rfl,rfl⟩
   obtain⟨i,ob,hi,hb⟩:=hb
   match i,hi with
   | 0,hi=>exact hb.elim
   | i+1,hi=>simp at hi
  ·refine(Any8.slices_Grow_grow L i0 z hi0 hz0 hs0 none 0 0 n [] w (Nat.le_refl _) (by omega) (by simpa using hbig) (by omega) (by simp) (fun _=>rfl) (fun a ha=>by cases ha)).mono ?_
   rintro _ w' ⟨rfl,rfl⟩;have hge:=grownCap_ge w (0+n) 0 (ρ.t 25);have hcm:grownCap w (0+n) 0 (ρ.t 25)≤maxLen:=grownCap_le_maxLen w (0+n) 0 (ρ.t 25) (by unfold maxLen;omega)
   have hgl':=hge;generalize grownCap w (0+n) 0 (ρ.t 25)=cap at hge hcm ⊢;obtain⟨cur,hcur⟩:∃ cur,cur=(([]:List Value).toArray++Builtin.zeroCells z.cells (0+n-0)++Builtin.zeroCells z.cells (cap-(0+n))):=⟨_,rfl⟩;have hsz:cur.size=cap*i0.size:=by
    rw[hcur];simp[size_zeroCells,hzs];rw[←Nat.add_mul]
    congr 1
    omega
   rw[←hcur];have hheap:(w.drew.alloc (.cells cur (ρ.t 25))).heap[w.heap.size]?=some (.cells cur (ρ.t 25) (0,0)):=a0C w.drew _;have hold:∀ b,b<w.heap.size→(w.drew.alloc (.cells cur (ρ.t 25))).heap[b]?=w.heap[b]?:=fun b hb=>by
    show(w.heap.push _)[b]?=_;rw[Array.getElem?_push,if_neg (by omega)]
   have hno:∀(i:Nat) (ob:Ob),([]:List (Option Ob))[i]?≠some (some ob):=fun i ob hi=>by simp at hi
   have hmw:Mem (fun b=>mine b∨w.heap.size≤b) Lc F h [] (w.drew.alloc (.cells cur (ρ.t 25))) :=
    ⟨hm.hn,fun k o hk=>by rw[hold k (Array.getElem?_eq_some_iff.1 (hm.hsub k o hk)).1];exact hm.hsub k o hk,fun i ob hi=>(hno i ob hi).elim,fun i ob b hi=>(hno i ob hi).elim,fun i j oi oj b hi=>(hno i oi hi).elim⟩
   have hm':=a1R (v:=.slice (some ⟨w.heap.size,0,none⟩) 0 cap) (G:=fun b=>b=w.heap.size) (ob:=.row (ρ.t 25) i0.size 0 f) hmw
    ⟨[],⟨by simp,.inr ⟨w.heap.size,cap,cur,rfl,Nat.zero_le _,hheap,Nat.zero_le _,hcm,hsz,by simp⟩⟩,(fun b hb=>by cases hb;rfl),⟨fun k hk=>by omega,fun k hk=>by omega⟩⟩
    (fun b hb=>by subst hb;exact⟨(Array.getElem?_eq_some_iff.1 hheap).1,a9y hm.hsub (Nat.le_refl _),.inr (Nat.le_refl _)⟩) (fun b _ ⟨i,ob,hi,_⟩=>hno i ob hi)
   refine⟨.c (.row 0),_,upd Lc 0 (.slice (some ⟨w.heap.size,0,none⟩) 0 cap),_,_,_,rfl,.row 0 _ 0 cap (by simp[Hp.more]) rfl,hL _,hm'.mine_mono (fun b hb=>?_),⟨rfl,rfl,rfl,?_,fun b hb _=>hold b hb⟩,a0z h 1,fun k hk=>.inl hk,rfl,rfl⟩
   ·obtain⟨i,ob,hi,hb⟩:=hb
    match i,hi with
    | 0,hi =>
     have hb:b=w.heap.size:=hb;rw[hb];exact .inr (Nat.le_refl _)
    | i+1,hi=>simp at hi
   ·show w.heap.size≤(w.heap.push _).size
    simp
end
end Go.Eng
namespace Go.Eng
open Go
section
variable {P:Program} {T:TT} {FF:FL} {may:Nat→Prop} {L:Nat→Value} {F:Nat→Nat→Prop} {h:Hp} {w w0:World} {ops:Array Oper}
end
end Go.Eng
