/- A part of the proof. -/
import Derived.Test.YteglopjljejjkabGreatDoorGA9TA13
import Derived.Orders
import Derived.Lib.Overlaps
import Derived.ChangeArms
import Derived.Deep.Slices
import Derived.WideShapes
import Derived.Shelf.Unicode.DecodeSlow
set_option linter.unusedVariables false
set_option linter.unusedSimpArgs false
namespace Go.Eng
open Go Go.RowKit
def flat:AV→Bool
 | .tup _=>false
 | .top=>false
 | _=>true
def res1(T:TT)(st:St)(rv:ResultVar)(K:AV→Prop):Prop :=
 match rv with
 | .tmp t=>match st.env.lookup t with
  | some a=>ifD (flat a=true) (K a)
  | none=>False
 | .cell p ty=>match st.env.lookup p with
  | some (.c c)=>a5I T st ty c (fun a=>ifD (flat a=true) (K a))
  | _=>False
def resL(T:TT)(st:St)(l:List ResultVar):(List AV→Prop)→Prop :=
 List.rec (motive:=fun _=>(List AV→Prop)→Prop) (fun K=>K []) (fun r _ ih K=>res1 T st r (fun a=>ih (fun l=>K (a::l)))) l
def retV:List AV→AV
 | [a]=>a
 | l=>.tup l
def retK(Q:AV→Prop)(l:List AV):Prop :=
 match l with
 | [a]=>ifD (cloA a=true) (Q a)
 | l=>ifD (cloA (.tup l)=true) (Q (.tup l))
theorem b0w{Q:AV→Prop}{l:List AV}(h:retK Q l):cloA (retV l)=true∧Q (retV l):=by
 match l,h with
 | [],h=>exact a0j (p:=cloA (.tup [])=true) h
 | [a],h=>exact a0j (p:=cloA a=true) h
 | a::b::r,h=>exact a0j (p:=cloA (.tup (a::b::r))=true) h
def b0B(own:List (Option Ob)):List IC→List Nat
 | []=>[]
 | .row j::r=>j::b0B own r
 | .own j _::r=>(match own[j]? with | some (some (.cells _ cs))=>b2R cs++[j] | _=>[])++b0B own r
 | .ifc _ (.own j _)::r=>(match own[j]? with | some (some (.cells _ cs))=>b2R cs++[j] | _=>[])++b0B own r
 | _::r=>b0B own r
def c3H(own:List (Option Ob)):AV→List Nat
 | .c x=>b0B own [x]
 | .agg xs=>b0B own xs
 | .tup _=>[]
 | .top=>[]
def a6m(st:St):List ResultVar→List Nat
 | []=>[]
 | .tmp t::r=>(match st.env.lookup t with | some a=>c3H st.own a | none=>[])++a6m st r
 | .cell p _::r=>(match st.env.lookup p with
  | some (.c (.own i _))=>(match st.own[i]? with | some (some (.cells _ cs))=>b0B st.own cs | _=>[])
  | _=>[])++a6m st r
def env0(args:List AV):List (Nat × AV):=args.zipIdx.map fun x=>(x.2,x.1)
section
variable {P:Program} {T:TT} {FF:FL} {mine may:Nat→Prop} {L:Nat→Value} {F:Nat→Nat→Prop} {h:Hp} {st:St} {a:Act} {w w0:World}
theorem a5P{t:TypeId}{cs:List IC}{K K':AV→Prop}(hk:∀ a,K a→K' a)(h:ldP T t cs K):ldP T t cs K':=by
 unfold ldP at *;split at h
 ·split at h
  ·have:=a0j h
   unfold ifD at *;split <;> simp_all
  ·split at h
   ·exact hk _ h
   ·exact h
 ·exact h
theorem b2c{p:Prop}[d:Decidable p]{x:Prop}(hp:p)(hx:x):ifD p x:=by
 unfold ifD;rw[decide_eq_true hp];exact hx
theorem b2Y{t:TypeId}{c:IC}{K K':AV→Prop}(hk:∀ a,K a→K' a)(h:a5I T st t c K):a5I T st t c K':=by
 unfold a5I at *;split at h
 ·split at h
  ·exact a5P hk h
  ·exact h
 ·exact a5P hk h
 ·split at h
  ·have:=a0j h
   exact b2c this.1 (a5P hk this.2)
  ·have:=a0j h
   exact b2c this.1 ⟨this.2.1,a5P hk this.2.2⟩
  ·exact h
 ·exact h
theorem b4f{rv:ResultVar}{K K':AV→Prop}(hk:∀ a,K a→K' a)(h:res1 T st rv K):res1 T st rv K':=by
 unfold res1 at *;split at h
 ·split at h
  ·have:=a0j h
   exact b2c this.1 (hk _ this.2)
  ·exact h
 ·split at h
  ·exact b2Y (fun a ha=>by have:=a0j ha;exact b2c this.1 (hk _ this.2)) h
  ·exact h
theorem a4r:∀{rs:List ResultVar} {K K':List AV→Prop},(∀ l,K l→K' l)→resL T st rs K→resL T st rs K'
 | [],K,K',hk,h=>hk _ h
 | r::rs,K,K',hk,h=>b4f (fun a ha=>a4r (fun l hl=>hk _ hl) ha) h
theorem b2n{av:AV}{v:Value}(hf:flat av=true)(hd:DenA L h av v):Den1 L h av v:=by cases av <;> first | exact hd | cases hf
theorem b2t{av:AV}{v:Value}(hd:Den1 L h av v):DenA L h av v:=by cases av <;> first | exact hd | exact hd.elim
theorem b4D{c:IC}{K:AV→Prop}{p:Value}{t:TypeId}(hd:Den L h c p)(hp:a5I T st t c K):∃ ad,p=.pointer (some ad):=by
 unfold a5I at hp;cases hd <;> first | exact⟨_,rfl⟩ | exact hp.elim
theorem b9f[a0h P](hT:TTok P T)(hm:Mem mine L F h st.own w)(ha:a0r P L h st a){rv:ResultVar}{K:AV→Prop}(hp:res1 T st rv K):∃ av v,K av∧Den1 L h av v∧flat av=true ∧
  ∀(f:ResultVar→Sem Value),(∀ u,f (.tmp u)=pure (a.tmps.getD u undef))→(∀ p t,f (.cell p t)=(do loadVar t (←asAddr (a.tmps.getD p undef))))→(f rv).run P w=.ok v w:=by
 unfold res1 at hp;split at hp
 ·split at hp
  ·rename_i t av hl
   have h1:=ha.env _ _ hl;have hp:=a0j hp;refine⟨av,_,hp.2,b2n hp.1 h1,hp.1,fun f hf _=>?_⟩;rw[hf];rfl
  ·exact hp.elim
 ·rename_i p ty
  split at hp
  ·rename_i c hl
   have hd:Den L h c _:=ha.env _ _ hl;obtain⟨av,v,hK0,h2,h3⟩:=b4C hT hm hd hp;obtain⟨hfl,hK⟩:=a0j hK0;obtain⟨ad,e⟩:=b4D hd hp;refine⟨av,v,hK,b2n hfl h2,hfl,fun f _ hf=>?_⟩;have:=h3 w (fun _ _=>rfl);rw[hf];rw[e]at this ⊢;simp only[Instr.loadAt,Instr.sureAddr,Sem.run_bind,Sem.run_pure,Result.andThen_ok]at this ⊢;simp only[asAddr,Sem.run_pure,Result.andThen_ok];exact this
  ·exact hp.elim
theorem b4e[a0h P](hT:TTok P T)(hm:Mem mine L F h st.own w)(ha:a0r P L h st a):∀(rs:List ResultVar) (K:List AV→Prop),resL T st rs K→∃ l vs,K l∧l.length=vs.length∧(∀(j:Nat) av v,l[j]?=some av→vs[j]?=some v→Den1 L h av v∧flat av=true) ∧
  ∀(f:ResultVar→Sem Value),(∀ u,f (.tmp u)=pure (a.tmps.getD u undef))→(∀ p t,f (.cell p t)=(do loadVar t (←asAddr (a.tmps.getD p undef))))→(rs.mapM f).run P w=.ok vs w
 | [],K,hp=>⟨[],[],hp,rfl,(fun j av v hj=>by simp at hj),fun f _ _=>by simp⟩
 | r::rs,K,hp=>by
  obtain⟨av,v,h1,h2,h3,h4⟩:=b9f hT hm ha hp;obtain⟨l,vs,k1,k0,k2,k3⟩:=b4e hT hm ha rs _ h1;refine⟨av::l,v::vs,k1,by simp[k0],fun j av' v' hj hv=>?_,fun f hf hc=>?_⟩
  ·cases j with
   | zero=>simp at hj hv;subst hj hv;exact⟨h2,h3⟩
   | succ j=>simp at hj hv;exact k2 j av' v' hj hv
  ·rw[List.mapM_cons]
   simp[h4 f hf hc,k3 f hf hc]
theorem a2x[a0h P](hT:TTok P T)(hm:Mem mine L F h st.own w)(ha:a0r P L h st a){fn:Func}{Q:AV→Prop}(hp:resL T st fn.results.toList (fun l=>Q (retV l))):∃ r v,Q r∧DenA L h r v∧(results fn a.tmps).run P w=.ok v w:=by
 obtain⟨l,vs,h1,h0,h2,h3⟩:=b4e hT hm ha _ _ hp;have hrun:(results fn a.tmps).run P w=.ok (if hl:vs.toArray.size=1 then vs.toArray[0]else .tuple vs.toArray) w:=by
  unfold results;rw[show fn.results=fn.results.toList.toArray from by simp,List.mapM_toArray]
  simp only[Sem.run_bind,Sem.run_map];rw[h3]
  ·simp
  ·intro u;rfl
  ·intro p t;rfl
 refine⟨_,_,h1,?_,hrun⟩
 match l,vs,h0,h2 with
 | [],[],_,_=>exact⟨[],rfl,rfl,fun j a u ha=>by simp at ha⟩
 | [x],[v],_,h2=>exact b2t (h2 0 x v rfl rfl).1
 | x::y::l,v::u::vs,h0,h2=>exact⟨_,rfl,h0,fun j a' u' ha hu=>(h2 j a' u' ha hu).1⟩
theorem b0H(args:List AV)(t:Nat):∀(k:Nat),((args.zipIdx k).map fun x=>(x.2,x.1)).lookup t=if k≤t then args[t-k]? else none:=by
 induction args with
 | nil=>intro k;simp
 | cons x r ih =>
  intro k;rw[List.zipIdx_cons,List.map_cons,List.lookup_cons]
  by_cases e:t=k
  ·subst e;simp
  ·have e':(t==k)=false:=by simpa using e
   rw[e'];simp only;rw[ih (k+1)]
   by_cases hk:k+1≤t
   ·rw[if_pos hk,if_pos (by omega)]
    have:t-k=(t-(k+1))+1:=by omega
    rw[this,List.getElem?_cons_succ]
   ·rw[if_neg hk,if_neg (by omega)]
theorem a7G[a0h P]{args:List AV}{vs:List Value}{n:Nat}(hn:args.length≤n)(hd:a2W L h args vs)(k:Nat)(own:List (Option Ob))(hD:a0h.ds P=[]):a0r P L h ⟨n,k,env0 args,own⟩ { tmps:=vs.toArray++Array.replicate (n-vs.toArray.size) undef,defers:=[] }:=by
 have hl:=hd.len;refine⟨by simp;omega,fun t av hl=>?_,hD.symm⟩
 unfold env0 at hl;simp only[b0H args t 0,Nat.zero_le,if_true,Nat.sub_zero]at hl;have hlt:=(List.getElem?_eq_some_iff.1 hl).1;have hlv:t<vs.length:=by omega
 rw[Array.getD_eq_getD_getElem?,Array.getElem?_append_left (by simpa using hlv)]
 simp[hlv];exact hd.den t av _ hl (by simp[hlv])
theorem a0i[a0h P]{own:List (Option Ob)}{f:FuncId}{fn:Func}{c:Code}(hf:P.funcs[f]?=some fn)(hb:fn.body=some c)(hT:TTok P T)(hF:FTok P FF){args:List AV}{n:Nat}(hnn:fn.ntmps=n){rs:List ResultVar}(hrs:fn.results.toList=rs){env:List (Nat × AV)}(henv:env0 args=env)(hn:args.length≤n){k:Nat}(hk:own.length=k){Q:AV→List (Option Ob)→Prop}
  (hv:vc P T FF c (fun e st'=>match e with | .exit _=>False | _=>∃ st1,Weak st' st1∧resL T st1 rs (fun l=>∃ ob,a9A k ob=true∧a2X ob=true∧Q (sbA (up (renT ob)) (retV l)) (ob.map (a1K st1.own (up (renT ob)))))) ⟨n,k,env,own⟩) (hD:a0h.ds P=[]:=by rfl):a0f P f args own Q:=by
 subst hnn hrs henv hk;refine⟨fun mine L F h w vs hgl hm hden=>?_⟩;have hm0:Mem (a0g (a0l F own) w) L F h own w:=hm.mine_mono (fun b hb=>.inl hb);have hs:Sat (a0l F own) w (⟨h,L,hgl⟩:Base P) ⟨fn.ntmps,own.length,env0 args,own⟩ { tmps:=vs.toArray++Array.replicate (fn.ntmps-vs.toArray.size) undef,defers:=[] } w :=
  ⟨⟨L,F,h,hm0,a7G hn hden own.length own hD,⟨Sub.refl h,fun _ _=>rfl,hm.hn.symm⟩,fun k hk=>.inl hk⟩,Keep.refl _ w⟩
 refine calls_of_wp hf hb (Code.wp_mono (fun e a' w' hh=>?_) (a4i hT hF c _ _ _ _ hv hs));obtain⟨e',st0,rfl,hs1,he⟩:=hh;have hr:∃ st1,Weak st0 st1∧resL T st1 fn.results.toList (fun l=>∃ ob,a9A own.length ob=true∧a2X ob=true∧Q (sbA (up (renT ob)) (retV l)) (ob.map (a1K st1.own (up (renT ob))))):=by
  cases e' with
  | normal=>exact he
  | exit i=>exact he.elim
  | ret=>exact he
 obtain⟨st1,hw,hr⟩:=hr;obtain⟨⟨L',F',h',hm',ha',hsub,hnew'⟩,hk⟩:=hw.out _ _ _ _ _ hs1;obtain⟨r,v,⟨ob,ho1,ho2,hQ⟩,hd,hrun⟩:=a2x (Q:=fun r=>∃ ob,a9A own.length ob=true∧a2X ob=true∧Q (sbA (up (renT ob)) r) (ob.map (a1K st1.own (up (renT ob))))) hT hm' ha' hr;have hkk:st1.k=own.length:=by rw[hsub.kk];exact hm.hn
 have hsub2:=a8V (by rw[hkk];exact ho1) hsub
 have fin:a'.defers=[]∧∃ v,(results fn a'.tmps).run P w'=.ok v w'∧∃(r:AV) (u:Value) (L':Nat→Value) (F':Nat→Nat→Prop) (h':Hp) (own':List (Option Ob)),Ending.returned v=.returned u∧DenA L' h' r u∧(∀ i,i<h.n→L' i=L i)∧Mem (a0g (a0l F own) w) L' F' h' own' w' ∧
   Keep (a0l F own) w w'∧Sub h h'∧(∀ k,h'.m k≠none→h.m k≠none∨a0g (a0l F own) w k)∧Q r own' :=
  ⟨ha'.defers.trans hD,_,hrun,_,v,_,_,_,_,rfl,(a7T L' h' ob).denA hd,hsub2.at_,a7Z ho2 hm',hk,hsub2.sub,hnew',hQ⟩
 cases e' with
 | normal=>exact fin
 | exit i=>exact he.elim
 | ret=>exact fin
theorem a0e[a0h P]{f:FuncId}{fn:Func}{c:Code}(hf:P.funcs[f]?=some fn)(hb:fn.body=some c)(hT:TTok P T)(hF:FTok P FF){args:List AV}{n:Nat}(hnn:fn.ntmps=n){rs:List ResultVar}(hrs:fn.results.toList=rs){env:List (Nat × AV)}(henv:env0 args=env)(hn:args.length≤n){Q:AV→Prop}
  (hv:vc P T FF c (fun e st'=>match e with | .exit _=>False | _=>frzL (a6m st' rs) st' fun st'=>resL T st' rs (retK Q)) ⟨n,0,env,[]⟩) (hD:a0h.ds P=[]:=by rfl):a0f P f args [] (fun r own'=>own'=[]∧Q r):=by
 subst hnn hrs henv;refine⟨fun mine L F h w vs hgl hm hden=>?_⟩;have hm0:Mem (a0g (a0l F []) w) L F h [] w:=hm.mine_mono (fun b hb=>.inl hb);have hs:Sat (a0l F []) w (⟨h,L,hgl⟩:Base P) ⟨fn.ntmps,0,env0 args,[]⟩ { tmps:=vs.toArray++Array.replicate (fn.ntmps-vs.toArray.size) undef,defers:=[] } w :=
  ⟨⟨L,F,h,hm0,a7G hn hden 0 [] hD,⟨Sub.refl h,fun _ _=>rfl,hm.hn.symm⟩,fun k hk=>.inl hk⟩,Keep.refl _ w⟩
 refine calls_of_wp hf hb (Code.wp_mono (fun e a' w' hh=>?_) (a4i hT hF c _ _ _ _ hv hs));obtain⟨e',st0,rfl,hs1,he⟩:=hh;have hr0:frzL (a6m st0 fn.results.toList) st0 (fun st'=>resL T st' fn.results.toList (retK Q)):=by
  cases e' with
  | normal=>exact he
  | exit i=>exact he.elim
  | ret=>exact he
 obtain⟨st',⟨⟨L',F',h',hm',ha',hsub,hnew'⟩,hk⟩,hr⟩:=a1E _ st0 hr0 hs1;obtain⟨r,v,⟨hcl,hQ⟩,hd,hrun⟩:=a2x (Q:=fun r=>cloA r=true∧Q r) hT hm' ha' (a4r (fun l h=>b0w h) hr);have h0n:h.n=0:=hm.hn;have fin:a'.defers=[]∧∃ v,(results fn a'.tmps).run P w'=.ok v w'∧∃(r:AV) (u:Value) (L':Nat→Value) (F':Nat→Nat→Prop) (h':Hp) (own':List (Option Ob)),Ending.returned v=.returned u∧DenA L' h' r u∧(∀ i,i<h.n→L' i=L i)∧Mem (a0g (a0l F []) w) L' F' h' own' w' ∧
   Keep (a0l F []) w w'∧Sub h h'∧(∀ k,h'.m k≠none→h.m k≠none∨a0g (a0l F []) w k)∧own'=[]∧Q r :=
  ⟨ha'.defers.trans hD,_,hrun,r,v,L',F',⟨h'.m,0⟩,[],rfl,hd.clo 0 hcl,fun i hi=>by omega,⟨rfl,hm'.hsub,fun i ob hi=>by simp at hi,fun i ob b hi=>by simp at hi,fun i j oi oj b hi=>by simp at hi⟩,hk,⟨hsub.sub.m,by rw[h0n];exact Nat.le_refl _⟩,hnew',rfl,hQ⟩
 cases e' with
 | normal=>exact fin
 | exit i=>exact he.elim
 | ret=>exact fin
theorem a1G{b:Nat}:¬a0l F [] b:=fun⟨i,ob,hi,_⟩=>by simp at hi
theorem a9M{args:List AV}{vs:List Value}{L':Nat→Value}(hd:a2W L h args vs)(n':Nat)(hcl:args.all cloA=true):a2W L' ⟨h.m,n'⟩ args vs :=
 ⟨hd.len,fun j a v hj hv=>(hd.den j a v hj hv).clo n' (List.all_eq_true.1 hcl a (List.mem_of_getElem? hj))⟩
theorem a0a[a0h P]{f:FuncId}{args:List AV}{Q:AV→Prop}(hc:a0f P f args [] (fun r own'=>own'=[]∧Q r))(hcl:args.all cloA=true){own:List (Option Ob)}{K:AV→List (Option Ob)→Prop}(hK:∀ r,Q r→K r own):a0f P f args own K:=by
 refine⟨fun mine L F h w vs hgl hm hden=>?_⟩;have:=hc.out mine L F ⟨h.m,0⟩ w vs hgl ⟨rfl,hm.hsub,fun i ob hi=>by simp at hi,fun i ob b hi=>by simp at hi,fun i j oi oj b hi=>by simp at hi⟩ (a9M hden 0 hcl)
 refine this.mono ?_;rintro e w' ⟨r,v,L',F',h',own',h1,h2,h3,h4,h5,h6,h7,rfl,hQ⟩;have hn0:h'.n=0:=h4.hn;have hkeep:∀ k,k<w.heap.size→w'.heap[k]?=w.heap[k]?:=fun k hk=>h5.block k hk a1G;have hsub:Sub h ⟨h'.m,h.n⟩:=⟨h6.m,Nat.le_refl _⟩;have hs2:Sub h' ⟨h'.m,h.n⟩:=⟨fun _ _ e=>e,by rw[hn0];exact Nat.zero_le _⟩
 refine⟨r,v,L,F,⟨h'.m,h.n⟩,own,h1,h2.mono hs2 (fun i hi=>by omega),fun _ _=>rfl,⟨hm.hn,h4.hsub,fun i ob hi=>a0X (hm.obs i ob hi) (fun b hb=>hkeep b (hm.foot i ob b hi hb).1) (fun _ _=>rfl) hsub,fun i ob b hi hb=>?_,hm.dis⟩,⟨h5.os,h5.tape,h5.output,h5.size,fun k hk _=>hkeep k hk⟩,hsub,(fun k hk2=>by
   rcases h7 k hk2 with h9 | h9 | h9
   ·exact .inl h9
   ·exact absurd h9 a1G
   ·exact .inr (.inr h9)),hK r hQ⟩
 have hlt:=(hm.foot i ob b hi hb);refine⟨Nat.lt_of_lt_of_le hlt.1 h5.size,?_,.inl ⟨i,ob,hi,hb⟩⟩;cases hx:h'.m b with
 | none=>rfl
 | some o =>
  rcases h7 b (by rw[hx];simp)with h9 | h9 | h9
  ·exact absurd hlt.2.1 h9
  ·exact absurd h9 a1G
  ·omega
theorem c0v[a0h P]{f:FuncId}{args:List AV}{Q:AV→Prop}(hc:a0f P f args [] (fun r own'=>own'=[]∧Q r))(m:Nat→Option Obj)(hgl:a0h.ok P m)(w:World)(hs:∀ k o,m k=some o→w.heap[k]?=some o){vs:List Value}(hd:a2W (fun _=>undef) ⟨m,0⟩ args vs) :
  Calls P f vs.toArray w fun e w'=>∃(r:AV) (v:Value) (L:Nat→Value) (h':Hp),e=.returned v∧DenA L h' r v∧Below w.heap.size w w'∧Sub ⟨m,0⟩ h'∧(∀ k o,h'.m k=some o→w'.heap[k]?=some o)∧Q r:=by
 have:=hc.out (fun _=>True) (fun _=>undef) (fun _ _=>False) ⟨m,0⟩ w vs hgl ⟨rfl,hs,fun i ob hi=>by simp at hi,fun i ob b hi=>by simp at hi,fun i j oi oj b hi=>by simp at hi⟩ hd
 refine this.mono ?_;rintro e w' ⟨r,v,L',F',h',own',h1,h2,h3,h4,h5,h6,h7,rfl,hQ⟩;exact⟨r,v,L',h',h1,h2,⟨h5.os,h5.tape,h5.output,h5.size,fun k hk=>h5.block k hk a1G⟩,h6,h4.hsub,hQ⟩
end
end Go.Eng
namespace Go.Eng
open Go Go.RowKit
def b8W:IC→Bool
 | .v x=>x.oneCell'
 | _=>false
def b6D:AV→Bool
 | .c x=>b8W x
 | .agg xs=>xs.all b8W
 | .tup _=>false
 | .top=>false
def b8X:AV→Bool
 | .tup az=>az.all b6D
 | a=>b6D a
def detV:AV→Option Value
 | .tup az=>(az.mapM a4e).map fun vs=>.tuple vs.toArray
 | a=>a4e a
structure c2J(P:Program)[a0h P](f:FuncId)(args:List AV)(K:AV→Prop):Prop where
 out:∃ r u,a0f P f args [] (fun r' own'=>own'=[]∧r'=r)∧detV r=some u∧b8X r=true∧K r
theorem b1a{P:Program}[a0h P]{f:FuncId}{args:List AV}{K:AV→Prop}{r:AV}{u:Value}(hc:a0f P f args [] (fun r' own'=>own'=[]∧r'=r))(hd:detV r=some u)(hs:b8X r=true)(hk:K r):c2J P f args K:=⟨⟨r,u,hc,hd,hs,hk⟩⟩
def b7V(P:Program)[a0h P](T:TT)(F:FL)(o:Oper)(st:St)(K:St→Prop):Prop :=
 match o.op with
 | .call { callee:=.value x,args,argTypes:=_ }=>match a7F st args.toList,fnOf (ev st x)with
  | some avs,some (f,caps)=>ifD ((match F.lookup f with | some (some _)=>true | _=>false)=true) (ifD ((avs++caps).all cloA=true) (c2J P f (avs++caps) (fun r=>putK st o.dst r K)))
  | _,_=>False
 | _=>aopP T st o.op (fun av=>putK st o.dst av K)
def b4k(P:Program)[a0h P](T:TT)(F:FL)(ops:Array Oper)(l:List Oper):St→(St→Prop)→Prop :=
 List.rec (motive:=fun _=>St→(St→Prop)→Prop) (fun st K=>K st)
  (fun o _ ih st K=>a5C ops o st (b7V P T F o st (fun st'=>ih st' K)) (b2M st o.dst (fun st'=>ih st' K))) l
section
variable {P:Program} {T:TT} {FF:FL} {mine may:Nat→Prop} {L:Nat→Value} {F:Nat→Nat→Prop} {h:Hp} {st:St} {a:Act} {w w0:World}
theorem a2q{α β:Type}{f:α→Option β}{x:α}{xs:List α}{us:List β}(e:(x::xs).mapM f=some us):∃ u r,us=u::r∧f x=some u∧xs.mapM f=some r:=by
 rw[List.mapM_cons]at e;cases h1:f x with
 | none=>rw[h1]at e;cases e
 | some u =>
  rw[h1]at e;cases h2:xs.mapM f with
  | none=>rw[h2]at e;cases e
  | some r=>rw[h2]at e;cases e;exact⟨u,r,rfl,rfl,rfl⟩
theorem a9c:∀{xs:List IC} {us:List Value},xs.mapM b0Y=some us→xs.all b8W=true→DenL L h xs us
 | [],us,e,_=>by simp at e;subst e;exact DenL.nil
 | x::xs,us,e,hs=>by
  obtain⟨u,r,rfl,h1,h2⟩:=a2q e;rw[List.all_cons,Bool.and_eq_true]at hs;cases x <;> first | cases h1 | skip
  exact DenL.cons (.v _ hs.1) (a9c h2 hs.2)
theorem a6g{r:AV}{u:Value}(hs:b6D r=true)(hd:a4e r=some u):Den1 L h r u:=by
 cases r with
 | c x =>
  cases x <;> first | cases hs | skip
  cases hd;exact Den.v _ hs
 | agg xs =>
  simp only[a4e]at hd;cases hx:xs.mapM b0Y with
  | none=>rw[hx]at hd;cases hd
  | some us=>rw[hx]at hd;cases hd;exact⟨us,rfl,a9c hx hs⟩
 | tup az=>cases hs
 | top=>cases hs
theorem a9b:∀{az:List AV} {us:List Value},az.mapM a4e=some us→az.all b6D=true→az.length=us.length∧∀(j:Nat) a u,az[j]?=some a→us[j]?=some u→Den1 L h a u
 | [],us,e,_=>by simp at e;subst e;exact⟨rfl,fun j a u ha=>by simp at ha⟩
 | x::xs,us,e,hs=>by
  obtain⟨u,r,rfl,h1,h2⟩:=a2q e;rw[List.all_cons,Bool.and_eq_true]at hs;obtain⟨k1,k2⟩:=a9b h2 hs.2;refine⟨by simp[k1],fun j a v ha hv=>?_⟩
  cases j with
  | zero=>simp at ha hv;subst ha hv;exact a6g hs.1 h1
  | succ j=>simp at ha hv;exact k2 j a v ha hv
theorem c0d{r:AV}{u:Value}(hs:b8X r=true)(hd:detV r=some u):DenA L h r u:=by
 cases r with
 | c x=>exact a6g (r:=.c x) hs hd
 | agg xs=>exact a6g (r:=.agg xs) hs hd
 | tup az =>
  simp only[detV]at hd;cases hx:az.mapM a4e with
  | none=>rw[hx]at hd;cases hd
  | some us =>
   rw[hx]at hd;cases hd;obtain⟨k1,k2⟩:=a9b hx hs;exact⟨us,rfl,k1,k2⟩
 | top=>cases hs
theorem detT:∀{az:List AV} {us vs:List Value},az.mapM a4e=some us→az.length=vs.length→(∀(j:Nat) a u,az[j]?=some a→vs[j]?=some u→Den1 L h a u)→vs=us
 | [],us,vs,e,hl,_=>by simp at e;subst e;exact List.eq_nil_of_length_eq_zero (by simpa using hl.symm)
 | x::xs,us,[],e,hl,_=>by simp at hl
 | x::xs,us,v::vs,e,hl,hd=>by
  obtain⟨u,r,rfl,h1,h2⟩:=a2q e;have e1:=a2F h1 (b2t (hd 0 x v rfl rfl));have e2:=detT h2 (vs:=vs) (by simpa using hl) (fun j a u ha hu=>hd (j+1) a u (by simpa using ha) (by simpa using hu))
  rw[e1,e2]
theorem c0c{r:AV}{u v:Value}(hd:detV r=some u)(hr:DenA L h r v):v=u:=by
 cases r with
 | c x=>exact a2F (a:=.c x) hd hr
 | agg xs=>exact a2F (a:=.agg xs) hd hr
 | tup az =>
  simp only[detV]at hd;cases hx:az.mapM a4e with
  | none=>rw[hx]at hd;cases hd
  | some us =>
   rw[hx]at hd;cases hd;obtain⟨vs,rfl,hl,hd⟩:=hr;rw[detT hx hl hd]
 | top=>cases hd
theorem a2b[a0h P](ha:a0r P L h st a){dst:Option Nat}{av:AV}{v:Value}(hok:DenA L h av v){K:St→Prop}(hp:putK st dst av K):∃ st',a0r P L h st' (a.put dst v)∧(st'.own=st.own∧st'.k=st.k)∧K st':=by
 cases dst with
 | none=>exact⟨st,ha,⟨rfl,rfl⟩,hp⟩
 | some d=>exact⟨st.put (some d) av,a1u ha (a4w hp).1 hok,⟨rfl,rfl⟩,(a4w hp).2⟩
theorem a1n{ops:Array Oper}{C:World→Prop}{Q Q':Act→Prop}(hq:∀ a,Q a→Q' a):∀(l:List Oper) (a:Act),wpQuiet P ops C Q l a→wpQuiet P ops C Q' l a
 | [],a,hw=>hq a hw
 | o::r,a,hw=>by
  unfold wpQuiet at *;split
  ·rename_i e
   rw[if_pos e]at hw;exact Oper.quiet_mono (fun a ha=>a1n hq r a ha) hw
  ·rename_i e
   rw[if_neg e]at hw;exact a1n hq r _ hw
theorem a4t[a0h P](hgl:a0h.ok P h.m)(hT:TTok P T)(hF:FTok P FF){kk:Nat}{own:List (Option Ob)}(hm:Mem mine L F h own w){ops:Array Oper}{K:St→Prop}:∀(l:List Oper) (st:St) (a:Act),(st.own=own∧st.k=kk)→b4k P T FF ops l st K→a0r P L h st a →
  wpQuiet P ops (fun w'=>Below w.heap.size w w') (fun a'=>∃ st',a0r P L h st' a'∧(st'.own=own∧st'.k=kk)∧K st') l a
 | [],st,a,ho,hp,ha=>wpQuiet_nil ⟨st,ha,ho,hp⟩
 | o::r,st,a,ho,hp,ha=>by
  refine wpQuiet_step (fun Kc hKc=>?_);have go:∀ st' a',(st'.own=own∧st'.k=kk)→b4k P T FF ops r st' K→a0r P L h st' a'→Kc a':=fun st' a' h1 h2 h3=>hKc a' (a4t hgl hT hF hm r st' a' h1 h2 h3);rcases a1J ha hp with⟨hw,hp⟩|⟨hw,hp⟩
  ·rw[if_pos hw]
   obtain⟨dst,op,ty,pos,after,guard⟩:=o;unfold b7V at hp;simp only at hp;split at hp
   ·rename_i x args ts _
    split at hp
    ·rename_i avs f caps hx hfn
     obtain⟨hf,hp⟩:=a0j hp;obtain⟨hcl,hp⟩:=a0j hp;obtain⟨rv,u,hc,hdet,hs,hk⟩:=hp.out;have h1:=a6R ha hx;obtain⟨cv,g1,g2⟩:=b5g (L:=L) ha hfn;have h12:=h1.append g2;obtain⟨st',k1,k2,k3⟩:=a2b ha (c0d (L:=L) (h:=h) hs hdet) hk;refine⟨u,fun w' hw'=>?_,go st' _ ⟨k2.1.trans ho.1,k2.2.trans ho.2⟩ k3 k1⟩;have hargs:args.map a.eval++cv.toArray=(args.toList.map a.eval++cv).toArray:=by
      apply Array.ext';simp
     have hrun:(execOp a.eval { dst:=dst,op:=.call { callee:=.value x,args:=args,argTypes:=ts },type:=ty,pos:=pos,after:=after,guard:=guard }).run P w'=.ok (.enter f (args.toList.map a.eval++cv).toArray) w':=by
      obtain⟨fz,hfz⟩:∃ fz,FF.lookup f=some (some fz):=by
       split at hf
       ·rename_i fz e;exact⟨fz,e⟩
       ·cases hf
      have he:=hF f fz hfz (args.toList.map a.eval++cv).toArray w';rw[←hargs]at he ⊢;unfold execOp;simp[resolve,g1,Deferred.ofValue,invoke];simpa using he
     unfold Oper.quietAt;rw[hrun];refine⟨rfl,?_⟩;have hm':=a1t hm (a0T hm hw') hw'.size;have hcall:=hc.out mine L F ⟨h.m,0⟩ w' _ hgl ⟨rfl,hm'.hsub,fun i ob hi=>by simp at hi,fun i ob b hi=>by simp at hi,fun i j oi oj b hi=>by simp at hi⟩ (a9M h12 0 hcl)
     refine hcall.mono ?_;rintro e w'' ⟨r',v',L',F',h',own',e1,e2,e3,e4,e5,e6,e7,rfl,rfl⟩;have:=c0c hdet e2;refine⟨by rw[e1,this],hw'.trans ⟨e5.os,e5.tape,e5.output,e5.size,fun k hk2=>e5.block k (Nat.lt_of_lt_of_le hk2 hw'.size) a1G⟩⟩
    ·exact hp.elim
   ·rw[←ho.1]at hm
    obtain⟨av,v,h1,h2,h3⟩:=a4T hT hm ha (o:=⟨dst,op,ty,pos,after,guard⟩) hp;obtain⟨st',k1,k2,k3⟩:=a2b ha h2 h1;refine⟨v,fun w' hw'=>?_,go st' _ ⟨k2.1.trans ho.1,k2.2.trans ho.2⟩ k3 k1⟩;unfold Oper.quietAt;rw[h3 w' (a0T hm hw')];exact⟨rfl,rfl⟩
  ·rw[if_neg (by rw[hw];simp)]
   obtain⟨st',k1,k2,k3⟩:=a2b (av:=.tup []) ha a6a hp;exact go st' _ ⟨k2.1.trans ho.1,k2.2.trans ho.2⟩ k3 k1
theorem b4i[a0h P](hT:TTok P T){kk:Nat}{own:List (Option Ob)}(hm:Mem mine L F h own w){ops:Array Oper}{K:St→Prop}:∀(l:List Oper) (st:St) (gds:GD) (a:Act),(st.own=own∧st.k=kk)→opsG T ops l st gds K→a0r P L h st a→GOk L h gds a →
  wpQuiet P ops (fun w'=>Below w.heap.size w w') (fun a'=>∃ st',a0r P L h st' a'∧(st'.own=own∧st'.k=kk)∧K st') l a
 | [],st,gds,a,ho,hp,ha,hg=>wpQuiet_nil ⟨st,ha,ho,hp⟩
 | o::r,st,gds,a,ho,hp,ha,hg=>by
  refine wpQuiet_step (fun Kc hKc=>?_);rw[←ho.1]at hm;obtain⟨v,st',gds',hrun,h1,h2,h3,h4⟩:=a6r (P:=P) hT hm ha hg hp;have go:Kc (a.put o.dst v):=hKc _ (b4i hT (ho.1▸hm) r st' gds' _ ⟨h3.1.trans ho.1,h3.2.trans ho.2⟩ h4 h1 h2);rcases hrun with⟨hw,hrun⟩|⟨hw,rfl⟩
  ·rw[if_pos hw]
   refine⟨v,fun w' hw'=>?_,go⟩;unfold Oper.quietAt;rw[hrun w' (a0T hm hw')];exact⟨rfl,rfl⟩
  ·rw[if_neg (by rw[hw];simp)]
   exact go
theorem a2C[a0h P]{id:Nat}{ops:Array Oper}{K:St→Prop}(hmx:P.follows .mixedOrders=true)(hB:Region.lexB .any ops=true)(hT:TTok P T)(hp:opsG T ops ops.toList st [] K):a4V P id ops K st:=by
 refine⟨fun may w0 h0 a w hs=>?_⟩;obtain⟨⟨L,F,h,hm,ha,hsub,hnew⟩,hk⟩:=hs;refine wp_region_quiet (C:=fun w'=>Below w.heap.size w w') hmx hB ⟨rfl,rfl,rfl,Nat.le_refl _,fun _ _=>rfl⟩ ?_;refine a1n (fun a' hq w' hw'=>?_) _ _ (b4i hT hm ops.toList st [] a ⟨rfl,rfl⟩ hp ha a5l);obtain⟨st',k1,k2,k3⟩:=hq;refine⟨rfl,st',⟨⟨L,F,h,?_,k1,by rw[k2.2];exact hsub,hnew⟩,a1T hk hw'⟩,k3⟩
 rw[k2.1];exact a1t hm (a0T hm hw') hw'.size
theorem a6F[a0h P](l:List Nat){id:Nat}{ops:Array Oper}{K:St→Prop}(hp:frzL l st fun st=>a4V P id ops K st):a4V P id ops K st:=by
 refine⟨fun may w0 h0 a w hs=>?_⟩;obtain⟨st',h1,h2⟩:=a1E l st hp hs;exact h2.out may w0 h0 a w h1
theorem a0w[a0h P]{id:Nat}{ops:Array Oper}{K:St→Prop}(hmx:P.follows .mixedOrders=true)(hB:Region.lexB .any ops=true)(hT:TTok P T)(hF:FTok P FF)(hp:b4k P T FF ops ops.toList st K):a4V P id ops K st:=by
 refine⟨fun may w0 h0 a w hs=>?_⟩;obtain⟨⟨L,F,h,hm,ha,hsub,hnew⟩,hk⟩:=hs;refine wp_region_quiet (C:=fun w'=>Below w.heap.size w w') hmx hB ⟨rfl,rfl,rfl,Nat.le_refl _,fun _ _=>rfl⟩ ?_;refine a1n (fun a' hq w' hw'=>?_) _ _ (a4t (a0h.mono h0.gl hsub.sub.m) hT hF hm ops.toList st a ⟨rfl,rfl⟩ hp ha);obtain⟨st',k1,k2,k3⟩:=hq;refine⟨rfl,st',⟨⟨L,F,h,?_,k1,by rw[k2.2];exact hsub,hnew⟩,a1T hk hw'⟩,k3⟩
 rw[k2.1];exact a1t hm (a0T hm hw') hw'.size
end
def a2D(md:Region.Mode)(ops:Array Oper)(i:Nat):List Nat:=match ops[i]? with
 | some o=>(o.after.toList.filter (fun e=>Region.binds md e)).map (fun e=>e.on)
 | none=>[]
def clos(md:Region.Mode)(ops:Array Oper):Nat→List Nat→List Nat
 | 0,S=>S
 | f+1,S=>clos md ops f ((S++S.flatMap (a2D md ops)).eraseDups)
def a7L(md:Region.Mode)(ops:Array Oper)(k:Nat):Bool :=
 (List.range ops.size).all fun i=>(a2D md ops i).all (fun j=>decide (j<i))&&(decide (i<k)||(List.range i).all (fun j=>(clos md ops i (a2D md ops i)).contains j))
def b1P(md:Region.Mode)(ops:Array Oper):Nat→Nat→Array Bool→Bool
 | 0,p,listed=>(List.range p).all (fun j=>listed.getD j false)
 | fuel+1,p,listed=>(Region.ready md ops listed).contains p&&Region.free md ops listed p&&b1P md ops fuel (p+1) (listed.setIfInBounds p true)
def mixB(ops:Array Oper)(k:Nat):Bool:=Region.noSelect ops&&decide (k≤ops.size)&&a7L .any ops k&&b1P .any ops k 0 (Array.replicate ops.size false)
def a1g(md:Region.Mode)(ops:Array Oper)(listed:Array Bool):Prop:=∀ i,i<ops.size→listed.getD i false=true→∀ j,j∈a2D md ops i→listed.getD j false=true
section
variable {P:Program} {ops:Array Oper} {md:Region.Mode} {C:World→Prop} {k:Nat}
theorem b1L{i j:Nat}{o:Oper}(ho:ops[i]?=some o):j∈a2D md ops i↔∃ e,e∈o.after∧Region.binds md e=true∧e.on=j:=by
 unfold a2D;rw[ho];simp only[List.mem_map,List.mem_filter,Array.mem_toList_iff];exact⟨fun⟨e,⟨h1,h2⟩,h3⟩=>⟨e,h1,h2,h3⟩,fun⟨e,h1,h2,h3⟩=>⟨e,⟨h1,h2⟩,h3⟩⟩
theorem a1y{i:Nat}{listed:Array Bool}(hr:i∈Region.ready md ops listed):i<ops.size∧listed.getD i true=false∧∀ j,j∈a2D md ops i→listed.getD j false=true:=by
 obtain⟨h1,o,ho,h2⟩:=mem_ready.1 hr;refine⟨(Array.getElem?_eq_some_iff.1 ho).1,h1,fun j hj=>?_⟩;obtain⟨e,he,hb,rfl⟩:=(b1L ho).1 hj;exact h2 e he hb
theorem b1v{i:Nat}{listed:Array Bool}(hi:i<ops.size)(h1:listed.getD i true=false)(h2:∀ j,j∈a2D md ops i→listed.getD j false=true):i∈Region.ready md ops listed:=by
 have ho:ops[i]?=some ops[i]:=Array.getElem?_eq_getElem hi;exact mem_ready.2 ⟨h1,_,ho,fun e he hb=>h2 _ ((b1L ho).2 ⟨e,he,hb,rfl⟩)⟩
theorem a4a{listed:Array Bool}(hc:a1g md ops listed):∀(f:Nat) (S:List Nat),(∀ j,j∈S→listed.getD j false=true)→∀ j,j∈clos md ops f S→listed.getD j false=true
 | 0,S,hS,j,hj=>hS j hj
 | f+1,S,hS,j,hj=>by
  refine a4a hc f _ (fun i hi=>?_) j hj;rw[List.mem_eraseDups,List.mem_append,List.mem_flatMap]at hi;rcases hi with hi|⟨x,hx,hi⟩
  ·exact hS i hi
  ·by_cases hlt:x<ops.size
   ·exact hc x hlt (hS x hx) i hi
   ·unfold a2D at hi
    rw[Array.getElem?_eq_none (by omega)]at hi
    cases hi
theorem a5b(h:a7L md ops k=true)(i:Nat)(hi:i<ops.size):(∀ j,j∈a2D md ops i→j<i)∧(k≤i→∀ j,j<i→j∈clos md ops i (a2D md ops i)):=by
 have:=List.all_eq_true.1 h i (List.mem_range.2 hi);rw[Bool.and_eq_true,Bool.or_eq_true]at this;refine⟨fun j hj=>by simpa using List.all_eq_true.1 this.1 j hj,fun hk j hj=>?_⟩
 rcases this.2 with h2 | h2
 ·simp at h2;omega
 ·simpa using List.all_eq_true.1 h2 j (List.mem_range.2 hj)
theorem a5e(h:a7L md ops k=true){listed:Array Bool}(hc:a1g md ops listed){i:Nat}(hr:i∈Region.ready md ops listed)(hk:k≤i):∀ j,j<i→listed.getD j false=true:=by
 obtain⟨h1,h2,h3⟩:=a1y hr;exact fun j hj=>a4a hc i _ h3 j ((a5b h i h1).2 hk j hj)
theorem a0Y{listed:Array Bool}{j:Nat}(h1:listed.getD j true=false)(h2:listed.getD j false=true):False:=by
 rcases Nat.lt_or_ge j listed.size with h | h
 ·simp[h]at h1 h2;rw[h1]at h2;cases h2
 ·simp[Array.getElem?_eq_none h]at h2
theorem a2E{listed:Array Bool}(hc:a1g md ops listed){i:Nat}(hr:i∈Region.ready md ops listed):a1g md ops (listed.setIfInBounds i true):=by
 intro x hx hl j hj;obtain⟨h1,h2,h3⟩:=a1y hr
 by_cases e:i=x
 ·subst e
  exact getD_set_true (h3 j hj)
 ·rw[getD_set_ne false e]at hl
  exact getD_set_true (hc x hx hl j hj)
def a8L(P:Program)(md:Region.Mode)(ops:Array Oper)(C:World→Prop)(k:Nat)(R:Act→Prop):Nat→Array Bool→Act→Prop
 | 0,listed,a=>(∀ j,j<k→listed.getD j false=true)∧R a
 | fuel+1,listed,a=>(∃ j,j<k∧listed.getD j true=false)∧∀ i,i∈Region.ready md ops listed→i<k→qOp P ops C i (a8L P md ops C k R fuel (listed.setIfInBounds i true)) a
theorem a8K{R:Act→Prop}{i:Nat}{oi:Oper}{v:Value}(hik:i<k)(hi:ops[i]?=some oi)(hsel:∀(j:Nat) (o:Oper) cs b,ops[j]?=some o→o.op≠.select cs b) :
  ∀(fuel:Nat) (listed:Array Bool) (a:Act),
   (∀ j oj,ops[j]?=some oj→j≠i→listed.getD j true=false→(∀ e∈oj.after,Region.binds md e=true→e.on≠i)→oi.apart ops oj=true) →
   i∈Region.ready md ops listed→YieldsIn P ops C oi v a →
   a8L P md ops C k R fuel (listed.setIfInBounds i true) (a.put oi.dst v)→a8L P md ops C k R (fuel+1) listed a:=by
 intro fuel
 induction fuel with
 | zero =>
  intro listed a _ hr hy H;refine⟨⟨i,hik,(mem_ready.1 hr).1⟩,fun j hj hjk=>?_⟩
  by_cases hji:j=i
  ·subst hji;exact hy.qOp hi H
  ·have h1:=(mem_ready.1 (ready_mono hj hji)).1
   exact(a0Y h1 (H.1 j hjk)).elim
 | succ fuel ih =>
  intro listed a hfree hr hy H;refine⟨⟨i,hik,(mem_ready.1 hr).1⟩,fun j hj hjk=>?_⟩
  by_cases hji:j=i
  ·subst hji;exact hy.qOp hi H
  ·have h1:=H.2 j (ready_mono hj hji) hjk
   obtain⟨hjun,oj,hoj,hall⟩:=mem_ready.1 hj;have hnot:∀ e∈oj.after,Region.binds md e=true→e.on≠i:=fun e he hb heq=>by
    have h1:=hall e he hb;have h0:=(mem_ready.1 hr).1;rw[heq]at h1;exact a0Y h0 h1
   have h2:=qOp_put hoj (hfree j oj hoj hji hjun hnot) (fun cs b=>hsel i oi cs b hi) (fun cs b=>hsel j oj cs b hoj) hy h1;have hfree':∀ m om,ops[m]?=some om→m≠i→(listed.setIfInBounds j true).getD m true=false →
     (∀ e∈om.after,Region.binds md e=true→e.on≠i)→oi.apart ops om=true:=fun m om hm hmi hun hno=>by
    refine hfree m om hm hmi ?_ hno
    by_cases hjm:j=m
    ·subst hjm;exact hjun
    ·rw[getD_set_ne true hjm]at hun;exact hun
   refine qOp_mono (fun a' h3=>ih (listed.setIfInBounds j true) a' hfree' (ready_mono hr (Ne.symm hji)) h3.1 ?_) h2;rw[Array.setIfInBounds_comm _ _ hji];exact h3.2
theorem a6Z{R:Act→Prop}(hs:Region.noSelect ops=true):∀(l:List Oper) (p:Nat) (listed:Array Bool) (a:Act),(∀ j,j<l.length→l[j]?=ops[p+j]?)→p+l.length=k →
  b1P md ops l.length p listed=true→wpQuiet P ops C R l a→a8L P md ops C k R l.length listed a
 | [],p,listed,a,_,hk,hB,h=>by
  refine⟨fun j hj=>?_,h⟩;simp at hk;exact List.all_eq_true.1 hB j (List.mem_range.2 (by omega))
 | o::l,p,listed,a,hl,hk,hB,h=>by
  have h0:ops[p]?=some o:=by simpa using (hl 0 (by simp)).symm
  simp only[List.length_cons]at hk;simp only[List.length_cons,b1P,Bool.and_eq_true]at hB;obtain⟨⟨hr,hf⟩,hB'⟩:=hB;have hst:qOp P ops C p (wpQuiet P ops C R l) a:=by unfold qOp;simp only[h0];exact h
  obtain⟨v,hy,hK⟩:=yieldsIn_of_qOp h0 hst;exact a8K (by omega) h0 (Region.noSelect_spec hs) l.length listed a (Region.free_spec h0 hf) (by simpa using hr) hy
   (a6Z hs l (p+1) _ _ (fun j hj=>by have:=hl (j+1) (by simp;omega);simpa [Nat.add_assoc,Nat.add_comm 1 j]using this) (by omega) hB' hK)
theorem a6u(h:a7L md ops k=true)(hk:k≤ops.size){listed:Array Bool}(hex:∃ j,j<k∧listed.getD j true=false):Region.ready md ops listed≠[]:=by
 have key:∀ n,∀ j,j<n→j<k→listed.getD j true=false→∃ i,i∈Region.ready md ops listed:=by
  intro n
  induction n with
  | zero=>intro j hj;omega
  | succ n ih =>
   intro j hj hjk hun
   by_cases hall:∀ x,x<j→listed.getD x false=true
   ·exact⟨j,b1v (by omega) hun (fun x hx=>hall x ((a5b h j (by omega)).1 x hx))⟩
   ·obtain⟨x,hx⟩:=Classical.not_forall.1 hall
    obtain⟨hxj,hxu⟩:=Classical.not_imp.1 hx;rcases Nat.lt_or_ge x listed.size with hs | hs
    ·refine ih x (by omega) (by omega) ?_
     simp[hs]at hxu ⊢;exact hxu
    ·have hj2:listed.getD j true=true:=by simp[Array.getElem?_eq_none (show listed.size≤j by omega)]
     rw[hj2]at hun;cases hun
 obtain⟨j,hjk,hun⟩:=hex;obtain⟨i,hi⟩:=key (j+1) j (by omega) hjk hun
 intro e;rw[e]at hi;cases hi
theorem a6Y{R:Act→Prop}{Q:Exit→Act→World→Prop}(ht:a7L md ops k=true)(hk:k≤ops.size)(m:Nat)
  (hR:∀(listed:Array Bool) (a:Act) (w:World),C w→R a→listed.size=ops.size→(∀ j,j<k→listed.getD j false=true)→(∀ j,k≤j→j<ops.size→listed.getD j true=false)→a1g md ops listed→wpAny P md ops Q m listed a w) :
  ∀(fuel:Nat) (listed:Array Bool) (a:Act) (w:World),C w→listed.size=ops.size→(∀ j,k≤j→j<ops.size→listed.getD j true=false)→a1g md ops listed→a8L P md ops C k R fuel listed a→wpAny P md ops Q (fuel+m) listed a w
 | 0,listed,a,w,hw,hsz,hun,hc,H=>by rw[Nat.zero_add];exact hR listed a w hw H.2 hsz H.1 hun hc
 | fuel+1,listed,a,w,hw,hsz,hun,hc,H=>by
  rw[show fuel+1+m=(fuel+m)+1 by omega]
  refine⟨fun e=>absurd e (a6u ht hk H.1),fun i hi=>?_⟩;have hik:i<k:=by
   rcases Nat.lt_or_ge i k with h | h
   ·exact h
   ·obtain⟨j,hjk,hju⟩:=H.1
    exact(a0Y hju (a5e ht hc hi h j (by omega))).elim
  refine wpOp_of_qOp hw (fun a' w' hw' h=>a6Y ht hk m hR fuel _ a' w' hw' (by simp[hsz]) (fun j h1 h2=>?_) (a2E hc hi) h) (H.2 i hi hik)
  rw[getD_set_ne true (by omega)]
  exact hun j h1 h2
theorem a2s{Q:Exit→Act→World→Prop}(ht:a7L md ops k=true):∀(l:List Oper) (m:Nat) (listed:Array Bool) (a:Act) (w:World),(∀ j,l[j]?=ops[m+j]?)→m+l.length=ops.size→k≤m→listed.size=ops.size→(∀ j,j<m→listed.getD j false=true) →
  (∀ j,m≤j→j<ops.size→listed.getD j true=false)→a1g md ops listed→wpList P ops Q l a w→wpAny P md ops Q l.length listed a w
 | [],m,listed,a,w,hl,hm,hk,hsz,h1,h2,hc,hw=>by
  refine⟨?_,hw⟩;refine List.eq_nil_iff_forall_not_mem.2 (fun i hi=>?_);obtain⟨hi1,hi2,_⟩:=a1y hi;simp at hm;exact a0Y hi2 (h1 i (by omega))
 | o::l,m,listed,a,w,hl,hm,hk,hsz,h1,h2,hc,hw=>by
  have h0:ops[m]?=some o:=by simpa using (hl 0).symm
  simp only[List.length_cons]at hm;have hml:m<ops.size:=by omega
  have hmr:m∈Region.ready md ops listed:=b1v hml (h2 m (Nat.le_refl _) hml) (fun j hj=>h1 j ((a5b ht m hml).1 j hj));refine⟨(fun e=>by rw[e]at hmr;cases hmr),fun i hi=>?_⟩
  have him:i=m:=by
   obtain⟨hi1,hi2,_⟩:=a1y hi;rcases Nat.lt_trichotomy i m with h | h | h
   ·exact(a0Y hi2 (h1 i h)).elim
   ·exact h
   ·exact(a0Y (h2 m (Nat.le_refl _) hml) (a5e ht hc hi (by omega) m h)).elim
  subst him;have hop:wpOp P ops Q i (wpList P ops Q l) a w:=by
   unfold wpOp;simp only[h0];exact hw
  refine wpOp_mono (fun a' w' h=>a2s ht l (i+1) _ a' w' (fun j=>by have:=hl (j+1);simpa [Nat.add_assoc,Nat.add_comm 1 j]using this) (by omega) (by omega) (by simp[hsz]) (fun j hj=>?_) (fun j hj1 hj2=>?_) (a2E hc hi) h) hop
  ·by_cases e:i=j
   ·subst e
    simp[hsz,hml]
   ·rw[getD_set_ne false e];exact h1 j (by omega)
  ·rw[getD_set_ne true (by omega)];exact h2 j (by omega) hj2
theorem a2H{id:Nat}{Q:Exit→Act→World→Prop}{a:Act}{w:World}(hmx:P.follows .mixedOrders=true)(hB:mixB ops k=true)(hC:C { w with drawn:=w.drawn+1 })
  (h:wpQuiet P ops C (fun a'=>∀ w',C w'→wpList P ops Q (ops.toList.drop k) a' w') (ops.toList.take k) a):(Code.region id ops true).wp P Q a w:=by
 unfold mixB at hB;simp only[Bool.and_eq_true,decide_eq_true_eq]at hB;obtain⟨⟨⟨hs,hk⟩,ht⟩,hl⟩:=hB;refine wp_region_any hmx ?_;have hlen:(ops.toList.take k).length=k:=by simp;omega
 have hT:=a6Z (P:=P) (md:=.any) (C:=C) (k:=k) hs (ops.toList.take k) 0 (Array.replicate ops.size false) a (fun j hj=>by
  rw[hlen]at hj
  rw[List.getElem?_take,if_pos hj,Nat.zero_add,Array.getElem?_toList]) (by omega) (by rw[hlen];exact hl) h
 rw[hlen]at hT;have hsz:ops.size=k+(ops.toList.drop k).length:=by simp;omega
 have hcl:a1g .any ops (Array.replicate ops.size false):=fun i hi hx=>by simp[hi]at hx
 have key:=a6Y (Q:=Q) ht hk (ops.toList.drop k).length (fun listed a' w' hw' hR hz h1 h2 hc =>
  a2s ht (ops.toList.drop k) k listed a' w' (fun j=>by rw[List.getElem?_drop,Array.getElem?_toList]) (by simp;omega) (Nat.le_refl _) hz h1 h2 hc (hR w' hw')) k _ a _ hC (by simp) (fun j _ hj=>by simp[hj]) hcl hT
 rw[←hsz]at key;exact key
end
section
variable {P:Program} {T:TT} {FF:FL} {st:St}
theorem a0I[a0h P](k:Nat){id:Nat}{ops:Array Oper}{K:St→Prop}(hmx:P.follows .mixedOrders=true)(hB:mixB ops k=true)(hT:TTok P T)(hF:FTok P FF)
  (hp:b4k P T FF ops (ops.toList.take k) st (fun st'=>opsP P T FF ops (ops.toList.drop k) st' K)):a4V P id ops K st:=by
 refine⟨fun may w0 h0 a w hs=>?_⟩;obtain⟨⟨L,F,h,hm,ha,hsub,hnew⟩,hk⟩:=hs;refine a2H (k:=k) (C:=fun w'=>Below w.heap.size w w') hmx hB ⟨rfl,rfl,rfl,Nat.le_refl _,fun _ _=>rfl⟩ ?_;refine a1n (fun a' hq w' hw'=>?_) _ _ (a4t (a0h.mono h0.gl hsub.sub.m) hT hF hm (ops.toList.take k) st a ⟨rfl,rfl⟩ hp ha);obtain⟨st',k1,k2,k3⟩:=hq;refine a6q (may:=may) (w0:=w0) (h0:=h0) (K:=K) hT hF (fun st'' a'' w'' h1 h2=>⟨rfl,st'',h1,h2⟩) _ st' a' w' k3 ⟨⟨L,F,h,?_,k1,by rw[k2.2];exact hsub,hnew⟩,a1T hk hw'⟩
 rw[k2.1];exact a1t hm (a0T hm hw') hw'.size
end
section
variable {P:Program} {T:TT} {FF:FL} {may:Nat→Prop} {st:St} {a:Act} {w w0:World}
theorem a9G{R:Nat→Prop}(h:∃ n,R n):∃ n,R n∧∀ m,R m→n≤m:=by
 obtain⟨n,hn⟩:=h
 induction n using Nat.strongRecOn with
 | ind n ih =>
  by_cases hl:∃ m,m<n∧R m
  ·obtain⟨m,h1,h2⟩:=hl
   exact ih m h1 h2
  ·exact⟨n,hn,fun m hm=>Nat.le_of_not_lt (fun h=>hl ⟨m,h,hm⟩)⟩
theorem a8g(R:Nat→Prop):∃ n,(∃ m,R m)→R n∧∀ m,R m→n≤m:=by
 by_cases h:∃ m,R m
 ·obtain⟨n,hn⟩:=a9G h
  exact⟨n,fun _=>hn⟩
 ·exact⟨0,fun k=>absurd k h⟩
theorem a0B[a0h P](hT:TTok P T)(hF:FTok P FF){c:Code}{Q:Ex→St→Prop}(I:Nat→St→Prop){n:Nat}{st st1:St}(hw:Weak st st1)(hI:I n st1)
  (hs:∀ n st,I n st→vc P T FF c (fun e st'=>match e with | .normal=>∃ m st'',m<n∧Weak st' st''∧I m st'' | .exit i=>Q (.exit i) st' | .ret=>Q .ret st') st):b1k P c Q st:=by
 refine⟨fun may w0 h0 a w hsat=>?_⟩
 let R:Nat→Act→World→Prop:=fun n a w=>∃ st,I n st∧Sat may w0 h0 st a w
 have hR:∃ n,R n a w:=⟨n,st1,hI,hw.out _ _ _ _ _ hsat⟩;refine wp_loop (fun a w=>∃ n,R n a w) (fun a w=>Classical.choose (a8g fun n=>R n a w)) hR (fun a w hex=>?_);obtain⟨st2,h1,h2⟩:=(Classical.choose_spec (a8g fun n=>R n a w) hex).1;refine Code.wp_mono (fun e a' w' hh=>?_) (a4i hT hF c _ st2 a w (hs _ st2 h1) h2);obtain⟨e',st',rfl,k1,k2⟩:=hh;cases e' with
 | normal =>
  obtain⟨m,st'',hlt,hwk,hI2⟩:=k2;have hm:R m a' w':=⟨st'',hI2,hwk.out _ _ _ _ _ k1⟩;exact⟨⟨m,hm⟩,Nat.lt_of_le_of_lt ((Classical.choose_spec (a8g fun n=>R n a' w') ⟨m,hm⟩).2 m hm) hlt⟩
 | exit i=>exact⟨.exit i,st',rfl,k1,k2⟩
 | ret=>exact⟨.ret,st',rfl,k1,k2⟩
def vcR(P:Program)[a0h P](T:TT)(FF:FL)(c:Code)(Q:Ex→St→Prop)(n:Nat):St→Prop :=
 Nat.rec (motive:=fun _=>St→Prop) (fun _=>False)
  (fun _ ih st=>vc P T FF c (fun e st'=>match e with | .normal=>ih st' | .exit i=>Q (.exit i) st' | .ret=>Q .ret st') st) n
theorem a0N[a0h P](n:Nat)(hT:TTok P T)(hF:FTok P FF){c:Code}{Q:Ex→St→Prop}{st:St}(hp:vcR P T FF c Q n st):b1k P c Q st:=by
 refine⟨fun may w0 h0 a w hsat=>wp_loop_rounds n ?_⟩
 induction n generalizing st a w with
 | zero=>exact hp.elim
 | succ n ih =>
  refine Code.wp_mono (fun e a' w' hh=>?_) (a4i hT hF c _ st a w hp hsat);obtain⟨e',st',rfl,k1,k2⟩:=hh;cases e' with
  | normal=>exact ih k2 a' w' k1
  | exit i=>exact⟨.exit i,st',rfl,k1,k2⟩
  | ret=>exact⟨.ret,st',rfl,k1,k2⟩
theorem b4B[a0h P](l:List Nat){c:Code}{Q:Ex→St→Prop}{st:St}(hp:frzL l st fun st=>b1k P c Q st):b1k P c Q st:=by
 refine⟨fun may w0 h0 a w hs=>?_⟩;obtain⟨st',h1,h2⟩:=a1E l st hp hs;exact h2.out may w0 h0 a w h1
theorem a2y[a0h P](id:Nat)(J:St→Prop){c:Code}{Q:Ex→St→Prop}{st:St}(h1:b1k P c (fun e st'=>match e with | .exit i=>i=id∧∃ st1,Weak st' st1∧J st1 | .normal=>False | .ret=>Q .ret st') st)(h2:∀ st1,J st1→Q (.exit id) st1):b1k P c Q st:=by
 refine⟨fun may w0 h0 a w hs=>?_⟩;refine Code.wp_mono (fun e a' w' hh=>?_) (h1.out may w0 h0 a w hs);obtain⟨e',st',rfl,k1,k2⟩:=hh;cases e' with
 | normal=>exact k2.elim
 | exit i =>
  obtain⟨rfl,st1,q1,q2⟩:=k2;exact⟨.exit i,st1,rfl,q1.out _ _ _ _ _ k1,h2 st1 q2⟩
 | ret=>exact⟨.ret,st',rfl,k1,k2⟩
end
end Go.Eng
namespace Go.Eng
open Go Go.RowKit
def a3a(ob:List (Option Nat))(m j:Nat):Nat:=match ob[j]? with | some (some i)=>i | _=>m+(j-ob.length)
def a8F(ob:List (Option Nat))(m:Nat):IC→IC
 | .own j off=>.own (a3a ob m j) off
 | .row j=>.row (a3a ob m j)
 | .rel j sz k off=>.rel (a3a ob m j) sz k off
 | .view j sz k n c=>.view (a3a ob m j) sz k n c
 | .mp j=>.mp (a3a ob m j)
 | .ifc t c=>match clo0 c with | true=>.ifc t c | false=>.any
 | .fn f cs=>match cs.all (fun x=>x.2.all clo0)with | true=>.fn f cs | false=>.any
 | c=>c
def b7I(ob:List (Option Nat))(m:Nat):Option Ob→Option Ob
 | some o=>some (b2O (up (a8F ob m)) o)
 | none=>none
def a2i(ob:List (Option Nat))(m:Nat)(own2:List (Option Ob)):Nat→List (Option Ob)→List (Option Ob)
 | _,[]=>[]
 | i,o::r=>(match idx? ob i with | some j=>b7I ob m (own2.getD j none) | none=>o)::a2i ob m own2 (i+1) r
def a2T(ob:List (Option Nat))(own own2:List (Option Ob)):List (Option Ob):=a2i ob own.length own2 0 own++(own2.drop ob.length).map (b7I ob own.length)
def inB(m:Nat):List (Option Nat)→Bool
 | []=>true
 | some i::r=>Nat.blt i m&&inB m r
 | none::r=>false
section
variable {P:Program} {mine:Nat→Prop} {L L2:Nat→Value} {F F2:Nat→Nat→Prop} {h h2:Hp} {own own2:List (Option Ob)} {w w':World} {ob:List (Option Nat)} {m:Nat}
theorem b2a:∀{ob:List (Option Nat)},inB m ob=true→∀ j:Nat,j<ob.length→∃ i,ob[j]?=some (some i)∧i<m
 | [],_,j,hj=>by simp at hj
 | some i::r,hb,j,hj=>by
  unfold inB at hb;rw[Bool.and_eq_true]at hb;cases j with
  | zero=>exact⟨i,rfl,by have:=hb.1;unfold Nat.blt at this;exact Nat.le_of_ble_eq_true this⟩
  | succ j =>
   obtain⟨i',h1,h2⟩:=b2a hb.2 j (by simpa using hj)
   exact⟨i',by simpa using h1,h2⟩
 | none::r,hb,j,hj=>by cases hb
theorem a5B:∀(own:List (Option Ob)) (i k:Nat),(a2i ob m own2 i own)[k]?=own[k]?.map fun o=>match idx? ob (i+k)with | some j=>b7I ob m (own2.getD j none) | none=>o
 | [],i,k=>by simp[a2i]
 | o::r,i,0=>by simp[a2i]
 | o::r,i,k+1=>by
  simp only[a2i,List.getElem?_cons_succ];rw[a5B r (i+1) k];have e:i+1+k=i+(k+1):=by omega
  rw[e]
theorem a1H:∀(own:List (Option Ob)) (i:Nat),(a2i ob m own2 i own).length=own.length
 | [],i=>rfl
 | o::r,i=>by simp[a2i,a1H r (i+1)]
def a2Y(L L2:Nat→Value)(ob:List (Option Nat))(m:Nat)(i:Nat):Value:=if i<m then L i else L2 (i-m+ob.length)
def a7s(F F2:Nat→Nat→Prop)(ob:List (Option Nat))(m:Nat)(i:Nat):Nat→Prop:=match idx? ob i with | some j=>F2 j | none=>if i<m then F i else F2 (i-m+ob.length)
theorem a1U(hob:inB m ob=true)(hL:∀ j,j<ob.length→L2 j=sel L ob j){j:Nat}:a2Y L L2 ob m (a3a ob m j)=L2 j:=by
 rcases Nat.lt_or_ge j ob.length with hj | hj
 ·obtain⟨i,h1,h2⟩:=b2a hob j hj
  have e:a3a ob m j=i:=by unfold a3a;rw[h1]
  rw[e];unfold a2Y;rw[if_pos h2,hL j hj];unfold sel;rw[h1]
 ·have e:a3a ob m j=m+(j-ob.length):=by unfold a3a;rw[List.getElem?_eq_none hj]
  rw[e];unfold a2Y;rw[if_neg (by omega)]
  congr 1
  omega
theorem a4Q(hob:inB m ob=true){j n:Nat}(hj:j<n)(hn:ob.length≤n):a3a ob m j<m+(n-ob.length):=by
 rcases Nat.lt_or_ge j ob.length with hlt | hge
 ·obtain⟨i,h1,h2⟩:=b2a hob j hlt
  have e:a3a ob m j=i:=by unfold a3a;rw[h1]
  omega
 ·have e:a3a ob m j=m+(j-ob.length):=by unfold a3a;rw[List.getElem?_eq_none hge]
  omega
theorem c0n(hob:inB m ob=true)(hL:∀ j,j<ob.length→L2 j=sel L ob j)(hn:ob.length≤h2.n):a0x L2 (a2Y L L2 ob m) h2 ⟨h2.m,m+(h2.n-ob.length)⟩ (a8F ob m):=by
 refine⟨fun c v hd=>?_⟩;have h1:=hd.one;cases hd with
 | own i off a k1 k2=>exact .own _ _ a (a4Q hob k1 hn) ((a1U hob hL).trans k2)
 | row i A n c k1 k2=>exact .row _ A n c (a4Q hob k1 hn) ((a1U hob hL).trans k2)
 | rel i sz k off a k1 k2 k3=>exact .rel _ _ _ _ a (a4Q hob k1 hn) (by rw[a1U hob hL];exact k2) (by rw[a1U hob hL];exact k3)
 | view i sz k n c a b k1 k2 k3 k4 k5=>exact .view _ _ _ _ _ a b (a4Q hob k1 hn) ((a1U hob hL).trans k2) k3 k4 k5
 | mp i r k1 k2=>exact .mp _ r (a4Q hob k1 hn) ((a1U hob hL).trans k2)
 | ifc t c v hr =>
  simp only[a8F];split
  ·rename_i e;exact(Den.ifc t c v hr).clo _ e
  ·exact .any _ h1
 | fn f cs vs g hl hv h3 hr =>
  simp only[a8F];split
  ·rename_i e;exact(Den.fn f cs vs g hl hv h3 hr).clo _ e
  ·exact .any _ h1
 | v _ h2=>exact .v _ h2
 | sl sz n f A c ad g hc hm hA hg hl hclo hr=>exact(Den.sl sz n f A c ad g hc hm hA hg hl hclo hr).clo _ rfl
 | fp cs ad g hclo hg hr=>exact(Den.fp cs ad g hclo hg hr).clo _ rfl
 | any _ h2=>exact .any _ h2
theorem a7D{o:Option Ob}{o2:Ob}(h:b7I ob m o=some o2):∃ o',o=some o'∧o2=b2O (up (a8F ob m)) o':=by
 cases o with
 | none=>cases h
 | some o'=>cases h;exact⟨o',rfl,rfl⟩
theorem b8b{i j:Nat}(h:idx? ob i=some j):j<ob.length:=(List.getElem?_eq_some_iff.1 (a2R h)).1
theorem b7g(hd:a2X ob=true){i j:Nat}(h:ob[j]?=some (some i)):idx? ob i=some j:=by
 obtain⟨k,hk⟩:=a9x h;rw[hk,a4B hd (a2R hk) h]
theorem b3l[a0h P]{f:FuncId}{args args':List AV}{own0:List (Option Ob)}{Q:AV→List (Option Ob)→Prop}{K:AV→List (Option Ob)→Prop}(ob:List (Option Nat))(hd:a2X ob=true)(hob:inB own.length ob=true)
  (h0:ob.map (a1K own (up (renT ob)))=own0) (ha:args.map (sbA (up (renT ob)))=args')
  (hc:a0f P f args' own0 Q) (hK:∀ r own2,Q r own2→K (sbA (up (a8F ob own.length)) r) (a2T ob own own2)):a0f P f args own K:=by
 subst h0 ha;refine⟨fun mine L F h w vs hgl hm hden=>?_⟩;have hren:=a7T L h ob;have hm0:=a7Z hd hm;have hargs:a2W (sel L ob) ⟨h.m,ob.length⟩ (args.map (sbA (up (renT ob)))) vs:=by
  refine⟨by rw[List.length_map];exact hden.len,fun j a v hj hv=>?_⟩
  rw[List.getElem?_map]at hj;cases hx:args[j]? with
  | none=>rw[hx]at hj;cases hj
  | some a0=>rw[hx]at hj;cases hj;exact hren.denA (hden.den j a0 v hx hv)
 refine(hc.out mine (sel L ob) (sel F ob) ⟨h.m,ob.length⟩ w vs hgl hm0 hargs).mono ?_;rintro e w' ⟨r,v,L2,F2,h2,own2,rfl,e2,e3,e4,e5,e6,e7,e8⟩;have hlen:ob.length≤h2.n:=e6.n;have hn2:h2.n=own2.length:=e4.hn;have hback:=(c0n (L:=L) hob e3 hlen).up;have hfoot0:∀ b,a0l (sel F ob) (ob.map (a1K own (up (renT ob)))) b→∃(i j:Nat) (o:Ob),ob[j]?=some (some i)∧own[i]?=some (some o)∧F i b:=fun b ⟨j,o',hj,hb⟩=>by
  obtain⟨i,o,k1,k2,rfl⟩:=a3i hj
  have:sel F ob j=F i:=by unfold sel;rw[k1]
  rw[this]at hb;exact⟨i,j,o,k1,k2,hb⟩
 have key:∀(i:Nat) (o:Ob),(a2T ob own own2)[i]?=some (some o)→(∃ j o2,own2[j]?=some (some o2)∧o=b2O (up (a8F ob own.length)) o2∧a2Y L L2 ob own.length i=L2 j∧a7s F F2 ob own.length i=F2 j∧a3a ob own.length j=i) ∨
   (i<own.length∧own[i]?=some (some o)∧(∀ j:Nat,ob[j]?≠some (some i))∧a2Y L L2 ob own.length i=L i∧a7s F F2 ob own.length i=F i):=by
  intro i o hi;unfold a2T at hi;rcases Nat.lt_or_ge i own.length with hlt | hge
  ·rw[List.getElem?_append_left (by rw[a1H];exact hlt),a5B,Nat.zero_add]at hi
   rw[List.getElem?_eq_getElem hlt]at hi;simp only[Option.map_some,Option.some.injEq]at hi;split at hi
   ·rename_i j hj
    have hij:=a2R hj;obtain⟨o2,ho2,rfl⟩:=a7D hi;refine .inl ⟨j,o2,?_,rfl,?_,?_,?_⟩
    ·rw[List.getD_eq_getElem?_getD]at ho2
     cases hx:own2[j]? with
     | none=>rw[hx]at ho2;cases ho2
     | some y=>rw[hx]at ho2;simp only[Option.getD_some]at ho2;rw[ho2]
    ·unfold a2Y
     rw[if_pos hlt,e3 j (b8b hj)];unfold sel;rw[hij]
    ·unfold a7s;rw[hj]
    ·unfold a3a;rw[hij]
   ·rename_i hj
    refine .inr ⟨hlt,by rw[List.getElem?_eq_getElem hlt,hi],fun j hx=>?_,by unfold a2Y;rw[if_pos hlt],by unfold a7s;rw[hj];simp[hlt]⟩
    rw[b7g hd hx]at hj;cases hj
  ·rw[List.getElem?_append_right (by rw[a1H];exact hge),a1H,List.getElem?_map,List.getElem?_drop]at hi
   cases hx:own2[ob.length+(i-own.length)]? with
   | none=>rw[hx]at hi;cases hi
   | some y =>
    rw[hx]at hi;simp only[Option.map_some,Option.some.injEq]at hi;obtain⟨o2,rfl,rfl⟩:=a7D hi;have hno:idx? ob i=none:=by
     cases hh:idx? ob i with
     | none=>rfl
     | some j =>
      obtain⟨i',k1,k2⟩:=b2a hob j (b8b hh);rw[a2R hh]at k1;cases k1;omega
    refine .inl ⟨_,o2,hx,rfl,?_,?_,?_⟩
    ·unfold a2Y
     rw[if_neg (by omega)]
     congr 1
     omega
    ·unfold a7s
     rw[hno];simp only;rw[if_neg (by omega)]
     congr 1
     omega
    ·unfold a3a
     rw[List.getElem?_eq_none (by omega)]
     simp only;omega
 have hout:∀(i:Nat) (o:Ob) (b:Nat),own[i]?=some (some o)→(∀ j:Nat,ob[j]?≠some (some i))→F i b→¬a0l (sel F ob) (ob.map (a1K own (up (renT ob)))) b:=fun i o b hi hno hb hf=>by
  obtain⟨i',j,o',k1,k2,k3⟩:=hfoot0 b hf;have:=hm.dis i i' o o' b hi k2 hb k3;subst this;exact hno j k1
 have hmine:∀ b,a0g (a0l (sel F ob) (ob.map (a1K own (up (renT ob))))) w b→a0g (a0l F own) w b:=fun b hb=>by
  rcases hb with hb | hb
  ·obtain⟨i,j,o,k1,k2,k3⟩:=hfoot0 b hb
   exact .inl ⟨i,o,k2,k3⟩
  ·exact .inr hb
 refine⟨sbA (up (a8F ob own.length)) r,v,a2Y L L2 ob own.length,a7s F F2 ob own.length,⟨h2.m,own.length+(h2.n-ob.length)⟩,a2T ob own own2,rfl,hback.denA e2,fun i hi=>?_,⟨?_,e4.hsub,fun i o hi=>?_,fun i o b hi hb=>?_,fun i j oi oj b hi hj hbi hbj=>?_⟩,⟨e5.os,e5.tape,e5.output,e5.size,fun k hk hno=>?_⟩,⟨e6.m,?_⟩,fun k hk=>?_,hK r own2 e8⟩
 ·have:i<own.length:=by have:=hm.hn;omega
  unfold a2Y;rw[if_pos this]
 ·show own.length+(h2.n-ob.length)=(a2T ob own own2).length
  unfold a2T;rw[List.length_append,a1H,List.length_map,List.length_drop,hn2]
 ·rcases key i o hi with⟨j,o2,k1,rfl,k3,k4,k5⟩|⟨k1,k2,k3,k4,k5⟩
  ·rw[k3,k4]
   exact hback.obOk (fun _ _ e=>e) (e4.obs j o2 k1)
  ·rw[k4,k5]
   have ho:=hm.obs i o k2;refine a0X ho (fun b hb=>e5.block b (hm.foot i o b k2 hb).1 (hout i o b k2 k3 hb)) (fun i' hi'=>?_) ⟨e6.m,?_⟩
   ·have:i'<own.length:=by have:=hm.hn;omega
    unfold a2Y;rw[if_pos this]
   ·have:=hm.hn
    show h.n≤own.length+(h2.n-ob.length);omega
 ·rcases key i o hi with⟨j,o2,k1,rfl,k3,k4,k5⟩|⟨k1,k2,k3,k4,k5⟩
  ·rw[k4]at hb
   obtain⟨q1,q2,q3⟩:=e4.foot j o2 b k1 hb;exact⟨q1,q2,hmine b q3⟩
  ·rw[k5]at hb
   obtain⟨q1,q2,q3⟩:=hm.foot i o b k2 hb;refine⟨Nat.lt_of_lt_of_le q1 e5.size,?_,.inl ⟨i,o,k2,hb⟩⟩;show h2.m b=none;cases hx:h2.m b with
   | none=>rfl
   | some x =>
    rcases e7 b (by rw[hx];simp)with h9 | h9 | h9
    ·exact absurd q2 h9
    ·exact absurd h9 (hout i o b k2 k3 hb)
    ·omega
 ·rcases key i oi hi with⟨j1,o1,k1,rfl,k3,k4,k5⟩|⟨k1,k2,k3,k4,k5⟩ <;> rcases key j oj hj with⟨j2,o2,q1,rfl,q3,q4,q5⟩|⟨q1,q2,q3,q4,q5⟩
  ·rw[k4]at hbi;rw[q4]at hbj
   have:=e4.dis j1 j2 o1 o2 b k1 q1 hbi hbj;rw[←k5,←q5,this]
  ·rw[k4]at hbi;rw[q5]at hbj
   have hlt:=(hm.foot j oj b q2 hbj).1;rcases(e4.foot j1 o1 b k1 hbi).2.2 with h9 | h9
   ·exact absurd h9 (hout j oj b q2 q3 hbj)
   ·omega
  ·rw[k5]at hbi;rw[q4]at hbj
   have hlt:=(hm.foot i oi b k2 hbi).1;rcases(e4.foot j2 o2 b q1 hbj).2.2 with h9 | h9
   ·exact absurd h9 (hout i oi b k2 k3 hbi)
   ·omega
  ·rw[k5]at hbi;rw[q5]at hbj
   exact hm.dis i j oi oj b k2 q2 hbi hbj
 ·refine e5.block k hk (fun hx=>hno ?_)
  obtain⟨i,j,o,g1,g2,g3⟩:=hfoot0 k hx;exact⟨i,o,g2,g3⟩
 ·have:=hm.hn
  show h.n≤own.length+(h2.n-ob.length);omega
 ·rcases e7 k hk with h9 | h9
  ·exact .inl h9
  ·exact .inr (hmine k h9)
end
end Go.Eng
namespace Go.Eng
open Go
section
variable {L:Nat→Value} {h:Hp}
theorem c2u:a2W L h [] []:=⟨rfl,fun j a v h1 _=>by simp at h1⟩
theorem b3j{a:AV}{v:Value}{az:List AV}{vs:List Value}(h1:DenA L h a v)(h2:a2W L h az vs):a2W L h (a::az) (v::vs):=by
 refine⟨by simp[h2.len],fun j b u e1 e2=>?_⟩
 cases j with
 | zero=>simp at e1 e2;subst e1 e2;exact h1
 | succ j=>exact h2.den j b u (by simpa using e1) (by simpa using e2)
end
theorem c2A(s:ByteArray):s.data.toList.length=s.size:=by rw[Array.length_toList];rfl
end Go.Eng
namespace Go.Eng
open Go
section
variable {P:Program} {ops:Array Oper} {Q:Exit→Act→World→Prop} {md:Region.Mode} {C:World→Prop}
def a1v(P:Program)(ops:Array Oper)(C:World→Prop)(o:Oper)(v:Value)(a:Act):Prop :=
 (Region.wanted o (yielded ops a.tmps)=true∧∀ w,C w→(execOp a.eval o).run P w=.ok (.value v) w) ∨
 (Region.wanted o (yielded ops a.tmps)=false∧v=undef)
theorem a1v.of_same{o:Oper}{v:Value}{a a':Act}(hy:a1v P ops C o v a)(he:execOp a'.eval o=execOp a.eval o)
  (hw:Region.wanted o (yielded ops a'.tmps)=Region.wanted o (yielded ops a.tmps)):a1v P ops C o v a':=by
 unfold a1v at *;rw[he,hw];exact hy
theorem a1v.wpOp{i:Nat}{o:Oper}{v:Value}{a:Act}(hi:ops[i]?=some o)(hy:a1v P ops C o v a){K:Act→World→Prop}{w:World}(hw:C w)(h:K (a.put o.dst v) w):wpOp P ops Q i K a w:=by
 unfold Go.wpOp;simp only[hi];rcases hy with⟨h1,h2⟩|⟨h1,rfl⟩
 ·simp only[h1,if_true,Oper.wp,h2 w hw,Oper.upon];exact .inl h
 ·simp only[h1,Bool.false_eq_true,if_false];exact h
theorem b3t{j:Nat}{oi oj:Oper}{v:Value}(hj:ops[j]?=some oj)(hap:oi.apart ops oj=true)
  (hsi:∀ cs b,oi.op≠.select cs b) (hsj:∀ cs b,oj.op≠.select cs b)
  (hQ:∀ c a w,Q (.panic c) (a.put oi.dst v) w→Q (.panic c) a w) {K:Act→World→Prop} {a:Act} {w:World}
  (hy:a1v P ops C oi v a) (h:wpOp P ops Q j K (a.put oi.dst v) w) :
  wpOp P ops Q j (fun a' w'=>a1v P ops C oi v a'∧K (a'.put oi.dst v) w') a w:=by
 obtain⟨h1,h2,h3⟩:=Oper.apart_spec hap;have keep:∀(a:Act),a1v P ops C oi v a→∀ u,a1v P ops C oi v (a.put oj.dst u):=fun a hy u =>
  hy.of_same (execOp_put oi hsi a oj.dst u h3) (wanted_put oi a oj.dst u h3)
 have keepD:∀ d,a1v P ops C oi v { a with defers:=d::a.defers }:=fun d=>hy.of_same rfl rfl;unfold wpOp at *;simp only[hj]at *;rw[wanted_put oj a oi.dst v h1]at h;split
 ·rename_i hw
  simp only[hw,if_true]at h;rcases h with h|⟨hasks,hlets⟩
  case inr=>exact .inr ⟨by unfold Oper.asks at *;rw[execOp_put oj hsj a oi.dst v h1]at hasks;exact hasks,hlets⟩
  refine .inl ?_;unfold Oper.wp at *;rw[execOp_put oj hsj a oi.dst v h1]at h;generalize (execOp a.eval oj).run P w=r at *;cases r with
  | ok n w' =>
   cases n <;> simp only[Oper.upon]at h ⊢
   case value u=>exact⟨keep a hy u,by rw[←Act.put_comm a v u h2];exact h⟩
   case skip=>exact⟨keep a hy _,by rw[←Act.put_comm a v undef h2];exact h⟩
   case defer d =>
    refine⟨keep _ (keepD d) _,?_⟩;rw[←Act.put_comm _ v undef h2,←Act.put_defers];exact h
   case enter f args =>
    refine Calls.mono h fun e w'' he=>?_;cases e with
    | returned u=>exact⟨keep a hy u,by rw[←Act.put_comm a v u h2];exact he⟩
    | panicked c=>exact hQ _ _ _ he
    | outgrown=>exact he
   case row row args=>exact Rows.mono h fun u w'' he=>⟨keep a hy u,by rw[←Act.put_comm a v u h2];exact he⟩
  | halt x w' =>
   cases x <;> simp only[Oper.upon]at h ⊢
   case panic u=>exact hQ _ _ _ h
 ·rename_i hw
  simp only[hw]at h;exact⟨keep a hy _,by rw[←Act.put_comm a v undef h2];exact h⟩
def a1V(P:Program)(md:Region.Mode)(ops:Array Oper)(Q:Exit→Act→World→Prop)(C:World→Prop)(S:Nat→Bool)(R:Act→World→Prop):Nat→Array Bool→Act→World→Prop
 | 0,listed,a,w=>(∀ j,j<ops.size→S j=true→listed.getD j false=true)∧R a w
 | fuel+1,listed,a,w=>(∃ j,j<ops.size∧S j=true∧listed.getD j true=false)∧∀ i,i∈Region.ready md ops listed→S i=true→wpOp P ops Q i (fun a' w'=>C w'∧a1V P md ops Q C S R fuel (listed.setIfInBounds i true) a' w') a w
theorem a5t{S:Nat→Bool}{R:Act→World→Prop}{i:Nat}{oi:Oper}{v:Value}(hik:S i=true)(hi:ops[i]?=some oi)(hsel:∀(j:Nat) (o:Oper) cs b,ops[j]?=some o→o.op≠.select cs b)
  (hQ:∀ c a w,Q (.panic c) (a.put oi.dst v) w→Q (.panic c) a w) :
  ∀(fuel:Nat) (listed:Array Bool) (a:Act) (w:World),C w →
   (∀ j oj,ops[j]?=some oj→j≠i→listed.getD j true=false→(∀ e∈oj.after,Region.binds md e=true→e.on≠i)→oi.apart ops oj=true) →
   i∈Region.ready md ops listed→a1v P ops C oi v a →
   a1V P md ops Q C S R fuel (listed.setIfInBounds i true) (a.put oi.dst v) w→a1V P md ops Q C S R (fuel+1) listed a w:=by
 intro fuel
 induction fuel with
 | zero =>
  intro listed a w hw _ hr hy H;have hilt:i<ops.size:=(Array.getElem?_eq_some_iff.1 hi).1;refine⟨⟨i,hilt,hik,(mem_ready.1 hr).1⟩,fun j hj hjk=>?_⟩
  by_cases hji:j=i
  ·subst hji;exact hy.wpOp hi hw ⟨hw,H⟩
  ·have h1:=(mem_ready.1 (ready_mono hj hji)).1
   obtain⟨hjun,oj,hoj,hall⟩:=mem_ready.1 hj;exact(a0Y h1 (H.1 j (Array.getElem?_eq_some_iff.1 hoj).1 hjk)).elim
 | succ fuel ih =>
  intro listed a w hw hfree hr hy H;have hilt:i<ops.size:=(Array.getElem?_eq_some_iff.1 hi).1;refine⟨⟨i,hilt,hik,(mem_ready.1 hr).1⟩,fun j hj hjk=>?_⟩
  by_cases hji:j=i
  ·subst hji;exact hy.wpOp hi hw ⟨hw,H⟩
  ·obtain⟨hjun,oj,hoj,hall⟩:=mem_ready.1 hj
   have hnot:∀ e∈oj.after,Region.binds md e=true→e.on≠i:=fun e he hb heq=>by
    have h1:=hall e he hb;have h0:=(mem_ready.1 hr).1;rw[heq]at h1;exact a0Y h0 h1
   have hfree':∀ m om,ops[m]?=some om→m≠i→(listed.setIfInBounds j true).getD m true=false →
     (∀ e∈om.after,Region.binds md e=true→e.on≠i)→oi.apart ops om=true:=fun m om hm hmi hun hno=>by
    refine hfree m om hm hmi ?_ hno
    by_cases hjm:j=m
    ·subst hjm;exact hjun
    ·rw[getD_set_ne true hjm]at hun;exact hun
   have h1:=H.2 j (ready_mono hj hji) hjk;have h2:=b3t hoj (hfree j oj hoj hji hjun hnot) (fun cs b=>hsel i oi cs b hi) (fun cs b=>hsel j oj cs b hoj) hQ hy h1;refine wpOp_mono (fun a' w' h3=>⟨h3.2.1,ih (listed.setIfInBounds j true) a' w' h3.2.1 hfree' (ready_mono hr (Ne.symm hji)) h3.1 ?_⟩) h2;rw[Array.setIfInBounds_comm _ _ hji];exact h3.2.2
def a3O(P:Program)(ops:Array Oper)(C:World→Prop)(Q:Act→Prop):List Nat→Act→Prop
 | [],a=>Q a
 | i::r,a=>∃ o v,ops[i]?=some o∧a1v P ops C o v a∧a3O P ops C Q r (a.put o.dst v)
def preB(md:Region.Mode)(ops:Array Oper):List Nat→Array Bool→Bool
 | [],_=>true
 | p::r,listed=>(Region.ready md ops listed).contains p&&Region.free md ops listed p&&preB md ops r (listed.setIfInBounds p true)
def a6f(l:List Nat)(listed:Array Bool):Array Bool:=l.foldl (fun x i=>x.setIfInBounds i true) listed
theorem a3d{S:Nat→Bool}{R:Act→World→Prop}(hs:Region.noSelect ops=true)(hQ:∀ d v c a w,Q (.panic c) (a.put d v) w→Q (.panic c) a w){K:Act→Prop}(n:Nat):∀(l:List Nat) (listed:Array Bool) (a:Act) (w:World),C w→(∀ i,i∈l→S i=true) →
  preB md ops l listed=true→a3O P ops C K l a→(∀ a',K a'→a1V P md ops Q C S R n (a6f l listed) a' w)→a1V P md ops Q C S R (n+l.length) listed a w
 | [],listed,a,w,hw,hS,hB,h,hK=>hK a h
 | i::r,listed,a,w,hw,hS,hB,h,hK=>by
  obtain⟨o,v,h0,hy,h⟩:=h;simp only[preB,Bool.and_eq_true]at hB;obtain⟨⟨hr,hf⟩,hB'⟩:=hB;have:=a3d hs hQ n r (listed.setIfInBounds i true) (a.put o.dst v) w hw (fun j hj=>hS j (List.mem_cons_of_mem _ hj)) hB' h hK;exact a5t (hS i (List.mem_cons_self ..)) h0 (Region.noSelect_spec hs) (hQ o.dst v) (n+r.length) listed a w hw (Region.free_spec h0 hf) (by simpa using hr) hy this
def a2I(P:Program)(ops:Array Oper)(Q:Exit→Act→World→Prop)(C:World→Prop)(R:Act→World→Prop):List Nat→Act→World→Prop
 | [],a,w=>R a w
 | i::r,a,w=>wpOp P ops Q i (fun a' w'=>C w'∧a2I P ops Q C R r a' w') a w
def b2z(md:Region.Mode)(ops:Array Oper):List Nat→Bool
 | []=>true
 | i::r=>decide (i<ops.size)&&r.all (fun j=>(clos md ops j (a2D md ops j)).contains i)&&b2z md ops r
theorem a3e{S:Nat→Bool}{R:Act→World→Prop}:∀(l:List Nat) (listed:Array Bool) (a:Act) (w:World),listed.size=ops.size→a1g md ops listed→b2z md ops l=true →
  (∀ i,i∈l→S i=true∧listed.getD i true=false)→(∀ j,j<ops.size→S j=true→j∉l→listed.getD j false=true)→l.Nodup→a2I P ops Q C R l a w→a1V P md ops Q C S R l.length listed a w
 | [],listed,a,w,hz,hc,hB,h1,h2,hn,h=>⟨fun j hj hS=>h2 j hj hS (by simp),h⟩
 | i::r,listed,a,w,hz,hc,hB,h1,h2,hn,h=>by
  simp only[b2z,Bool.and_eq_true,decide_eq_true_eq]at hB;obtain⟨⟨hi,hall⟩,hB'⟩:=hB;have hnd:=List.nodup_cons.1 hn;refine⟨⟨i,hi,(h1 i (List.mem_cons_self ..)).1,(h1 i (List.mem_cons_self ..)).2⟩,fun j hj hS=>?_⟩;obtain⟨g1,g2,g3⟩:=a1y hj;have hji:j=i:=by
   by_cases hm:j∈i::r
   ·rcases List.mem_cons.1 hm with e | hm
    ·exact e
    ·have hcl:i∈clos md ops j (a2D md ops j):=by simpa using List.all_eq_true.1 hall j hm
     exact(a0Y (h1 i (List.mem_cons_self ..)).2 (a4a hc j _ g3 i hcl)).elim
   ·exact(a0Y g2 (h2 j g1 hS hm)).elim
  subst hji;refine wpOp_mono (fun a' w' h3=>⟨h3.1,a3e r _ a' w' (by simp[hz]) (a2E hc hj) hB' (fun x hx=>?_) (fun x hx hS hm=>?_) hnd.2 h3.2⟩) h
  ·have hne:j≠x:=fun e=>hnd.1 (e▸hx)
   rw[getD_set_ne true hne];exact h1 x (List.mem_cons_of_mem _ hx)
  ·by_cases e:j=x
   ·subst e;simp[hz,hi]
   ·rw[getD_set_ne false e]
    exact h2 x hx hS (fun hm'=>(List.mem_cons.1 hm').elim (fun e'=>e e'.symm) hm)
theorem a3v{k:Nat}{R:Act→World→Prop}(ht:a7L md ops k=true)(hk:k≤ops.size)(m:Nat)
  (hR:∀(listed:Array Bool) (a:Act) (w:World),R a w→listed.size=ops.size→(∀ j,j<k→listed.getD j false=true)→(∀ j,k≤j→j<ops.size→listed.getD j true=false)→a1g md ops listed→wpAny P md ops Q m listed a w) :
  ∀(fuel:Nat) (listed:Array Bool) (a:Act) (w:World),listed.size=ops.size→(∀ j,k≤j→j<ops.size→listed.getD j true=false)→a1g md ops listed→a1V P md ops Q C (fun i=>decide (i<k)) R fuel listed a w→wpAny P md ops Q (fuel+m) listed a w
 | 0,listed,a,w,hsz,hun,hc,H=>by
  rw[Nat.zero_add];exact hR listed a w H.2 hsz (fun j hj=>H.1 j (by omega) (decide_eq_true hj)) hun hc
 | fuel+1,listed,a,w,hsz,hun,hc,H=>by
  rw[show fuel+1+m=(fuel+m)+1 by omega]
  obtain⟨j0,hj0,hjS,hju⟩:=H.1;have hj0k:j0<k:=of_decide_eq_true hjS;refine⟨fun e=>absurd e (a6u ht hk ⟨j0,hj0k,hju⟩),fun i hi=>?_⟩;have hik:i<k:=by
   rcases Nat.lt_or_ge i k with h | h
   ·exact h
   ·exact(a0Y hju (a5e ht hc hi h j0 (by omega))).elim
  refine wpOp_mono (fun a' w' h=>a3v ht hk m hR fuel _ a' w' (by simp[hsz]) (fun j h1 h2=>?_) (a2E hc hi) h.2) (H.2 i hi (decide_eq_true hik))
  rw[getD_set_ne true (by omega)]
  exact hun j h1 h2
def a8c(ops:Array Oper)(k:Nat)(h e:List Nat):Bool :=
 Region.noSelect ops&&decide (k≤ops.size)&&a7L .any ops k&&preB .any ops h (Array.replicate ops.size false)&&b2z .any ops e&&h.all (fun i=>decide (i<k))&&e.all (fun i=>decide (i<k)&&!h.contains i)&&decide e.Nodup&&(List.range k).all (fun i=>h.contains i||e.contains i)&&decide (e.length+h.length=k)
theorem a3Q:∀(l:List Nat) (x:Array Bool),(a6f l x).size=x.size
 | [],x=>rfl
 | i::r,x=>by show(a6f r (x.setIfInBounds i true)).size=_;rw[a3Q r];simp
theorem a2w:∀(l:List Nat) (x:Array Bool) (j:Nat) (d:Bool),j<x.size→(a6f l x).getD j d=(l.contains j||x.getD j d)
 | [],x,j,d,h=>by simp[a6f]
 | i::r,x,j,d,h=>by
  show(a6f r (x.setIfInBounds i true)).getD j d=_;rw[a2w r _ j d (by simpa using h)]
  by_cases e:i=j
  ·subst e;simp[h]
  ·rw[getD_set_ne d e]
   simp[List.contains_cons,Ne.symm e]
theorem a3R:∀(l:List Nat) (x:Array Bool),a1g md ops x→preB md ops l x=true→a1g md ops (a6f l x)
 | [],x,hc,_=>hc
 | i::r,x,hc,hB=>by
  simp only[preB,Bool.and_eq_true]at hB;exact a3R r _ (a2E hc (by simpa using hB.1.1)) hB.2
theorem a6U{id k:Nat}{hl el:List Nat}{a:Act}{w:World}(hmx:P.follows .mixedOrders=true)(hB:a8c ops k hl el=true)(hQ:∀ d v c a w,Q (.panic c) (a.put d v) w→Q (.panic c) a w)(hC:C { w with drawn:=w.drawn+1 })
  (h:a3O P ops C (fun a'=>a2I P ops Q C (fun a'' w'=>wpList P ops Q (ops.toList.drop k) a'' w') el a' { w with drawn:=w.drawn+1 }) hl a):(Code.region id ops true).wp P Q a w:=by
 unfold a8c at hB;simp only[Bool.and_eq_true,decide_eq_true_eq]at hB;obtain⟨⟨⟨⟨⟨⟨⟨⟨⟨hs,hk⟩,ht⟩,hp⟩,hch⟩,hhk⟩,hek⟩,hnd⟩,hcov⟩,hlen⟩:=hB;refine wp_region_any hmx ?_;have hsz0:(Array.replicate ops.size false).size=ops.size:=by simp
 have hcl:a1g .any ops (Array.replicate ops.size false):=fun i hi hx=>by simp[hi]at hx
 have hX:a1V P .any ops Q C (fun i=>decide (i<k)) (fun a'' w'=>wpList P ops Q (ops.toList.drop k) a'' w') (el.length+hl.length) (Array.replicate ops.size false) a { w with drawn:=w.drawn+1 }:=by
  refine a3d hs hQ el.length hl _ a _ hC (fun i hi=>List.all_eq_true.1 hhk i hi) hp h (fun a' hK=>?_);refine a3e el _ a' _ (by rw[a3Q,hsz0]) (a3R hl _ hcl hp) hch (fun i hi=>?_) (fun j hj hS hm=>?_) hnd hK
  ·have h1:=List.all_eq_true.1 hek i hi
   simp only[Bool.and_eq_true,Bool.not_eq_true']at h1;have hik:i<k:=of_decide_eq_true h1.1;refine⟨h1.1,?_⟩;rw[a2w _ _ _ _ (by rw[hsz0];omega),h1.2]
   simp[show i<ops.size by omega]
  ·have h1:=List.all_eq_true.1 hcov j (List.mem_range.2 (of_decide_eq_true hS))
   rw[Bool.or_eq_true]at h1;rw[a2w _ _ _ _ (by rw[hsz0];exact hj)]
   rcases h1 with h1 | h1
   ·rw[h1];rfl
   ·exact absurd (by simpa using h1) hm
 have hlenk:el.length+hl.length+(ops.toList.drop k).length=ops.size:=by
  rw[hlen,List.length_drop,Array.length_toList];omega
 have key:=a3v (Q:=Q) ht hk (ops.toList.drop k).length (fun listed a' w' hR hz h1 h2 hc =>
  a2s ht (ops.toList.drop k) k listed a' w' (fun j=>by rw[List.getElem?_drop,Array.getElem?_toList]) (by simp;omega) (Nat.le_refl _) hz h1 h2 hc hR) (el.length+hl.length) _ a _ hsz0 (fun j _ hj=>by simp[hj]) hcl hX
 rw[hlenk]at key;exact key
end
def a2S(ch:List Nat):Nat→List (Option Ob)→List (Option Ob)
 | _,[]=>[]
 | i,o::r=>(match ch.contains i with | true=>none | false=>o)::a2S ch (i+1) r
def a1s(ch:List Nat):Nat→List (Option Ob)→List (Option Ob)
 | _,[]=>[]
 | i,o::r=>(match ch.contains i with | true=>o | false=>none)::a1s ch (i+1) r
def a1i(ch:List Nat):Nat→List (Option Ob)→List (Option Ob)→List (Option Ob)
 | i,o::r,o2::r2=>(match ch.contains i,o with | false,some x=>some x | _,_=>o2)::a1i ch (i+1) r r2
 | _,[],r2=>r2
 | _,_::_,[]=>[]
def b8g(ch:List Nat):Nat→List (Option Ob)→List (Option Ob)→Bool
 | i,o::r,o2::r2=>(match ch.contains i,o,o2 with | false,some _,some _=>false | _,_,_=>true)&&b8g ch (i+1) r r2
 | _,_,_=>true
def getO(ops:Array Oper):List Nat→List Oper
 | []=>[]
 | i::r=>match ops[i]? with | some o=>o::getO ops r | none=>getO ops r
def b9P(T:TT)(l:List Oper):St→(St→Prop)→Prop :=
 List.rec (motive:=fun _=>St→(St→Prop)→Prop) (fun st K=>K st)
  (fun o _ ih st K=>match o.guard with | none=>aopP T st o.op (fun av=>putK st o.dst av (fun st'=>ih st' K)) | some _=>False) l
def b4A(P:Program)[a0h P](T:TT)(F:FL)(ops:Array Oper)(k:Nat)(hl el ch:List Nat)(st:St)(K:St→Prop):Prop :=
 match st with
 | ⟨n,kk,env,own⟩=>a0H (a2S ch 0 own) fun ownH=>b9P T (getO ops hl) ⟨n,kk,env,ownH⟩ (fun st1=>match st1 with
  | ⟨n1,_,env1,_⟩=>a0H (a1s ch 0 own) fun ownE=>opsP P T F ops (getO ops el) ⟨n1,own.length,env1,ownE⟩ (fun st2=>match st2 with
   | ⟨n2,_,env2,own2⟩=>b8g ch 0 own own2=true∧a0H (a1i ch 0 own own2) fun own3=>opsP P T F ops (ops.toList.drop k) ⟨n2,kk,env2,own3⟩ K))
theorem a0G(ch:List Nat):∀(own:List (Option Ob)) (i k:Nat) (ob:Ob),(a2S ch i own)[k]?=some (some ob)↔own[k]?=some (some ob)∧ch.contains (i+k)=false
 | [],i,k,ob=>by simp[a2S]
 | o::r,i,0,ob=>by
  unfold a2S;cases hc:ch.contains i <;> simp[hc]
 | o::r,i,k+1,ob=>by
  unfold a2S;rw[List.getElem?_cons_succ,List.getElem?_cons_succ,a0G ch r (i+1) k ob,show i+1+k=i+(k+1)from by omega]
theorem a0v(ch:List Nat):∀(own:List (Option Ob)) (i k:Nat) (ob:Ob),(a1s ch i own)[k]?=some (some ob)↔own[k]?=some (some ob)∧ch.contains (i+k)=true
 | [],i,k,ob=>by simp[a1s]
 | o::r,i,0,ob=>by
  unfold a1s;cases hc:ch.contains i <;> simp[hc]
 | o::r,i,k+1,ob=>by
  unfold a1s;rw[List.getElem?_cons_succ,List.getElem?_cons_succ,a0v ch r (i+1) k ob,show i+1+k=i+(k+1)from by omega]
theorem a4F(ch:List Nat):∀(own:List (Option Ob)) (i:Nat),(a2S ch i own).length=own.length
 | [],i=>rfl
 | o::r,i=>by unfold a2S;rw[List.length_cons,List.length_cons,a4F ch r]
theorem a4A(ch:List Nat):∀(own:List (Option Ob)) (i:Nat),(a1s ch i own).length=own.length
 | [],i=>rfl
 | o::r,i=>by unfold a1s;rw[List.length_cons,List.length_cons,a4A ch r]
theorem a3z(ch:List Nat):∀(own own2:List (Option Ob)) (i:Nat),(a1i ch i own own2).length=own2.length
 | [],own2,i=>by unfold a1i;rfl
 | o::r,[],i=>rfl
 | o::r,o2::r2,i=>by unfold a1i;rw[List.length_cons,List.length_cons,a3z ch r r2]
theorem a3A(ch:List Nat):∀(own own2:List (Option Ob)) (i k:Nat) (ob:Ob),(a1i ch i own own2)[k]?=some (some ob)→(own[k]?=some (some ob)∧ch.contains (i+k)=false)∨(own2[k]?=some (some ob)∧∀ x,own[k]?=some (some x)→ch.contains (i+k)=true)
 | [],own2,i,k,ob,h=>by unfold a1i at h;exact .inr ⟨h,fun x hx=>by simp at hx⟩
 | o::r,[],i,k,ob,h=>by unfold a1i at h;simp at h
 | o::r,o2::r2,i,0,ob,h=>by
  unfold a1i at h;simp only[List.getElem?_cons_zero,Option.some.injEq]at h;split at h
  ·rename_i x hc
   cases h;exact .inl ⟨rfl,hc⟩
  ·rename_i hno
   subst h;refine .inr ⟨rfl,fun x hx=>?_⟩;simp only[List.getElem?_cons_zero,Option.some.injEq]at hx;cases hc:ch.contains (i+0)with
   | true=>rfl
   | false=>exact absurd hx (fun e=>hno x hc e)
 | o::r,o2::r2,i,k+1,ob,h=>by
  unfold a1i at h;rw[List.getElem?_cons_succ]at h;have:=a3A ch r r2 (i+1) k ob h;rw[show i+1+k=i+(k+1)from by omega]at this
  rw[List.getElem?_cons_succ,List.getElem?_cons_succ];exact this
section
variable {P:Program} {T:TT} {FF:FL} {mine may:Nat→Prop} {L:Nat→Value} {F:Nat→Nat→Prop} {h:Hp} {w w0:World} {ops:Array Oper}
theorem a8p[a0h P](hT:TTok P T){own:List (Option Ob)}{kk:Nat}(hm:Mem mine L F h own w){C:World→Prop}(hC:∀ w',C w'→Same F own h w w'){K:St→Prop}:∀(l:List Nat) (st:St) (a:Act),(∀ i,i∈l→i<ops.size)→(st.own=own∧st.k=kk)→b9P T (getO ops l) st K→a0r P L h st a →
  a3O P ops C (fun a'=>∃ st',a0r P L h st' a'∧(st'.own=own∧st'.k=kk)∧K st') l a
 | [],st,a,hl,ho,hp,ha=>⟨st,ha,ho,hp⟩
 | i::r,st,a,hl,ho,hp,ha=>by
  have hi:i<ops.size:=hl i (List.mem_cons_self ..);have hoi:ops[i]?=some ops[i]:=Array.getElem?_eq_getElem hi;unfold getO at hp;rw[hoi]at hp;generalize ops[i]=o at hoi hp
  change (match o.guard with | none=>aopP T st o.op (fun av=>putK st o.dst av (fun st'=>b9P T (getO ops r) st' K)) | some _=>False)at hp
  split at hp
  ·rename_i hg
   have hm1:=hm;rw[←ho.1]at hm1;obtain⟨av,v,h1,h2,h3⟩:=a4T hT hm1 ha (o:=o) hp;obtain⟨st',k1,k2,k3⟩:=a2b ha h2 h1;refine⟨o,v,hoi,.inl ⟨?_,fun w' hw'=>h3 w' (ho.1▸hC w' hw')⟩,a8p hT hm hC r st' _ (fun j hj=>hl j (List.mem_cons_of_mem _ hj)) ⟨k2.1.trans ho.1,k2.2.trans ho.2⟩ k3 k1⟩;unfold Region.wanted;rw[hg]
  ·exact hp.elim
theorem a8e[a0h P]{h0:Base P}(hT:TTok P T)(hF:FTok P FF){C:World→Prop}{Q:Exit→Act→World→Prop}{K:St→Prop}(hC:∀ w',Keep may w0 w'→C w'):∀(l:List Nat) (st:St) (a:Act) (w:World),(∀ i,i∈l→i<ops.size)→opsP P T FF ops (getO ops l) st K→Sat may w0 h0 st a w →
  a2I P ops Q C (fun a' w'=>∃ st',Sat may w0 h0 st' a' w'∧K st') l a w
 | [],st,a,w,hl,hp,hs=>⟨st,hs,hp⟩
 | i::r,st,a,w,hl,hp,hs=>by
  have hi:i<ops.size:=hl i (List.mem_cons_self ..);have hoi:ops[i]?=some ops[i]:=Array.getElem?_eq_getElem hi;unfold getO at hp;rw[hoi]at hp;generalize ops[i]=o at hoi hp;obtain⟨⟨L,F,h,hm,ha,hsub,hnew⟩,hk⟩:=hs;unfold a2I wpOp;simp only[hoi];have next:∀ a' w' st',Sat may w0 h0 st' a' w'→opsP P T FF ops (getO ops r) st' K→C w'∧a2I P ops Q C (fun a' w'=>∃ st',Sat may w0 h0 st' a' w'∧K st') r a' w':=fun a' w' st' h1 h2=>⟨hC w' h1.keep,a8e hT hF hC r st' a' w' (fun j hj=>hl j (List.mem_cons_of_mem _ hj)) h2 h1⟩;rcases a1J ha hp with⟨hw,hp⟩|⟨hw,hp⟩
  ·rw[if_pos hw]
   refine .inl (Oper.wp_mono (fun a' w' ⟨st',h1,h2⟩=>next a' w' st' h1 h2) (b0l (Q:=Q) hT hF hp ⟨⟨L,F,h,hm,ha,hsub,hnew⟩,hk⟩))
  ·rw[if_neg (by rw[hw];simp)]
   obtain⟨st',h1,h2⟩:=a1f hm ha hsub hnew hk (av:=.tup []) a6a hp;exact next _ _ st' h1 h2
theorem a3b{Q:Exit→Act→World→Prop}{C:World→Prop}{R R':Act→World→Prop}(hq:∀ a w,R a w→R' a w):∀(l:List Nat) (a:Act) (w:World),a2I P ops Q C R l a w→a2I P ops Q C R' l a w
 | [],a,w,h=>hq a w h
 | i::r,a,w,h=>wpOp_mono (fun a' w' h=>⟨h.1,a3b hq r a' w' h.2⟩) h
theorem a3c{C:World→Prop}{Q Q':Act→Prop}(hq:∀ a,Q a→Q' a):∀(l:List Nat) (a:Act),a3O P ops C Q l a→a3O P ops C Q' l a
 | [],a,h=>hq a h
 | i::r,a,⟨o,v,h1,h2,h3⟩=>⟨o,v,h1,h2,a3c hq r _ h3⟩
theorem a7x[a0h P](k:Nat)(hl el ch:List Nat){id:Nat}{K:St→Prop}{st:St}(hmx:P.follows .mixedOrders=true)(hB:a8c ops k hl el=true)(hT:TTok P T)(hF:FTok P FF)
  (hp:b4A P T FF ops k hl el ch st K):a4V P id ops K st:=by
 refine⟨fun may w0 h0 a w hs=>?_⟩;obtain⟨n,kk,env,own⟩:=st;obtain⟨⟨L,F,h,hm,ha,hsub,hnew⟩,hk⟩:=hs;have hk0:Keep may w0 { w with drawn:=w.drawn+1 }:=⟨hk.os,hk.tape,hk.output,hk.size,hk.block⟩;have hm0:Mem (a0g may w0) L F h own { w with drawn:=w.drawn+1 }:=a1t hm (fun b _=>rfl) (Nat.le_refl _);have hBk:=hB;unfold a8c at hBk;simp only[Bool.and_eq_true,decide_eq_true_eq]at hBk;obtain⟨⟨⟨⟨⟨⟨⟨⟨⟨_,hkk⟩,_⟩,_⟩,_⟩,hhk⟩,hek⟩,_⟩,_⟩,_⟩:=hBk;generalize hwd:({ w with drawn:=w.drawn+1 }:World)=wd at hk0 hm0
 let may':Nat→Prop:=a0l F (a1s ch 0 own)
 have hmayF:∀ b,may' b→∃ i ob,own[i]?=some (some ob)∧ch.contains i=true∧F i b:=fun b ⟨i,ob,hi,hb⟩=>by
  have:=(a0v ch own 0 i ob).1 hi;rw[Nat.zero_add]at this;exact⟨i,ob,this.1,this.2,hb⟩
 have hmay:∀ b,may' b→a0g may w0 b:=fun b hb=>by
  obtain⟨i,ob,h1,_,h3⟩:=hmayF b hb;exact(hm0.foot i ob b h1 h3).2.2
 have hmine':∀ b,a0g may' wd b→a0g may w0 b:=fun b hb=>by
  rcases hb with hb | hb
  ·exact hmay b hb
  ·exact .inr (Nat.le_trans hk0.size hb)
 have hmH:Mem (a0g may w0) L F h (a2S ch 0 own) wd :=
  ⟨by rw[a4F];exact hm0.hn,hm0.hsub,fun i ob hi=>hm0.obs i ob ((a0G ch own 0 i ob).1 hi).1,fun i ob b hi=>hm0.foot i ob b ((a0G ch own 0 i ob).1 hi).1,
   fun i j oi oj b hi hj=>hm0.dis i j oi oj b ((a0G ch own 0 i oi).1 hi).1 ((a0G ch own 0 j oj).1 hj).1⟩
 have hmE:Mem (a0g may' wd) L F h (a1s ch 0 own) wd :=
  ⟨by rw[a4A];exact hm0.hn,hm0.hsub,fun i ob hi=>hm0.obs i ob ((a0v ch own 0 i ob).1 hi).1,fun i ob b hi hb=>⟨(hm0.foot i ob b ((a0v ch own 0 i ob).1 hi).1 hb).1,(hm0.foot i ob b ((a0v ch own 0 i ob).1 hi).1 hb).2.1,.inl ⟨i,ob,hi,hb⟩⟩,
   fun i j oi oj b hi hj=>hm0.dis i j oi oj b ((a0v ch own 0 i oi).1 hi).1 ((a0v ch own 0 j oj).1 hj).1⟩
 have hout:∀(i:Nat) (ob:Ob) (b:Nat),own[i]?=some (some ob)→ch.contains i=false→F i b→¬may' b:=fun i ob b hi hc hb hmb=>by
  obtain⟨j,oj,h1,h2,h3⟩:=hmayF b hmb;have:=hm0.dis i j ob oj b hi h1 hb h3;subst this;rw[hc]at h2;cases h2
 have hC:∀ w',Keep may' wd w'→Same F (a2S ch 0 own) h wd w':=fun w' hw' b hb=>by
  rcases hb with hb|⟨i,ob,hi,hb⟩
  ·cases ho:h.m b with
   | none=>exact absurd ho hb
   | some o =>
    refine hw'.block b (Array.getElem?_eq_some_iff.1 (hm0.hsub b o ho)).1 (fun hmb=>?_);obtain⟨j,oj,h1,_,h3⟩:=hmayF b hmb;exact hb (hm0.foot j oj b h1 h3).2.1
  ·have h1:=(a0G ch own 0 i ob).1 hi
   rw[Nat.zero_add]at h1;exact hw'.block b (hm0.foot i ob b h1.1 hb).1 (hout i ob b h1.1 h1.2 hb)
 have hlsz:∀ i,i∈hl→i<ops.size:=fun i hi=>by
  have:i<k:=of_decide_eq_true (List.all_eq_true.1 hhk i hi)
  omega
 have elsz:∀ i,i∈el→i<ops.size:=fun i hi=>by
  have:=List.all_eq_true.1 hek i hi;rw[Bool.and_eq_true]at this
  have:i<k:=of_decide_eq_true this.1
  omega
 refine a6U (k:=k) (hl:=hl) (el:=el) (C:=Keep may' wd) hmx hB (fun d v c a w h=>by cases h.1) (by rw[hwd];exact Keep.refl _ _) ?_
 rw[hwd];unfold b4A at hp;simp only[a0q]at hp;have hH:=a8p (mine:=a0g may w0) (C:=Keep may' wd) hT hmH hC hl ⟨n,kk,env,a2S ch 0 own⟩ a hlsz ⟨rfl,rfl⟩ hp ⟨ha.size,ha.env,ha.defers⟩;refine a3c (fun a1 h1=>?_) hl a hH;obtain⟨⟨n1,kk1,env1,own1⟩,ha1,⟨rfl,rfl⟩,hp1⟩:=h1;simp only at hp1;have hsatE:Sat may' wd (⟨h,L,a0h.mono h0.gl hsub.sub.m⟩:Base P) ⟨n1,own.length,env1,a1s ch 0 own⟩ a1 wd :=
  ⟨⟨L,F,h,hmE,⟨ha1.size,ha1.env,ha1.defers⟩,⟨Sub.refl h,fun i hi=>rfl,hm0.hn.symm⟩,fun k hk=>.inl hk⟩,Keep.refl _ _⟩
 have hE:=a8e (Q:=fun e a' w'=>e=.normal∧∃ st',Sat may w0 h0 st' a' w'∧K st') (C:=Keep may' wd) hT hF (fun w' hw'=>hw') el _ a1 wd elsz hp1 hsatE;refine a3b (fun a2 w2 h2=>?_) el a1 wd hE;obtain⟨⟨n2,kk2,env2,own2⟩,⟨⟨L2,F2,h2,hm2,ha2,hsub2,hnew2⟩,hk2⟩,hem,hp2⟩:=h2;have hLL:∀ i,i<h.n→L2 i=L i:=fun i hi=>hsub2.at_ i hi;have hS2:Sub h h2:=hsub2.sub
 let F3:Nat→Nat→Prop:=fun i b=>(∃ x,own[i]?=some (some x)∧ch.contains i=false∧F i b)∨((∀ x,own[i]?=some (some x)→ch.contains i=true)∧F2 i b)
 have hnot:∀(i j:Nat) (ob o2:Ob) (b:Nat),own[i]?=some (some ob)→ch.contains i=false→F i b→own2[j]?=some (some o2)→F2 j b→False:=fun i j ob o2 b hi hc hb hj hb2=>by
  obtain⟨q1,q2,q3⟩:=hm2.foot j o2 b hj hb2;rcases q3 with q3 | q3
  ·exact hout i ob b hi hc hb q3
  ·have:=(hm0.foot i ob b hi hb).1
   omega
 have hF3a:∀(i:Nat) (ob:Ob),own[i]?=some (some ob)→ch.contains i=false→F3 i=F i:=fun i ob hi hc=>by
  funext b
  refine propext ⟨fun hb=>?_,fun hb=>.inl ⟨ob,hi,hc,hb⟩⟩;rcases hb with⟨_,_,_,hb⟩|⟨hx,_⟩
  ·exact hb
  ·rw[hx ob hi]at hc;cases hc
 have hF3b:∀(i:Nat),(∀ x,own[i]?=some (some x)→ch.contains i=true)→F3 i=F2 i:=fun i hx=>by
  funext b
  refine propext ⟨fun hb=>?_,fun hb=>.inr ⟨hx,hb⟩⟩;rcases hb with⟨x,h1,h2,_⟩|⟨_,hb⟩
  ·rw[hx x h1]at h2;cases h2
  ·exact hb
 have hmg:∀(i:Nat) (ob:Ob),(a1i ch 0 own own2)[i]?=some (some ob)→(own[i]?=some (some ob)∧ch.contains i=false∧F3 i=F i)∨(own2[i]?=some (some ob)∧F3 i=F2 i):=fun i ob hi=>by
  have:=a3A ch own own2 0 i ob hi;rw[Nat.zero_add]at this;rcases this with⟨h1,h2⟩|⟨h1,h2⟩
  ·exact .inl ⟨h1,h2,hF3a i ob h1 h2⟩
  ·exact .inr ⟨h1,hF3b i h2⟩
 have hm3:Mem (a0g may w0) L2 F3 h2 (a1i ch 0 own own2) w2:=by
  refine⟨by rw[a3z];exact hm2.hn,hm2.hsub,fun i ob hi=>?_,fun i ob b hi hb=>?_,fun i j oi oj b hi hj hbi hbj=>?_⟩
  ·rcases hmg i ob hi with⟨q1,q2,q3⟩|⟨q1,q3⟩
   ·have hlt:i<h.n:=by rw[hm0.hn];exact(List.getElem?_eq_some_iff.1 q1).1
    rw[q3,hLL i hlt];exact a0X (hm0.obs i ob q1) (fun b hb=>hk2.block b (hm0.foot i ob b q1 hb).1 (hout i ob b q1 q2 hb)) hLL hS2
   ·rw[q3];exact hm2.obs i ob q1
  ·rcases hmg i ob hi with⟨q1,q2,q3⟩|⟨q1,q3⟩
   ·rw[q3]at hb
    obtain⟨f1,f2,f3⟩:=hm0.foot i ob b q1 hb;refine⟨Nat.lt_of_lt_of_le f1 hk2.size,?_,f3⟩;cases ho:h2.m b with
    | none=>rfl
    | some o =>
     rcases hnew2 b (by rw[ho];simp)with h9 | h9 | h9
     ·exact absurd f2 h9
     ·exact absurd h9 (hout i ob b q1 q2 hb)
     ·omega
   ·rw[q3]at hb
    obtain⟨f1,f2,f3⟩:=hm2.foot i ob b q1 hb;exact⟨f1,f2,hmine' b f3⟩
  ·rcases hmg i oi hi with⟨q1,q2,q3⟩|⟨q1,q3⟩ <;> rcases hmg j oj hj with⟨r1,r2,r3⟩|⟨r1,r3⟩ <;> rw[q3]at hbi <;> rw[r3]at hbj
   ·exact hm0.dis i j oi oj b q1 r1 hbi hbj
   ·exact(hnot i j oi oj b q1 q2 hbi r1 hbj).elim
   ·exact(hnot j i oj oi b r1 r2 hbj q1 hbi).elim
   ·exact hm2.dis i j oi oj b q1 r1 hbi hbj
 refine a6q (may:=may) (w0:=w0) (h0:=h0) (K:=K) hT hF (fun st'' a'' w'' h1 h2=>⟨rfl,st'',h1,h2⟩) _ _ a2 w2 hp2 ⟨⟨L2,F3,h2,hm3,⟨ha2.size,ha2.env,ha2.defers⟩,hsub.step hLL hS2,fun x hx=>?_⟩,hk0.trans hk2 hmay⟩;rcases hnew2 x hx with h9 | h9
 ·exact hnew x h9
 ·exact .inr (hmine' x h9)
end
end Go.Eng
namespace Go.Eng
open Go
section
variable {P:Program}
end
end Go.Eng
namespace Go.Eng
open Go Go.RowKit
def sNil(i:Nat):IC→IC
 | .row j=>match Nat.beq j i with | true=>.v (.slice none 0 0) | false=>.row j
 | c=>c
def b8Z(i l sz n c:Nat):IC→IC
 | .row j=>match Nat.beq j i with | true=>.view l sz 0 n c | false=>.row j
 | x=>x
section
variable {P:Program} {T:TT} {mine may:Nat→Prop} {L:Nat→Value} {F:Nat→Nat→Prop} {h:Hp} {st:St} {a:Act} {w w0:World} {own:List (Option Ob)}
theorem a0y(t i:Nat){st:St}{e:TypeId}{sz k m n c cap N:Nat}{f:Nat→List IC}(hl:st.env.lookup t=some (.c (.view i sz k m c)))(hi:st.own[i]?=some (some (.arr e sz cap N f)))(hk:k=0)(hm:n=m)(hN:n≤N)(hc:c=cap) :
  Weak st ⟨st.n,st.k,(t,.c (.row st.own.length))::st.env,st.own.set i none++[some (.row e sz n f)]⟩:=by
 subst hc hk hm;refine⟨fun{P} _ may w0 h0 a w hs=>?_⟩;obtain⟨⟨L,F,h,hm,ha,hsub,hnew⟩,hk⟩:=hs;have hn:=hm.hn;obtain⟨b,cur,e1,e2,e3,e4,e5,e6,e7⟩:=hm.obs i _ hi;have hv:Den L h (.view i sz 0 n c) (a.tmps.getD t undef):=ha.env t _ hl;generalize hz:a.tmps.getD t undef=z at hv;cases hv with
 | view _ _ _ _ _ a0 b0 h1 h2 h3 h4 h5 =>
 rw[e1]at h2;cases h2;have hb0:=h3 (.inr rfl);rw[Nat.zero_mul,a0n]at hb0;subst hb0;have hlen:(st.own.set i none).length=st.own.length:=List.length_set ..;have hL:∀ j,j<h.n→upd L (st.own.set i none).length (.slice (some ⟨b,0,none⟩) n c) j=L j:=fun j hj=>a2t (by omega)
 have hsz:n*sz≤cur.size:=by rw[e6];exact Nat.mul_le_mul_right _ h4
 have hm':=a1R (v:=.slice (some ⟨b,0,none⟩) n c) (G:=F i) (ob:=.row e sz n f) (a2O hm i)
  ⟨cur.toList.take (n*sz),⟨by rw[List.length_take,Array.length_toList];omega,.inr ⟨b,c,cur,rfl,Nat.zero_le _,e3,h4,e5,e6,rfl⟩⟩,(fun k hk=>by cases hk;exact e2),⟨fun q hq=>e7.len q (by omega),fun q hq j cc hcc=>by
   obtain⟨u,g1,g2⟩:=e7.den q (by omega) j cc hcc
   have hj:j<sz:=by have:=(List.getElem?_eq_some_iff.1 hcc).1;rw[e7.len q (by omega)]at this;exact this
   refine⟨u,?_,g2.mono (a0z h 1) hL⟩
   have:(q+1)*sz≤n*sz:=Nat.mul_le_mul_right _ hq
   rw[Nat.succ_mul]at this;rw[List.getElem?_take,if_pos (by omega)]
   exact g1⟩⟩ (fun k hk=>hm.foot i _ k hi hk) (fun k hk=>by
   rintro⟨j,oj,hj,hF⟩;obtain⟨q1,q2⟩:=a0D hj
   exact q2 (hm.dis j i oj _ k q1 hi hF hk))
 have ha':a0r P (upd L (st.own.set i none).length (.slice (some ⟨b,0,none⟩) n c)) (h.more 1) st a:=a1e ha hL (a0z h 1) rfl rfl;refine⟨⟨_,_,_,hm',⟨ha'.size,fun t' av ht=>?_,ha'.defers⟩,hsub.step hL (a0z h 1),hnew⟩,hk⟩;have ht:((t,AV.c (.row st.own.length))::st.env).lookup t'=some av:=ht;rw[List.lookup_cons]at ht
 by_cases et:t'=t
 ·subst et
  simp at ht;subst ht;show Den _ _ _ _;rw[hz];exact .row _ _ n c (by simp[Hp.more,hn]) (by rw[hlen];exact a3M)
 ·have e':(t'==t)=false:=by simpa using et
  rw[e']at ht;exact ha'.env t' av ht
theorem b6H(t i:Nat){st:St}{e:TypeId}{sz n:Nat}{f:Nat→List IC}(hl:st.env.lookup t=some (.c (.row i)))(hi:st.own[i]?=some (some (.row e sz n f))) :
  Weak st ⟨st.n,st.k,(t,.c (.row st.own.length))::st.env,st.own.set i none++[some (.row e sz n f)]⟩:=by
 refine⟨fun{P} _ may w0 h0 a w hs=>?_⟩;obtain⟨⟨L,F,h,hm,ha,hsub,hnew⟩,hk⟩:=hs;have hn:=hm.hn;have hob:=hm.obs i _ hi;have hv:Den L h (.row i) (a.tmps.getD t undef):=ha.env t _ hl;generalize hz:a.tmps.getD t undef=z at hv;cases hv with
 | row _ A n' c h1 h2 =>
 have hlen:(st.own.set i none).length=st.own.length:=List.length_set ..;have hL:∀ j,j<h.n→upd L (st.own.set i none).length (.slice A n' c) j=L j:=fun j hj=>a2t (by omega)
 have hm':=a1R (v:=.slice A n' c) (G:=F i) (ob:=.row e sz n f) (a2O hm i) (by rw[h2]at hob;exact a0X hob (fun _ _=>rfl) hL (a0z h 1)) (fun k hk=>hm.foot i _ k hi hk) (fun k hk=>by
   rintro⟨j,oj,hj,hF⟩;obtain⟨q1,q2⟩:=a0D hj
   exact q2 (hm.dis j i oj _ k q1 hi hF hk))
 have ha':a0r P (upd L (st.own.set i none).length (.slice A n' c)) (h.more 1) st a:=a1e ha hL (a0z h 1) rfl rfl;refine⟨⟨_,_,_,hm',⟨ha'.size,fun t' av ht=>?_,ha'.defers⟩,hsub.step hL (a0z h 1),hnew⟩,hk⟩;have ht:((t,AV.c (.row st.own.length))::st.env).lookup t'=some av:=ht;rw[List.lookup_cons]at ht
 by_cases et:t'=t
 ·subst et
  simp at ht;subst ht;show Den _ _ _ _;rw[hz];exact .row _ _ _ c (by simp[Hp.more,hn]) (by rw[hlen];exact a3M)
 ·have e':(t'==t)=false:=by simpa using et
  rw[e']at ht;exact ha'.env t' av ht
theorem b9a{i:Nat}(hi:L i=.slice none 0 0):a0x L L h h (sNil i):=by
 refine⟨fun c v hd=>?_⟩;unfold sNil;split
 ·rename_i j
  split
  ·rename_i e
   have e:=Nat.eq_of_beq_eq_true e;subst e;cases hd with
   | row _ A n c h1 h2=>rw[hi]at h2;cases h2;exact .v _ rfl
  ·exact hd
 ·exact hd
theorem b6F{L':Nat→Value}{h':Hp}{i l sz n c b:Nat}(hi:L i=.slice (some ⟨b,0,none⟩) n c)(hs:Sub h h')(hL:∀ j,j<h.n→L' j=L j)(hl:L' l=.pointer (some ⟨b,0,none⟩))(hln:l<h'.n)(hnc:n≤c)(hc:c≤maxLen):a0x L L' h h' (b8Z i l sz n c):=by
 refine⟨fun x v hd=>?_⟩;unfold b8Z;split
 ·rename_i j
  split
  ·rename_i e
   have e:=Nat.eq_of_beq_eq_true e;subst e;cases hd with
   | row _ A n' c' h1 h2 =>
    rw[hi]at h2;cases h2;exact .view _ _ _ _ _ ⟨b,0,none⟩ ⟨b,0,none⟩ hln hl (fun _=>by rw[a0n];simp) hnc (by unfold maxLen at hc;omega)
  ·exact hd.mono hs hL
 ·exact hd.mono hs hL
theorem a1B[a0h P](i:Nat){g:FuncId}{own:List (Option Ob)}{args:List AV}{K:AV→List (Option Ob)→Prop}{e:TypeId}{sz n:Nat}{f:Nat→List IC}(hi:own[i]?=some (some (.row e sz n f)))
  (h1:n=0→a0f P g (args.map (sbA (up (sNil i)))) (own.set i none) K)
  (h2:∀ c,n≤c→c≤9223372036854775807→a0f P g (args.map (sbA (up (b8Z i own.length sz n c)))) (own.set i none++[some (.arr e sz c n f)]) K):a0f P g args own K:=by
 refine⟨fun mine L F h w vs hgl hm hden=>?_⟩;have hn:=hm.hn;have hil:i<own.length:=(List.getElem?_eq_some_iff.1 hi).1;obtain⟨xs,⟨hxl,hr⟩,hG,hR⟩:=hm.obs i _ hi;have hmapd:∀{L':Nat→Value} {h':Hp} {s:IC→IC},a0x L L' h h' s→a2W L' h' (args.map (sbA (up s))) vs:=fun hs=>by
  refine⟨by rw[List.length_map];exact hden.len,fun j a v hj hv=>?_⟩
  rw[List.getElem?_map]at hj;cases hx:args[j]? with
  | none=>rw[hx]at hj;cases hj
  | some a0=>rw[hx]at hj;cases hj;exact hs.up.denA (hden.den j a0 v hx hv)
 rcases hr with⟨e1,e2⟩|⟨gb,cap,cur,e1,e2,e3,e4,e5,e6,e7⟩
 ·have hfoot:∀ b,a0l F (own.set i none) b→a0l F own b:=by
   rintro b ⟨k,ob,hk,hb⟩;exact⟨k,ob,(a0D hk).1,hb⟩
  have hmine:∀ b,a0g (a0l F (own.set i none)) w b→a0g (a0l F own) w b:=fun b hb=>hb.imp (hfoot b) id;refine((h1 e2).out mine L F h w vs hgl (a2O hm i) (hmapd (b9a e1))).mono ?_;rintro e' w' ⟨r,v,L',F',h',own',k1,k2,k3,k4,k5,k6,k7,k8⟩;exact⟨r,v,L',F',h',own',k1,k2,k3,k4.mine_mono (fun b ⟨k,ob,hk,hb⟩=>hmine b (k4.foot k ob b hk hb).2.2),⟨k5.os,k5.tape,k5.output,k5.size,fun k hk hno=>k5.block k hk (fun hb=>hno (hfoot k hb))⟩,k6,(fun k hk=>(k7 k hk).imp id (hmine k)),k8⟩
 ·have hlen:(own.set i none).length=own.length:=List.length_set ..
  have hL:∀ j,j<h.n→upd L (own.set i none).length (.pointer (some ⟨gb,0,none⟩)) j=L j:=fun j hj=>a2t (by omega)
  have hFg:F i gb:=hG gb (by rw[e1];rfl)
  have hm':=a1R (v:=.pointer (some ⟨gb,0,none⟩)) (G:=F i) (ob:=.arr e sz cap n f) (a2O hm i)
   ⟨gb,cur,rfl,hFg,e3,e4,e5,e6,⟨hR.len,fun q hq j cc hcc=>by
    obtain⟨u,g1,g2⟩:=hR.den q hq j cc hcc;refine⟨u,?_,g2.mono (a0z h 1) hL⟩;rw[←e7,List.getElem?_take]at g1;split at g1
    ·exact g1
    ·cases g1⟩⟩ (fun k hk=>hm.foot i _ k hi hk) (fun k hk=>by
    rintro⟨j,oj,hj,hF⟩;obtain⟨q1,q2⟩:=a0D hj
    exact q2 (hm.dis j i oj _ k q1 hi hF hk))
  rw[hlen]at hm' hL;have hfoot:∀ b,a0l (upd F own.length (F i)) (own.set i none++[some (.arr e sz cap n f)]) b→a0l F own b:=by
   rintro b ⟨k,ob,hk,hb⟩
   by_cases ek:k=own.length
   ·subst ek;rw[a3M]at hb;exact⟨i,_,hi,hb⟩
   ·have hk2:k<own.length:=by
     have:=(List.getElem?_eq_some_iff.1 hk).1;simp at this;omega
    rw[a2t hk2]at hb;rw[List.getElem?_append_left (by simpa using hk2)]at hk
    exact⟨k,ob,(a0D hk).1,hb⟩
  have hmine:∀ b,a0g (a0l (upd F own.length (F i)) (own.set i none++[some (.arr e sz cap n f)])) w b→a0g (a0l F own) w b:=fun b hb=>hb.imp (hfoot b) id;have hS:Sub h (h.more 1):=a0z h 1;have hsub:=hmapd (b6F (sz:=sz) (l:=own.length) e1 hS hL a3M (by simp[Hp.more,hn]) e4 e5)
  refine((h2 cap e4 (by unfold maxLen at e5;omega)).out mine _ _ (h.more 1) w vs hgl hm' hsub).mono ?_
  rintro e' w' ⟨r,v,L',F',h',own',k1,k2,k3,k4,k5,k6,k7,k8⟩;exact⟨r,v,L',F',h',own',k1,k2,fun x hx=>(k3 x (Nat.lt_of_lt_of_le hx hS.n)).trans (hL x hx),k4.mine_mono (fun b ⟨k,ob,hk,hb⟩=>hmine b (k4.foot k ob b hk hb).2.2),⟨k5.os,k5.tape,k5.output,k5.size,fun k hk hno=>k5.block k hk (fun hb=>hno (hfoot k hb))⟩,hS.trans k6,(fun k hk=>(k7 k hk).imp id (hmine k)),k8⟩
theorem a0c[a0h P]{own:List (Option Ob)}{f:FuncId}{args args':List AV}{own0:List (Option Ob)}{Q:AV→List (Option Ob)→Prop}{K:AV→List (Option Ob)→Prop}(ob:List (Option Nat))(hd:a2X ob=true)(hob:inB own.length ob=true)
  (h0:ob.map (a1K own (up (renT ob)))=own0) (ha:args.map (sbA (up (renT ob)))=args')
  (hc:a0f P f args' own0 Q) (hK:∀ r own2,Q r own2→∃ r' own3,sbA (up (a8F ob own.length)) r=r'∧a2T ob own own2=own3∧K r' own3):a0f P f args own K:=by
 refine b3l ob hd hob h0 ha hc (fun r own2 hq=>?_);obtain⟨r',own3,rfl,rfl,h⟩:=hK r own2 hq;exact h
def a8w(st:St):List Nat→Option (List (Nat × AV))
 | []=>some []
 | t::r=>match st.env.lookup t,a8w st r with
  | some a,some l=>some ((t,a)::l)
  | _,_=>none
theorem a7u[a0h P]{st:St}{a:Act}(ha:a0r P L h st a):∀{slots:List Nat} {e:List (Nat × AV)},a8w st slots=some e→∀ t av,e.lookup t=some av→DenA L h av (a.tmps.getD t undef)
 | [],e,hn,t,av,hl=>by cases hn;cases hl
 | x::r,e,hn,t,av,hl=>by
  unfold a8w at hn;split at hn
  ·rename_i a0 l h1 h2
   cases hn;rw[List.lookup_cons]at hl
   by_cases et:t=x
   ·subst et
    simp at hl;subst hl;exact ha.env t _ h1
   ·have e':(t==x)=false:=by simpa using et
    rw[e']at hl;exact a7u ha h2 t av hl
  ·cases hn
theorem a0F(slots:List Nat){st:St}{e:List (Nat × AV)}(hn:a8w st slots=some e):Weak st ⟨st.n,st.k,e,st.own⟩:=by
 refine⟨fun{P} _ may w0 h0 a w hs=>?_⟩;obtain⟨⟨L,F,h,hm,ha,hsub,hnew⟩,hk⟩:=hs;exact⟨⟨L,F,h,hm,⟨ha.size,fun t av ht=>a7u ha hn t av ht,ha.defers⟩,hsub,hnew⟩,hk⟩
theorem a1C[a0h P]{FF:FL}{own:List (Option Ob)}{f:FuncId}{fn:Func}{c:Code}(hf:P.funcs[f]?=some fn)(hb:fn.body=some c)(hT:TTok P T)(hF:FTok P FF){args:List AV}{n:Nat}(hnn:fn.ntmps=n){rs:List ResultVar}(hrs:fn.results.toList=rs){env:List (Nat × AV)}(henv:env0 args=env)(hn:args.length≤n){Q:AV→List (Option Ob)→Prop}
  (hv:vc P T FF c (fun e st'=>match e with | .exit _=>False | _=>∃ st1,Weak st' st1∧resL T st1 rs (fun l=>Q (retV l) st1.own)) ⟨n,own.length,env,own⟩) (hD:a0h.ds P=[]:=by rfl):a0f P f args own Q:=by
 subst hnn hrs henv;refine⟨fun mine L F h w vs hgl hm hden=>?_⟩;have hm0:Mem (a0g (a0l F own) w) L F h own w:=hm.mine_mono (fun b hb=>.inl hb);have hs:Sat (a0l F own) w (⟨h,L,hgl⟩:Base P) ⟨fn.ntmps,own.length,env0 args,own⟩ { tmps:=vs.toArray++Array.replicate (fn.ntmps-vs.toArray.size) undef,defers:=[] } w :=
  ⟨⟨L,F,h,hm0,a7G hn hden own.length own hD,⟨Sub.refl h,fun _ _=>rfl,hm.hn.symm⟩,fun k hk=>.inl hk⟩,Keep.refl _ w⟩
 refine calls_of_wp hf hb (Code.wp_mono (fun e a' w' hh=>?_) (a4i hT hF c _ _ _ _ hv hs));obtain⟨e',st0,rfl,hs1,he⟩:=hh;have hr:∃ st1,Weak st0 st1∧resL T st1 fn.results.toList (fun l=>Q (retV l) st1.own):=by
  cases e' with
  | normal=>exact he
  | exit i=>exact he.elim
  | ret=>exact he
 obtain⟨st1,hw,hr⟩:=hr;obtain⟨⟨L',F',h',hm',ha',hsub,hnew'⟩,hk⟩:=hw.out _ _ _ _ _ hs1;obtain⟨r,v,hQ,hd,hrun⟩:=a2x (Q:=fun r=>Q r st1.own) hT hm' ha' hr;have fin:a'.defers=[]∧∃ v,(results fn a'.tmps).run P w'=.ok v w'∧∃(r:AV) (u:Value) (L':Nat→Value) (F':Nat→Nat→Prop) (h':Hp) (own':List (Option Ob)),Ending.returned v=.returned u∧DenA L' h' r u∧(∀ i,i<h.n→L' i=L i)∧Mem (a0g (a0l F own) w) L' F' h' own' w' ∧
   Keep (a0l F own) w w'∧Sub h h'∧(∀ k,h'.m k≠none→h.m k≠none∨a0g (a0l F own) w k)∧Q r own' :=
  ⟨ha'.defers.trans hD,_,hrun,_,v,_,_,_,_,rfl,hd,hsub.at_,hm',hk,hsub.sub,hnew',hQ⟩
 cases e' with
 | normal=>exact fin
 | exit i=>exact he.elim
 | ret=>exact fin
structure Side(w:World)(F:Nat→Prop)(sz:Nat)(v:Value)(n:Nat):Prop where
 ex:∃ A c,v=.slice A n c∧(0<n→0<sz→∃ ad t k,A=some ad∧F ad.block∧w.shape? ad.block=some (t,k)∧k≠0)
def b3s(w:World)(v:Value)(n:Nat):Prop:=∀ ad m c,v=.slice (some ad) m c→0<n→∀ o,w.frozen? ⟨ad.block,o,none⟩=false∧ad.spot=none
theorem a7P{b:Nat}{cur:Array Value}{t:TypeId}{z:Nat × Nat}(hb:w.heap[b]?=some (.cells cur t z)):w.shape? b=some (t,cur.size):=by simp[World.shape?,hb]
theorem b6x(hm:Mem mine L F h own w){j:Nat}{e:TypeId}{sz n:Nat}{f:Nat→List IC}(hj:own[j]?=some (some (.row e sz n f))){v:Value}(hd:Den L h (.row j) v):Side w (F j) sz v n∧b3s w v n:=by
 cases hd with
 | row _ A n' c h1 h2 =>
 obtain⟨xs,⟨hxl,hr⟩,hG,hR⟩:=hm.obs j _ hj;rw[h2]at hr hG;rcases hr with⟨e1,e2⟩|⟨gb,cap,cur,e1,e2,e3,e4,e5,e6,e7⟩
 ·cases e1
  exact⟨⟨none,0,by rw[e2],fun hp=>by omega⟩,fun ad m c e hp=>by cases e⟩
 ·cases e1
  refine⟨⟨_,_,rfl,fun h0 hs=>⟨⟨gb,0,none⟩,e,cur.size,rfl,hG gb rfl,a7P e3,?_⟩⟩,fun ad m c e hp o=>?_⟩
  ·rw[e6];exact Nat.mul_ne_zero (by omega) (by omega)
  ·cases e
   exact⟨by simp[World.frozen?,e3],rfl⟩
theorem a8W(hm:Mem mine L F h own w){i:Nat}{e:TypeId}{sz cap N k n c:Nat}{f:Nat→List IC}(hi:own[i]?=some (some (.arr e sz cap N f)))(hcap:k+n≤cap){v:Value}(hd:Den L h (.view i sz k n c) v):Side w (F i) sz v n∧b3s w v n:=by
 cases hd with
 | view _ _ _ _ _ a0 b0 h1 h2 h3 h4 h5 =>
 obtain⟨b,cur,e1,e2,e3,e4,e5,e6,e7⟩:=hm.obs i _ hi;rw[e1]at h2;cases h2;refine⟨⟨_,_,rfl,fun h0 hs=>⟨b0,e,cur.size,rfl,?_,?_,?_⟩⟩,fun ad m c e hp o=>?_⟩
 ·rw[h3 (.inl (by omega)),a0n];exact e2
 ·rw[h3 (.inl (by omega)),a0n];exact a7P e3
 ·rw[e6];exact Nat.mul_ne_zero (by omega) (by omega)
 ·cases e
  rw[h3 (.inl (by omega)),a0n]
  exact⟨by simp[World.frozen?,e3],rfl⟩
theorem b8T(hm:Mem mine L F h own w){sz n:Nat}{f:Nat→List IC}{v:Value}(hd:Den L h (.sl sz n f) v):Side w (fun b=>h.m b≠none) sz v n:=by
 cases hd with
 | sl _ _ _ A c ad g hc hmx hA hg hl hclo hr =>
 refine⟨_,_,rfl,fun h0 hs=>?_⟩;have hh:=hg 0 h0 0 hs;rw[Nat.zero_mul,Nat.zero_add]at hh;unfold a2c at hh;have hbk:(ad.add 0).block=ad.block:=by cases ad;unfold Addr.add;split <;> rfl
 rw[hbk]at hh;split at hh
 ·rename_i cur t z hb
  have hb2:=hm.hsub _ _ hb;refine⟨ad,t,cur.size,hA h0,by rw[hb];simp,a7P hb2,fun e0=>?_⟩
  split at hh
  ·cases hh
  ·have:=Array.size_eq_zero_iff.1 e0
   subst this;simp at hh
 ·cases hh
theorem a9o{t r e:TypeId}{ti:TI}(hT:TF P e ti)(ht:P.underlying t=some (.slice e)){va vb:Value}{na nb:Nat}{Fa Fb:Nat→Prop}(ha:Side w Fa ti.size va na)(hb:Side w Fb ti.size vb nb)(hp:b3s w va na)(hd:∀ b,Fa b→Fb b→False)(h0:0<na)(h1:0<nb)(h2:0<ti.size) :
  (Extern.SlicesOverlaps.overlaps #[t,t] #[r] #[va,vb]).run P w=.ok (.bool false) w:=by
 obtain⟨A,ca,rfl,g1⟩:=ha.ex;obtain⟨B,cb,rfl,g2⟩:=hb.ex;obtain⟨a,ta,ka,e1,f1,s1,z1⟩:=g1 h0 h2;obtain⟨b,tb,kb,e2,f2,s2,z2⟩:=g2 h1 h2;subst e1 e2;have hpa:=hp a na ca rfl h0;have hane:a.block≠b.block:=fun e=>hd _ f1 (by rw[e];exact f2)
 have hfa:w.frozen? a=false:=by
  have h8:=(hpa a.off).1;have h9:=(hpa 0).2
  have:a=⟨a.block,a.off,none⟩:=by cases a;simp at h9;subst h9;rfl
  rw[this];exact h8
 exact Go.Lib.run_overlaps_apart w t r e ht ti.size hT.size a b na ca nb cb hane ta tb ka kb s1 s2 z2 hfa (hpa ka).1
theorem a2m[a0h P]{g:FuncId}{fn:Func}{t r e:TypeId}{ti:TI}(hf:P.funcs[g]?=some fn)(hname:(fn.name=="runtime.NumGoroutine")=false)(hb:fn.body.isNone=true)(hn:Extern.findNext fn=none)(he:Extern.find fn=some (Extern.SlicesOverlaps.overlaps #[t,t] #[r]))
  (hT:TF P e ti) (ht:P.underlying t=some (.slice e)) {own:List (Option Ob)} {x y:IC}
  (hxy:∀(mine:Nat→Prop) (L:Nat→Value) (F:Nat→Nat→Prop) (h:Hp) (w:World),Mem mine L F h own w→∀ va vb,Den L h x va→Den L h y vb→∃ na nb Fa Fb,Side w Fa ti.size va na∧b3s w va na∧Side w Fb ti.size vb nb∧(∀ b,Fa b→Fb b→False)∧0<na∧0<nb∧0<ti.size)
  {K:AV→List (Option Ob)→Prop} (hK:K (.c (.v (.bool false))) own):ExtV P g [.c x,.c y] own K:=by
 refine⟨fun mine L F h w vs hgl hm hden=>?_⟩;obtain⟨va,vb,rfl⟩:∃ va vb,vs=[va,vb]:=by
  have hl:=hden.len
  match vs,hl with
  | [a,b],_=>exact⟨a,b,rfl⟩
 have d1:Den L h x va:=hden.den 0 _ _ rfl rfl;have d2:Den L h y vb:=hden.den 1 _ _ rfl rfl;obtain⟨na,nb,Fa,Fb,q1,q2,q3,q4,q5,q6,q7⟩:=hxy mine L F h w hm va vb d1 d2;refine⟨.bool false,w,?_,.c (.v (.bool false)),L,F,h,own,Den.v _ rfl,fun _ _=>rfl,hm.mine_mono (fun b hb=>.inl hb),Keep.refl _ _,Sub.refl h,fun k hk=>.inl hk,hK⟩;rw[run_callFunc_extern hf hname hb hn he];have:=a9o (r:=r) hT ht q1 q3 q2 q4 q5 q6 q7;rw[show([va,vb]:List Value).toArray=#[va,vb]from rfl,this];rfl
theorem a2r{j i:Nat}(hji:j≠i){e e':TypeId}{sz n k m c cap N:Nat}{f f':Nat→List IC}{own:List (Option Ob)}(hj:own[j]?=some (some (.row e sz n f)))(hi:own[i]?=some (some (.arr e' sz cap N f')))(hcap:k+m≤cap)(hn0:0<n)(hm0:0<m)(hs0:0<sz) :
  ∀(mine:Nat→Prop) (L:Nat→Value) (F:Nat→Nat→Prop) (h:Hp) (w:World),Mem mine L F h own w→∀ va vb,Den L h (.row j) va→Den L h (.view i sz k m c) vb→∃ na nb Fa Fb,Side w Fa sz va na∧b3s w va na∧Side w Fb sz vb nb∧(∀ b,Fa b→Fb b→False)∧0<na∧0<nb∧0<sz:=by
 intro mine L F h w hm va vb d1 d2;have s1:=b6x hm hj d1;have s2:=a8W hm hi hcap d2;exact⟨n,m,F j,F i,s1.1,s1.2,s2.1,fun b h1 h2=>hji (hm.dis j i _ _ b hj hi h1 h2),hn0,hm0,hs0⟩
theorem a8I{i:Nat}{e':TypeId}{sz n k m c cap N:Nat}{f f':Nat→List IC}{own:List (Option Ob)}(hi:own[i]?=some (some (.arr e' sz cap N f')))(hcap:k+m≤cap)(hn0:0<n)(hm0:0<m)(hs0:0<sz) :
  ∀(mine:Nat→Prop) (L:Nat→Value) (F:Nat→Nat→Prop) (h:Hp) (w:World),Mem mine L F h own w→∀ va vb,Den L h (.view i sz k m c) va→Den L h (.sl sz n f) vb→∃ na nb Fa Fb,Side w Fa sz va na∧b3s w va na∧Side w Fb sz vb nb∧(∀ b,Fa b→Fb b→False)∧0<na∧0<nb∧0<sz:=by
 intro mine L F h w hm va vb d1 d2;have s1:=a8W hm hi hcap d1;have s2:=b8T hm d2;exact⟨m,n,F i,_,s1.1,s1.2,s2,fun b h1 h2=>h2 (hm.foot i _ b hi h1).2.1,hm0,hn0,hs0⟩
end
end Go.Eng
namespace Go.Eng
open Go Go.RowKit Go.WideShapes
def RdF(R:TypeId→List IC→Prop):List Field→List IC→Prop
 | [],cs=>cs=[]
 | f::r,cs=>∃ xs ys,R f.type xs∧RdF R r ys∧cs=xs++ys
def Rd(T:TT)(B:Nat):Nat→TypeId→List IC→Prop
 | 0,_,_=>False
 | d+1,t,cs=>match T.lookup t with
  | none=>False
  | some ti=>match ti.desc with
   | .bool=>∃ b,cs=[.v (.bool b)]
   | .int k=>∃ n,(Lit.int k n).wf=true∧cs=[.v (.int k n)]
   | .string=>∃ s,s.size≤B∧cs=[.v (.string s)]
   | .slice e=>(match T.lookup e with
    | some te=>∃(n:Nat) (f:Nat→List IC),n≤B∧(∀ k,k<n→Rd T B d e (f k))∧cs=[.sl te.size n f]
    | none=>False)
   | .struct fs=>RdF (Rd T B d) fs.toList cs
   | _=>False
def a8Q(T:TT):List Field→Nat→Nat→Bool
 | [],off,tot=>off==tot
 | f::r,off,tot=>f.offset==off&&match T.lookup f.type with | some tf=>a8Q T r (off+tf.size) tot | none=>false
def okS(T:TT):Nat→TypeId→Bool
 | 0,_=>false
 | d+1,t=>match T.lookup t with
  | none=>false
  | some ti=>match ti.desc with
   | .bool=>true
   | .int _=>true
   | .string=>true
   | .slice e=>(T.lookup e).isSome&&okS T d e
   | .struct fs=>a8Q T fs.toList 0 ti.size&&fs.toList.all (fun f=>okS T d f.type)
   | _=>false
structure b8t(H:Type)(bulk:DataW H→Nat):Prop where
 str:∀ l:List UInt8,l.length≤bulk (.lit (.string l))
 len:∀ es sp:List (DataW H),es.length≤bulk (.slice es sp)
 el:∀(es sp:List (DataW H)) e,e∈es→bulk e≤bulk (.slice es sp)
 agg:∀(es:List (DataW H)) e,e∈es→bulk e≤bulk (.agg es)
theorem a3s{P:Program}{t:TypeId}{i:TI}(h:TF P t i):P.cellsOf t=i.size:=by
 have:=h.info;cases hq:P.info? t with
 | none=>rw[hq]at this;cases this
 | some q=>rw[hq]at this;simp at this;simp[Program.cellsOf,hq,this.2.1]
theorem b3b{w:World}{n:Nat}{a:Addr}{v:Value}(h:w.cell? a=some v):a2c ⟨fun k=>w.heap[k]?,n⟩ a=some v:=by
 unfold World.cell? at h;unfold a2c;exact h
section
variable {H:Type} {enc:TypeId × Value→H} {P:Program} {T:TT} {w:World} {B:Nat} {bulk:DataW H→Nat} {L:Nat→Value}
theorem b7U:∀(d:Nat) (t:TypeId) (cs:List IC),Rd T B d t cs→cs.all clo=true
 | 0,_,_,h=>h.elim
 | d+1,t,cs,h=>by
  unfold Rd at h;split at h
  ·exact h.elim
  ·split at h
   ·obtain⟨b,rfl⟩:=h;rfl
   ·obtain⟨b,_,rfl⟩:=h;rfl
   ·obtain⟨b,_,rfl⟩:=h;rfl
   ·split at h
    ·obtain⟨n,f,_,_,rfl⟩:=h;rfl
    ·exact h.elim
   ·rename_i fs _
    generalize fs.toList=l at h
    induction l generalizing cs with
    | nil=>unfold RdF at h;subst h;rfl
    | cons f r ih =>
     unfold RdF at h;obtain⟨xs,ys,h1,h2,rfl⟩:=h;rw[List.all_append,b7U d _ _ h1,ih ys h2];rfl
   ·exact h.elim
theorem b2y{α:Type}[Inhabited α]{n:Nat}{p:Nat→α→Prop}(h:∀ i,i<n→∃ x,p i x):∃ f:Nat→α,∀ i,i<n→p i (f i):=by
 classical
 refine⟨fun i=>if hi:i<n then Classical.choose (h i hi)else default,fun i hi=>?_⟩
 simp only[dif_pos hi];exact Classical.choose_spec (h i hi)
theorem b9j(hT:TTok P T)(hb:b8t H bulk):∀(d:Nat) (t:TypeId) (fuel:Nat) (cs:List Value) (x:DataW H × List MemPlace),okS T d t=true→DataW.trod enc P w 0 (fun _=>true) true fuel t cs=some x→bulk x.1≤B →
  ∃ ics,DenL L ⟨fun k=>w.heap[k]?,0⟩ ics cs∧Rd T B d t ics
 | 0,_,_,_,_,hs,_,_=>by cases hs
 | d+1,t,fuel,cs,x,hs,h,hB=>by
  unfold okS at hs;cases hl:T.lookup t with
  | none=>rw[hl]at hs;cases hs
  | some ti =>
   rw[hl]at hs;have htf:=hT _ _ hl;have hu:=htf.und;cases hd:ti.desc with
   | bool =>
    rw[hd]at hu;obtain⟨b,rfl,rfl⟩:=DataW.trod_bool hu h;exact⟨[.v (.bool b)],DenL.cons (.v _ rfl) DenL.nil,by unfold Rd;simp only[hl,hd];exact⟨b,rfl⟩⟩
   | int k =>
    rw[hd]at hu;obtain⟨n,rfl,rfl,hw⟩:=DataW.trod_int hu h;exact⟨[.v (.int k n)],DenL.cons (.v _ rfl) DenL.nil,by unfold Rd;simp only[hl,hd];exact⟨n,hw,rfl⟩⟩
   | string =>
    rw[hd]at hu;obtain⟨s,rfl,rfl,hw⟩:=DataW.trod_string hu h;have h1:=hb.str s.data.toList;have h2:s.data.toList.length=s.size:=c2A s;exact⟨[.v (.string s)],DenL.cons (.v _ rfl) DenL.nil,by unfold Rd;simp only[hl,hd];exact⟨s,by simp only at hB;omega,rfl⟩⟩
   | slice e =>
    simp only[hd]at hs;rw[Bool.and_eq_true]at hs;obtain⟨te,hle⟩:=Option.isSome_iff_exists.1 hs.1;have hte:=hT _ _ hle;have hsz:=a3s hte;rw[hd]at hu;rcases DataW.trod_slice hu h with⟨rfl,rfl⟩|⟨a,len,cap,elems,rest,n,rfl,rfl,rfl,hba,hlc,hcm,hlen,hel,_⟩
    ·exact⟨[.sl te.size 0 fun _=>[]],DenL.cons (.sl _ 0 _ none 0 ⟨0,0,none⟩ (fun _ _=>undef) (Nat.le_refl _) (by omega) (fun h=>by omega) (fun k hk=>by omega) (fun k hk=>by omega) (fun k hk=>by omega) (fun k hk=>by omega)) DenL.nil,
      by unfold Rd;simp only[hl,hd,hle];exact⟨0,fun _=>[],Nat.zero_le _,(fun k hk=>by omega),rfl⟩⟩
    ·have hbl:=hb.len (elems.map (·.1)) (rest.map (·.1))
     rw[List.length_map,hlen]at hbl;have key:∀ i,i<len→∃ p:List IC × List Value,w.cells? 0 (a.add (i*P.cellsOf e)) (P.cellsOf e)=some p.2∧DenL L ⟨fun k=>w.heap[k]?,0⟩ p.1 p.2∧Rd T B d e p.1:=fun i hi=>by
      have h1:=hel i hi;rw[List.getElem?_eq_getElem (by omega)]at h1
      obtain⟨cs',h2,h3⟩:=Option.bind_eq_some_iff.1 h1;have hbe:bulk (elems[i]'(by omega)).1≤B:=Nat.le_trans (hb.el _ (rest.map (·.1)) _ (List.mem_map_of_mem (List.getElem_mem (by omega)))) hB
      obtain⟨ics,k1,k2⟩:=b9j hT hb d e n cs' _ hs.2 h3 hbe;exact⟨(ics,cs'),h2,k1,k2⟩
     obtain⟨F,hF⟩:=b2y key;refine⟨[.sl te.size len fun k=>(F k).1],DenL.cons (.sl _ len _ (some a) cap a (fun k j=>(F k).2.getD j undef) hlc (by unfold maxLen at hcm;omega) (fun _=>rfl) (fun k hk j hj=>?_) (fun k hk=>?_) (fun k hk=>b7U d e _ (hF k hk).2.2) (fun k hk j c hc=>?_)) DenL.nil,by unfold Rd;simp only[hl,hd,hle];exact⟨len,_,by simp only at hB;omega,(fun k hk=>(hF k hk).2.2),rfl⟩⟩
     ·obtain⟨_,q1,q2⟩:=World.cells?_some (hF k hk).1
      rw[hsz]at q1 q2;have q3:=q2 j hj;rw[a0L]at q3;rw[List.getElem?_eq_getElem (by omega)]at q3
      rw[b3b q3];simp[List.getD_eq_getElem?_getD,List.getElem?_eq_getElem (show j<(F k).2.length by omega)]
     ·obtain⟨_,q1,q2⟩:=World.cells?_some (hF k hk).1
      rw[(hF k hk).2.1.1,q1,hsz]
     ·have h1:=(hF k hk).2.1
      have hj:j<(F k).2.length:=by rw[←h1.1];exact(List.getElem?_eq_some_iff.1 hc).1
      have:=h1.2 j c _ hc (List.getElem?_eq_getElem hj);simpa [List.getD_eq_getElem?_getD,List.getElem?_eq_getElem hj]using this
   | struct fs =>
    simp only[hd]at hs;rw[Bool.and_eq_true]at hs;obtain⟨hti,hall⟩:=hs;rw[hd]at hu;obtain⟨xs,n,rfl,rfl,hcl,hxl,hx⟩:=DataW.trod_struct hu h;rw[a3s htf]at hcl;have main:∀(l:List Field) (i off:Nat),(∀ j,l[j]?=fs[i+j]?)→a8Q T l off ti.size=true→l.all (fun f=>okS T d f.type)=true→off≤cs.length →
      ∃ ics,DenL L ⟨fun k=>w.heap[k]?,0⟩ ics (cs.drop off)∧RdF (Rd T B d) l ics:=by
     intro l
     induction l with
     | nil =>
      intro i off _ ht _ _;unfold a8Q at ht;have e:off=ti.size:=by simpa using ht
      refine⟨[],?_,rfl⟩;rw[e,←hcl,List.drop_length];exact DenL.nil
     | cons f r ih =>
      intro i off hi ht ha hoff;unfold a8Q at ht;rw[Bool.and_eq_true]at ht;obtain⟨h1,h2⟩:=ht;have e:f.offset=off:=by simpa using h1
      cases hlf:T.lookup f.type with
      | none=>rw[hlf]at h2;cases h2
      | some tf =>
       rw[hlf]at h2;simp only at h2;rw[List.all_cons,Bool.and_eq_true]at ha;have hfi:fs[i]?=some f:=by have:=hi 0;simpa using this.symm
       have hxi:=hx i f hfi;have hlt:i<xs.length:=by rw[hxl];exact(Array.getElem?_eq_some_iff.1 hfi).1
       rw[List.getElem?_eq_getElem hlt]at hxi;have hbe:bulk (xs[i]).1≤B:=Nat.le_trans (hb.agg _ _ (List.mem_map_of_mem (List.getElem_mem hlt))) hB;obtain⟨ics,k1,k2⟩:=b9j hT hb d f.type n _ _ ha.1 hxi hbe;rw[a3s (hT _ _ hlf),e]at k1;have hle:∀(l:List Field) (o:Nat),a8Q T l o ti.size=true→o≤ti.size:=by
        intro l
        induction l with
        | nil =>
         intro o h;unfold a8Q at h;have:o=ti.size:=by simpa using h
         omega
        | cons f r ih =>
         intro o h;unfold a8Q at h;rw[Bool.and_eq_true]at h;obtain⟨_,h⟩:=h;cases hq:T.lookup f.type with
         | none=>rw[hq]at h;cases h
         | some tq=>rw[hq]at h;have:=ih _ h;omega
       have hnext:=hle r _ h2;obtain⟨ics2,k3,k4⟩:=ih (i+1) (off+tf.size) (fun j=>by have:=hi (j+1);rw[List.getElem?_cons_succ]at this;rw[this,Nat.add_assoc,Nat.add_comm 1]) h2 ha.2 (by omega)
       refine⟨ics++ics2,?_,?_⟩
       ·have:=k1.append k3
        rwa [←List.drop_drop,List.take_append_drop]at this
       ·unfold RdF;exact⟨ics,ics2,k2,k4,rfl⟩
    obtain⟨ics,k1,k2⟩:=main fs.toList 0 0 (fun j=>by simp) hti hall (Nat.zero_le _)
    rw[List.drop_zero]at k1;exact⟨ics,k1,by unfold Rd;simp only[hl,hd];exact k2⟩
   | _=>simp only[hd]at hs;cases hs
def RdA(T:TT)(B d:Nat)(t:TypeId)(a:AV):Prop :=
 match T.lookup t with
 | none=>False
 | some ti=>match ti.desc with
  | .struct _=>∃ cs,Rd T B d t cs∧a=.agg cs
  | _=>∃ c,Rd T B d t [c]∧a=.c c
def b8s(T:TT)(B d:Nat):List TypeId→List AV→Prop
 | [],az=>az=[]
 | t::ts,az=>∃ a r,RdA T B d t a∧b8s T B d ts r∧az=a::r
theorem c4h(hT:TTok P T)(hb:b8t H bulk){d:Nat}{t:TypeId}{v:Value}{x:DataW H}{p:List MemPlace}{base:Nat}(hval:Value.okWide P w .any base t v)(h:DataW.Trod enc P w 0 (fun _=>true) true t v x p)(hs:okS T d t=true)(hB:bulk x≤B) :
  ∃ a,DenA L ⟨fun k=>w.heap[k]?,0⟩ a v∧RdA T B d t a:=by
 obtain⟨fuel,h⟩:=h;obtain⟨ics,h1,h2⟩:=b9j (L:=L) hT hb d t fuel _ _ hs h hB;cases d with
 | zero=>cases hs
 | succ d =>
 unfold okS at hs;cases hl:T.lookup t with
 | none=>rw[hl]at hs;cases hs
 | some ti =>
  have hu:=(hT _ _ hl).und;have one:(∃ u,v=u∧v.cells.toList=[u])→(∀ fs,ti.desc≠.struct fs)→∃ a,DenA L ⟨fun k=>w.heap[k]?,0⟩ a v∧RdA T B (d+1) t a:=fun⟨u,e1,e2⟩ hne=>by
   subst e1;rw[e2]at h1
   match ics,h1.1 with
   | [c],_ =>
    refine⟨.c c,h1.2 0 c _ rfl rfl,?_⟩;unfold RdA;simp only[hl];cases hq:ti.desc with
    | struct fs=>exact absurd hq (hne fs)
    | _=>exact⟨c,h2,rfl⟩
  cases hd:ti.desc with
  | bool=>rw[hd]at hu;obtain⟨b,rfl⟩:=okWide_bool hu hval;exact one ⟨_,rfl,rfl⟩ (by rw[hd];intro fs e;cases e)
  | int k=>rw[hd]at hu;obtain⟨b,rfl⟩:=okWide_int hu hval;exact one ⟨_,rfl,rfl⟩ (by rw[hd];intro fs e;cases e)
  | string=>rw[hd]at hu;obtain⟨b,rfl⟩:=okWide_string hu hval;exact one ⟨_,rfl,rfl⟩ (by rw[hd];intro fs e;cases e)
  | slice e=>rw[hd]at hu;obtain⟨a,n,c,rfl⟩:=okWide_slice hu hval;exact one ⟨_,rfl,rfl⟩ (by rw[hd];intro fs e;cases e)
  | struct fs =>
   rw[hd]at hu;obtain⟨cs,rfl,_⟩:=okWide_struct hu hval;refine⟨.agg ics,⟨cs.toList,by simp,by simpa [Value.cells]using h1⟩,?_⟩
   unfold RdA;rw[hl];simp only[hd];exact⟨ics,h2,rfl⟩
  | _=>simp only[hl,hd]at hs;cases hs
def b2E(az bs:List AV):Prop:=∀(L:Nat→Value) (h:Hp) (vs:List Value),a2W L h az vs→a2W L h bs vs
theorem b1i(az:List AV):b2E az az:=fun _ _ _ h=>h
theorem a6S{a b:AV}{az bs:List AV}(h1:∀(L:Nat→Value) (h:Hp) v,DenA L h a v→DenA L h b v)(h2:b2E az bs):b2E (a::az) (b::bs):=fun L h vs hd=>by
 match vs,hd with
 | v::r,hd =>
  have:=h2 L h r ⟨by have:=hd.len;simpa using this,fun j x u hj hu=>hd.den (j+1) x u (by simpa using hj) (by simpa using hu)⟩
  exact b3j (h1 L h v (hd.den 0 _ _ rfl rfl)) this
 | [],hd=>have:=hd.len;simp at this
theorem c4p{a:AV}{az bs:List AV}(h2:b2E az bs):b2E (a::az) (a::bs):=a6S (fun _ _ _ h=>h) h2
theorem b3m[a0h P]{f:FuncId}{args args':List AV}{own:List (Option Ob)}{Q:AV→List (Option Ob)→Prop}(h:b2E args args')(hc:a0f P f args' own Q):a0f P f args own Q :=
 ⟨fun mine L F hh w vs hgl hm hd=>hc.out mine L F hh w vs hgl hm (h L hh vs hd)⟩
theorem b0I{α:Type}{n:Nat}{f:Nat→List IC}{enc:α→List IC}{R:α→Prop}(d:α)(h:∀ k,k<n→∃ a,R a∧f k=enc a):∃ l:List α,l.length=n∧(∀ k,k<n→f k=enc (l.getD k d))∧∀ k,k<n→R (l.getD k d):=by
 have:Inhabited α:=⟨d⟩
 obtain⟨g,hg⟩:=b2y h;refine⟨(List.range n).map g,by simp,fun k hk=>?_,fun k hk=>?_⟩
 ·rw[(hg k hk).2];simp[List.getD_eq_getElem?_getD,hk]
 ·have:=(hg k hk).1;simpa [List.getD_eq_getElem?_getD,hk]using this
theorem a5o{h:Hp}{sz n:Nat}{f f':Nat→List IC}{v:Value}(hd:Den L h (.sl sz n f) v)(hf:∀ k,k<n→f' k=f k):Den L h (.sl sz n f') v:=by
 cases hd with
 | sl _ _ _ A c ad g hc hm hA hg hl hclo hr=>exact .sl sz n f' A c ad g hc hm hA hg (fun k hk=>by rw[hf k hk];exact hl k hk) (fun k hk=>by rw[hf k hk];exact hclo k hk) (fun k hk j c' hc'=>by rw[hf k hk]at hc';exact hr k hk j c' hc')
end
end Go.Eng
namespace Go.Eng
open Go
section
variable {P:Program} {ops:Array Oper} {Q:Exit→Act→World→Prop} {md:Region.Mode} {C:World→Prop}
end
section
variable {P:Program} {T:TT} {FF:FL} {mine may:Nat→Prop} {L:Nat→Value} {F:Nat→Nat→Prop} {h:Hp} {w w0:World} {ops:Array Oper}
end
end Go.Eng
namespace Go.Eng
open Go
section
variable {P:Program} {ops:Array Oper} {Q:Exit→Act→World→Prop} {md:Region.Mode} {R:Act→World→Prop}
theorem a5s{S:Nat→Bool}{C C':World→Prop}(hC:∀ w,C' w→C w):∀(fuel:Nat) (listed:Array Bool) (a:Act) (w:World),a1V P md ops Q C' S R fuel listed a w→a1V P md ops Q C S R fuel listed a w
 | 0,listed,a,w,h=>h
 | fuel+1,listed,a,w,h=>⟨h.1,fun i hi hS=>wpOp_mono (fun a' w' h1=>⟨hC _ h1.1,a5s hC fuel _ a' w' h1.2⟩) (h.2 i hi hS)⟩
inductive Sch where
 | nil
 | rd (i:Nat) (s:Sch)
 | ef (i:Nat) (s:Sch)
 | alt (a b:Sch)
def wpS(P:Program)(ops:Array Oper)(Q:Exit→Act→World→Prop)(R:Act→World→Prop):Sch→(World→Prop)→Act→World→Prop
 | .nil,C,a,w=>R a w
 | .rd i r,C,a,w=>∃ o v,ops[i]?=some o∧a1v P ops C o v a∧wpS P ops Q R r C (a.put o.dst v) w
 | .ef i r,C,a,w=>wpOp P ops Q i (fun a' w'=>∃ C':World→Prop,(∀ x,C' x→C x)∧C' w'∧wpS P ops Q R r C' a' w') a w
 | .alt x y,C,a,w=>wpS P ops Q R x C a w∧wpS P ops Q R y C a w
theorem a4g{R R':Act→World→Prop}(hq:∀ a w,R a w→R' a w):∀(l:Sch) (C:World→Prop) (a:Act) (w:World),wpS P ops Q R l C a w→wpS P ops Q R' l C a w
 | .nil,C,a,w,h=>hq a w h
 | .rd i r,C,a,w,⟨o,v,h1,h2,h3⟩=>⟨o,v,h1,h2,a4g hq r C _ _ h3⟩
 | .ef i r,C,a,w,h=>wpOp_mono (fun a' w' ⟨C',k1,k2,k3⟩=>⟨C',k1,k2,a4g hq r C' a' w' k3⟩) h
 | .alt x y,C,a,w,h=>⟨a4g hq x C a w h.1,a4g hq y C a w h.2⟩
def a9z:Sch→List Nat
 | .ef i _=>[i]
 | .alt x y=>a9z x++a9z y
 | _=>[]
def a3N:Sch→Nat→Bool
 | .nil,0=>true
 | .rd _ r,n+1=>a3N r n
 | .ef _ r,n+1=>a3N r n
 | .alt x y,n+1=>a3N x (n+1)&&a3N y (n+1)
 | _,_=>false
def a2a(md:Region.Mode)(ops:Array Oper):Sch→Bool→Array Bool→Bool
 | .nil,_,listed=>(List.range ops.size).all (fun j=>listed.getD j false)
 | .rd i r,_,listed=>(Region.ready md ops listed).contains i&&Region.free md ops listed i&&a2a md ops r true (listed.setIfInBounds i true)
 | .ef i r,fl,listed=>(Region.ready md ops listed).contains i&&(!fl||(Region.ready md ops listed).all (fun j=>decide (j=i)))&&a2a md ops r true (listed.setIfInBounds i true)
 | .alt x y,fl,listed=>(!fl||((Region.ready md ops listed).all (fun j=>(a9z x++a9z y).contains j)&&(Region.ready md ops listed).any (fun _=>true)))&&a2a md ops x false listed&&a2a md ops y false listed
theorem a1F(hs:Region.noSelect ops=true)(hQ:∀ d v c a w,Q (.panic c) (a.put d v) w→Q (.panic c) a w):∀(l:Sch),
  (∀(n:Nat) (listed:Array Bool) (C:World→Prop) (a:Act) (w:World),C w→a3N l n=true→a2a md ops l true listed=true→wpS P ops Q R l C a w→a1V P md ops Q C (fun i=>decide (i<ops.size)) R n listed a w) ∧
  (∀(n:Nat) (listed:Array Bool) (C:World→Prop) (a:Act) (w:World) (j:Nat),C w→a3N l (n+1)=true→a2a md ops l false listed=true→wpS P ops Q R l C a w→j∈a9z l→wpOp P ops Q j (fun a' w'=>C w'∧a1V P md ops Q C (fun i=>decide (i<ops.size)) R n (listed.setIfInBounds j true) a' w') a w)
 | .nil=>by
  refine⟨fun n listed C a w hw hd hB h=>?_,fun n listed C a w j hw hd hB h hj=>by cases hj⟩
  cases n with
  | zero=>exact⟨fun j hj _=>List.all_eq_true.1 hB j (List.mem_range.2 hj),h⟩
  | succ n=>cases hd
 | .rd i r=>by
  refine⟨fun n listed C a w hw hd hB h=>?_,fun n listed C a w j hw hd hB h hj=>by cases hj⟩
  cases n with
  | zero=>cases hd
  | succ n =>
   obtain⟨o,v,h0,hy,h⟩:=h;simp only[a2a,Bool.and_eq_true]at hB;obtain⟨⟨hr,hf⟩,hB'⟩:=hB;have:=(a1F hs hQ r).1 n _ C (a.put o.dst v) w hw hd hB' h;exact a5t (decide_eq_true (Array.getElem?_eq_some_iff.1 h0).1) h0 (Region.noSelect_spec hs) (hQ o.dst v) n listed a w hw (Region.free_spec h0 hf) (by simpa using hr) hy this
 | .ef i r=>by
  have two:∀(n:Nat) (listed:Array Bool) (C:World→Prop) (a:Act) (w:World),C w→a3N r n=true→a2a md ops r true (listed.setIfInBounds i true)=true→wpS P ops Q R (.ef i r) C a w→wpOp P ops Q i (fun a' w'=>C w'∧a1V P md ops Q C (fun i=>decide (i<ops.size)) R n (listed.setIfInBounds i true) a' w') a w:=fun n listed C a w hw hd hB h=>by
   refine wpOp_mono (fun a' w' h1=>?_) h;obtain⟨C',k1,k2,k3⟩:=h1;exact⟨k1 _ k2,a5s k1 _ _ _ _ ((a1F hs hQ r).1 n _ C' a' w' k2 hd hB k3)⟩
  refine⟨fun n listed C a w hw hd hB h=>?_,fun n listed C a w j hw hd hB h hj=>?_⟩
  ·cases n with
   | zero=>cases hd
   | succ n =>
    simp only[a2a,Bool.and_eq_true,Bool.not_true,Bool.false_or]at hB;obtain⟨⟨hr,hf⟩,hB'⟩:=hB;have hr':i∈Region.ready md ops listed:=by simpa using hr
    obtain⟨g1,g2,g3⟩:=a1y hr';refine⟨⟨i,g1,decide_eq_true g1,g2⟩,fun j hj hS=>?_⟩;obtain rfl:j=i:=of_decide_eq_true (List.all_eq_true.1 hf j hj);exact two n listed C a w hw hd hB' h
  ·obtain rfl:j=i:=by simpa [a9z]using hj
   simp only[a2a,Bool.and_eq_true]at hB;exact two n listed C a w hw hd hB.2 h
 | .alt x y=>by
  have two:∀(n:Nat) (listed:Array Bool) (C:World→Prop) (a:Act) (w:World) (j:Nat),C w→a3N (.alt x y) (n+1)=true→a2a md ops x false listed=true→a2a md ops y false listed=true→wpS P ops Q R (.alt x y) C a w→j∈a9z x++a9z y →
    wpOp P ops Q j (fun a' w'=>C w'∧a1V P md ops Q C (fun i=>decide (i<ops.size)) R n (listed.setIfInBounds j true) a' w') a w:=fun n listed C a w j hw hd h1 h2 h hj=>by
   simp only[a3N,Bool.and_eq_true]at hd;rcases List.mem_append.1 hj with hj | hj
   ·exact(a1F hs hQ x).2 n listed C a w j hw hd.1 h1 h.1 hj
   ·exact(a1F hs hQ y).2 n listed C a w j hw hd.2 h2 h.2 hj
  refine⟨fun n listed C a w hw hd hB h=>?_,fun n listed C a w j hw hd hB h hj=>?_⟩
  ·cases n with
   | zero=>cases hd
   | succ n =>
    simp only[a2a,Bool.and_eq_true,Bool.not_true,Bool.false_or]at hB;obtain⟨⟨⟨hr,he⟩,h1⟩,h2⟩:=hB;obtain⟨i,hi,_⟩:=List.any_eq_true.1 he;obtain⟨g1,g2,g3⟩:=a1y hi;refine⟨⟨i,g1,decide_eq_true g1,g2⟩,fun j hj hS=>?_⟩;exact two n listed C a w j hw hd h1 h2 h (by simpa using List.all_eq_true.1 hr j hj)
  ·simp only[a2a,Bool.and_eq_true]at hB
   exact two n listed C a w j hw hd hB.1.2 hB.2 h hj
def schB(ops:Array Oper)(l:Sch):Bool:=Region.noSelect ops&&a7L .any ops ops.size&&a2a .any ops l true (Array.replicate ops.size false)&&a3N l ops.size
theorem a5W{id:Nat}{l:Sch}{C:World→Prop}{a:Act}{w:World}(hmx:P.follows .mixedOrders=true)(hB:schB ops l=true)(hQ:∀ d v c a w,Q (.panic c) (a.put d v) w→Q (.panic c) a w)(hC:C { w with drawn:=w.drawn+1 })
  (h:wpS P ops Q (fun a' w'=>Q .normal a' w') l C a { w with drawn:=w.drawn+1 }):(Code.region id ops true).wp P Q a w:=by
 unfold schB at hB;simp only[Bool.and_eq_true,decide_eq_true_eq]at hB;obtain⟨⟨⟨hs,ht⟩,hp⟩,hlen⟩:=hB;refine wp_region_any hmx ?_;have hsz0:(Array.replicate ops.size false).size=ops.size:=by simp
 have hcl:a1g .any ops (Array.replicate ops.size false):=fun i hi hx=>by simp[hi]at hx
 have hX:=(a1F (md:=.any) (Q:=Q) (R:=fun a' w'=>Q .normal a' w') hs hQ l).1 ops.size _ C a _ hC hlen hp h;have key:=a3v (Q:=Q) ht (Nat.le_refl _) 0 (fun listed a' w' hR hz h1 h2 hc =>
  a2s ht [] ops.size listed a' w' (fun j=>by rw[List.getElem?_nil,Array.getElem?_eq_none (by omega)]) (by simp) (Nat.le_refl _) hz h1 h2 hc hR) ops.size _ a _ hsz0 (fun j hj1 hj2=>by omega) hcl hX
 exact key
end
def a5y(P:Program)[a0h P](T:TT)(F:FL)(ops:Array Oper)(ch:List Nat)(l:Sch):St→(St→Prop)→Prop :=
 Sch.rec (motive:=fun _=>St→(St→Prop)→Prop) (fun st K=>K st)
  (fun i _ ih st K=>match ops[i]? with
    | none=>False
    | some o=>match st with
     | ⟨n,kk,env,own⟩=>a0H (a2S ch 0 own) fun ownH=>a5C ops o ⟨n,kk,env,ownH⟩ (aopP T ⟨n,kk,env,ownH⟩ o.op (fun av=>putK ⟨n,kk,env,own⟩ o.dst av (fun st'=>ih st' K))) (b2M ⟨n,kk,env,own⟩ o.dst (fun st'=>ih st' K)))
  (fun i _ ih st K=>match ops[i]? with
    | none=>False
    | some o=>match st with
     | ⟨n,kk,env,own⟩=>a0H (a1s ch 0 own) fun ownE=>a5C ops o ⟨n,own.length,env,ownE⟩ (b2K P T F o ⟨n,own.length,env,ownE⟩ (fun st2=>match st2 with
        | ⟨n2,_,env2,own2⟩=>a0H (a1i ch 0 own own2) fun own3=>ih ⟨n2,kk,env2,own3⟩ K)) (b2M ⟨n,kk,env,own⟩ o.dst (fun st'=>ih st' K)))
  (fun _ _ iha ihb st K=>iha st K∧ihb st K) l
section
variable {P:Program} {T:TT} {FF:FL} {may:Nat→Prop} {L:Nat→Value} {F:Nat→Nat→Prop} {h:Hp} {w w0:World} {ops:Array Oper}
theorem b6X[a0h P]{h0:Base P}{ch:List Nat}{own own2:List (Option Ob)}{kk n2 kk2:Nat}{env2:List (Nat × AV)}{a2:Act}{wd w2:World}{hgl:a0h.ok P h.m}(hm0:Mem (a0g may w0) L F h own wd)(hk0:Keep may w0 wd)(hsub:SubB h0 kk L h)(hnew:∀ k,h.m k≠none→h0.h.m k≠none∨a0g may w0 k)
  (hs:Sat (a0l F (a1s ch 0 own)) wd (⟨h,L,hgl⟩:Base P) ⟨n2,kk2,env2,own2⟩ a2 w2) :
  ∃ L2 F3 h2,Mem (a0g may w0) L2 F3 h2 (a1i ch 0 own own2) w2∧a0r P L2 h2 ⟨n2,kk,env2,a1i ch 0 own own2⟩ a2∧SubB h0 kk L2 h2∧(∀ k,h2.m k≠none→h0.h.m k≠none∨a0g may w0 k)∧Keep may w0 w2 ∧
   (∀ x,Keep (a0l F3 (a1s ch 0 (a1i ch 0 own own2))) w2 x→Keep (a0l F (a1s ch 0 own)) wd x):=by
 let may':Nat→Prop:=a0l F (a1s ch 0 own)
 have hmayF:∀ b,may' b→∃ i ob,own[i]?=some (some ob)∧ch.contains i=true∧F i b:=fun b ⟨i,ob,hi,hb⟩=>by
  have:=(a0v ch own 0 i ob).1 hi;rw[Nat.zero_add]at this;exact⟨i,ob,this.1,this.2,hb⟩
 have hmay:∀ b,may' b→a0g may w0 b:=fun b hb=>by
  obtain⟨i,ob,h1,_,h3⟩:=hmayF b hb;exact(hm0.foot i ob b h1 h3).2.2
 have hmine':∀ b,a0g may' wd b→a0g may w0 b:=fun b hb=>by
  rcases hb with hb | hb
  ·exact hmay b hb
  ·exact .inr (Nat.le_trans hk0.size hb)
 have hout:∀(i:Nat) (ob:Ob) (b:Nat),own[i]?=some (some ob)→ch.contains i=false→F i b→¬may' b:=fun i ob b hi hc hb hmb=>by
  obtain⟨j,oj,h1,h2,h3⟩:=hmayF b hmb;have:=hm0.dis i j ob oj b hi h1 hb h3;subst this;rw[hc]at h2;cases h2
 obtain⟨⟨L2,F2,h2,hm2,ha2,hsub2,hnew2⟩,hk2⟩:=hs;have hLL:∀ i,i<h.n→L2 i=L i:=fun i hi=>hsub2.at_ i hi;have hS2:Sub h h2:=hsub2.sub
 let F3:Nat→Nat→Prop:=fun i b=>(∃ x,own[i]?=some (some x)∧ch.contains i=false∧F i b)∨((∀ x,own[i]?=some (some x)→ch.contains i=true)∧F2 i b)
 have hnot:∀(i j:Nat) (ob o2:Ob) (b:Nat),own[i]?=some (some ob)→ch.contains i=false→F i b→own2[j]?=some (some o2)→F2 j b→False:=fun i j ob o2 b hi hc hb hj hb2=>by
  obtain⟨q1,q2,q3⟩:=hm2.foot j o2 b hj hb2;rcases q3 with q3 | q3
  ·exact hout i ob b hi hc hb q3
  ·have:=(hm0.foot i ob b hi hb).1
   omega
 have hF3a:∀(i:Nat) (ob:Ob),own[i]?=some (some ob)→ch.contains i=false→F3 i=F i:=fun i ob hi hc=>by
  funext b
  refine propext ⟨fun hb=>?_,fun hb=>.inl ⟨ob,hi,hc,hb⟩⟩;rcases hb with⟨_,_,_,hb⟩|⟨hx,_⟩
  ·exact hb
  ·rw[hx ob hi]at hc;cases hc
 have hF3b:∀(i:Nat),(∀ x,own[i]?=some (some x)→ch.contains i=true)→F3 i=F2 i:=fun i hx=>by
  funext b
  refine propext ⟨fun hb=>?_,fun hb=>.inr ⟨hx,hb⟩⟩;rcases hb with⟨x,h1,h2,_⟩|⟨_,hb⟩
  ·rw[hx x h1]at h2;cases h2
  ·exact hb
 have hmg:∀(i:Nat) (ob:Ob),(a1i ch 0 own own2)[i]?=some (some ob)→(own[i]?=some (some ob)∧ch.contains i=false∧F3 i=F i)∨(own2[i]?=some (some ob)∧F3 i=F2 i):=fun i ob hi=>by
  have:=a3A ch own own2 0 i ob hi;rw[Nat.zero_add]at this;rcases this with⟨h1,h2⟩|⟨h1,h2⟩
  ·exact .inl ⟨h1,h2,hF3a i ob h1 h2⟩
  ·exact .inr ⟨h1,hF3b i h2⟩
 have hm3:Mem (a0g may w0) L2 F3 h2 (a1i ch 0 own own2) w2:=by
  refine⟨by rw[a3z];exact hm2.hn,hm2.hsub,fun i ob hi=>?_,fun i ob b hi hb=>?_,fun i j oi oj b hi hj hbi hbj=>?_⟩
  ·rcases hmg i ob hi with⟨q1,q2,q3⟩|⟨q1,q3⟩
   ·have hlt:i<h.n:=by rw[hm0.hn];exact(List.getElem?_eq_some_iff.1 q1).1
    rw[q3,hLL i hlt];exact a0X (hm0.obs i ob q1) (fun b hb=>hk2.block b (hm0.foot i ob b q1 hb).1 (hout i ob b q1 q2 hb)) hLL hS2
   ·rw[q3];exact hm2.obs i ob q1
  ·rcases hmg i ob hi with⟨q1,q2,q3⟩|⟨q1,q3⟩
   ·rw[q3]at hb
    obtain⟨f1,f2,f3⟩:=hm0.foot i ob b q1 hb;refine⟨Nat.lt_of_lt_of_le f1 hk2.size,?_,f3⟩;cases ho:h2.m b with
    | none=>rfl
    | some o =>
     rcases hnew2 b (by rw[ho];simp)with h9 | h9 | h9
     ·exact absurd f2 h9
     ·exact absurd h9 (hout i ob b q1 q2 hb)
     ·omega
   ·rw[q3]at hb
    obtain⟨f1,f2,f3⟩:=hm2.foot i ob b q1 hb;exact⟨f1,f2,hmine' b f3⟩
  ·rcases hmg i oi hi with⟨q1,q2,q3⟩|⟨q1,q3⟩ <;> rcases hmg j oj hj with⟨r1,r2,r3⟩|⟨r1,r3⟩ <;> rw[q3]at hbi <;> rw[r3]at hbj
   ·exact hm0.dis i j oi oj b q1 r1 hbi hbj
   ·exact(hnot i j oi oj b q1 q2 hbi r1 hbj).elim
   ·exact(hnot j i oj oi b r1 r2 hbj q1 hbi).elim
   ·exact hm2.dis i j oi oj b q1 r1 hbi hbj
 refine⟨L2,F3,h2,hm3,⟨ha2.size,ha2.env,ha2.defers⟩,hsub.step hLL hS2,fun x hx=>?_,hk0.trans hk2 hmay,fun x hx=>hk2.trans hx (fun b hb=>?_)⟩
 ·rcases hnew2 x hx with h9 | h9
  ·exact hnew x h9
  ·exact .inr (hmine' x h9)
 ·obtain⟨i,ob,hi,hb⟩:=hb
  have h1:=(a0v ch _ 0 i ob).1 hi;rw[Nat.zero_add]at h1;rcases hmg i ob h1.1 with⟨q1,q2,q3⟩|⟨q1,q3⟩
  ·rw[q2]at h1;cases h1.2
  ·rw[q3]at hb
   exact(hm2.foot i ob b q1 hb).2.2
theorem b6B[a0h P]{ch:List Nat}{i n kk:Nat}{env:List (Nat × AV)}{own:List (Option Ob)}{r:Sch}{K:St→Prop}:a5y P T FF ops ch (.rd i r) ⟨n,kk,env,own⟩ K=(match ops[i]? with
  | none=>False
  | some o=>a0H (a2S ch 0 own) fun ownH=>a5C ops o ⟨n,kk,env,ownH⟩ (aopP T ⟨n,kk,env,ownH⟩ o.op (fun av=>putK ⟨n,kk,env,own⟩ o.dst av (fun st'=>a5y P T FF ops ch r st' K))) (b2M ⟨n,kk,env,own⟩ o.dst (fun st'=>a5y P T FF ops ch r st' K))):=by
 show(match ops[i]? with | none=>_ | some o=>_)=_
 cases ops[i]? <;> rfl
theorem b6C[a0h P]{ch:List Nat}{i n kk:Nat}{env:List (Nat × AV)}{own:List (Option Ob)}{r:Sch}{K:St→Prop}:a5y P T FF ops ch (.ef i r) ⟨n,kk,env,own⟩ K=(match ops[i]? with
  | none=>False
  | some o =>
   a0H (a1s ch 0 own) fun ownE=>a5C ops o ⟨n,own.length,env,ownE⟩ (b2K P T FF o ⟨n,own.length,env,ownE⟩ (fun st2=>match st2 with
   | ⟨n2,_,env2,own2⟩=>a0H (a1i ch 0 own own2) fun own3=>a5y P T FF ops ch r ⟨n2,kk,env2,own3⟩ K)) (b2M ⟨n,kk,env,own⟩ o.dst (fun st'=>a5y P T FF ops ch r st' K))):=by
 show(match ops[i]? with | none=>_ | some o=>_)=_
 cases ops[i]? <;> rfl
theorem a2L[a0h P]{h0:Base P}(hT:TTok P T)(hF:FTok P FF){Q:Exit→Act→World→Prop}{ch:List Nat}{K:St→Prop}:∀(l:Sch) (n kk:Nat) (env:List (Nat × AV)) (own:List (Option Ob)) (a:Act) (w:World) (L:Nat→Value) (F:Nat→Nat→Prop) (h:Hp),
  a5y P T FF ops ch l ⟨n,kk,env,own⟩ K→Mem (a0g may w0) L F h own w→a0r P L h ⟨n,kk,env,own⟩ a→SubB h0 kk L h→(∀ k,h.m k≠none→h0.h.m k≠none∨a0g may w0 k)→Keep may w0 w →
  wpS P ops Q (fun a' w'=>∃ st',Sat may w0 h0 st' a' w'∧K st') l (Keep (a0l F (a1s ch 0 own)) w) a w
 | .nil,n,kk,env,own,a,w,L,F,h,hp,hm,ha,hsub,hnew,hk=>⟨_,⟨⟨L,F,h,hm,ha,hsub,hnew⟩,hk⟩,hp⟩
 | .rd i r,n,kk,env,own,a,w,L,F,h,hp,hm,ha,hsub,hnew,hk=>by
  rw[b6B]at hp;cases hoi:ops[i]? with
  | none=>rw[hoi]at hp;exact hp.elim
  | some o =>
   rw[hoi]at hp;have hgl:a0h.ok P h.m:=a0h.mono h0.gl hsub.sub.m;simp only[a0q]at hp;have hH:a0r P L h ⟨n,kk,env,a2S ch 0 own⟩ a:=⟨ha.size,ha.env,ha.defers⟩;have hmH:Mem (a0g may w0) L F h (a2S ch 0 own) w :=
    ⟨by rw[a4F];exact hm.hn,hm.hsub,fun i ob hi=>hm.obs i ob ((a0G ch own 0 i ob).1 hi).1,fun i ob b hi=>hm.foot i ob b ((a0G ch own 0 i ob).1 hi).1,
     fun i j oi oj b hi hj=>hm.dis i j oi oj b ((a0G ch own 0 i oi).1 hi).1 ((a0G ch own 0 j oj).1 hj).1⟩
   have hC:∀ w',Keep (a0l F (a1s ch 0 own)) w w'→Same F (a2S ch 0 own) h w w':=fun w' hw' b hb=>by
    have hmayF:a0l F (a1s ch 0 own) b→∃ i ob,own[i]?=some (some ob)∧ch.contains i=true∧F i b:=fun⟨i,ob,hi,hb⟩=>by
     have:=(a0v ch own 0 i ob).1 hi;rw[Nat.zero_add]at this;exact⟨i,ob,this.1,this.2,hb⟩
    rcases hb with hb|⟨i,ob,hi,hb⟩
    ·cases ho:h.m b with
     | none=>exact absurd ho hb
     | some o =>
      refine hw'.block b (Array.getElem?_eq_some_iff.1 (hm.hsub b o ho)).1 (fun hmb=>?_);obtain⟨j,oj,h1,_,h3⟩:=hmayF hmb;exact hb (hm.foot j oj b h1 h3).2.1
    ·have h1:=(a0G ch own 0 i ob).1 hi
     rw[Nat.zero_add]at h1;refine hw'.block b (hm.foot i ob b h1.1 hb).1 (fun hmb=>?_);obtain⟨j,oj,g1,g2,g3⟩:=hmayF hmb;have:=hm.dis i j ob oj b h1.1 g1 hb g3;subst this;rw[h1.2]at g2;cases g2
   rcases a1J hH hp with⟨hw,hp⟩|⟨hw,hp⟩
   ·obtain⟨av,v,h1,h2,h3⟩:=a4T hT hmH hH (o:=o) hp
    obtain⟨⟨n',kk',env',own'⟩,k1,⟨k2,k2'⟩,k3⟩:=a2b ha h2 h1;simp only at k2 k2';subst k2 k2';exact⟨o,v,hoi,.inl ⟨hw,fun w' hw'=>h3 w' (hC w' hw')⟩,a2L hT hF r n' _ env' _ _ w L F h k3 hm k1 hsub hnew hk⟩
   ·obtain⟨⟨n',kk',env',own'⟩,k1,⟨k2,k2'⟩,k3⟩:=a2b ha (av:=.tup []) (v:=undef) a6a hp
    simp only at k2 k2';subst k2 k2';exact⟨o,undef,hoi,.inr ⟨hw,rfl⟩,a2L hT hF r n' _ env' _ _ w L F h k3 hm k1 hsub hnew hk⟩
 | .ef i r,n,kk,env,own,a,w,L,F,h,hp,hm,ha,hsub,hnew,hk=>by
  rw[b6C]at hp;cases hoi:ops[i]? with
  | none=>rw[hoi]at hp;exact hp.elim
  | some o =>
   rw[hoi]at hp;have hgl:a0h.ok P h.m:=a0h.mono h0.gl hsub.sub.m;simp only[a0q]at hp;have hE:a0r P L h ⟨n,own.length,env,a1s ch 0 own⟩ a:=⟨ha.size,ha.env,ha.defers⟩;have hmE:Mem (a0g (a0l F (a1s ch 0 own)) w) L F h (a1s ch 0 own) w :=
    ⟨by rw[a4A];exact hm.hn,hm.hsub,fun i ob hi=>hm.obs i ob ((a0v ch own 0 i ob).1 hi).1,fun i ob b hi hb=>⟨(hm.foot i ob b ((a0v ch own 0 i ob).1 hi).1 hb).1,(hm.foot i ob b ((a0v ch own 0 i ob).1 hi).1 hb).2.1,.inl ⟨i,ob,hi,hb⟩⟩,
     fun i j oi oj b hi hj=>hm.dis i j oi oj b ((a0v ch own 0 i oi).1 hi).1 ((a0v ch own 0 j oj).1 hj).1⟩
   have hsatE:Sat (a0l F (a1s ch 0 own)) w (⟨h,L,hgl⟩:Base P) ⟨n,own.length,env,a1s ch 0 own⟩ a w :=
    ⟨⟨L,F,h,hmE,hE,⟨Sub.refl h,fun i hi=>rfl,hm.hn.symm⟩,fun k hk=>.inl hk⟩,Keep.refl _ _⟩
   show Go.wpOp P ops Q i _ a w;unfold Go.wpOp;simp only[hoi];rcases a1J hE hp with⟨hw,hp⟩|⟨hw,hp⟩
   ·rw[if_pos hw]
    refine .inl (Oper.wp_mono (fun a' w' h2=>?_) (b0l (Q:=Q) hT hF hp hsatE));obtain⟨⟨n2,kk2,env2,own2⟩,hs2,hp2⟩:=h2;obtain⟨L2,F3,h2,m1,m2,m3,m4,m5,m6⟩:=b6X hm hk hsub hnew hs2;exact⟨_,m6,Keep.refl _ _,a2L hT hF r n2 kk env2 _ a' w' L2 F3 h2 hp2 m1 m2 m3 m4 m5⟩
   ·rw[if_neg (by rw[hw];simp)]
    obtain⟨⟨n',kk',env',own'⟩,k1,⟨k2,k2'⟩,k3⟩:=a2b ha (av:=.tup []) (v:=undef) a6a hp;simp only at k2 k2';subst k2 k2';exact⟨_,fun x hx=>hx,Keep.refl _ _,a2L hT hF r n' _ env' _ _ w L F h k3 hm k1 hsub hnew hk⟩
 | .alt x y,n,kk,env,own,a,w,L,F,h,hp,hm,ha,hsub,hnew,hk=>⟨a2L hT hF x n kk env own a w L F h hp.1 hm ha hsub hnew hk,a2L hT hF y n kk env own a w L F h hp.2 hm ha hsub hnew hk⟩
theorem a0m[a0h P](l:Sch)(ch:List Nat){id:Nat}{K:St→Prop}{st:St}(hmx:P.follows .mixedOrders=true)(hB:schB ops l=true)(hT:TTok P T)(hF:FTok P FF)
  (hp:a5y P T FF ops ch l st K):a4V P id ops K st:=by
 refine⟨fun may w0 h0 a w hs=>?_⟩;obtain⟨n,kk,env,own⟩:=st;obtain⟨⟨L,F,h,hm,ha,hsub,hnew⟩,hk⟩:=hs;have hk0:Keep may w0 { w with drawn:=w.drawn+1 }:=⟨hk.os,hk.tape,hk.output,hk.size,hk.block⟩;have hm0:Mem (a0g may w0) L F h own { w with drawn:=w.drawn+1 }:=a1t hm (fun b _=>rfl) (Nat.le_refl _);refine a5W (l:=l) (C:=Keep (a0l F (a1s ch 0 own)) { w with drawn:=w.drawn+1 }) hmx hB (fun d v c a w h=>by cases h.1) (Keep.refl _ _) ?_
 have:=a2L (Q:=fun e a' w'=>e=.normal∧∃ st',Sat may w0 h0 st' a' w'∧K st') (ops:=ops) hT hF l n kk env own a _ L F h hp hm0 ha hsub hnew hk0;exact a4g (fun a' w' h1=>⟨rfl,h1⟩) l _ a _ this
end
end Go.Eng
namespace Go.Eng
open Go Go.RowKit
def a9p(g3 g4:Nat)(m:Nat→Option Obj):Prop:=∀ w:World,(∀ k o,m k=some o→w.heap[k]?=some o)→Lib.Utf8Tabs g3 g4 w
theorem b0C{g3 g4:Nat}{m m':Nat→Option Obj}(h:a9p g3 g4 m)(hs:∀ k o,m k=some o→m' k=some o):a9p g3 g4 m':=fun w hw=>h w (fun k o hk=>hw k o (hs k o hk))
theorem a4M{w w':World}{b o:Nat}{v:Value}(hs:∀(k:Nat) (x:Obj),w.heap[k]?=some x→w'.heap[k]?=some x)(h:w.cell? ⟨b,o,none⟩=some v):w'.cell? ⟨b,o,none⟩=some v:=by
 unfold World.cell? at *;cases hx:w.heap[b]? with
 | none=>simp[hx]at h
 | some x=>rw[hs b x hx];rw[hx]at h;exact h
theorem c1J{g3 g4:Nat}{W:World}(h:Lib.Utf8Tabs g3 g4 W):a9p g3 g4 (fun k=>W.heap[k]?) :=
 fun w hw=>⟨fun c hc=>a4M hw (h.1 c hc),fun i hi=>⟨a4M hw (h.2 i hi).1,a4M hw (h.2 i hi).2⟩⟩
def b4r(nv tr te:Nat)(m:Nat→Option Obj):Prop:=∀ w:World,(∀ k o,m k=some o→w.heap[k]?=some o)→w.cell? ⟨0,0,none⟩=some (.iface tr (.agg #[.pointer (some ⟨nv,te,none⟩)]))
theorem b2W{nv tr te:Nat}{m m':Nat→Option Obj}(h:b4r nv tr te m)(hs:∀ k o,m k=some o→m' k=some o):b4r nv tr te m':=fun w hw=>h w (fun k o hk=>hw k o (hs k o hk))
theorem c2K{nv tr te:Nat}{W:World}(h:W.cell? ⟨0,0,none⟩=some (.iface tr (.agg #[.pointer (some ⟨nv,te,none⟩)]))):b4r nv tr te (fun k=>W.heap[k]?):=fun w hw=>a4M hw h
section
variable {P:Program} [a0h P]
theorem a6M{f:FuncId}{vs:List Value}{u:Value}(hv:∀ v,v∈vs→v.oneCell'=true)(hu:u.oneCell'=true)
  (hC:∀(m:Nat→Option Obj) (w:World),a0h.ok P m→(∀ k o,m k=some o→w.heap[k]?=some o)→Calls P f vs.toArray w (fun e w'=>e=.returned u∧Below w.heap.size w w')) :
  a0f P f (vs.map fun v=>.c (.v v)) [] (fun r own'=>own'=[]∧r=.c (.v u)):=by
 refine⟨fun mine L F h w ws hgl hm hden=>?_⟩;have e:ws=vs:=by
  refine List.ext_getElem? (fun j=>?_);have hl:=hden.len;rw[List.length_map]at hl;rcases Nat.lt_or_ge j vs.length with hj | hj
  ·have h1:(vs.map fun v=>AV.c (.v v))[j]?=some (.c (.v vs[j])):=by rw[List.getElem?_map,List.getElem?_eq_getElem hj];rfl
   have h2:ws[j]?=some (ws[j]'(by omega)):=List.getElem?_eq_getElem (by omega)
   have h3:=hden.den j _ _ h1 h2;have h4:ws[j]'(by omega)=vs[j]:=by
    have:Den L h (.v vs[j]) (ws[j]'(by omega)):=h3
    generalize ws[j]'(by omega)=x at this
    cases this;rfl
   rw[h2,h4,List.getElem?_eq_getElem hj]
  ·rw[List.getElem?_eq_none (by omega),List.getElem?_eq_none (by omega)]
 subst e;refine(hC h.m w hgl hm.hsub).mono ?_;rintro e w' ⟨rfl,hb⟩;have hob:∀(i:Nat) (ob:Ob),([]:List (Option Ob))[i]?≠some (some ob):=fun i ob hi=>by simp at hi
 refine⟨.c (.v u),u,L,F,h,[],rfl,Den.v _ hu,fun _ _=>rfl,⟨hm.hn,fun k o hk=>?_,fun i ob hi=>(hob i ob hi).elim,fun i ob b hi=>(hob i ob hi).elim,fun i j oi oj b hi=>(hob i oi hi).elim⟩,
  ⟨hb.os,hb.tape,hb.output,hb.size,fun k hk _=>hb.block k hk⟩,Sub.refl h,fun k hk=>.inl hk,rfl,rfl⟩
 have h1:=hm.hsub k o hk;rw[hb.block k (Array.getElem?_eq_some_iff.1 h1).1];exact h1
end
end Go.Eng
namespace Go.Eng
open Go Go.RowKit
end Go.Eng
namespace Go.Eng
open Go Go.RowKit
theorem b9V{i:Nat}{st:St}{K:St→Prop}(hp:frzK st i K):∃ st',Weak st st'∧K st':=by
 obtain⟨n,k,env,own⟩:=st;have hp0:=hp;unfold frzK at hp;simp only at hp;split at hp
 ·rename_i e sz m f hi
  rw[a3y,a2M]at hp;refine⟨_,b2j i (fun K' hK'=>?_),hp.2⟩;unfold frzK;simp only[hi];rw[a3y,a2M];exact⟨hp.1,hK'⟩
 ·rename_i t cs hi
  obtain⟨h1,h2⟩:=a0j hp;rw[a3y,a2M]at h2;refine⟨_,b2j i (fun K' hK'=>?_),h2⟩;unfold frzK;simp only[hi];unfold ifD;rw[decide_eq_true h1];simp only;rw[a3y,a2M];exact hK'
 ·exact⟨_,Weak.refl _,hp⟩
theorem b5c:∀(l:List Nat) {st:St} {K:St→Prop},frzL l st K→∃ st',Weak st st'∧K st'
 | [],st,K,hp=>⟨st,Weak.refl _,hp⟩
 | i::r,st,K,hp=>by
  obtain⟨st1,h1,h2⟩:=b9V (K:=fun st=>frzL r st K) hp;obtain⟨st2,h3,h4⟩:=b5c r h2;exact⟨st2,h1.trans h3,h4⟩
theorem b2C{α:Type}{enc:α→List IC}{d:α}{l b:List α}{f g:Nat→List IC}{K:Nat→(Nat→List IC)→Prop}(hf:∀ k,k<l.length→f k=enc (l.getD k d))(hg:∀ k,k<b.length→g k=enc (b.getD k d))(h:K (l++b).length fun k=>enc ((l++b).getD k d)) :
  ∃(n':Nat) (f':Nat→List IC),n'=l.length+b.length∧(∀ k,k<l.length→f' k=f k)∧(∀ k,k<b.length→f' (l.length+k)=g k)∧K n' f':=by
 refine⟨_,_,List.length_append,fun k hk=>?_,fun k hk=>?_,h⟩
 ·rw[hf k hk]
  simp[List.getD_eq_getElem?_getD,List.getElem?_append_left hk]
 ·rw[hg k hk,List.getD_eq_getElem?_getD,List.getElem?_append_right (by omega),Nat.add_sub_cancel_left,List.getD_eq_getElem?_getD]
theorem b2s{P:Program}[a0h P](S:St){id:Nat}{ops:Array Oper}{K:St→Prop}{st:St}(h:a4V P id ops (fun st'=>Weak st' S) st)(hK:K S):a4V P id ops K st:=by
 refine⟨fun may w0 h0 a w hs=>?_⟩;refine Code.wp_mono (fun e a' w' hh=>?_) (h.out may w0 h0 a w hs);obtain⟨h1,st',h2,h3⟩:=hh;exact⟨h1,S,h3.out may w0 h0 a' w' h2,hK⟩
end Go.Eng
