/- A part of the proof. -/
import Derived.Test.YteglopjljejjkabGreatDoorGBDcMTBDcR
set_option linter.unusedVariables false
set_option linter.unusedSimpArgs false
set_option maxRecDepth 100000
set_option maxHeartbeats 4000000
namespace Go.Eng
open Go Go.RowKit Go.Proofs
def c5Z(l:List Dd)(n:Nat)(st:St):Prop:=∃ k:Nat,n=l.length-k∧k≤l.length∧(∀ j,j<k→(l.getD j dd0).text.size≤60∧(l.getD j dd0).b.length≤600)∧st=⟨29,0,[(0,ddS l),(3,vci .i64 (k:Int))],[]⟩
theorem c4s(l:List Dd)(hl:l.length≤1048576)(hs:∀ d,d∈l→d.text.size≤1048576∧d.b.length≤1048576):a0f Tryz.prog 6 [ddS l] [] (fun r own'=>own'=[]∧((l.length≤20∧(∀ j,j<l.length→(l.getD j dd0).text.size≤60∧(l.getD j dd0).b.length≤600)∧r=vci .i64 1)∨r=vci .i64 0)):=by
 refine a0e Tryz.func6 rfl ttok ftok rfl rfl rfl (Nat.le_of_ble_eq_true rfl) ?_
 conv=>whnf
 by_cases h20:20<l.length
 ·rw[decide_eq_true (by omega:(l.length:Int)>20)]
  conv=>whnf
  exact .inr rfl
 rw[decide_eq_false (by omega:¬(l.length:Int)>20)]
 conv=>whnf
 refine a0B ttok ftok (c5Z l) (a0F [0,3] rfl) ⟨0,rfl,Nat.zero_le _,fun j hj=>by omega,rfl⟩ ?_
 rintro n st ⟨k,rfl,hk,hj,rfl⟩;have e1:=e64 (k:=k) (by omega)
 conv=>whnf
 refine a0d (fun h=>?_) (fun h=>?_)
 ·have h:=of_decide_eq_true h
  have hkl:k<l.length:=by omega
  have hm:=hs _ (a1a (d:=dd0) hkl)
  conv=>whnf
  refine⟨by omega,?_⟩
  conv=>whnf
  rw[a0k];obtain⟨d,hd⟩:∃ d,l.getD k dd0=d:=⟨_,rfl⟩;rw[hd]at hm ⊢;refine⟨by omega,?_⟩
  conv=>whnf
  refine⟨fun _=>(show 0≤(k:Int)∧(k:Int)<l.length by omega),?_⟩
  conv=>whnf
  refine a0d (fun h2=>?_) (fun h2=>?_)
  ·conv=>whnf
   exact .inr rfl
  ·have h2:(decide ((d.text.size:Int)>60)||decide ((((l.getD ((k:Int).toNat) dd0).b.length:Nat):Int)>600))=false:=h2
   rw[a0k,hd,Bool.or_eq_false_iff]at h2;have h3:=of_decide_eq_false h2.1;have h4:=of_decide_eq_false h2.2
   conv=>whnf
   rw[e1];refine⟨l.length-(k+1),_,by omega,a0F [0,3] rfl,k+1,rfl,by omega,fun j hj2=>?_,rfl⟩
   rcases Nat.lt_succ_iff_lt_or_eq.1 hj2 with h5 | rfl
   ·exact hj j h5
   ·rw[hd];exact⟨by omega,by omega⟩
 ·have h:=of_decide_eq_false h
  conv=>whnf
  exact .inl ⟨by omega,fun j h2=>hj j (by omega),rfl⟩
def tAb:ByteArray:=⟨#[97,98]⟩
theorem a8S:a0E tAb=some [97,98]:=by rfl
theorem a1L(a:I2):hsB [] a=false:=by
 rw[Bool.eq_false_iff];intro h;exact a0Z _ _ (a3X.1 h)
def upHs:HS:=[(⟨(1,1),(1,0),(0,0),98⟩,⟨(1,0),true⟩),(⟨(1,0),(0,0),(0,0),97⟩,⟨(0,0),true⟩)]
theorem c0x:a0V upHs [(1,0),(1,1)]:=by
 refine⟨List.Perm.swap _ _ _,List.Pairwise.cons (fun b hb=>?_) (List.pairwise_singleton ..)⟩;rw[List.mem_singleton]at hb;subst hb;exact .inr ⟨rfl,.inl (.inl (by decide))⟩
theorem c0y:a0f Tryz.prog 22 [.c (.own 0 0),vci .i64 0,vcs tAb] [some (.cells 79 (dcF 1 100 [] [] [] [] [] ((0:Nat):Int) false))] (fun r own'=>∃ cs2 l2,LV upHs (hsB []) cs2 l2 2∧own'=[some (.cells 79 (dcF 1 100 cs2 l2 [(1,2)] [] [] ((1:Nat):Int) false))]∧r=.tup [vci .i64 ((1:Nat):Int),.c (.v .nilIface)]):=by
 have h0:insE 1 100 [] [] 0 tAb=0:=b4N a8S (by decide) (by decide)
 refine(b2D (LV.zero (hsB [])) (by decide) VH.zero (by decide) (by decide:([]:List Sp).length≤1000000) (w:=[]) 1 100 (by decide) (by decide) (by decide) (by decide) (by decide) 0 (by decide) 0 tAb (by decide)).mono ?_
 rintro r own2 (⟨he,_⟩|⟨_,L,cs2,l2,hL,V2,rfl,rfl⟩)
 ·exact absurd h0 he
 rw[a8S]at hL;cases hL;exact⟨cs2,l2,V2,rfl,rfl⟩
theorem c2L:VH [(1,2)] upHs:=(a8m 1 (0,0) (by decide) [97,98] 0 (0,0) [] [] VH.zero rfl (.inr rfl) (.inr rfl) (by decide) (by decide)).1
end Go.Eng
namespace Go.Eng
open Go Go.RowKit Go.Proofs
end Go.Eng
namespace Go.Eng
open Go Go.RowKit Go.Proofs
theorem c4D(c lim:Int)(cs:Ck)(l:List Nd)(v:CV)(w:List It)(g:List Sp)(ver k m:Int) :
  a0f Tryz.prog 26 [.c (.own 0 0),vci .i64 k,vci .i64 m] [some (.cells 79 (dcF c lim cs l v w g ver true))] (fun r own'=>own'=[some (.cells 79 (dcF c lim cs l v w g ver true))]∧r=.tup [vci .i64 0,fltA c4i 6]):=by
 refine a0i Tryz.func26 rfl ttok ftok rfl rfl rfl (Nat.le_of_ble_eq_true rfl) rfl ?_
 conv=>whnf
 refine a0a (b5o c4i 6) rfl ?_;rintro _ rfl
 conv=>whnf
 refine⟨_,Weak.refl _,?_⟩
 conv=>whnf
 exact⟨[some 0],rfl,rfl,rfl,rfl⟩
theorem c4M(c lim:Int)(cs:Ck)(l:List Nd)(v:CV)(w:List It)(g:List Sp)(ver:Int)(b:List UInt8) :
  a0f Tryz.prog 24 [.c (.own 0 0),bS b] [some (.cells 79 (dcF c lim cs l v w g ver true))] (fun r own'=>own'=[some (.cells 79 (dcF c lim cs l v w g ver true))]∧r=.tup [vci .i64 0,fltA a1N 6]):=by
 refine a0i Tryz.func24 rfl ttok ftok rfl rfl rfl (Nat.le_of_ble_eq_true rfl) rfl ?_
 conv=>whnf
 refine a0a (b5o a1N 6) rfl ?_;rintro _ rfl
 conv=>whnf
 refine⟨_,Weak.refl _,?_⟩
 conv=>whnf
 exact⟨[some 0],rfl,rfl,rfl,rfl⟩
def opP(op:ByteArray):Prop:=op=b0u∨op=c4i∨op=a1N
theorem c6a(c lim:Int)(cs:Ck)(l:List Nd)(v:CV)(w:List It)(g:List Sp)(ver:Int)(d:Dd)(hd:i64P d.what):a0f Tryz.prog 8 [.c (.own 0 0),.agg (ddF d)] [some (.cells 79 (dcF c lim cs l v w g ver true))] (fun r own'=>own'=[some (.cells 79 (dcF c lim cs l v w g ver true))]∧∃ op,opP op∧r=.tup [vci .i64 0,vcs op,vci .i64 6]):=by
 refine a0i Tryz.func8 rfl ttok ftok rfl rfl rfl (Nat.le_of_ble_eq_true rfl) rfl ?_
 conv=>whnf
 refine a0a (b6R d.what 4 hd (by decide)) rfl ?_
 rintro _ rfl
 conv=>whnf
 by_cases w2:d.what%4=2
 ·rw[w2]
  conv=>whnf
  refine a0c [some 0] rfl rfl rfl rfl (c4D c lim cs l v w g ver d.at_ d.n) ?_;rintro r own2 ⟨rfl,rfl⟩;refine⟨_,_,rfl,rfl,?_⟩
  conv=>whnf
  refine a0a (c4k c4i 6) rfl ?_;rintro _ rfl
  conv=>whnf
  refine⟨_,Weak.refl _,?_⟩
  conv=>whnf
  exact⟨[some 0],rfl,rfl,rfl,c4i,(.inr (.inl rfl)),rfl⟩
 ·rw[beq_eq_false_iff_ne.2 w2]
  conv=>whnf
  by_cases w3:d.what%4=3
  ·rw[w3]
   conv=>whnf
   refine a0c [some 0] rfl rfl rfl rfl (c4M c lim cs l v w g ver d.b) ?_;rintro r own2 ⟨rfl,rfl⟩;refine⟨_,_,rfl,rfl,?_⟩
   conv=>whnf
   refine a0a (c4k a1N 6) rfl ?_;rintro _ rfl
   conv=>whnf
   refine⟨_,Weak.refl _,?_⟩
   conv=>whnf
   exact⟨[some 0],rfl,rfl,rfl,a1N,(.inr (.inr rfl)),rfl⟩
  ·rw[beq_eq_false_iff_ne.2 w3]
   conv=>whnf
   refine a0c [some 0] rfl rfl rfl rfl (c4C c lim cs l v w g ver d.at_ d.text) ?_;rintro r own2 ⟨rfl,rfl⟩;refine⟨_,_,rfl,rfl,?_⟩
   conv=>whnf
   refine a0a (c4k b0u 6) rfl ?_;rintro _ rfl
   conv=>whnf
   refine⟨_,Weak.refl _,?_⟩
   conv=>whnf
   exact⟨[some 0],rfl,rfl,rfl,b0u,(.inl rfl),rfl⟩
theorem c6b(hs:HS)(G:I2→Bool):GI hs G ((idsH hs).filter G) :=
 ⟨fun a h=>b6Z.1 (List.mem_filter.1 h).1,fun a ha=>⟨fun h=>(List.mem_filter.1 h).2,fun h=>List.mem_filter.2 ⟨b6Z.2 ha,h⟩⟩⟩
theorem c5v(hs:HS)(G:I2→Bool):((idsH hs).filter G).length≤hs.length:=by
 have h1:=List.length_filter_le G (idsH hs);have h2:(idsH hs).length=hs.length:=by unfold idsH;rw[List.length_map]
 omega
theorem DI.next{k:Nat}{P:Pd}{cs:Ck}{l:List Nd}{N:Nat}{gs:List I2}(D:DI k P cs l N gs)(hk:k<21){c lim:Int}(hc:0<c)(hc2:c≤4294967295)(hl0:0≤lim)(hl:lim≤4294967294){d:Dd}(ht:d.text.size≤60)(hb:d.b.length≤600){Q:Pd}{t:Tl}(hx:ddN c lim cs.flatten P d Q t)
  {cs2:Ck} {l2:List Nd} {N2:Nat} (V2:LV Q.hs (hsB Q.g) cs2 l2 N2) (hN2:N2+Q.w.length≤N+P.w.length+610):DI (k+1) Q cs2 l2 N2 ((idsH Q.hs).filter (hsB Q.g)):=by
 refine D.step hk hc hc2 hl0 hl ht hb hx V2 hN2 (c6b _ _) ?_;have h1:=c5v Q.hs (hsB Q.g);have h2:=V2.len;have h3:=D.nw;omega
theorem LV.same{hs:HS}{G:I2→Bool}{cs cs2:Ck}{l l2:List Nd}{N N2:Nat}(V:LV hs G cs l N)(V2:LV hs G cs2 l2 N2):cs2.flatten=cs.flatten:=by
 obtain⟨o,hO,hf⟩:=V.ord;obtain⟨o2,hO2,hf2⟩:=V2.ord;rw[hf,hf2,a0V.uniq hO2 hO]
theorem c5t{c lim:Int}{es:List En}{P Q:Pd}{d:Dd}{t:Tl}(h:ddN c lim es P d Q t):(t.code=0∧t.op=⟨#[]⟩∧t.ver=(Q.n:Int)∧(Q.n=P.n∨Q.n=P.n+1))∨(1≤t.code∧t.code≤6∧opP t.op∧t.ver=0∧Q=P):=by
 have hd:∀(b:Prop) [Decidable b],(if b then P.n+1 else P.n)=P.n∨(if b then P.n+1 else P.n)=P.n+1:=fun b _=>by split <;> simp
 have hd2:∀(b:Prop) [Decidable b],(if b then P.n else P.n+1)=P.n∨(if b then P.n else P.n+1)=P.n+1:=fun b _=>by split <;> simp
 unfold ddN at h;split at h
 ·rcases h with⟨_,rfl,rfl⟩|⟨_,rfl,rfl⟩
  ·exact .inr ⟨by decide,by decide,.inr (.inl rfl),rfl,rfl⟩
  ·exact .inl ⟨rfl,rfl,rfl,hd _⟩
 ·split at h
  ·rcases h with⟨_,rfl,rfl⟩|⟨_,T,_,hm⟩
   ·exact .inr ⟨by decide,by decide,.inr (.inr rfl),rfl,rfl⟩
   ·split at hm
    ·obtain⟨rfl,rfl⟩:=hm
     exact .inr ⟨by decide,by decide,.inr (.inr rfl),rfl,rfl⟩
    ·rcases hm with⟨_,rfl,rfl⟩|⟨_,rfl,rfl⟩
     ·exact .inr ⟨by decide,by decide,.inr (.inr rfl),rfl,rfl⟩
     ·exact .inl ⟨rfl,rfl,rfl,hd _⟩
  ·rcases h with⟨h0,rfl,rfl⟩|⟨_,L,_,rfl,rfl⟩
   ·refine .inr ?_
    have:insE c lim Q.v es d.at_ d.text=1∨insE c lim Q.v es d.at_ d.text=3∨insE c lim Q.v es d.at_ d.text=4:=by
     cases hc:a0E d.text with
     | none=>exact .inl (c2f hc)
     | some L =>
      by_cases hk:d.at_<0∨(shn es:Int)<d.at_
      ·exact .inr (.inl (c2e hc hk))
      ·by_cases h4:lim+1<nxt Q.v c+L.length
       ·exact .inr (.inr (c2d hc hk h4))
       ·exact absurd (b4N hc hk h4) h0
    refine⟨?_,?_,.inl rfl,rfl,rfl⟩
    ·show 1≤insE c lim Q.v es d.at_ d.text;omega
    ·show insE c lim Q.v es d.at_ d.text≤6;omega
   ·exact .inl ⟨rfl,rfl,rfl,hd2 _⟩
end Go.Eng
namespace Go.Eng
open Go Go.RowKit Go.Proofs
theorem b0V{L:Nat→Value}{h:Hp}{sz n:Nat}{f f':Nat→List IC}{v:Value}(hd:Den L h (.sl sz n f) v)(hl2:∀ k,k<n→(f' k).length=sz)(hc2:∀ k,k<n→(f' k).all clo=true)(he:∀ k,k<n→∀(j:Nat) c',(f' k)[j]?=some c'→∃ c,(f k)[j]?=some c∧∀ u,Den L h c u→Den L h c' u):Den L h (.sl sz n f') v:=by
 cases hd with
 | sl _ _ _ A c ad g hc hm hA hg hl hclo hr=>exact .sl sz n f' A c ad g hc hm hA hg hl2 hc2 (fun k hk j c' hc'=>by
   obtain⟨c0,h1,h2⟩:=he k hk j c' hc'
   exact h2 _ (hr k hk j c0 h1))
theorem b1O{α:Type}(d:α){R:Nat→α→Prop}:∀(n:Nat),(∀ k,k<n→∃ a,R k a)→∃ l:List α,l.length=n∧∀ k,k<n→R k (l.getD k d)
 | 0,_=>⟨[],rfl,fun k hk=>by omega⟩
 | n+1,h=>by
  obtain⟨l,hl,hR⟩:=b1O d n (fun k hk=>h k (by omega))
  obtain⟨a,ha⟩:=h n (by omega)
  refine⟨l++[a],by rw[List.length_append,List.length_singleton];omega,fun k hk=>?_⟩
  rw[List.getD_eq_getElem?_getD];rcases Nat.lt_succ_iff_lt_or_eq.1 hk with h1 | rfl
  ·rw[List.getElem?_append_left (by omega),←List.getD_eq_getElem?_getD];exact hR k h1
  ·rw[List.getElem?_append_right (by omega),hl,Nat.sub_self];exact ha
theorem a6t{α:Type}{l:List α}{x d:α}(h:x∈l):∃ j,j<l.length∧l.getD j d=x:=by
 obtain⟨j,hj,rfl⟩:=List.getElem_of_mem h;exact⟨j,hj,by rw[List.getD_eq_getElem?_getD,List.getElem?_eq_getElem hj];rfl⟩
theorem c4w{B d:Nat}{cs:List IC}(h:Rd tt B (d+1) 5 cs):∃ c:UInt8,True∧cs=b1 c:=by
 obtain⟨v,w,rfl⟩:=h;have:=c5w w;refine⟨UInt8.ofNat v.toNat,trivial,?_⟩;rw[b1,nb (by omega),Int.toNat_of_nonneg this.1]
def ddR(cs:List IC)(d:Dd):Prop:=(i64P d.what∧i64P d.n∧d.text.size≤1048576∧d.b.length≤1048576)∧∃ f,cs=[vi d.what,vi d.at_,vi d.n,.v (.string d.text),.sl 1 d.b.length f]∧∀ k,k<d.b.length→a4O d.b k=f k
theorem c5s{d:Nat}{cs:List IC}(h:Rd tt 1048576 (d+3) 26 cs):∃ x:Dd,ddR cs x:=by
 obtain⟨x1,y1,⟨v,w1,rfl⟩,⟨x2,y2,⟨w,w2,rfl⟩,⟨x3,y3,⟨u,w3,rfl⟩,⟨x4,y4,⟨s,ws,rfl⟩,⟨x5,y5,⟨n,f,hn,hf,rfl⟩,rfl,rfl⟩,rfl⟩,rfl⟩,rfl⟩,rfl⟩:=h;obtain⟨l,hl,hf2,_⟩:=b0I (enc:=b1) (R:=fun _=>True) (0:UInt8) (fun k hk=>c4w (hf k hk));subst hl;exact⟨⟨v,w,u,s,l⟩,⟨c0w w1,c0w w3,ws,hn⟩,f,rfl,fun k hk=>(hf2 k hk).symm⟩
theorem c5r{d:Nat}{a:AV}(h:RdA tt 1048576 (d+4) 23 a):∃ l:List Dd,l.length≤1048576∧(∀ x,x∈l→i64P x.what∧i64P x.n∧x.text.size≤1048576∧x.b.length≤1048576)∧∀(L:Nat→Value) (hp:Hp) v,DenA L hp a v→DenA L hp (ddS l) v:=by
 obtain⟨c,⟨n,f,hn,hf,e⟩,rfl⟩:=h;cases e;obtain⟨l,hl,hR⟩:=b1O (R:=fun k x=>ddR (f k) x) dd0 n (fun k hk=>c5s (hf k hk));subst hl;refine⟨l,hn,fun s hs=>?_,fun L hp v hd=>?_⟩
 ·obtain⟨j,hj,rfl⟩:=a6t (d:=dd0) hs
  exact(hR j hj).1
 ·have hd:Den L hp (.sl 5 l.length f) v:=hd
  refine(show Den L hp (.sl 5 l.length fun k=>ddF (l.getD k dd0)) v from b0V hd (fun k hk=>rfl) (fun k hk=>rfl) (fun k hk j c' hc'=>?_));obtain⟨_,g,hg,hbg⟩:=hR k hk;rw[hg]
  match j with
  | 0=>exact⟨_,rfl,fun u hu=>by cases hc';exact hu⟩
  | 1=>exact⟨_,rfl,fun u hu=>by cases hc';exact hu⟩
  | 2=>exact⟨_,rfl,fun u hu=>by cases hc';exact hu⟩
  | 3=>exact⟨_,rfl,fun u hu=>by cases hc';exact hu⟩
  | 4=>exact⟨_,rfl,fun u hu=>by cases hc';exact a5o hu hbg⟩
  | j+5=>simp at hc'
end Go.Eng
namespace Go.Eng
open Go Go.RowKit Go.Proofs
instance eltD (a b:Nat × I2):Decidable (elt a b):=by unfold elt il;infer_instance
def kltD:∀ a b:Ky,Decidable (klt a b)
 | [],[]=>.isFalse (fun h=>by cases h)
 | [],_::_=>by unfold klt;infer_instance
 | _::_,[]=>by unfold klt;infer_instance
 | a::r,b::s=>by
  have:=kltD r s;unfold klt
  infer_instance
instance (a b:Ky):Decidable (klt a b):=kltD a b
theorem c3G{α:Type}{ys:List α}{a b:α}(h:ys.Perm [a,b]):ys=[a,b]∨ys=[b,a]:=by
 have hl:=h.length_eq
 match ys,hl with
 | [p,q],_ =>
  have hp:p∈[a,b]:=h.subset (List.mem_cons_self ..);rcases List.mem_cons.1 hp with rfl | hp
  ·have:=(List.perm_cons _).1 h
   have:=List.perm_singleton.1 this;cases this;exact .inl rfl
  ·have hp:=List.mem_singleton.1 hp
   subst hp;have h2:[p,q].Perm [p,a]:=h.trans (List.Perm.swap ..);have:=(List.perm_cons _).1 h2;have:=List.perm_singleton.1 this;cases this;exact .inr rfl
def tXy:ByteArray:=⟨#[120,121]⟩
def b6o:ByteArray:=⟨#[97,98,120,121]⟩
theorem a8R:a0E tXy=some [120,121]:=by rfl
def iA0:It:=⟨(1,0),(0,0),(0,0),97⟩
def iA1:It:=⟨(1,1),(1,0),(0,0),98⟩
def iX0:It:=⟨(2,0),(0,0),(0,0),120⟩
def iX1:It:=⟨(2,1),(2,0),(0,0),121⟩
def a5Z:HS:=[(iX1,⟨(2,0),true⟩),(iX0,⟨(0,0),true⟩)]
theorem b8K:a0V a5Z [(2,0),(2,1)]:=⟨by decide,by decide⟩
theorem b8C:a0f Tryz.prog 22 [.c (.own 0 0),vci .i64 0,vcs tXy] [some (.cells 79 (dcF 2 100 [] [] [] [] [] ((0:Nat):Int) false))] (fun r own'=>∃ cs2 l2,LV a5Z (hsB []) cs2 l2 2∧own'=[some (.cells 79 (dcF 2 100 cs2 l2 [(2,2)] [] [] ((1:Nat):Int) false))]∧r=.tup [vci .i64 ((1:Nat):Int),.c (.v .nilIface)]):=by
 have h0:insE 2 100 [] [] 0 tXy=0:=b4N a8R (by decide) (by decide)
 refine(b2D (LV.zero (hsB [])) (by decide) VH.zero (by decide) (by decide:([]:List Sp).length≤1000000) (w:=[]) 2 100 (by decide) (by decide) (by decide) (by decide) (by decide) 0 (by decide) 0 tXy (by decide)).mono ?_
 rintro r own2 (⟨he,_⟩|⟨_,L,cs2,l2,hL,V2,rfl,rfl⟩)
 ·exact absurd h0 he
 rw[a8R]at hL;cases hL;exact⟨cs2,l2,V2,rfl,rfl⟩
def bA:Ba:=⟨[⟨(1,0),(0,0),(0,0),tAb⟩],[]⟩
def bX:Ba:=⟨[⟨(2,0),(0,0),(0,0),tXy⟩],[]⟩
theorem b8n:mayB bA:=⟨fun r h=>by rw[List.mem_singleton.1 h];rfl,fun k hk=>(Nat.not_lt_zero _ hk).elim,fun j hj=>by
 have hj:j+1<2:=hj;obtain rfl:j=0:=by omega
 decide,rfl⟩
theorem b8l:mayB bX:=⟨fun r h=>by rw[List.mem_singleton.1 h];rfl,fun k hk=>(Nat.not_lt_zero _ hk).elim,fun j hj=>by
 have hj:j+1<2:=hj;obtain rfl:j=0:=by omega
 decide,rfl⟩
theorem c4f:baSm bA:=⟨⟨fun r h=>by rw[List.mem_singleton.1 h];unfold ruOk u32P;decide,by decide,by decide,by decide⟩,by decide,by decide,fun r h=>by rw[List.mem_singleton.1 h];decide,fun s h=>(List.not_mem_nil h).elim⟩
theorem c4d:baSm bX:=⟨⟨fun r h=>by rw[List.mem_singleton.1 h];unfold ruOk u32P;decide,by decide,by decide,by decide⟩,by decide,by decide,fun r h=>by rw[List.mem_singleton.1 h];decide,fun s h=>(List.not_mem_nil h).elim⟩
theorem be_d(n:Nat)(h0:0<n)(h:n<256):be n=[UInt8.ofNat n]:=by
 rw[a7C (by omega),show n/256=0 from by omega,be_0,show n%256=n from by omega]
 rfl
theorem pn0:putN 0=[0]:=by unfold putN;rw[be_0];rfl
theorem pn1:putN 1=[1,1]:=by unfold putN;rw[be_d 1 (by decide) (by decide)];rfl
theorem pn2:putN 2=[1,2]:=by unfold putN;rw[be_d 2 (by decide) (by decide)];rfl
def eA:List UInt8:=[1,1,1,1,0,0,0,0,0,1,2,97,98,0]
def eX:List UInt8:=[1,1,1,2,0,0,0,0,0,1,2,120,121,0]
theorem b8o:encB bA=eA:=by
 show(putN 1++((putN 1++(putN 0++(putN 0++(putN 0++(putN 0++(putN 0++[]))))))++(putN 2++[97,98])++[]))++putN 0++[]=eA;rw[pn0,pn1,pn2];rfl
theorem b8m:encB bX=eX:=by
 show(putN 1++((putN 2++(putN 0++(putN 0++(putN 0++(putN 0++(putN 0++[]))))))++(putN 2++[120,121])++[]))++putN 0++[]=eX;rw[pn0,pn1,pn2];rfl
theorem c2C:(encB bA).length≤100:=by rw[b8o];decide
theorem c2B:(encB bX).length≤100:=by rw[b8m];decide
theorem b5P:getS eA=(bA,(14,false)):=by rfl
theorem b5O:getS eX=(bX,(14,false)):=by rfl
theorem c4g:isB eA:=⟨by decide,by rw[b5P];rfl,by rw[b5P];exact b8n⟩
theorem c4e:isB eX:=⟨by decide,by rw[b5O];rfl,by rw[b5O];exact b8l⟩
theorem b8G:freG (knO a5Z []) 2 (a0p bA.runs) []=some [iA0,iA1]:=by rfl
theorem b8J:freG (knO upHs []) 1 (a0p bX.runs) []=some [iX0,iX1]:=by rfl
theorem b6h:a1r 2 [(2,2)] [iA0,iA1]=([iA0,iA1],[],[(1,2),(2,2)]):=by rfl
theorem b6i:a1r 2 [(1,2)] [iX0,iX1]=([iX0,iX1],[],[(1,2),(2,2)]):=by rfl
theorem b8F:a0V (adsH a5Z [iA0,iA1]) [(1,0),(1,1),(2,0),(2,1)]:=⟨by decide,by decide⟩
theorem b8I:a0V (adsH upHs [iX0,iX1]) [(1,0),(1,1),(2,0),(2,1)]:=⟨by decide,by decide⟩
theorem b6s{ys:List It}{a b:It}(h:ys.Perm [a,b])(hs:nsI ys)(hl:ltI a.id b.id):ys=[a,b]:=by
 rcases c3G h with rfl | rfl
 ·rfl
 ·exact absurd hl ((List.pairwise_cons.1 hs).1 a (List.mem_cons_self ..))
theorem b8D{cs:Ck}{l:List Nd}(V:LV upHs (hsB []) cs l 2):cs.flatten=[⟨(1,0),97,false⟩,⟨(1,1),98,false⟩]:=by
 obtain⟨o,hO,hf⟩:=V.ord;obtain rfl:=a0V.uniq hO c0x;rw[hf];unfold enOf;rw[List.map_cons,List.map_cons,List.map_nil,a1L,a1L];rfl
theorem b6j{cs:Ck}{l:List Nd}(V:LV a5Z (hsB []) cs l 2):cs.flatten=[⟨(2,0),120,false⟩,⟨(2,1),121,false⟩]:=by
 obtain⟨o,hO,hf⟩:=V.ord;obtain rfl:=a0V.uniq hO b8K;rw[hf];unfold enOf;rw[List.map_cons,List.map_cons,List.map_nil,a1L,a1L];rfl
theorem b8E{cs:Ck}{l:List Nd}(V:LV (adsH a5Z [iA0,iA1]) (hsB []) cs l 4):txS cs.flatten=b6o:=by
 obtain⟨o,hO,hf⟩:=V.ord;obtain rfl:=a0V.uniq hO b8F;rw[hf];unfold enOf;rw[List.map_cons,List.map_cons,List.map_cons,List.map_cons,List.map_nil,a1L,a1L,a1L,a1L];rfl
theorem b8H{cs:Ck}{l:List Nd}(V:LV (adsH upHs [iX0,iX1]) (hsB []) cs l 4):txS cs.flatten=b6o:=by
 obtain⟨o,hO,hf⟩:=V.ord;obtain rfl:=a0V.uniq hO b8I;rw[hf];unfold enOf;rw[List.map_cons,List.map_cons,List.map_cons,List.map_cons,List.map_nil,a1L,a1L,a1L,a1L];rfl
theorem c0z:VH [(2,2)] a5Z:=(a8m 2 (0,0) (by decide) [120,121] 0 (0,0) [] [] VH.zero rfl (.inr rfl) (.inr rfl) (by decide) (by decide)).1
theorem b8B:a0f Tryz.prog 23 [.agg (baF bA)] [] (fun r own'=>own'=[]∧r=.tup [bS eA,.c (.v .nilIface)]):=by
 refine(b5K bA c4f).mono ?_;rintro r own2 ⟨rfl,⟨_,_,rfl⟩|⟨h,_⟩⟩
 ·rw[b8o];exact⟨rfl,rfl⟩
 ·exact absurd ⟨b8n,Nat.le_trans c2C (by decide)⟩ h
theorem b8A:a0f Tryz.prog 23 [.agg (baF bX)] [] (fun r own'=>own'=[]∧r=.tup [bS eX,.c (.v .nilIface)]):=by
 refine(b5K bX c4d).mono ?_;rintro r own2 ⟨rfl,⟨_,_,rfl⟩|⟨h,_⟩⟩
 ·rw[b8m];exact⟨rfl,rfl⟩
 ·exact absurd ⟨b8l,Nat.le_trans c2B (by decide)⟩ h
theorem mv1(c n:Int)(h:0<c∧0<n):mayV [(c,n)]:=c1S (fun j hj=>by
 have hj:j<1:=hj;obtain rfl:j=0:=by omega
 exact⟨h.1,h.2,fun h=>absurd h (Nat.lt_irrefl _)⟩)
theorem b3A{cs:Ck}{l:List Nd}(V:LV upHs (hsB []) cs l 2):a0f Tryz.prog 18 [.c (.own 0 0),a4b [(2,2)]] [some (.cells 79 (dcF 1 100 cs l [(1,2)] [] [] ((1:Nat):Int) false))] (fun r own'=>own'=[some (.cells 79 (dcF 1 100 cs l [(1,2)] [] [] ((1:Nat):Int) false))]∧r=.agg (baF bA)):=by
 refine(b3S V (by decide) [(1,2)] [] [] (by decide) 1 100 _ false [(2,2)] (mv1 2 2 (by decide)) (by decide) (fun x h hm=>?_)).mono ?_
 ·rcases List.mem_cons.1 hm with e | e
  ·cases e;unfold itOk u32P;decide
  ·cases List.mem_singleton.1 e;unfold itOk u32P;decide
 ·rintro r own2 ⟨rfl,ys,hp,hn,rfl⟩
  rw[b8D V,show snL upHs [(2,2)] [⟨(1,0),97,false⟩,⟨(1,1),98,false⟩]=[iA0,iA1]from by rfl]at hp
  obtain rfl:=b6s hp hn (by decide)
  exact⟨rfl,rfl⟩
theorem b3z{cs:Ck}{l:List Nd}(V:LV a5Z (hsB []) cs l 2):a0f Tryz.prog 18 [.c (.own 0 0),a4b [(1,2)]] [some (.cells 79 (dcF 2 100 cs l [(2,2)] [] [] ((1:Nat):Int) false))] (fun r own'=>own'=[some (.cells 79 (dcF 2 100 cs l [(2,2)] [] [] ((1:Nat):Int) false))]∧r=.agg (baF bX)):=by
 refine(b3S V (by decide) [(2,2)] [] [] (by decide) 2 100 _ false [(1,2)] (mv1 1 2 (by decide)) (by decide) (fun x h hm=>?_)).mono ?_
 ·rcases List.mem_cons.1 hm with e | e
  ·cases e;unfold itOk u32P;decide
  ·cases List.mem_singleton.1 e;unfold itOk u32P;decide
 ·rintro r own2 ⟨rfl,ys,hp,hn,rfl⟩
  rw[b6j V,show snL a5Z [(1,2)] [⟨(2,0),120,false⟩,⟨(2,1),121,false⟩]=[iX0,iX1]from by rfl]at hp
  obtain rfl:=b6s hp hn (by decide)
  exact⟨rfl,rfl⟩
theorem b3C{cs:Ck}{l:List Nd}(V:LV upHs (hsB []) cs l 2):a0f Tryz.prog 24 [.c (.own 0 0),bS eX] [some (.cells 79 (dcF 1 100 cs l [(1,2)] [] [] ((1:Nat):Int) false))] (fun r own'=>∃ cs2 l2,LV (adsH upHs [iX0,iX1]) (hsB []) cs2 l2 4∧own'=[some (.cells 79 (dcF 1 100 cs2 l2 [(1,2),(2,2)] [] [] ((2:Nat):Int) false))]∧r=.tup [vci .i64 ((2:Nat):Int),.c (.v .nilIface)]):=by
 refine(b6c V (by decide) c2L (by decide) ⟨fun s h=>(List.not_mem_nil h).elim,List.Pairwise.nil⟩ (by decide) (w:=[]) (by decide) (fun x h=>(List.not_mem_nil h).elim) List.Pairwise.nil 1 100 1 (by decide) eX (by decide)).mono ?_
 rintro r own2 (⟨h,_⟩|⟨_,T,hT,hA⟩)
 ·exact absurd c4e h
 rw[b5O]at hT hA;rw[b8J]at hT hA;obtain⟨ys,hp,hn,rfl⟩:=hT _ rfl;obtain rfl:=b6s hp hn (by decide)
 rw[show[iX0,iX1].length=2 from rfl,b6i]at hA;rcases hA with⟨h,_⟩|⟨_,cs2,l2,V2,rfl,rfl⟩
 ·exact absurd h (by decide)
 ·exact⟨cs2,l2,V2,rfl,rfl⟩
theorem b3B{cs:Ck}{l:List Nd}(V:LV a5Z (hsB []) cs l 2):a0f Tryz.prog 24 [.c (.own 0 0),bS eA] [some (.cells 79 (dcF 2 100 cs l [(2,2)] [] [] ((1:Nat):Int) false))] (fun r own'=>∃ cs2 l2,LV (adsH a5Z [iA0,iA1]) (hsB []) cs2 l2 4∧own'=[some (.cells 79 (dcF 2 100 cs2 l2 [(1,2),(2,2)] [] [] ((2:Nat):Int) false))]∧r=.tup [vci .i64 ((2:Nat):Int),.c (.v .nilIface)]):=by
 refine(b6c V (by decide) c0z (by decide) ⟨fun s h=>(List.not_mem_nil h).elim,List.Pairwise.nil⟩ (by decide) (w:=[]) (by decide) (fun x h=>(List.not_mem_nil h).elim) List.Pairwise.nil 2 100 1 (by decide) eA (by decide)).mono ?_
 rintro r own2 (⟨h,_⟩|⟨_,T,hT,hA⟩)
 ·exact absurd c4g h
 rw[b5P]at hT hA;rw[b8G]at hT hA;obtain⟨ys,hp,hn,rfl⟩:=hT _ rfl;obtain rfl:=b6s hp hn (by decide)
 rw[show[iA0,iA1].length=2 from rfl,b6h]at hA;rcases hA with⟨h,_⟩|⟨_,cs2,l2,V2,rfl,rfl⟩
 ·exact absurd h (by decide)
 ·exact⟨cs2,l2,V2,rfl,rfl⟩
theorem b8M:a0f Tryz.prog 5 [] [] (fun r own'=>own'=[]∧r=vcb true):=by
 refine a0e Tryz.func5 rfl ttok ftok rfl rfl rfl (Nat.le_of_ble_eq_true rfl) ?_
 conv=>whnf
 refine a0c [] rfl rfl rfl rfl (b1H 1 100 (by decide) (by decide)) ?_
 rintro r own2 ⟨rfl,rfl⟩;refine⟨.tup [.c (.own 0 0),.c (.v .nilIface)],[some (.cells 79 (dcF 1 100 [] [] [] [] [] 0 false))],rfl,rfl,?_⟩
 conv=>whnf
 refine a0c [] rfl rfl rfl rfl (b1H 2 100 (by decide) (by decide)) ?_
 rintro r own2 ⟨rfl,rfl⟩;refine⟨.tup [.c (.own 1 0),.c (.v .nilIface)],[some (.cells 79 (dcF 1 100 [] [] [] [] [] 0 false)),some (.cells 79 (dcF 2 100 [] [] [] [] [] 0 false))],rfl,rfl,?_⟩
 conv=>whnf
 refine a0c [some 0] rfl rfl rfl rfl c0y ?_;rintro r own2 ⟨csA,lA,VA,rfl,rfl⟩;refine⟨.tup [vci .i64 ((1:Nat):Int),.c (.v .nilIface)],[some (.cells 79 (dcF 1 100 csA lA [(1,2)] [] [] ((1:Nat):Int) false)),some (.cells 79 (dcF 2 100 [] [] [] [] [] 0 false))],rfl,rfl,?_⟩
 conv=>whnf
 refine a0c [some 1] rfl rfl rfl rfl b8C ?_;rintro r own2 ⟨csB,lB,VB,rfl,rfl⟩;refine⟨.tup [vci .i64 ((1:Nat):Int),.c (.v .nilIface)],[some (.cells 79 (dcF 1 100 csA lA [(1,2)] [] [] ((1:Nat):Int) false)),some (.cells 79 (dcF 2 100 csB lB [(2,2)] [] [] ((1:Nat):Int) false))],rfl,rfl,?_⟩
 conv=>whnf
 refine a0c [some 1] rfl rfl rfl rfl (a4K 2 100 csB lB [(2,2)] [] [] ((1:Nat):Int) false (by decide)) ?_
 rintro r own2 ⟨rfl,rfl⟩;refine⟨.c (.row 2),[some (.cells 79 (dcF 1 100 csA lA [(1,2)] [] [] ((1:Nat):Int) false)),some (.cells 79 (dcF 2 100 csB lB [(2,2)] [] [] ((1:Nat):Int) false)),some (.row 85 2 (List.length [((2:Int),(2:Int))]) (ckR [((2:Int),(2:Int))]))],rfl,rfl,?_⟩
 conv=>whnf
 refine⟨fun _ _=>rfl,?_⟩
 conv=>whnf
 refine a0c [some 0] rfl rfl rfl rfl (b3A VA) ?_;rintro r own2 ⟨rfl,rfl⟩;refine⟨.agg (baF bA),[some (.cells 79 (dcF 1 100 csA lA [(1,2)] [] [] ((1:Nat):Int) false)),some (.cells 79 (dcF 2 100 csB lB [(2,2)] [] [] ((1:Nat):Int) false)),none],rfl,rfl,?_⟩
 conv=>whnf
 refine a0a b8B rfl ?_;rintro _ rfl
 conv=>whnf
 refine a0c [some 0] rfl rfl rfl rfl (a4K 1 100 csA lA [(1,2)] [] [] ((1:Nat):Int) false (by decide)) ?_
 rintro r own2 ⟨rfl,rfl⟩;refine⟨.c (.row 3),[some (.cells 79 (dcF 1 100 csA lA [(1,2)] [] [] ((1:Nat):Int) false)),some (.cells 79 (dcF 2 100 csB lB [(2,2)] [] [] ((1:Nat):Int) false)),none,some (.row 85 2 (List.length [((1:Int),(2:Int))]) (ckR [((1:Int),(2:Int))]))],rfl,rfl,?_⟩
 conv=>whnf
 refine⟨fun _ _=>rfl,?_⟩
 conv=>whnf
 refine a0c [some 1] rfl rfl rfl rfl (b3z VB) ?_;rintro r own2 ⟨rfl,rfl⟩;refine⟨.agg (baF bX),[some (.cells 79 (dcF 1 100 csA lA [(1,2)] [] [] ((1:Nat):Int) false)),some (.cells 79 (dcF 2 100 csB lB [(2,2)] [] [] ((1:Nat):Int) false)),none,none],rfl,rfl,?_⟩
 conv=>whnf
 refine a0a b8A rfl ?_;rintro _ rfl
 conv=>whnf
 refine a0c [some 0] rfl rfl rfl rfl (b3C VA) ?_;rintro r own2 ⟨csA2,lA2,VA2,rfl,rfl⟩;refine⟨.tup [vci .i64 ((2:Nat):Int),.c (.v .nilIface)],[some (.cells 79 (dcF 1 100 csA2 lA2 [(1,2),(2,2)] [] [] ((2:Nat):Int) false)),some (.cells 79 (dcF 2 100 csB lB [(2,2)] [] [] ((1:Nat):Int) false)),none,none],rfl,rfl,?_⟩
 conv=>whnf
 refine a0c [some 1] rfl rfl rfl rfl (b3B VB) ?_;rintro r own2 ⟨csB2,lB2,VB2,rfl,rfl⟩;refine⟨.tup [vci .i64 ((2:Nat):Int),.c (.v .nilIface)],[some (.cells 79 (dcF 1 100 csA2 lA2 [(1,2),(2,2)] [] [] ((2:Nat):Int) false)),some (.cells 79 (dcF 2 100 csB2 lB2 [(1,2),(2,2)] [] [] ((2:Nat):Int) false)),none,none],rfl,rfl,?_⟩
 conv=>whnf
 refine a0c [some 0] rfl rfl rfl rfl (a8z 1 100 csA2 lA2 [(1,2),(2,2)] [] [] ((2:Nat):Int) false (by have:=VA2.ck;omega) (by rw[VA2.sum];decide)) ?_
 rintro r own2 ⟨rfl,rfl⟩;rw[b8H VA2];refine⟨vcs b6o,[some (.cells 79 (dcF 1 100 csA2 lA2 [(1,2),(2,2)] [] [] ((2:Nat):Int) false)),some (.cells 79 (dcF 2 100 csB2 lB2 [(1,2),(2,2)] [] [] ((2:Nat):Int) false)),none,none],rfl,rfl,?_⟩
 conv=>whnf
 refine a0c [some 1] rfl rfl rfl rfl (a8z 2 100 csB2 lB2 [(1,2),(2,2)] [] [] ((2:Nat):Int) false (by have:=VB2.ck;omega) (by rw[VB2.sum];decide)) ?_
 rintro r own2 ⟨rfl,rfl⟩;rw[b8E VB2];refine⟨vcs b6o,[some (.cells 79 (dcF 1 100 csA2 lA2 [(1,2),(2,2)] [] [] ((2:Nat):Int) false)),some (.cells 79 (dcF 2 100 csB2 lB2 [(1,2),(2,2)] [] [] ((2:Nat):Int) false)),none,none],rfl,rfl,?_⟩
 conv=>whnf
 all_goals first | rfl | exact⟨rfl,rfl⟩
end Go.Eng
namespace Go.Eng
open Go Go.RowKit Go.Proofs
def trI(c lim:Int)(ds:List Dd)(x:Dd)(sh:Bool)(n:Nat)(st:St):Prop:=∃(k:Nat) (P:Pd) (cs:Ck) (l:List Nd) (N:Nat) (gs:List I2),n=ds.length-k∧k≤ds.length∧DI k P cs l N gs ∧
 st=⟨160,0,[(1,ddS ds),(3,vcb sh),(6,.c (.own 0 0)),(9,vcb true),(10,.c (.own 1 0)),(12,vci .i64 (k:Int))],[some (.cells 26 (ddF x)),some (.cells 79 (dcF c lim cs l P.v P.w P.g (P.n:Int) false))]⟩
theorem c4o(lim:Int)(hl0:0≤lim)(hl2:lim≤4294967295)(ds:List Dd)(hds:ds.length≤1048576)(hok:∀ d,d∈ds→i64P d.what∧i64P d.n∧d.text.size≤1048576∧d.b.length≤1048576)(x:Dd)(hx:i64P x.what∧i64P x.n∧x.text.size≤1048576∧x.b.length≤1048576)(sh:Bool) :
  a0f Tryz.prog 3 [vci .u32 lim,ddS ds,.agg (ddF x),vcb sh] [] (fun r own'=>own'=[]∧r=vcb true):=by
 refine a0e Tryz.func3 rfl ttok ftok rfl rfl rfl (Nat.le_of_ble_eq_true rfl) ?_
 conv=>whnf
 refine a0a b8M rfl ?_;rintro _ rfl
 conv=>whnf
 refine a0a (c4s ds hds (fun d hd=>⟨(hok d hd).2.2.1,(hok d hd).2.2.2⟩)) rfl ?_;rintro _ (⟨h20,hsm,rfl⟩ | rfl);rotate_left
 ·conv=>whnf
  all_goals first | rfl | exact⟨rfl,rfl⟩
 conv=>whnf
 refine⟨fun k=>ddF ([x].getD k dd0),fun q hq=>?_,?_⟩
 ·obtain rfl:q=0:=by omega
  rfl
 conv=>whnf
 refine⟨fun j hj=>?_,?_⟩
 ·obtain rfl:j=0:=by omega
  rfl
 conv=>whnf
 refine a0a (c4s [x] (by simp) (fun d hd=>by rw[List.mem_singleton]at hd;subst hd;exact⟨hx.2.2.1,hx.2.2.2⟩)) rfl ?_
 rintro _ (⟨_,hsx,rfl⟩ | rfl);rotate_left
 ·conv=>whnf
  all_goals first | rfl | exact⟨rfl,rfl⟩
 have hsx:x.text.size≤60∧x.b.length≤600:=hsx 0 (by simp)
 conv=>whnf
 have hL0:0≤minI lim 4294967294:=by unfold minI;split <;> omega
 have hL:minI lim 4294967294≤4294967294:=by unfold minI;split <;> omega
 generalize minI lim 4294967294=lm at hL0 hL;refine a0c [] rfl rfl rfl rfl (b1H 3 lm (by decide) hL) ?_
 rintro r own2 ⟨rfl,rfl⟩;refine⟨.tup [.c (.own 2 0),.c (.v .nilIface)],[some (.cells 26 (ddF x)),none,some (.cells 79 (dcF 3 lm [] [] [] [] [] 0 false))],rfl,rfl,?_⟩
 conv=>whnf
 refine a0B ttok ftok (trI 3 lm ds x sh) (a0b [1,3,6,9,10,12] [some 0,some 2] rfl rfl) ⟨0,⟨[],[],[],[],0⟩,[],[],0,[],rfl,Nat.zero_le _,DI.zero,rfl⟩ ?_;rintro q st ⟨k,P,cs,l,N,gs,rfl,hk,D,rfl⟩;have e1:=e64 (k:=k) (by omega)
 conv=>whnf
 refine a0d (fun h=>?_) (fun h=>?_)
 ·have h:=of_decide_eq_true h
  have hkl:k<ds.length:=by omega
  have hdk:=hok _ (a1a (d:=dd0) hkl);have hsk:=hsm k hkl
  conv=>whnf
  refine⟨by omega,?_⟩
  conv=>whnf
  rw[a0k];obtain⟨d,hd⟩:∃ d,ds.getD k dd0=d:=⟨_,rfl⟩;rw[hd]at hdk hsk ⊢;refine a0c [some 1] rfl rfl rfl rfl (do_c D (by omega) (by decide) (by decide) hL0 hL d hdk.1 hsk.1 hsk.2) ?_
  rintro r own2 ⟨Q,t,cs2,l2,N2,hxx,V2,hN2,rfl,rfl⟩;have D2:=D.next (by omega) (by decide) (by decide) hL0 hL hsk.1 hsk.2 hxx V2 hN2
  refine⟨_,_,rfl,rfl,?_⟩
  conv=>whnf
  rw[e1];exact⟨ds.length-(k+1),_,by omega,a0b [1,3,6,9,10,12] [some 0,some 1] rfl rfl,k+1,Q,cs2,l2,N2,_,rfl,by omega,D2,rfl⟩
 ·have h:=of_decide_eq_false h
  obtain rfl:k=ds.length:=by omega
  have h1:=D.nw;have h4:=D.vl;have h6:=D.V.len;have h7:=D.V.sum;have h9:=D.V.ck
  conv=>whnf
  cases sh with
  | true =>
   conv=>whnf
   refine a0c [some 1] rfl rfl rfl rfl (c4L 3 lm cs l P.v P.w P.g (P.n:Int) false) ?_;rintro r own2 ⟨rfl,rfl⟩;refine⟨.c (.v .nilIface),[some (.cells 26 (ddF x)),some (.cells 79 (dcF 3 lm cs l P.v P.w P.g (P.n:Int) true))],rfl,rfl,?_⟩
   conv=>whnf
   refine a0c [some 1] rfl rfl rfl rfl (a8z 3 lm cs l P.v P.w P.g (P.n:Int) true (by omega) (by omega)) ?_
   rintro r own2 ⟨rfl,rfl⟩;refine⟨vcs (txS cs.flatten),[some (.cells 26 (ddF x)),some (.cells 79 (dcF 3 lm cs l P.v P.w P.g (P.n:Int) true))],rfl,rfl,?_⟩
   conv=>whnf
   refine a0c [some 1] rfl rfl rfl rfl (a4K 3 lm cs l P.v P.w P.g (P.n:Int) true (by omega)) ?_
   rintro r own2 ⟨rfl,rfl⟩;refine⟨.c (.row 2),[some (.cells 26 (ddF x)),some (.cells 79 (dcF 3 lm cs l P.v P.w P.g (P.n:Int) true)),some (.row 85 2 (List.length P.v) (ckR P.v))],rfl,rfl,?_⟩
   conv=>whnf
   refine a0c [some 1] rfl rfl rfl rfl (c4l 3 lm cs l P.v P.w P.g (P.n:Int) true) ?_;rintro r own2 ⟨rfl,rfl⟩;refine⟨vci .i64 (P.n:Int),[some (.cells 26 (ddF x)),some (.cells 79 (dcF 3 lm cs l P.v P.w P.g (P.n:Int) true)),some (.row 85 2 (List.length P.v) (ckR P.v))],rfl,rfl,?_⟩
   conv=>whnf
   refine a0c [some 1] rfl rfl rfl rfl (a8N 3 lm cs l P.v P.w P.g (P.n:Int) true) ?_;rintro r own2 ⟨rfl,rfl⟩;refine⟨vci .i64 (P.w.length:Int),[some (.cells 26 (ddF x)),some (.cells 79 (dcF 3 lm cs l P.v P.w P.g (P.n:Int) true)),some (.row 85 2 (List.length P.v) (ckR P.v))],rfl,rfl,?_⟩
   conv=>whnf
   refine a0c [some 1] rfl rfl rfl rfl (c6a 3 lm cs l P.v P.w P.g (P.n:Int) x hx.1) ?_;rintro r own2 ⟨rfl,op,hop,rfl⟩;refine⟨.tup [vci .i64 0,vcs op,vci .i64 6],[some (.cells 26 (ddF x)),some (.cells 79 (dcF 3 lm cs l P.v P.w P.g (P.n:Int) true)),some (.row 85 2 (List.length P.v) (ckR P.v))],rfl,rfl,?_⟩
   conv=>whnf
   refine a0c [some 1] rfl rfl rfl rfl (a4K 3 lm cs l P.v P.w P.g (P.n:Int) true (by omega)) ?_
   rintro r own2 ⟨rfl,rfl⟩;refine⟨.c (.row 3),[some (.cells 26 (ddF x)),some (.cells 79 (dcF 3 lm cs l P.v P.w P.g (P.n:Int) true)),some (.row 85 2 (List.length P.v) (ckR P.v)),some (.row 85 2 (List.length P.v) (ckR P.v))],rfl,rfl,?_⟩
   conv=>whnf
   refine⟨fun _ _=>rfl,?_⟩
   conv=>whnf
   refine⟨fun _ _=>rfl,?_⟩
   conv=>whnf
   refine a0a (b6E P.v P.v (by omega) (by omega)) rfl ?_
   rintro _ rfl;rw[decide_eq_true (rfl:P.v=P.v)];rcases hop with rfl | rfl | rfl
   all_goals
    conv=>whnf
    refine a0c [some 1] rfl rfl rfl rfl (a8z 3 lm cs l P.v P.w P.g (P.n:Int) true (by omega) (by omega)) ?_
    rintro r own2 ⟨rfl,rfl⟩;refine⟨vcs (txS cs.flatten),[some (.cells 26 (ddF x)),some (.cells 79 (dcF 3 lm cs l P.v P.w P.g (P.n:Int) true)),none,none],rfl,rfl,?_⟩
    conv=>whnf
    rw[decide_eq_true (rfl:txS cs.flatten=txS cs.flatten)]
    conv=>whnf
    refine a0c [some 1] rfl rfl rfl rfl (c4l 3 lm cs l P.v P.w P.g (P.n:Int) true) ?_;rintro r own2 ⟨rfl,rfl⟩;refine⟨vci .i64 (P.n:Int),[some (.cells 26 (ddF x)),some (.cells 79 (dcF 3 lm cs l P.v P.w P.g (P.n:Int) true)),none,none],rfl,rfl,?_⟩
    conv=>whnf
    rw[beq_self_eq_true (P.n:Int)]
    conv=>whnf
    refine a0c [some 1] rfl rfl rfl rfl (a8N 3 lm cs l P.v P.w P.g (P.n:Int) true) ?_;rintro r own2 ⟨rfl,rfl⟩;refine⟨vci .i64 (P.w.length:Int),[some (.cells 26 (ddF x)),some (.cells 79 (dcF 3 lm cs l P.v P.w P.g (P.n:Int) true)),none,none],rfl,rfl,?_⟩
    conv=>whnf
    rw[beq_self_eq_true (P.w.length:Int)]
    all_goals first | rfl | exact⟨rfl,rfl⟩
  | false =>
   conv=>whnf
   refine a0c [some 1] rfl rfl rfl rfl (a8z 3 lm cs l P.v P.w P.g (P.n:Int) false (by omega) (by omega)) ?_
   rintro r own2 ⟨rfl,rfl⟩;refine⟨vcs (txS cs.flatten),[some (.cells 26 (ddF x)),some (.cells 79 (dcF 3 lm cs l P.v P.w P.g (P.n:Int) false))],rfl,rfl,?_⟩
   conv=>whnf
   refine a0c [some 1] rfl rfl rfl rfl (a4K 3 lm cs l P.v P.w P.g (P.n:Int) false (by omega)) ?_
   rintro r own2 ⟨rfl,rfl⟩;refine⟨.c (.row 2),[some (.cells 26 (ddF x)),some (.cells 79 (dcF 3 lm cs l P.v P.w P.g (P.n:Int) false)),some (.row 85 2 (List.length P.v) (ckR P.v))],rfl,rfl,?_⟩
   conv=>whnf
   refine a0c [some 1] rfl rfl rfl rfl (c4l 3 lm cs l P.v P.w P.g (P.n:Int) false) ?_;rintro r own2 ⟨rfl,rfl⟩;refine⟨vci .i64 (P.n:Int),[some (.cells 26 (ddF x)),some (.cells 79 (dcF 3 lm cs l P.v P.w P.g (P.n:Int) false)),some (.row 85 2 (List.length P.v) (ckR P.v))],rfl,rfl,?_⟩
   conv=>whnf
   refine a0c [some 1] rfl rfl rfl rfl (a8N 3 lm cs l P.v P.w P.g (P.n:Int) false) ?_;rintro r own2 ⟨rfl,rfl⟩;refine⟨vci .i64 (P.w.length:Int),[some (.cells 26 (ddF x)),some (.cells 79 (dcF 3 lm cs l P.v P.w P.g (P.n:Int) false)),some (.row 85 2 (List.length P.v) (ckR P.v))],rfl,rfl,?_⟩
   conv=>whnf
   refine a0c [some 1] rfl rfl rfl rfl (do_c D (by omega) (by decide) (by decide) hL0 hL x hx.1 hsx.1 hsx.2) ?_
   rintro r own2 ⟨Q,t,cs2,l2,N2,hxx,V2,hN2,rfl,rfl⟩;have D2:=D.next (by omega) (by decide) (by decide) hL0 hL hsx.1 hsx.2 hxx V2 hN2
   refine⟨.tup [vci .i64 t.ver,vcs t.op,vci .i64 t.code],[some (.cells 26 (ddF x)),some (.cells 79 (dcF 3 lm cs2 l2 Q.v Q.w Q.g (Q.n:Int) false)),some (.row 85 2 (List.length P.v) (ckR P.v))],rfl,rfl,?_⟩;rcases c5t hxx with⟨c0,o0,v0,hn⟩|⟨c1,c6,hop,v0,rfl⟩
   ·rw[c0,o0,v0]
    conv=>whnf
    refine a0c [some 1] rfl rfl rfl rfl (c4l 3 lm cs2 l2 Q.v Q.w Q.g (Q.n:Int) false) ?_;rintro r own2 ⟨rfl,rfl⟩;refine⟨vci .i64 (Q.n:Int),[some (.cells 26 (ddF x)),some (.cells 79 (dcF 3 lm cs2 l2 Q.v Q.w Q.g (Q.n:Int) false)),some (.row 85 2 (List.length P.v) (ckR P.v))],rfl,rfl,?_⟩
    conv=>whnf
    have h5:=D.ver;have e2:=e64 (k:=P.n) (by omega)
    rw[beq_self_eq_true (Q.n:Int)]
    conv=>whnf
    rw[decide_eq_true (by omega:(Q.n:Int)≥(P.n:Int))]
    conv=>whnf
    rw[e2,decide_eq_true (by omega:(Q.n:Int)≤((P.n+1:Nat):Int))]
    all_goals first | rfl | exact⟨rfl,rfl⟩
   ·rw[v0]
    have hes:=D.V.same V2;have g9:=V2.ck;have g7:=V2.sum;have g6:=V2.len;have g1:=D2.nw
    conv=>whnf
    rw[beq_eq_false_iff_ne.2 (by omega:t.code≠0)]
    conv=>whnf
    refine a0c [some 1] rfl rfl rfl rfl (a4K 3 lm cs2 l2 Q.v Q.w Q.g (Q.n:Int) false (by omega)) ?_
    rintro r own2 ⟨rfl,rfl⟩;refine⟨.c (.row 3),[some (.cells 26 (ddF x)),some (.cells 79 (dcF 3 lm cs2 l2 Q.v Q.w Q.g (Q.n:Int) false)),some (.row 85 2 (List.length Q.v) (ckR Q.v)),some (.row 85 2 (List.length Q.v) (ckR Q.v))],rfl,rfl,?_⟩
    conv=>whnf
    refine⟨fun _ _=>rfl,?_⟩
    conv=>whnf
    refine⟨fun _ _=>rfl,?_⟩
    conv=>whnf
    refine a0a (b6E Q.v Q.v (by omega) (by omega)) rfl ?_
    rintro _ rfl;rw[decide_eq_true (rfl:Q.v=Q.v)]
    conv=>whnf
    rw[decide_eq_true (by omega:t.code≥1)]
    conv=>whnf
    rw[decide_eq_true c6]
    conv=>whnf
    obtain⟨tv,top,tc⟩:=t;have hop:opP top:=hop;rcases hop with rfl | rfl | rfl
    all_goals
     conv=>whnf
     refine a0c [some 1] rfl rfl rfl rfl (a8z 3 lm cs2 l2 Q.v Q.w Q.g (Q.n:Int) false (by omega) (by omega)) ?_
     rintro r own2 ⟨rfl,rfl⟩;refine⟨vcs (txS cs2.flatten),[some (.cells 26 (ddF x)),some (.cells 79 (dcF 3 lm cs2 l2 Q.v Q.w Q.g (Q.n:Int) false)),none,none],rfl,rfl,?_⟩
     conv=>whnf
     rw[decide_eq_true (by rw[hes]:txS cs2.flatten=txS cs.flatten)]
     conv=>whnf
     refine a0c [some 1] rfl rfl rfl rfl (c4l 3 lm cs2 l2 Q.v Q.w Q.g (Q.n:Int) false) ?_;rintro r own2 ⟨rfl,rfl⟩;refine⟨vci .i64 (Q.n:Int),[some (.cells 26 (ddF x)),some (.cells 79 (dcF 3 lm cs2 l2 Q.v Q.w Q.g (Q.n:Int) false)),none,none],rfl,rfl,?_⟩
     conv=>whnf
     rw[beq_self_eq_true (Q.n:Int)]
     conv=>whnf
     refine a0c [some 1] rfl rfl rfl rfl (a8N 3 lm cs2 l2 Q.v Q.w Q.g (Q.n:Int) false) ?_;rintro r own2 ⟨rfl,rfl⟩;refine⟨vci .i64 (Q.w.length:Int),[some (.cells 26 (ddF x)),some (.cells 79 (dcF 3 lm cs2 l2 Q.v Q.w Q.g (Q.n:Int) false)),none,none],rfl,rfl,?_⟩
     conv=>whnf
     rw[beq_self_eq_true (Q.w.length:Int)]
     all_goals first | rfl | exact⟨rfl,rfl⟩
end Go.Eng
namespace Go.Eng
open Go Go.RowKit Go.Proofs
theorem c4I{d:Nat}{a:AV}(h:RdA tt 1048576 (d+3) 26 a):∃ x:Dd,(i64P x.what∧i64P x.n∧x.text.size≤1048576∧x.b.length≤1048576)∧∀(L:Nat→Value) (hp:Hp) v,DenA L hp a v→DenA L hp (.agg (ddF x)) v:=by
 obtain⟨cs,h,rfl⟩:=h;obtain⟨x,hx,f,rfl,hf⟩:=c5s h;refine⟨x,hx,fun L hp v hd=>?_⟩;obtain⟨vs,rfl,hl,hd⟩:=hd;refine⟨vs,rfl,hl,fun j c u hc hu=>?_⟩
 match j with
 | 0=>exact hd 0 _ u hc hu
 | 1=>exact hd 1 _ u hc hu
 | 2=>exact hd 2 _ u hc hu
 | 3=>exact hd 3 _ u hc hu
 | 4 =>
  cases hc;exact a5o (hd 4 _ u rfl hu) hf
 | j+5=>simp at hc
theorem topRefuses_law:∀ avs,b8s tt 1048576 30 [22,23,26,4] avs→a0f Tryz.prog 3 avs [] (fun r own'=>own'=[]∧r=vcb true):=by
 rintro avs ⟨a0,r0,h0,⟨a1,r1,h1,⟨a2,r2,h2,⟨a3,r3,h3,rfl,rfl⟩,rfl⟩,rfl⟩,rfl⟩;obtain⟨c0,⟨v0,w0,e0⟩,rfl⟩:=h0;cases e0;obtain⟨ds,hd,hok,hdd⟩:=c5r h1;obtain⟨x,hx,hxx⟩:=c4I h2;obtain⟨c3,⟨b,e3⟩,rfl⟩:=h3;cases e3;refine b3m (c4p (a6S hdd (a6S hxx (b1i _)))) ?_;have k0:=a8M w0;exact c4o v0 k0.1 k0.2 ds hd hok x hx b
end Go.Eng
