/- A part of the proof. -/
import Derived.Test.YteglopjljejjkaaGreatDoorGBDcMTBDcR
set_option linter.unusedVariables false
set_option linter.unusedSimpArgs false
set_option maxRecDepth 100000
set_option maxHeartbeats 4000000
namespace Go.Eng
open Go Go.RowKit Go.Proofs
def tAb:ByteArray:=⟨#[97,98]⟩
theorem a8S:a0E tAb=some [97,98]:=by rfl
theorem a1L(a:I2):hsB [] a=false:=by
 rw[Bool.eq_false_iff];intro h;exact a0Z _ _ (a3X.1 h)
def upHs:HS:=[(⟨(1,1),(1,0),(0,0),98⟩,⟨(1,0),true⟩),(⟨(1,0),(0,0),(0,0),97⟩,⟨(0,0),true⟩)]
theorem c0x:a0V upHs [(1,0),(1,1)]:=by
 refine⟨List.Perm.swap _ _ _,List.Pairwise.cons (fun b hb=>?_) (List.pairwise_singleton ..)⟩;rw[List.mem_singleton]at hb;subst hb;exact .inr ⟨rfl,.inl (.inl (by decide))⟩
theorem c0y:a0f Tryz.prog 14 [.c (.own 0 0),vci .i64 0,vcs tAb] [some (.cells 67 (dcF 1 100 [] [] [] [] [] ((0:Nat):Int) false))] (fun r own'=>∃ cs2 l2,LV upHs (hsB []) cs2 l2 2∧own'=[some (.cells 67 (dcF 1 100 cs2 l2 [(1,2)] [] [] ((1:Nat):Int) false))]∧r=.tup [vci .i64 ((1:Nat):Int),.c (.v .nilIface)]):=by
 have h0:insE 1 100 [] [] 0 tAb=0:=b4N a8S (by decide) (by decide)
 refine(b2D (LV.zero (hsB [])) (by decide) VH.zero (by decide) (by decide:([]:List Sp).length≤1000000) (w:=[]) 1 100 (by decide) (by decide) (by decide) (by decide) (by decide) 0 (by decide) 0 tAb (by decide)).mono ?_
 rintro r own2 (⟨he,_⟩|⟨_,L,cs2,l2,hL,V2,rfl,rfl⟩)
 ·exact absurd h0 he
 rw[a8S]at hL;cases hL;exact⟨cs2,l2,V2,rfl,rfl⟩
theorem c2L:VH [(1,2)] upHs:=(a8m 1 (0,0) (by decide) [97,98] 0 (0,0) [] [] VH.zero rfl (.inr rfl) (.inr rfl) (by decide) (by decide)).1
end Go.Eng
namespace Go.Eng
open Go Go.RowKit Go.Proofs
end Go.Eng
namespace Go.Eng
open Go Go.RowKit Go.Proofs
end Go.Eng
namespace Go.Eng
open Go Go.RowKit Go.Proofs
theorem b0V{L:Nat→Value}{h:Hp}{sz n:Nat}{f f':Nat→List IC}{v:Value}(hd:Den L h (.sl sz n f) v)(hl2:∀ k,k<n→(f' k).length=sz)(hc2:∀ k,k<n→(f' k).all clo=true)(he:∀ k,k<n→∀(j:Nat) c',(f' k)[j]?=some c'→∃ c,(f k)[j]?=some c∧∀ u,Den L h c u→Den L h c' u):Den L h (.sl sz n f') v:=by
 cases hd with
 | sl _ _ _ A c ad g hc hm hA hg hl hclo hr=>exact .sl sz n f' A c ad g hc hm hA hg hl2 hc2 (fun k hk j c' hc'=>by
   obtain⟨c0,h1,h2⟩:=he k hk j c' hc'
   exact h2 _ (hr k hk j c0 h1))
theorem b1O{α:Type}(d:α){R:Nat→α→Prop}:∀(n:Nat),(∀ k,k<n→∃ a,R k a)→∃ l:List α,l.length=n∧∀ k,k<n→R k (l.getD k d)
 | 0,_=>⟨[],rfl,fun k hk=>by omega⟩
 | n+1,h=>by
  obtain⟨l,hl,hR⟩:=b1O d n (fun k hk=>h k (by omega))
  obtain⟨a,ha⟩:=h n (by omega)
  refine⟨l++[a],by rw[List.length_append,List.length_singleton];omega,fun k hk=>?_⟩
  rw[List.getD_eq_getElem?_getD];rcases Nat.lt_succ_iff_lt_or_eq.1 hk with h1 | rfl
  ·rw[List.getElem?_append_left (by omega),←List.getD_eq_getElem?_getD];exact hR k h1
  ·rw[List.getElem?_append_right (by omega),hl,Nat.sub_self];exact ha
theorem a6t{α:Type}{l:List α}{x d:α}(h:x∈l):∃ j,j<l.length∧l.getD j d=x:=by
 obtain⟨j,hj,rfl⟩:=List.getElem_of_mem h;exact⟨j,hj,by rw[List.getD_eq_getElem?_getD,List.getElem?_eq_getElem hj];rfl⟩
end Go.Eng
namespace Go.Eng
open Go Go.RowKit Go.Proofs
instance eltD (a b:Nat × I2):Decidable (elt a b):=by unfold elt il;infer_instance
def kltD:∀ a b:Ky,Decidable (klt a b)
 | [],[]=>.isFalse (fun h=>by cases h)
 | [],_::_=>by unfold klt;infer_instance
 | _::_,[]=>by unfold klt;infer_instance
 | a::r,b::s=>by
  have:=kltD r s;unfold klt
  infer_instance
instance (a b:Ky):Decidable (klt a b):=kltD a b
theorem c3G{α:Type}{ys:List α}{a b:α}(h:ys.Perm [a,b]):ys=[a,b]∨ys=[b,a]:=by
 have hl:=h.length_eq
 match ys,hl with
 | [p,q],_ =>
  have hp:p∈[a,b]:=h.subset (List.mem_cons_self ..);rcases List.mem_cons.1 hp with rfl | hp
  ·have:=(List.perm_cons _).1 h
   have:=List.perm_singleton.1 this;cases this;exact .inl rfl
  ·have hp:=List.mem_singleton.1 hp
   subst hp;have h2:[p,q].Perm [p,a]:=h.trans (List.Perm.swap ..);have:=(List.perm_cons _).1 h2;have:=List.perm_singleton.1 this;cases this;exact .inr rfl
def tXy:ByteArray:=⟨#[120,121]⟩
def b6o:ByteArray:=⟨#[97,98,120,121]⟩
theorem a8R:a0E tXy=some [120,121]:=by rfl
def iA0:It:=⟨(1,0),(0,0),(0,0),97⟩
def iA1:It:=⟨(1,1),(1,0),(0,0),98⟩
def iX0:It:=⟨(2,0),(0,0),(0,0),120⟩
def iX1:It:=⟨(2,1),(2,0),(0,0),121⟩
def a5Z:HS:=[(iX1,⟨(2,0),true⟩),(iX0,⟨(0,0),true⟩)]
theorem b8K:a0V a5Z [(2,0),(2,1)]:=⟨by decide,by decide⟩
theorem b8C:a0f Tryz.prog 14 [.c (.own 0 0),vci .i64 0,vcs tXy] [some (.cells 67 (dcF 2 100 [] [] [] [] [] ((0:Nat):Int) false))] (fun r own'=>∃ cs2 l2,LV a5Z (hsB []) cs2 l2 2∧own'=[some (.cells 67 (dcF 2 100 cs2 l2 [(2,2)] [] [] ((1:Nat):Int) false))]∧r=.tup [vci .i64 ((1:Nat):Int),.c (.v .nilIface)]):=by
 have h0:insE 2 100 [] [] 0 tXy=0:=b4N a8R (by decide) (by decide)
 refine(b2D (LV.zero (hsB [])) (by decide) VH.zero (by decide) (by decide:([]:List Sp).length≤1000000) (w:=[]) 2 100 (by decide) (by decide) (by decide) (by decide) (by decide) 0 (by decide) 0 tXy (by decide)).mono ?_
 rintro r own2 (⟨he,_⟩|⟨_,L,cs2,l2,hL,V2,rfl,rfl⟩)
 ·exact absurd h0 he
 rw[a8R]at hL;cases hL;exact⟨cs2,l2,V2,rfl,rfl⟩
def bA:Ba:=⟨[⟨(1,0),(0,0),(0,0),tAb⟩],[]⟩
def bX:Ba:=⟨[⟨(2,0),(0,0),(0,0),tXy⟩],[]⟩
theorem b8n:mayB bA:=⟨fun r h=>by rw[List.mem_singleton.1 h];rfl,fun k hk=>(Nat.not_lt_zero _ hk).elim,fun j hj=>by
 have hj:j+1<2:=hj;obtain rfl:j=0:=by omega
 decide,rfl⟩
theorem b8l:mayB bX:=⟨fun r h=>by rw[List.mem_singleton.1 h];rfl,fun k hk=>(Nat.not_lt_zero _ hk).elim,fun j hj=>by
 have hj:j+1<2:=hj;obtain rfl:j=0:=by omega
 decide,rfl⟩
theorem c4f:baSm bA:=⟨⟨fun r h=>by rw[List.mem_singleton.1 h];unfold ruOk u32P;decide,by decide,by decide,by decide⟩,by decide,by decide,fun r h=>by rw[List.mem_singleton.1 h];decide,fun s h=>(List.not_mem_nil h).elim⟩
theorem c4d:baSm bX:=⟨⟨fun r h=>by rw[List.mem_singleton.1 h];unfold ruOk u32P;decide,by decide,by decide,by decide⟩,by decide,by decide,fun r h=>by rw[List.mem_singleton.1 h];decide,fun s h=>(List.not_mem_nil h).elim⟩
theorem be_d(n:Nat)(h0:0<n)(h:n<256):be n=[UInt8.ofNat n]:=by
 rw[a7C (by omega),show n/256=0 from by omega,be_0,show n%256=n from by omega]
 rfl
theorem pn0:putN 0=[0]:=by unfold putN;rw[be_0];rfl
theorem pn1:putN 1=[1,1]:=by unfold putN;rw[be_d 1 (by decide) (by decide)];rfl
theorem pn2:putN 2=[1,2]:=by unfold putN;rw[be_d 2 (by decide) (by decide)];rfl
def eA:List UInt8:=[1,1,1,1,0,0,0,0,0,1,2,97,98,0]
def eX:List UInt8:=[1,1,1,2,0,0,0,0,0,1,2,120,121,0]
theorem b8o:encB bA=eA:=by
 show(putN 1++((putN 1++(putN 0++(putN 0++(putN 0++(putN 0++(putN 0++[]))))))++(putN 2++[97,98])++[]))++putN 0++[]=eA;rw[pn0,pn1,pn2];rfl
theorem b8m:encB bX=eX:=by
 show(putN 1++((putN 2++(putN 0++(putN 0++(putN 0++(putN 0++(putN 0++[]))))))++(putN 2++[120,121])++[]))++putN 0++[]=eX;rw[pn0,pn1,pn2];rfl
theorem c2C:(encB bA).length≤100:=by rw[b8o];decide
theorem c2B:(encB bX).length≤100:=by rw[b8m];decide
theorem b5P:getS eA=(bA,(14,false)):=by rfl
theorem b5O:getS eX=(bX,(14,false)):=by rfl
theorem c4g:isB eA:=⟨by decide,by rw[b5P];rfl,by rw[b5P];exact b8n⟩
theorem c4e:isB eX:=⟨by decide,by rw[b5O];rfl,by rw[b5O];exact b8l⟩
theorem b8G:freG (knO a5Z []) 2 (a0p bA.runs) []=some [iA0,iA1]:=by rfl
theorem b8J:freG (knO upHs []) 1 (a0p bX.runs) []=some [iX0,iX1]:=by rfl
theorem b6h:a1r 2 [(2,2)] [iA0,iA1]=([iA0,iA1],[],[(1,2),(2,2)]):=by rfl
theorem b6i:a1r 2 [(1,2)] [iX0,iX1]=([iX0,iX1],[],[(1,2),(2,2)]):=by rfl
theorem b8F:a0V (adsH a5Z [iA0,iA1]) [(1,0),(1,1),(2,0),(2,1)]:=⟨by decide,by decide⟩
theorem b8I:a0V (adsH upHs [iX0,iX1]) [(1,0),(1,1),(2,0),(2,1)]:=⟨by decide,by decide⟩
theorem b6s{ys:List It}{a b:It}(h:ys.Perm [a,b])(hs:nsI ys)(hl:ltI a.id b.id):ys=[a,b]:=by
 rcases c3G h with rfl | rfl
 ·rfl
 ·exact absurd hl ((List.pairwise_cons.1 hs).1 a (List.mem_cons_self ..))
theorem b8D{cs:Ck}{l:List Nd}(V:LV upHs (hsB []) cs l 2):cs.flatten=[⟨(1,0),97,false⟩,⟨(1,1),98,false⟩]:=by
 obtain⟨o,hO,hf⟩:=V.ord;obtain rfl:=a0V.uniq hO c0x;rw[hf];unfold enOf;rw[List.map_cons,List.map_cons,List.map_nil,a1L,a1L];rfl
theorem b6j{cs:Ck}{l:List Nd}(V:LV a5Z (hsB []) cs l 2):cs.flatten=[⟨(2,0),120,false⟩,⟨(2,1),121,false⟩]:=by
 obtain⟨o,hO,hf⟩:=V.ord;obtain rfl:=a0V.uniq hO b8K;rw[hf];unfold enOf;rw[List.map_cons,List.map_cons,List.map_nil,a1L,a1L];rfl
theorem b8E{cs:Ck}{l:List Nd}(V:LV (adsH a5Z [iA0,iA1]) (hsB []) cs l 4):txS cs.flatten=b6o:=by
 obtain⟨o,hO,hf⟩:=V.ord;obtain rfl:=a0V.uniq hO b8F;rw[hf];unfold enOf;rw[List.map_cons,List.map_cons,List.map_cons,List.map_cons,List.map_nil,a1L,a1L,a1L,a1L];rfl
theorem b8H{cs:Ck}{l:List Nd}(V:LV (adsH upHs [iX0,iX1]) (hsB []) cs l 4):txS cs.flatten=b6o:=by
 obtain⟨o,hO,hf⟩:=V.ord;obtain rfl:=a0V.uniq hO b8I;rw[hf];unfold enOf;rw[List.map_cons,List.map_cons,List.map_cons,List.map_cons,List.map_nil,a1L,a1L,a1L,a1L];rfl
theorem c0z:VH [(2,2)] a5Z:=(a8m 2 (0,0) (by decide) [120,121] 0 (0,0) [] [] VH.zero rfl (.inr rfl) (.inr rfl) (by decide) (by decide)).1
theorem b8B:a0f Tryz.prog 7 [.agg (baF bA)] [] (fun r own'=>own'=[]∧r=.tup [bS eA,.c (.v .nilIface)]):=by
 refine(b5K bA c4f).mono ?_;rintro r own2 ⟨rfl,⟨_,_,rfl⟩|⟨h,_⟩⟩
 ·rw[b8o];exact⟨rfl,rfl⟩
 ·exact absurd ⟨b8n,Nat.le_trans c2C (by decide)⟩ h
theorem b8A:a0f Tryz.prog 7 [.agg (baF bX)] [] (fun r own'=>own'=[]∧r=.tup [bS eX,.c (.v .nilIface)]):=by
 refine(b5K bX c4d).mono ?_;rintro r own2 ⟨rfl,⟨_,_,rfl⟩|⟨h,_⟩⟩
 ·rw[b8m];exact⟨rfl,rfl⟩
 ·exact absurd ⟨b8l,Nat.le_trans c2B (by decide)⟩ h
theorem mv1(c n:Int)(h:0<c∧0<n):mayV [(c,n)]:=c1S (fun j hj=>by
 have hj:j<1:=hj;obtain rfl:j=0:=by omega
 exact⟨h.1,h.2,fun h=>absurd h (Nat.lt_irrefl _)⟩)
theorem b3A{cs:Ck}{l:List Nd}(V:LV upHs (hsB []) cs l 2):a0f Tryz.prog 15 [.c (.own 0 0),a4b [(2,2)]] [some (.cells 67 (dcF 1 100 cs l [(1,2)] [] [] ((1:Nat):Int) false))] (fun r own'=>own'=[some (.cells 67 (dcF 1 100 cs l [(1,2)] [] [] ((1:Nat):Int) false))]∧r=.agg (baF bA)):=by
 refine(b3S V (by decide) [(1,2)] [] [] (by decide) 1 100 _ false [(2,2)] (mv1 2 2 (by decide)) (by decide) (fun x h hm=>?_)).mono ?_
 ·rcases List.mem_cons.1 hm with e | e
  ·cases e;unfold itOk u32P;decide
  ·cases List.mem_singleton.1 e;unfold itOk u32P;decide
 ·rintro r own2 ⟨rfl,ys,hp,hn,rfl⟩
  rw[b8D V,show snL upHs [(2,2)] [⟨(1,0),97,false⟩,⟨(1,1),98,false⟩]=[iA0,iA1]from by rfl]at hp
  obtain rfl:=b6s hp hn (by decide)
  exact⟨rfl,rfl⟩
theorem b3z{cs:Ck}{l:List Nd}(V:LV a5Z (hsB []) cs l 2):a0f Tryz.prog 15 [.c (.own 0 0),a4b [(1,2)]] [some (.cells 67 (dcF 2 100 cs l [(2,2)] [] [] ((1:Nat):Int) false))] (fun r own'=>own'=[some (.cells 67 (dcF 2 100 cs l [(2,2)] [] [] ((1:Nat):Int) false))]∧r=.agg (baF bX)):=by
 refine(b3S V (by decide) [(2,2)] [] [] (by decide) 2 100 _ false [(1,2)] (mv1 1 2 (by decide)) (by decide) (fun x h hm=>?_)).mono ?_
 ·rcases List.mem_cons.1 hm with e | e
  ·cases e;unfold itOk u32P;decide
  ·cases List.mem_singleton.1 e;unfold itOk u32P;decide
 ·rintro r own2 ⟨rfl,ys,hp,hn,rfl⟩
  rw[b6j V,show snL a5Z [(1,2)] [⟨(2,0),120,false⟩,⟨(2,1),121,false⟩]=[iX0,iX1]from by rfl]at hp
  obtain rfl:=b6s hp hn (by decide)
  exact⟨rfl,rfl⟩
theorem b3C{cs:Ck}{l:List Nd}(V:LV upHs (hsB []) cs l 2):a0f Tryz.prog 8 [.c (.own 0 0),bS eX] [some (.cells 67 (dcF 1 100 cs l [(1,2)] [] [] ((1:Nat):Int) false))] (fun r own'=>∃ cs2 l2,LV (adsH upHs [iX0,iX1]) (hsB []) cs2 l2 4∧own'=[some (.cells 67 (dcF 1 100 cs2 l2 [(1,2),(2,2)] [] [] ((2:Nat):Int) false))]∧r=.tup [vci .i64 ((2:Nat):Int),.c (.v .nilIface)]):=by
 refine(b6c V (by decide) c2L (by decide) ⟨fun s h=>(List.not_mem_nil h).elim,List.Pairwise.nil⟩ (by decide) (w:=[]) (by decide) (fun x h=>(List.not_mem_nil h).elim) List.Pairwise.nil 1 100 1 (by decide) eX (by decide)).mono ?_
 rintro r own2 (⟨h,_⟩|⟨_,T,hT,hA⟩)
 ·exact absurd c4e h
 rw[b5O]at hT hA;rw[b8J]at hT hA;obtain⟨ys,hp,hn,rfl⟩:=hT _ rfl;obtain rfl:=b6s hp hn (by decide)
 rw[show[iX0,iX1].length=2 from rfl,b6i]at hA;rcases hA with⟨h,_⟩|⟨_,cs2,l2,V2,rfl,rfl⟩
 ·exact absurd h (by decide)
 ·exact⟨cs2,l2,V2,rfl,rfl⟩
theorem b3B{cs:Ck}{l:List Nd}(V:LV a5Z (hsB []) cs l 2):a0f Tryz.prog 8 [.c (.own 0 0),bS eA] [some (.cells 67 (dcF 2 100 cs l [(2,2)] [] [] ((1:Nat):Int) false))] (fun r own'=>∃ cs2 l2,LV (adsH a5Z [iA0,iA1]) (hsB []) cs2 l2 4∧own'=[some (.cells 67 (dcF 2 100 cs2 l2 [(1,2),(2,2)] [] [] ((2:Nat):Int) false))]∧r=.tup [vci .i64 ((2:Nat):Int),.c (.v .nilIface)]):=by
 refine(b6c V (by decide) c0z (by decide) ⟨fun s h=>(List.not_mem_nil h).elim,List.Pairwise.nil⟩ (by decide) (w:=[]) (by decide) (fun x h=>(List.not_mem_nil h).elim) List.Pairwise.nil 2 100 1 (by decide) eA (by decide)).mono ?_
 rintro r own2 (⟨h,_⟩|⟨_,T,hT,hA⟩)
 ·exact absurd c4g h
 rw[b5P]at hT hA;rw[b8G]at hT hA;obtain⟨ys,hp,hn,rfl⟩:=hT _ rfl;obtain rfl:=b6s hp hn (by decide)
 rw[show[iA0,iA1].length=2 from rfl,b6h]at hA;rcases hA with⟨h,_⟩|⟨_,cs2,l2,V2,rfl,rfl⟩
 ·exact absurd h (by decide)
 ·exact⟨cs2,l2,V2,rfl,rfl⟩
theorem b8M:a0f Tryz.prog 4 [] [] (fun r own'=>own'=[]∧r=vcb true):=by
 refine a0e Tryz.func4 rfl ttok ftok rfl rfl rfl (Nat.le_of_ble_eq_true rfl) ?_
 conv=>whnf
 refine a0c [] rfl rfl rfl rfl (b1H 1 100 (by decide) (by decide)) ?_
 rintro r own2 ⟨rfl,rfl⟩;refine⟨.tup [.c (.own 0 0),.c (.v .nilIface)],[some (.cells 67 (dcF 1 100 [] [] [] [] [] 0 false))],rfl,rfl,?_⟩
 conv=>whnf
 refine a0c [] rfl rfl rfl rfl (b1H 2 100 (by decide) (by decide)) ?_
 rintro r own2 ⟨rfl,rfl⟩;refine⟨.tup [.c (.own 1 0),.c (.v .nilIface)],[some (.cells 67 (dcF 1 100 [] [] [] [] [] 0 false)),some (.cells 67 (dcF 2 100 [] [] [] [] [] 0 false))],rfl,rfl,?_⟩
 conv=>whnf
 refine a0c [some 0] rfl rfl rfl rfl c0y ?_;rintro r own2 ⟨csA,lA,VA,rfl,rfl⟩;refine⟨.tup [vci .i64 ((1:Nat):Int),.c (.v .nilIface)],[some (.cells 67 (dcF 1 100 csA lA [(1,2)] [] [] ((1:Nat):Int) false)),some (.cells 67 (dcF 2 100 [] [] [] [] [] 0 false))],rfl,rfl,?_⟩
 conv=>whnf
 refine a0c [some 1] rfl rfl rfl rfl b8C ?_;rintro r own2 ⟨csB,lB,VB,rfl,rfl⟩;refine⟨.tup [vci .i64 ((1:Nat):Int),.c (.v .nilIface)],[some (.cells 67 (dcF 1 100 csA lA [(1,2)] [] [] ((1:Nat):Int) false)),some (.cells 67 (dcF 2 100 csB lB [(2,2)] [] [] ((1:Nat):Int) false))],rfl,rfl,?_⟩
 conv=>whnf
 refine a0c [some 1] rfl rfl rfl rfl (a4K 2 100 csB lB [(2,2)] [] [] ((1:Nat):Int) false (by decide)) ?_
 rintro r own2 ⟨rfl,rfl⟩;refine⟨.c (.row 2),[some (.cells 67 (dcF 1 100 csA lA [(1,2)] [] [] ((1:Nat):Int) false)),some (.cells 67 (dcF 2 100 csB lB [(2,2)] [] [] ((1:Nat):Int) false)),some (.row 79 2 (List.length [((2:Int),(2:Int))]) (ckR [((2:Int),(2:Int))]))],rfl,rfl,?_⟩
 conv=>whnf
 refine⟨fun _ _=>rfl,?_⟩
 conv=>whnf
 refine a0c [some 0] rfl rfl rfl rfl (b3A VA) ?_;rintro r own2 ⟨rfl,rfl⟩;refine⟨.agg (baF bA),[some (.cells 67 (dcF 1 100 csA lA [(1,2)] [] [] ((1:Nat):Int) false)),some (.cells 67 (dcF 2 100 csB lB [(2,2)] [] [] ((1:Nat):Int) false)),none],rfl,rfl,?_⟩
 conv=>whnf
 refine a0a b8B rfl ?_;rintro _ rfl
 conv=>whnf
 refine a0c [some 0] rfl rfl rfl rfl (a4K 1 100 csA lA [(1,2)] [] [] ((1:Nat):Int) false (by decide)) ?_
 rintro r own2 ⟨rfl,rfl⟩;refine⟨.c (.row 3),[some (.cells 67 (dcF 1 100 csA lA [(1,2)] [] [] ((1:Nat):Int) false)),some (.cells 67 (dcF 2 100 csB lB [(2,2)] [] [] ((1:Nat):Int) false)),none,some (.row 79 2 (List.length [((1:Int),(2:Int))]) (ckR [((1:Int),(2:Int))]))],rfl,rfl,?_⟩
 conv=>whnf
 refine⟨fun _ _=>rfl,?_⟩
 conv=>whnf
 refine a0c [some 1] rfl rfl rfl rfl (b3z VB) ?_;rintro r own2 ⟨rfl,rfl⟩;refine⟨.agg (baF bX),[some (.cells 67 (dcF 1 100 csA lA [(1,2)] [] [] ((1:Nat):Int) false)),some (.cells 67 (dcF 2 100 csB lB [(2,2)] [] [] ((1:Nat):Int) false)),none,none],rfl,rfl,?_⟩
 conv=>whnf
 refine a0a b8A rfl ?_;rintro _ rfl
 conv=>whnf
 refine a0c [some 0] rfl rfl rfl rfl (b3C VA) ?_;rintro r own2 ⟨csA2,lA2,VA2,rfl,rfl⟩;refine⟨.tup [vci .i64 ((2:Nat):Int),.c (.v .nilIface)],[some (.cells 67 (dcF 1 100 csA2 lA2 [(1,2),(2,2)] [] [] ((2:Nat):Int) false)),some (.cells 67 (dcF 2 100 csB lB [(2,2)] [] [] ((1:Nat):Int) false)),none,none],rfl,rfl,?_⟩
 conv=>whnf
 refine a0c [some 1] rfl rfl rfl rfl (b3B VB) ?_;rintro r own2 ⟨csB2,lB2,VB2,rfl,rfl⟩;refine⟨.tup [vci .i64 ((2:Nat):Int),.c (.v .nilIface)],[some (.cells 67 (dcF 1 100 csA2 lA2 [(1,2),(2,2)] [] [] ((2:Nat):Int) false)),some (.cells 67 (dcF 2 100 csB2 lB2 [(1,2),(2,2)] [] [] ((2:Nat):Int) false)),none,none],rfl,rfl,?_⟩
 conv=>whnf
 refine a0c [some 0] rfl rfl rfl rfl (a8z 1 100 csA2 lA2 [(1,2),(2,2)] [] [] ((2:Nat):Int) false (by have:=VA2.ck;omega) (by rw[VA2.sum];decide)) ?_
 rintro r own2 ⟨rfl,rfl⟩;rw[b8H VA2];refine⟨vcs b6o,[some (.cells 67 (dcF 1 100 csA2 lA2 [(1,2),(2,2)] [] [] ((2:Nat):Int) false)),some (.cells 67 (dcF 2 100 csB2 lB2 [(1,2),(2,2)] [] [] ((2:Nat):Int) false)),none,none],rfl,rfl,?_⟩
 conv=>whnf
 refine a0c [some 1] rfl rfl rfl rfl (a8z 2 100 csB2 lB2 [(1,2),(2,2)] [] [] ((2:Nat):Int) false (by have:=VB2.ck;omega) (by rw[VB2.sum];decide)) ?_
 rintro r own2 ⟨rfl,rfl⟩;rw[b8E VB2];refine⟨vcs b6o,[some (.cells 67 (dcF 1 100 csA2 lA2 [(1,2),(2,2)] [] [] ((2:Nat):Int) false)),some (.cells 67 (dcF 2 100 csB2 lB2 [(1,2),(2,2)] [] [] ((2:Nat):Int) false)),none,none],rfl,rfl,?_⟩
 conv=>whnf
 all_goals first | rfl | exact⟨rfl,rfl⟩
end Go.Eng
namespace Go.Eng
open Go Go.RowKit Go.Proofs
structure DU(U:List It)(D:List Sp)(P:Pd)(cs:Ck)(l:List Nd):Prop where
 H:Hld U D P
 V:LV P.hs (hsB P.g) cs l P.hs.length
theorem DU.zero:DU [] [] ⟨[],[],[],[],0⟩ [] []:=⟨Hld.zero,LV.zero _⟩
theorem ap_c{U:List It}{D:List Sp}{P:Pd}{cs:Ck}{l:List Nd}(A:DU U D P cs l)(hU:U.length≤1000)(hD:D.length≤400000)(hn:P.n≤1000)(c lim:Int)(b:List UInt8)(hb:b.length≤100000)(hsz:(getS b).1.runs.length≤2000∧(getS b).1.dels.length≤2000∧(a0p (getS b).1.runs).length≤2000) :
  a0f Tryz.prog 8 [.c (.own 0 0),bS b] [some (.cells 67 (dcF c lim cs l P.v P.w P.g (P.n:Int) false))] (fun r own'=>∃ Q t cs2 l2,appN c P b Q t∧LV Q.hs (hsB Q.g) cs2 l2 Q.hs.length ∧
   own'=[some (.cells 67 (dcF c lim cs2 l2 Q.v Q.w Q.g (Q.n:Int) false))]∧((t.code=0∧r=.tup [vci .i64 t.ver,.c (.v .nilIface)])∨(t.code≠0∧Q=P∧r=.tup [vci .i64 t.ver,fltA a1N t.code]))):=by
 have h1:=A.H.len;have h2:=A.H.glen;refine(b6b A.V (by omega) A.H.VH (by omega) A.H.can (by omega) (by omega) A.H.wok A.H.wnd c lim P.n hn b hb hsz).mono ?_
 rintro r own2 (⟨hB,rfl,rfl⟩|⟨hB,T,hT,hm⟩)
 ·exact⟨P,b2L a1N 2,cs,l,.inl ⟨hB,rfl,rfl⟩,A.V,rfl,.inr ⟨by decide,rfl,rfl⟩⟩
 ·cases hF:freG (knO P.hs P.w) c (a0p (getS b).1.runs) []with
  | none =>
   rw[hF]at hm;obtain⟨rfl,rfl⟩:=hm;exact⟨P,b2L a1N 2,cs,l,.inr ⟨hB,T,hT,by rw[hF];exact⟨rfl,rfl⟩⟩,A.V,rfl,.inr ⟨by decide,rfl,rfl⟩⟩
  | some m =>
   have hTm:=hT m hF;rw[hF]at hm;rcases hm with⟨hbig,rfl,rfl⟩|⟨hsm,cs2,l2,V2,rfl,rfl⟩
   ·exact⟨P,b2L a1N 5,cs,l,.inr ⟨hB,T,hT,by rw[hF];exact .inl ⟨hbig,rfl,rfl⟩⟩,A.V,rfl,.inr ⟨by decide,rfl,rfl⟩⟩
   ·exact⟨⟨adsH P.hs T.1,T.2.2,T.2.1,setL (P.g++(getS b).1.dels),if apC m P.g (setL (P.g++(getS b).1.dels)) T=true then P.n+1 else P.n⟩,c2s (if apC m P.g (setL (P.g++(getS b).1.dels)) T=true then P.n+1 else P.n),cs2,l2,
     .inr ⟨hB,T,hT,by rw[hF];exact .inr ⟨hsm,rfl,rfl⟩⟩,by show LV (adsH P.hs T.1) _ _ _ (adsH P.hs T.1).length;rw[a8J];exact V2,rfl,.inl ⟨rfl,rfl⟩⟩
end Go.Eng
namespace Go.Eng
open Go Go.RowKit Go.Proofs
structure bOK(x:Ba):Prop where
 sml:smlB x
 sm:baSm x
 may:mayB x
 len:(encB x).length≤20000
 cl:∀ r,r∈x.runs→r.id.1≠1000001
 sz:a1Q x.runs≤2000
theorem bOK.get{x:Ba}(h:bOK x):isB (encB x)∧(getS (encB x)).1=x:=b9L x h.sm h.may h.len
theorem b9F{l:List Ru}{i:It}(h:i∈a0p l):∃ r,r∈l∧i.id.1=r.id.1:=by
 unfold a0p at h;rw[List.mem_flatMap]at h;obtain⟨r,hr,hi⟩:=h;unfold itsR at hi;rw[List.mem_map]at hi;obtain⟨j,_,rfl⟩:=hi;exact⟨r,hr,rfl⟩
structure AX(XS:List Ba)(S j:Nat)(P:Pd)(cs:Ck)(l:List Nd):Prop where
 ex:∃ U D,DU U D P cs l∧U.length≤S∧D.length≤40*j∧(∀ i,i∈U↔∃ x,x∈XS∧i∈a0p x.runs)∧∀ s,s∈D↔∃ x,x∈XS∧s∈x.dels
 ver:P.n≤j
theorem AX.zero:AX [] 0 0 ⟨[],[],[],[],0⟩ [] [] :=
 ⟨⟨[],[],DU.zero,Nat.le_refl _,Nat.zero_le _,fun i=>⟨fun h=>(List.not_mem_nil h).elim,fun⟨x,h,_⟩=>(List.not_mem_nil h).elim⟩,fun i=>⟨fun h=>(List.not_mem_nil h).elim,fun⟨x,h,_⟩=>(List.not_mem_nil h).elim⟩⟩,Nat.le_refl _⟩
theorem AX.up{XS:List Ba}{S j S' j':Nat}{P:Pd}{cs:Ck}{l:List Nd}(A:AX XS S j P cs l)(h1:S≤S')(h2:j≤j'):AX XS S' j' P cs l:=by
 obtain⟨⟨U,D,a1,a2,a3,a4,a5⟩,a6⟩:=A;exact⟨⟨U,D,a1,by omega,by omega,a4,a5⟩,by omega⟩
theorem AX.step{XS:List Ba}{S j:Nat}{P:Pd}{cs:Ck}{l:List Nd}(A:AX XS S j P cs l){x:Ba}(hx:bOK x){c:Int}{Q:Pd}{t:Tl}(h:appN c P (encB x) Q t)(h0:t.code=0){cs2:Ck}{l2:List Nd}(V:LV Q.hs (hsB Q.g) cs2 l2 Q.hs.length):AX (XS++[x]) (S+a1Q x.runs) (j+1) Q cs2 l2:=by
 obtain⟨⟨U,D,a1,a2,a3,a4,a5⟩,a6⟩:=A;have hl:=hx.len;obtain⟨hB,m,hs,hall,H2,hn⟩:=a1.H.app (by omega) h h0
 rw[hx.get.2]at hs hall H2;have h1:=hs.length_le;have h2:=a1I x.runs;have h3:=hx.sml.2.1;refine⟨⟨U++m,D++x.dels,⟨H2,V⟩,by rw[List.length_append];omega,by rw[List.length_append];omega,fun i=>?_,fun s=>?_⟩,by omega⟩
 ·constructor
  ·intro hi
   rcases List.mem_append.1 hi with hi | hi
   ·obtain⟨y,hy,hi⟩:=(a4 i).1 hi
    exact⟨y,List.mem_append_left _ hy,hi⟩
   ·exact⟨x,List.mem_append_right _ (List.mem_singleton_self _),hs.subset hi⟩
  ·rintro⟨y,hy,hi⟩
   rcases List.mem_append.1 hy with hy | hy
   ·exact List.mem_append_left _ ((a4 i).2 ⟨y,hy,hi⟩)
   ·rw[List.mem_singleton]at hy
    subst hy;exact hall i hi
 ·rw[List.mem_append,a5]
  constructor
  ·rintro(⟨y,hy,hi⟩ | hi)
   ·exact⟨y,List.mem_append_left _ hy,hi⟩
   ·exact⟨x,List.mem_append_right _ (List.mem_singleton_self _),hi⟩
  ·rintro⟨y,hy,hi⟩
   rcases List.mem_append.1 hy with hy | hy
   ·exact .inl ⟨y,hy,hi⟩
   ·rw[List.mem_singleton]at hy
    subst hy;exact .inr hi
theorem AX.part{XS YS:List Ba}{S j S' j':Nat}{P P':Pd}{cs cs':Ck}{l l':List Nd}(A:AX XS S j P cs l)(B:AX YS S' j' P' cs' l')(h:∀ y,y∈YS→y∈XS):AX YS S j' P' cs' l':=by
 obtain⟨⟨U,D,a1,a2,a3,a4,a5⟩,a6⟩:=A;obtain⟨⟨U',D',b1,b2,b3,b4,b5⟩,b6⟩:=B;have hnd:U'.Nodup:=b1.H.nd.imp (fun h e=>h (by rw[e]))
 have:=a7X hnd (A:=U) (fun i hi=>(a4 i).2 (by obtain⟨y,hy,hi⟩:=(b4 i).1 hi;exact⟨y,h y hy,hi⟩))
 exact⟨⟨U',D',b1,by omega,b3,b4,b5⟩,b6⟩
theorem AX.takes{XS YS:List Ba}{S j S' j':Nat}{P P':Pd}{cs cs':Ck}{l l':List Nd}(A:AX XS S j P cs l)(hS:S≤1000)(B:AX YS S' j' P' cs' l')(h:∀ y,y∈YS→y∈XS){x:Ba}(hx:bOK x)(hxX:x∈XS){Q:Pd}{t:Tl}(ha:appN 1000001 P' (encB x) Q t):t.code=0:=by
 obtain⟨⟨U,D,a1,a2,a3,a4,a5⟩,a6⟩:=A;obtain⟨⟨U',D',b1,b2,b3,b4,b5⟩,b6⟩:=B;have hl:=hx.len;refine b1.H.takes (by omega) ha hx.get.1 a1.H.nd (by omega) (fun i hi=>(a4 i).2 (by obtain⟨y,hy,hi⟩:=(b4 i).1 hi;exact⟨y,h y hy,hi⟩)) (fun i hi=>?_) (fun i hi e=>?_)
 ·rw[hx.get.2]at hi
  exact(a4 i).2 ⟨x,hxX,hi⟩
 ·rw[hx.get.2]at hi
  obtain⟨r,hr,e2⟩:=b9F hi;exact absurd (e2.symm.trans e) (hx.cl r hr)
theorem AX.same{XS YS:List Ba}{S j S' j':Nat}{P P':Pd}{cs cs':Ck}{l l':List Nd}(A:AX XS S j P cs l)(B:AX YS S' j' P' cs' l')(h:∀ y,y∈YS↔y∈XS):P.v=P'.v∧P.w=P'.w∧cs.flatten=cs'.flatten:=by
 obtain⟨⟨U,D,a1,a2,a3,a4,a5⟩,a6⟩:=A;obtain⟨⟨U',D',b1,b2,b3,b4,b5⟩,b6⟩:=B;have hU:∀ i,i∈U↔i∈U':=fun i=>by
  rw[a4,b4];exact⟨fun⟨x,hx,hi⟩=>⟨x,(h x).2 hx,hi⟩,fun⟨x,hx,hi⟩=>⟨x,(h x).1 hx,hi⟩⟩
 have hD:∀ i,i∈D↔i∈D':=fun i=>by
  rw[a5,b5];exact⟨fun⟨x,hx,hi⟩=>⟨x,(h x).2 hx,hi⟩,fun⟨x,hx,hi⟩=>⟨x,(h x).1 hx,hi⟩⟩
 obtain⟨e1,e2,_,_⟩:=a1.H.same b1.H hU hD;exact⟨e1,e2,a1.H.ents b1.H hU hD a1.V b1.V⟩
theorem AX.V2{XS:List Ba}{S j:Nat}{P:Pd}{cs cs2:Ck}{l l2:List Nd}(A:AX XS S j P cs l)(V:LV P.hs (hsB P.g) cs2 l2 P.hs.length):AX XS S j P cs2 l2:=by
 obtain⟨⟨U,D,a1,a2,a3,a4,a5⟩,a6⟩:=A;exact⟨⟨U,D,⟨a1.H,V⟩,a2,a3,a4,a5⟩,a6⟩
theorem AX.num{XS:List Ba}{S j:Nat}{P:Pd}{cs:Ck}{l:List Nd}(A:AX XS S j P cs l):P.hs.length+P.w.length≤S∧P.v.length≤S∧cs.length≤S∧sumL cs≤S∧P.g.length≤40*j:=by
 obtain⟨⟨U,D,a1,a2,a3,a4,a5⟩,a6⟩:=A;have h1:=a1.H.len;have h2:=a1.H.glen;have h3:=a1.V.ck;have h4:=a1.V.sum;exact⟨by omega,by omega,by omega,by omega,by omega⟩
end Go.Eng
namespace Go.Eng
open Go Go.RowKit Go.Proofs
theorem fpR{l:List Ru}{k:Nat}{x:Ru}(hx:l.getD k ru0=x):(AV.c (.fp (ruF (l.getD (k:Int).toNat ru0))))=.c (.fp (ruF x)):=by rw[a0k,hx]
theorem b2H{l:List Ru}{q:Nat}(hq:q<l.length):l.take (q+1)=l.take q++[l.getD q ru0]:=by
 rw[List.getD_eq_getElem?_getD,List.getElem?_eq_getElem hq];exact(List.take_append_getElem hq).symm
theorem fpB{l:List Ba}{k:Nat}{x:Ba}(hx:l.getD k ba0=x):(AV.c (.fp (baF (l.getD (k:Int).toNat ba0))))=.c (.fp (baF x)):=by rw[a0k,hx]
abbrev basS(l:List Ba):AV:=.c (.sl 2 l.length fun k=>baF (l.getD k ba0))
abbrev intS(l:List Int):AV:=.c (.sl 1 l.length fun k=>[vi (l.getD k 0)])
abbrev tkE(x:Ba):List IC:=[.sl 1 (encB x).length (a4O (encB x))]
abbrev toO(P Q:Pd)(cs:Ck)(l:List Nd)(cs2:Ck)(l2:List Nd)(XS:List Ba):List (Option Ob):=[some (.cells 67 (dcF 1000000 100 cs l P.v P.w P.g (P.n:Int) false)),some (.cells 67 (dcF 1000001 100 cs2 l2 Q.v Q.w Q.g (Q.n:Int) false)),some (.row 41 1 XS.length fun k=>tkE (XS.getD k ba0))]
abbrev pd0:Pd:=⟨[],[],[],[],0⟩
def toA(l:List Ba)(pk:List Int)(n:Nat)(st:St):Prop:=∃(k M:Nat) (P:Pd) (cs:Ck) (ls:List Nd) (XS:List Ba),n=l.length-k∧k≤l.length∧M≤900∧AX XS M k P cs ls∧(∀ x,x∈XS→bOK x)∧XS.length≤k ∧
 st=⟨199,0,[(0,basS l),(1,intS pk),(5,vcb true),(6,.c (.own 0 0)),(8,.c (.own 1 0)),(10,.c (.row 2)),(11,vci .i64 (M:Int)),(12,vci .i64 (k:Int))],toO P pd0 cs ls [] [] XS⟩
theorem b6m{x:Ba}{q:Nat}(hq:q<x.runs.length)(M:Nat):M+a1Q (x.runs.take (q+1))=M+a1Q (x.runs.take q)+(x.runs.getD q ru0).text.size:=by
 have e:x.runs.take (q+1)=x.runs.take q++[x.runs.getD q ru0]:=by
  rw[List.getD_eq_getElem?_getD,List.getElem?_eq_getElem hq];exact(List.take_append_getElem hq).symm
 rw[e,a7d];omega
theorem bsz{x:Ba}(hb:bOK x):(getS (encB x)).1.runs.length≤2000∧(getS (encB x)).1.dels.length≤2000∧(a0p (getS (encB x)).1.runs).length≤2000:=by
 rw[hb.get.2];obtain⟨h1,h2,h3⟩:=hb.sml;have h4:=a3D 200 x.runs h3;have h5:a1Q x.runs≤2000:=hb.sz;have h6:=a1I x.runs;exact⟨by omega,by omega,by omega⟩
theorem c0r{XS:List Ba}{S j:Nat}{P:Pd}{cs:Ck}{l:List Nd}(A:AX XS S j P cs l)(hS:S≤1000)(hj:j≤1000)(c lim:Int)(x:Ba)(hb:bOK x) :
  a0f Tryz.prog 8 [.c (.own 0 0),bS (encB x)] [some (.cells 67 (dcF c lim cs l P.v P.w P.g (P.n:Int) false))] (fun r own'=>∃ Q t cs2 l2,appN c P (encB x) Q t∧LV Q.hs (hsB Q.g) cs2 l2 Q.hs.length ∧
   own'=[some (.cells 67 (dcF c lim cs2 l2 Q.v Q.w Q.g (Q.n:Int) false))]∧((t.code=0∧r=.tup [vci .i64 t.ver,.c (.v .nilIface)])∨(t.code≠0∧Q=P∧r=.tup [vci .i64 t.ver,fltA a1N t.code]))):=by
 have hlen:=hb.len;have hv:=A.ver;obtain⟨U,D,a1,a2,a3,a4,a5⟩:=A.ex;exact ap_c a1 (by omega) (by omega) (by omega) c lim (encB x) (by omega) (bsz hb)
theorem b9r(n:Int)(m:Nat)(hn:i64P n)(h0:0<m)(hm:m≤1000000):a0f Tryz.prog 9 [vci .i64 n,vci .i64 (m:Int)] [] (fun r own'=>own'=[]∧∃ p:Nat,p<m∧r=vci .i64 (p:Int)):=by
 refine(b6R n m hn ⟨by omega,by omega⟩).mono ?_
 rintro r own' ⟨rfl,rfl⟩;have h1:=Int.emod_nonneg n (by omega:(m:Int)≠0)
 have h2:=Int.emod_lt_of_pos n (by omega:(0:Int)<m)
 exact⟨rfl,(n%(m:Int)).toNat,by omega,by rw[Int.toNat_of_nonneg h1]⟩
def toD(pk:List Int)(P:Pd)(cs:Ck)(ls:List Nd)(XS:List Ba)(n:Nat)(st:St):Prop:=∃(q:Nat) (Q:Pd) (cs2:Ck) (l2:List Nd) (YS:List Ba),n=pk.length-q∧q≤pk.length∧AX YS 900 q Q cs2 l2∧(∀ y,y∈YS→y∈XS) ∧
 st=⟨199,0,[(1,intS pk),(5,vcb true),(6,.c (.own 0 0)),(8,.c (.own 1 0)),(10,.c (.row 2)),(18,vci .i64 (q:Int))],toO P Q cs ls cs2 l2 XS⟩
def toE(P:Pd)(cs:Ck)(ls:List Nd)(XS:List Ba)(n:Nat)(st:St):Prop:=∃(m:Nat) (Q:Pd) (cs2:Ck) (l2:List Nd) (YS:List Ba) (j:Nat),n=m∧m≤XS.length∧j≤40+(XS.length-m)∧AX YS 900 j Q cs2 l2∧(∀ y,y∈YS→y∈XS)∧(∀ i,m≤i→i<XS.length→XS.getD i ba0∈YS) ∧
 st=⟨199,0,[(5,vcb true),(6,.c (.own 0 0)),(8,.c (.own 1 0)),(10,.c (.row 2)),(21,vci .i64 ((m:Int)-1))],toO P Q cs ls cs2 l2 XS⟩
def toB(l:List Ba)(pk:List Int)(k M:Nat)(P:Pd)(cs:Ck)(ls:List Nd)(XS:List Ba)(x:Ba)(n:Nat)(st:St):Prop:=∃ q:Nat,n=x.runs.length-q∧q≤x.runs.length∧M+a1Q (x.runs.take q)≤900∧(∀ r,r∈x.runs.take q→r.id.1≠1000001) ∧
 st=⟨199,0,[(0,basS l),(1,intS pk),(5,vcb true),(6,.c (.own 0 0)),(8,.c (.own 1 0)),(10,.c (.row 2)),(11,vci .i64 ((M+a1Q (x.runs.take q):Nat):Int)),(12,vci .i64 (k:Int)),(13,vci .i64 (q:Int))],toO P pd0 cs ls [] [] XS⟩
theorem b0j(l:List Ba)(hl:l.length≤1048576)(hr:∀ x,x∈l→(∀ r,r∈x.runs→ruOk r)∧x.runs.length≤1048576∧x.dels.length≤1048576∧∀ s,s∈x.dels→spOk s)(pk:List Int)(hp:pk.length≤1048576)(hpk:∀ x,x∈pk→i64P x) :
  a0f Tryz.prog 3 [basS l,intS pk] [] (fun r own'=>own'=[]∧r=vcb true):=by
 refine a0e Tryz.func3 rfl ttok ftok rfl rfl rfl (Nat.le_of_ble_eq_true rfl) ?_
 conv=>whnf
 refine a0a b8M rfl ?_;rintro _ rfl
 conv=>whnf
 refine a0d (fun h=>?_) (fun h=>?_)
 ·conv=>whnf
  all_goals first | rfl | exact⟨rfl,rfl⟩
 have hs:l.length≤8∧pk.length≤40:=by
  simp[a0J,a0O]at h;omega
 clear h
 conv=>whnf
 refine a0c [] rfl rfl rfl rfl (b1H 1000000 100 (by decide) (by decide)) ?_
 rintro r own2 ⟨rfl,rfl⟩;refine⟨_,_,rfl,rfl,?_⟩
 conv=>whnf
 refine a0c [] rfl rfl rfl rfl (b1H 1000001 100 (by decide) (by decide)) ?_
 rintro r own2 ⟨rfl,rfl⟩;refine⟨_,_,rfl,rfl,?_⟩
 conv=>whnf
 refine a0B ttok ftok (toA l pk) ((a0M 10 41 1 (fun k=>tkE (([]:List Ba).getD k ba0)) rfl).trans (a0b [0,1,5,6,8,10,11,12] [some 0,some 1,some 2] rfl rfl)) ⟨0,0,pd0,[],[],[],rfl,Nat.zero_le _,by decide,AX.zero,fun x hx=>(List.not_mem_nil hx).elim,Nat.le_refl _,rfl⟩ ?_
 rintro n st ⟨k,M,P,cs,ls,XS,rfl,hk,hM,A,hX,hXl,rfl⟩;have e1:=e64 (k:=k) (by omega)
 conv=>whnf
 refine a0d (fun h=>?_) (fun h=>?_)
 ·have h:=of_decide_eq_true h
  have hkl:k<l.length:=by omega
  have hrk:=hr _ (a1a (d:=ba0) hkl)
  conv=>whnf
  refine⟨by omega,?_⟩
  conv=>whnf
  rw[a0k];obtain⟨x,hx⟩:∃ x,l.getD k ba0=x:=⟨_,rfl⟩;rw[hx]at hrk ⊢;refine a0a (b6u x hrk.2.1 hrk.2.2.1 (fun r hr2=>(hrk.1 r hr2).2.2.2)) rfl ?_;rintro _ (rfl|⟨hsm,rfl⟩)
  ·conv=>whnf
   all_goals first | rfl | exact⟨rfl,rfl⟩
  conv=>whnf
  refine a0B ttok ftok (toB l pk k M P cs ls XS x) (a0b [0,1,5,6,8,10,11,12,13] [some 0,some 1,some 2] rfl rfl) ⟨0,rfl,Nat.zero_le _,hM,fun r hr=>by simp at hr,rfl⟩ ?_
  rintro n st ⟨q,rfl,hq,hMq,hcl,rfl⟩;have e2:=e64 (k:=q) (by have:=hsm.1;omega)
  conv=>whnf
  refine⟨⟨by omega,by omega⟩,?_⟩
  first | refine Eq.mpr (congrArg (fun av=>putK _ _ av _) (fpB hx)) ?_ | refine Eq.mpr (congrArg (fun av=>ifD _ (a2l av _)) (fpB hx)) ?_
  conv=>whnf
  refine a0d (fun h2=>?_) (fun h2=>?_)
  ·have h2:=of_decide_eq_true h2
   have hql:q<x.runs.length:=by omega
   have hst:=b6m hql M;have hrq:=hrk.1 _ (a1a (d:=ru0) hql);have hsz:=hsm.2.2 _ (a1a (d:=ru0) hql);have hmem:x.runs.take (q+1)=x.runs.take q++[x.runs.getD q ru0]:=b2H hql;obtain⟨r,hre⟩:∃ r,x.runs.getD q ru0=r:=⟨_,rfl⟩;rw[hre]at hst hrq hsz hmem;have ew:IntKind.i64.wrap (((M+a1Q (x.runs.take q):Nat):Int)+((r.text.size:Nat):Int))=((M+a1Q (x.runs.take (q+1)):Nat):Int):=by rw[hst,a0s (by omega) (by omega)];omega
   conv=>whnf
   refine⟨⟨by omega,by omega⟩,?_⟩
   first | refine Eq.mpr (congrArg (fun av=>putK _ _ av _) (fpB hx)) ?_ | refine Eq.mpr (congrArg (fun av=>ifD _ (a2l av _)) (fpB hx)) ?_
   conv=>whnf
   refine⟨⟨by omega,by omega⟩,?_⟩
   first | refine Eq.mpr (congrArg (fun av=>putK _ _ av _) (fpR hre)) ?_ | refine Eq.mpr (congrArg (fun av=>ifD _ (a2l av _)) (fpR hre)) ?_
   conv=>whnf
   refine⟨by omega,?_⟩
   conv=>whnf
   refine⟨⟨by omega,by omega⟩,?_⟩
   first | refine Eq.mpr (congrArg (fun av=>putK _ _ av _) (fpB hx)) ?_ | refine Eq.mpr (congrArg (fun av=>ifD _ (a2l av _)) (fpB hx)) ?_
   conv=>whnf
   refine⟨⟨by omega,by omega⟩,?_⟩
   first | refine Eq.mpr (congrArg (fun av=>putK _ _ av _) (fpR hre)) ?_ | refine Eq.mpr (congrArg (fun av=>ifD _ (a2l av _)) (fpR hre)) ?_
   conv=>whnf
   refine a0d (fun h3=>?_) (fun h3=>?_)
   ·conv=>whnf
    all_goals first | rfl | exact⟨rfl,rfl⟩
   ·have h3:r.id.1≠1000001∧M+a1Q (x.runs.take (q+1))≤900:=by
     have h3:a0J (r.id.1==1000001) (.const (.bool true)) (.tmp 106) true (decide (IntKind.i64.wrap (((M+a1Q (x.runs.take q):Nat):Int)+((r.text.size:Nat):Int))>900))=false:=h3;rw[ew]at h3;simp[a0J,a0O]at h3;omega
    conv=>whnf
    rw[e2,ew];refine⟨x.runs.length-(q+1),_,by omega,a0b [0,1,5,6,8,10,11,12,13] [some 0,some 1,some 2] rfl rfl,q+1,rfl,by omega,h3.2,fun r2 hr2=>?_,rfl⟩
    rw[hmem]at hr2;rcases List.mem_append.1 hr2 with h4 | h4
    ·exact hcl r2 h4
    ·rw[List.mem_singleton]at h4
     rw[h4];exact h3.1
  ·have h2:=of_decide_eq_false h2
   obtain rfl:q=x.runs.length:=by omega
   rw[List.take_length]at hMq hcl;have hbs:baSm x:=b8S hrk.1 hrk.2.2.2 hsm;rw[show M+a1Q (List.take x.runs.length x.runs)=M+a1Q x.runs from by rw[List.take_length]]
   conv=>whnf
   refine⟨⟨by omega,by omega⟩,?_⟩
   first | refine Eq.mpr (congrArg (fun av=>putK _ _ av _) (fpB hx)) ?_ | refine Eq.mpr (congrArg (fun av=>ifD _ (a2l av _)) (fpB hx)) ?_
   conv=>whnf
   refine a0a (b5K x hbs) rfl ?_;rintro _ (⟨hmay,hlen,rfl⟩|⟨hno,rfl⟩);rotate_left
   ·conv=>whnf
    rw[e1];exact⟨l.length-(k+1),_,by omega,a0b [0,1,5,6,8,10,11,12] [some 0,some 1,some 2] rfl rfl,k+1,M+a1Q x.runs,P,cs,ls,XS,rfl,by omega,hMq,A.up (by omega) (by omega),hX,by omega,rfl⟩
   ·have hb:bOK x:=⟨hsm,hbs,hmay,hlen,hcl,by omega⟩
    have hsz:=bsz hb
    conv=>whnf
    refine a0c [some 0] rfl rfl rfl rfl (c0r A (by omega) (by omega) 1000000 100 x hb) ?_
    rintro r own2 ⟨Q,t,cs2,l2,hap,V2,rfl,hr2⟩;refine⟨_,_,rfl,rfl,?_⟩;rcases hr2 with⟨h0,rfl⟩|⟨h0,rfl,rfl⟩
    ·have A2:=A.step hb hap h0 V2
     conv=>whnf
     refine⟨fun _=>tkE x,fun j hj=>?_,?_⟩
     ·obtain rfl:j=0:=by omega
      rfl
     conv=>whnf
     refine⟨⟨by omega,by show(XS.length+1)*24≤140737488355328;omega⟩,?_⟩
     conv=>whnf
     refine app1 (enc:=tkE) (d:=ba0) (l:=XS) x (fun k hk=>rfl) rfl ?_
     conv=>whnf
     rw[e1];refine⟨l.length-(k+1),_,by omega,a0b [0,1,5,6,8,10,11,12] [some 0,some 1,some 4] rfl rfl,k+1,M+a1Q x.runs,Q,cs2,l2,XS++[x],rfl,by omega,hMq,A2,fun y hy=>?_,by rw[List.length_append,List.length_singleton];omega,rfl⟩
     rcases List.mem_append.1 hy with hy | hy
     ·exact hX y hy
     ·rw[List.mem_singleton]at hy
      rw[hy];exact hb
    ·conv=>whnf
     rw[e1];exact⟨l.length-(k+1),_,by omega,a0b [0,1,5,6,8,10,11,12] [some 0,some 1,some 2] rfl rfl,k+1,M+a1Q x.runs,Q,cs2,l2,XS,rfl,by omega,hMq,(A.up (by omega) (by omega)).V2 V2,hX,by omega,rfl⟩
 ·have h:=of_decide_eq_false h
  conv=>whnf
  refine a0B ttok ftok (toD pk P cs ls XS) (a0b [1,5,6,8,10,18] [some 0,some 1,some 2] rfl rfl) ⟨0,pd0,[],[],[],rfl,Nat.zero_le _,AX.zero.up (by decide) (Nat.le_refl _),fun y hy=>(List.not_mem_nil hy).elim,rfl⟩ ?_
  rintro n st ⟨q,Q,cs2,l2,YS,rfl,hq,B,hY,rfl⟩;have e2:=e64 (k:=q) (by omega)
  conv=>whnf
  refine a0d (fun h2=>?_) (fun h2=>?_)
  ·have h2:q<pk.length∧0<XS.length:=by
    simp[a0J,a0O]at h2;omega
   have hpq:=hpk _ (a1a (d:=0) h2.1)
   conv=>whnf
   refine⟨⟨by omega,by omega⟩,?_⟩
   conv=>whnf
   refine a0a (b9r (pk.getD q 0) XS.length hpq (by omega) (by omega)) rfl ?_
   rintro _ ⟨p,hpl,rfl⟩
   conv=>whnf
   refine⟨⟨by omega,by omega⟩,?_⟩
   conv=>whnf
   have hpm:=a1a (d:=ba0) hpl;have hb:=hX _ hpm;refine a0c [some 1] rfl rfl rfl rfl (c0r B (by decide) (by omega) 1000001 100 (XS.getD p ba0) hb) ?_
   rintro r own2 ⟨R,t,cs3,l3,hap,V3,rfl,hr2⟩;refine⟨_,_,rfl,rfl,?_⟩;have h0:t.code=0:=A.takes (by omega) B hY hb hpm hap
   rcases hr2 with⟨_,rfl⟩|⟨h9,_,_⟩;rotate_left
   ·exact absurd h0 h9
   have B2:=(A.up hM (Nat.le_refl _)).part (B.step hb hap h0 V3) (fun y hy=>by
    rcases List.mem_append.1 hy with hy | hy
    ·exact hY y hy
    ·rw[List.mem_singleton]at hy
     rw[hy]
     exact hpm)
   conv=>whnf
   rw[e2];exact⟨pk.length-(q+1),_,by omega,a0b [1,5,6,8,10,18] [some 0,some 1,some 2] rfl rfl,q+1,R,cs3,l3,YS++[XS.getD p ba0],rfl,by omega,B2,fun y hy=>by
    rcases List.mem_append.1 hy with hy | hy
    ·exact hY y hy
    ·rw[List.mem_singleton]at hy
     rw[hy]
     exact hpm,rfl⟩
  ·clear h2
   conv=>whnf
   rw[show IntKind.i64.wrap ((XS.length:Int)-1)=(XS.length:Int)-1 from by rw[a0s (by omega) (by omega)]]
   refine a0B ttok ftok (toE P cs ls XS) (a0b [5,6,8,10,21] [some 0,some 1,some 2] rfl rfl) ⟨XS.length,Q,cs2,l2,YS,40,rfl,Nat.le_refl _,by omega,B.up (Nat.le_refl _) (by omega),hY,fun i h1 h2=>by omega,rfl⟩ ?_
   rintro n st ⟨m,R,cs3,l3,ZS,j,hnm,hm,hj,B,hZ,hin,hst⟩;cases m with
   | zero =>
    subst hst;have hsame:=A.same B (fun y=>⟨hZ y,fun hy=>by
     obtain⟨i,hi,rfl⟩:=a6t (d:=ba0) hy
     exact hin i (Nat.zero_le _) hi⟩)
    obtain⟨s1,s2,s3⟩:=hsame;obtain⟨n1,n2,n3,n4,n5⟩:=A.num;obtain⟨m1,m2,m3,m4,m5⟩:=B.num
    conv=>whnf
    refine a0c [some 0] rfl rfl rfl rfl (a4K 1000000 100 cs ls P.v P.w P.g (P.n:Int) false (by omega)) ?_
    rintro r own2 ⟨rfl,rfl⟩;refine⟨_,_,rfl,rfl,?_⟩
    conv=>whnf
    refine a0c [some 1] rfl rfl rfl rfl (a4K 1000001 100 cs3 l3 R.v R.w R.g (R.n:Int) false (by omega)) ?_
    rintro r own2 ⟨rfl,rfl⟩;refine⟨_,_,rfl,rfl,?_⟩
    conv=>whnf
    refine⟨fun _ _=>rfl,?_⟩
    conv=>whnf
    refine⟨fun _ _=>rfl,?_⟩
    conv=>whnf
    refine a0a (b6E P.v R.v (by omega) (by omega)) rfl ?_
    rintro _ rfl;rw[decide_eq_true s1]
    conv=>whnf
    refine a0c [some 0] rfl rfl rfl rfl (a8z 1000000 100 cs ls P.v P.w P.g (P.n:Int) false (by omega) (by omega)) ?_
    rintro r own2 ⟨rfl,rfl⟩;refine⟨_,_,rfl,rfl,?_⟩
    conv=>whnf
    refine a0c [some 1] rfl rfl rfl rfl (a8z 1000001 100 cs3 l3 R.v R.w R.g (R.n:Int) false (by omega) (by omega)) ?_
    rintro r own2 ⟨rfl,rfl⟩;refine⟨_,_,rfl,rfl,?_⟩
    conv=>whnf
    rw[decide_eq_true (show txS cs.flatten=txS cs3.flatten by rw[s3])]
    conv=>whnf
    refine a0c [some 0] rfl rfl rfl rfl (a8N 1000000 100 cs ls P.v P.w P.g (P.n:Int) false) ?_;rintro r own2 ⟨rfl,rfl⟩;refine⟨_,_,rfl,rfl,?_⟩
    conv=>whnf
    refine a0c [some 1] rfl rfl rfl rfl (a8N 1000001 100 cs3 l3 R.v R.w R.g (R.n:Int) false) ?_;rintro r own2 ⟨rfl,rfl⟩;refine⟨_,_,rfl,rfl,?_⟩
    conv=>whnf
    rw[beq_iff_eq.2 (show(P.w.length:Int)=(R.w.length:Int) by rw[s2])]
    all_goals first | rfl | exact⟨rfl,rfl⟩
   | succ m =>
    rw[show((m+1:Nat):Int)-1=(m:Int)from by omega]at hst
    subst hst
    conv=>whnf
    rw[decide_eq_true (by omega:(m:Int)≥0)]
    conv=>whnf
    refine⟨⟨by omega,by omega⟩,?_⟩
    conv=>whnf
    have hpl:m<XS.length:=by omega
    have hpm:=a1a (d:=ba0) hpl;have hb:=hX _ hpm;refine a0c [some 1] rfl rfl rfl rfl (c0r B (by decide) (by omega) 1000001 100 (XS.getD m ba0) hb) ?_
    rintro r own2 ⟨R2,t,cs4,l4,hap,V3,rfl,hr2⟩;refine⟨_,_,rfl,rfl,?_⟩;have h0:t.code=0:=A.takes (by omega) B hZ hb hpm hap
    rcases hr2 with⟨_,rfl⟩|⟨h9,_,_⟩;rotate_left
    ·exact absurd h0 h9
    have hZ2:∀ y,y∈ZS++[XS.getD m ba0]→y∈XS:=fun y hy=>by
     rcases List.mem_append.1 hy with hy | hy
     ·exact hZ y hy
     ·rw[List.mem_singleton]at hy
      rw[hy];exact hpm
    have B2:=(A.up hM (Nat.le_refl _)).part (B.step hb hap h0 V3) hZ2
    conv=>whnf
    rw[show IntKind.i64.wrap ((m:Int)-1)=(m:Int)-1 from by rw[a0s (by omega) (by omega)]]
    refine⟨m,_,by omega,a0b [5,6,8,10,21] [some 0,some 1,some 2] rfl rfl,m,R2,cs4,l4,ZS++[XS.getD m ba0],j+1,rfl,by omega,by omega,B2,hZ2,fun i h1 h2=>?_,rfl⟩
    rcases Nat.lt_or_eq_of_le h1 with h3 | rfl
    ·exact List.mem_append_left _ (hin i h3 h2)
    ·exact List.mem_append_right _ (List.mem_singleton_self _)
end Go.Eng
namespace Go.Eng
open Go Go.RowKit Go.Proofs
def baR(cs:List IC)(x:Ba):Prop:=((∀ r,r∈x.runs→ruOk r)∧x.runs.length≤1048576∧x.dels.length≤1048576∧∀ s,s∈x.dels→spOk s)∧∃ f f2,cs=[.sl 7 x.runs.length f,.sl 3 x.dels.length f2]∧(∀ k,k<x.runs.length→ruF (x.runs.getD k ru0)=f k)∧∀ k,k<x.dels.length→spF (x.dels.getD k sp0)=f2 k
theorem c3E{d:Nat}{cs:List IC}(h:Rd tt 1048576 (d+5) 36 cs):∃ x:Ba,baR cs x:=by
 obtain⟨x1,y1,⟨n,f,hn,hf,e⟩,⟨x2,y2,⟨n2,f2,hn2,hf2,e2⟩,rfl,rfl⟩,rfl⟩:=h;cases e;cases e2;obtain⟨l,hl,hl2,hR⟩:=b0I (enc:=ruF) (R:=ruOk) ru0 (fun k hk=>c1C (hf k hk));obtain⟨m,hm,hm2,hS⟩:=b0I (enc:=spF) (R:=spOk) sp0 (fun k hk=>b9i (hf2 k hk));subst hl;subst hm;refine⟨⟨l,m⟩,⟨fun x hx=>?_,hn,hn2,fun x hx=>?_⟩,f,f2,rfl,fun k hk=>(hl2 k hk).symm,fun k hk=>(hm2 k hk).symm⟩
 ·obtain⟨j,hj,rfl⟩:=a4D (d:=ru0) hx
  exact hR j hj
 ·obtain⟨j,hj,rfl⟩:=a4D (d:=sp0) hx
  exact hS j hj
theorem c1D{d:Nat}{a:AV}(h:RdA tt 1048576 (d+7) 22 a):∃ l:List Ba,l.length≤1048576∧(∀ x,x∈l→(∀ r,r∈x.runs→ruOk r)∧x.runs.length≤1048576∧x.dels.length≤1048576∧∀ s,s∈x.dels→spOk s)∧∀(L:Nat→Value) (hp:Hp) v,DenA L hp a v→DenA L hp (basS l) v:=by
 obtain⟨c,⟨n,f,hn,hf,e⟩,rfl⟩:=h;cases e;obtain⟨l,hl,hR⟩:=b1O (R:=fun k x=>baR (f k) x) ba0 n (fun k hk=>c3E (hf k hk));subst hl;refine⟨l,hn,fun s hs=>?_,fun L hp v hd=>?_⟩
 ·obtain⟨j,hj,rfl⟩:=a6t (d:=ba0) hs
  exact(hR j hj).1
 ·have hd:Den L hp (.sl 2 l.length f) v:=hd
  refine(show Den L hp (.sl 2 l.length fun k=>baF (l.getD k ba0)) v from b0V hd (fun k hk=>rfl) (fun k hk=>rfl) (fun k hk j c' hc'=>?_));obtain⟨_,g,g2,hg,h1,h2⟩:=hR k hk;rw[hg]
  match j with
  | 0=>exact⟨_,rfl,fun u hu=>by cases hc';exact a5o hu h1⟩
  | 1=>exact⟨_,rfl,fun u hu=>by cases hc';exact a5o hu h2⟩
  | j+2=>simp at hc'
theorem b9k{B d:Nat}{cs:List IC}(h:Rd tt B (d+1) 3 cs):∃ n:Int,i64P n∧cs=[vi n]:=by
 obtain⟨v,w,rfl⟩:=h;exact⟨v,c0w w,rfl⟩
theorem b6N{B d:Nat}{a:AV}(h:RdA tt B (d+3) 23 a):∃ l:List Int,l.length≤B∧(∀ x,x∈l→i64P x)∧∀(L:Nat→Value) (hp:Hp) v,DenA L hp a v→DenA L hp (intS l) v:=by
 obtain⟨c,⟨n,f,hn,hf,e⟩,rfl⟩:=h;cases e;obtain⟨l,hl,hf2,hR⟩:=b0I (enc:=fun n=>[vi n]) (R:=i64P) (0:Int) (fun k hk=>b9k (hf k hk));refine⟨l,by omega,fun x hx=>?_,fun L hp v hd=>?_⟩
 ·obtain⟨j,hj,rfl⟩:=a6t (d:=(0:Int)) hx
  exact hR j (by omega)
 ·subst hl
  exact a5o hd (fun k hk=>(hf2 k hk).symm)
theorem topOrders_law:∀ avs,b8s tt 1048576 30 [22,23] avs→a0f Tryz.prog 3 avs [] (fun r own'=>own'=[]∧r=vcb true):=by
 rintro avs ⟨a0,r0,h0,⟨a1,r1,h1,rfl,rfl⟩,rfl⟩;obtain⟨l,hl,hr,hdl⟩:=c1D h0;obtain⟨pk,hp,hpk,hdp⟩:=b6N h1;refine b3m (a6S hdl (a6S hdp (b1i _))) ?_;exact b0j l hl hr pk hp hpk
end Go.Eng
