/- A part of the proof. -/
import Derived.Test.YteglopjljejjkabGreatDoorGBTyTBIdxE
import Derived.Lib.Walk
import Derived.Shelf.SlSortCmp.WholeK
import Derived.WalkKit
import Derived.LoopN
import Derived.Test.YteglopjljejjkabGreatDoorProg
import Derived.Ground.NamesProg
import Derived.Ground.SlsfProg
import Derived.Shelf.SlLaysF0
import Derived.Shelf.Lays8
import Derived.Shelf.Lays
set_option linter.unusedVariables false
set_option linter.unusedSimpArgs false
set_option maxRecDepth 100000
set_option maxHeartbeats 4000000
namespace Go.Eng
open Go Go.RowKit Go.Proofs
theorem b6I{cs:Ck}{i:Nat}(m:Ck)(hi:i<cs.length):sumL (repL cs i m)≤sumL cs+sumL m:=by
 have h1:=a2p cs i;have h2:sumL (cs.take i)+sumL (cs.drop i)=sumL cs:=by rw[←a1Y,List.take_append_drop]
 have h3:sumL (cs.drop i)=(cs.getD i []).length+sumL (cs.drop (i+1)):=by
  rw[List.drop_eq_getElem_cons hi,b3K,List.getD_eq_getElem?_getD,List.getElem?_eq_getElem hi];rfl
 unfold repL;rw[a1Y,a1Y];omega
theorem a6n(cs:Ck)(i:Nat)(hi:i<cs.length)(hl:cs.length≤100000)(hs:sumL cs≤100000)(m:Ck)(hm:1≤m.length)(hm2:m.length≤2)(hms:sumL m≤100000):a0f Tryz.prog 172 [ixA cs,vci .i64 (i:Int),chS m] []
  (fun r own'=>own'=[]∧r=ixA (repL cs i m)):=by
 have hrl:=a4s m hi;have hrs:=b6I m hi;refine a0e Tryz.func172 rfl ttok ftok rfl rfl rfl (Nat.le_of_ble_eq_true rfl) ?_
 conv=>whnf
 refine a0c [] rfl rfl rfl rfl (c0i cs (by omega)) ?_
 rintro r own2 ⟨rfl,rfl⟩;refine⟨.c (.row 2),[some (.cells 72 (ixF cs)),some (.cells 72 [.v (.slice none 0 0),vi 0,vi 0]),some (.row 137 2 cs.length (chR cs))],rfl,rfl,?_⟩
 conv=>whnf
 rw[e64 (by omega)]
 refine a0c [some 2] rfl rfl rfl rfl (c3D cs i hi (by omega) m hm hm2) ?_
 rintro r own2 ⟨rfl,rfl⟩;refine⟨.c (.row 4),[some (.cells 72 (ixF cs)),some (.cells 72 [.v (.slice none 0 0),vi 0,vi 0]),none,none,some (.row 137 2 (repL cs i m).length (chR (repL cs i m)))],rfl,rfl,?_⟩
 conv=>whnf
 refine⟨fun _ _=>rfl,?_⟩
 conv=>whnf
 refine a0a (b7M (repL cs i m) (by omega) (by omega)) rfl ?_
 rintro _ rfl
 conv=>whnf
 all_goals first | rfl | exact⟨rfl,rfl⟩
theorem a8y(l:List En)(hl:l.length≤1000000000):a0f Tryz.prog 171 [.c (.sl 4 l.length fun k=>enF (l.getD k en0))] []
  (fun r own'=>r=.c (.row 0)∧own'=[some (.row 95 4 l.length fun k=>enF (l.getD k en0))]):=by
 refine a0i Tryz.func171 rfl ttok ftok rfl rfl rfl (Nat.le_of_ble_eq_true rfl) rfl ?_
 conv=>whnf
 intro b hb;cases b with
 | true =>
  have h0:=hb rfl;obtain rfl:l=[]:=List.eq_nil_of_length_eq_zero h0
  conv=>whnf
  refine⟨_,a0M 2 95 4 (fun k=>enF (([]:List En).getD k en0)) rfl,?_⟩
  conv=>whnf
  exact⟨[some 0],rfl,rfl,rfl,rfl⟩
 | false =>
  clear hb
  conv=>whnf
  refine⟨⟨by omega,by show(0+l.length)*16≤_;omega⟩,?_⟩
  conv=>whnf
  refine⟨l.length,fun k=>enF (l.getD k en0),by omega,fun k hk=>by omega,fun k hk=>by rw[Nat.zero_add],?_⟩
  conv=>whnf
  refine⟨_,Weak.refl _,?_⟩
  conv=>whnf
  exact⟨[some 1],rfl,rfl,rfl,rfl⟩
theorem a9K(l:List En)(x:En)(i:Nat)(hi:i≤l.length)(q:Nat):(l.take i++x::l.drop i).getD q en0=if q<i then l.getD q en0 else if q=i then x else l.getD (q-1) en0:=by
 split
 ·rename_i h
  rw[List.getD_eq_getElem?_getD,List.getElem?_append_left (by rw[List.length_take];omega),←List.getD_eq_getElem?_getD,a0Q _ _ _ _ h]
 ·rename_i h
  rw[List.getD_eq_getElem?_getD,List.getElem?_append_right (by rw[List.length_take];omega),←List.getD_eq_getElem?_getD,List.length_take,Nat.min_eq_left hi]
  split
  ·rename_i e
   subst e;simp
  ·rename_i e
   obtain⟨r,hr⟩:∃ r,q-i=r+1:=⟨q-i-1,by omega⟩
   rw[hr,List.getD_cons_succ,a1j]
   congr 1
   omega
theorem a9J(l:List En)(x:En)(i:Nat)(hi:i≤l.length):(l.take i++x::l.drop i).length=l.length+1:=by
 rw[List.length_append,List.length_cons,List.length_take,List.length_drop];omega
theorem b2r(l:List En)(x:En)(i:Nat)(hi:i≤l.length)(hl:l.length≤1000000000)(g:Nat→List IC)(hg:g 0=enF x):a0f Tryz.prog 178 [.c (.row 0),vci .i64 i,.c (.row 1)] [some (.row 95 4 l.length fun k=>enF (l.getD k en0)),some (.row 95 4 1 g)]
  (fun r own'=>r=.c (.row 3)∧own'=[none,none,none,some (.row 95 4 (l.take i++x::l.drop i).length fun k=>enF ((l.take i++x::l.drop i).getD k en0))]):=by
 have hget:=a9K l x i hi;have hlen:=a9J l x i hi;have hg0:∀ q,q<1→g q=enF x:=fun q hq=>by
  obtain rfl:q=0:=by omega
  exact hg
 generalize hl':l.take i++x::l.drop i=l' at hget hlen;refine a1B 0 rfl (fun h0=>?_) (fun c hc hc2=>?_)
 ·obtain rfl:l=[]:=List.eq_nil_of_length_eq_zero h0
  obtain rfl:i=0:=by simpa using hi
  show a0f Tryz.prog 178 [.c (.v (.slice none 0 0)),vci .i64 (0:Nat),.c (.row 1)] [none,some (.row 95 4 1 g)] _;refine a0i Tryz.func178 rfl ttok ftok rfl rfl rfl (Nat.le_of_ble_eq_true rfl) rfl ?_
  conv=>whnf
  refine⟨⟨rfl,rfl,rfl⟩,?_⟩
  conv=>whnf
  refine⟨by omega,?_⟩
  conv=>whnf
  refine⟨⟨by omega,by show(0+1)*16≤_;omega⟩,?_⟩
  conv=>whnf
  refine⟨l'.length,fun k=>enF (l'.getD k en0),by rw[hlen];simp,fun k hk=>by omega,fun k hk=>?_,?_⟩
  ·obtain rfl:k=0:=by omega
   rw[hg];show enF (l'.getD (0+0) en0)=_;rw[hget];rfl
  conv=>whnf
  refine⟨_,Weak.refl _,?_⟩
  conv=>whnf
  exact⟨[none,none,none,some 2],rfl,rfl,rfl,rfl⟩
 show a0f Tryz.prog 178 [.c (.view 2 4 0 l.length c),vci .i64 i,.c (.row 1)] [none,some (.row 95 4 1 g),some (.arr 95 4 c l.length fun k=>enF (l.getD k en0))] _;refine a0i Tryz.func178 rfl ttok ftok rfl rfl rfl (Nat.le_of_ble_eq_true rfl) rfl ?_
 conv=>whnf
 refine⟨⟨by omega,by omega,by omega,by omega⟩,?_⟩
 conv=>whnf
 refine a0d (fun h=>?_) (fun h=>?_)
 ·have e:(i:Int)=l.length:=by simpa using h
  have e:i=l.length:=by omega
  subst e
  conv=>whnf
  refine⟨trivial,⟨by omega,by omega⟩,fun h1=>?_,fun h1=>?_⟩
  ·refine⟨l'.length,fun k=>enF (l'.getD k en0),fun q hq=>?_,?_⟩
   rotate_left
   ·conv=>whnf
    refine⟨_,a0y 6 2 (n:=l'.length) rfl rfl (by omega) (by omega) (by omega) (by omega),?_⟩
    conv=>whnf
    exact⟨[none,none,none,some 3],rfl,rfl,rfl,rfl⟩
   ·rcases Nat.lt_or_ge q l.length with h2 | h2
    ·exact .inr ⟨.inl (by omega),h2,by simp only[hget,if_pos h2]⟩
    ·obtain rfl:q=l.length:=by omega
     refine .inl ⟨by omega,by omega,?_⟩
     rw[show l.length-(0+l.length)=0 by omega,hg]
     simp only[hget,if_neg (Nat.lt_irrefl _),if_true]
  ·refine⟨⟨by omega,by show(l.length+1)*16≤_;omega⟩,fun k=>enF (l'.getD k en0),fun q hq=>by simp only[hget,if_pos hq,Nat.zero_add],fun q hq=>?_,fun cap' hcap=>?_⟩
   ·rw[hg0 q hq]
    obtain rfl:q=0:=by omega
    simp only[Nat.add_zero,hget,if_neg (Nat.lt_irrefl _),if_true]
   ·conv=>whnf
    refine⟨_,a0y 6 3 (n:=l'.length) rfl rfl rfl (by omega) (by omega) rfl,?_⟩
    conv=>whnf
    exact⟨[none,none,none,some 4],rfl,rfl,rfl,rfl⟩
 have hne:i<l.length:=by
  have:i≠l.length:=fun e=>by rw[e]at h;simp at h
  omega
 clear h
 conv=>whnf
 have w1:IntKind.i64.wrap ((l.length:Int)+(1:Nat))=(l.length:Int)+(1:Nat):=a0s (by omega) (by omega)
 have w2:IntKind.i64.wrap ((l.length:Int)+(1:Nat)-i)=((l.length+1-i:Nat):Int):=by rw[a0s (by omega) (by omega)];omega
 have w3:IntKind.i64.wrap ((i:Int)+(1:Nat))=((i+1:Nat):Int):=by rw[a0s (by omega) (by omega)];omega
 refine a0d (fun h=>?_) (fun h=>?_)
 ·have h:=of_decide_eq_true h
  rw[w1]at h
  conv=>whnf
  refine⟨⟨by omega,by omega,by omega,by omega⟩,?_⟩
  conv=>whnf
  rw[w1,w2];refine⟨by omega,⟨by omega,by omega,by omega,by show _*(((16:Nat)):Int)≤_;omega⟩,fun q=>if q<i then enF (l.getD q en0)else[vu 0,vu 0,vr 0,.v (.bool false)],fun q hq=>?_,fun q hq=>?_,fun cap' hcap=>?_⟩
  ·dsimp only
   rw[if_pos (by omega),show 0+Int.toNat 0+q=q from by omega]
  ·dsimp only
   rw[if_neg (by omega)];rfl
  conv=>whnf
  refine⟨⟨by omega,by omega,by omega,by omega⟩,?_⟩
  conv=>whnf
  refine⟨trivial,by omega,l.length+1,fun q=>if q<i then enF (l.getD q en0)else if q=i then enF x else[vu 0,vu 0,vr 0,.v (.bool false)],fun q hq=>?_,?_⟩
  ·rcases Nat.lt_trichotomy q i with h2 | h2 | h2
   ·exact .inr ⟨.inl (by omega),by omega,by dsimp only;rw[if_pos h2,if_pos h2]⟩
   ·subst h2
    exact .inl ⟨by omega,by omega,by dsimp only;rw[if_neg (Nat.lt_irrefl _),if_pos rfl,hg0 _ (by omega)]⟩
   ·exact .inr ⟨.inr (by omega),by omega,by dsimp only;rw[if_neg (by omega),if_neg (by omega),if_neg (by omega)]⟩
  conv=>whnf
  refine a0I 8 mixed (by kernel_rfl) ttok ftok ?_
  conv=>whnf
  rw[w3];refine⟨⟨by omega,by omega,by omega,by omega⟩,?_⟩
  conv=>whnf
  refine⟨⟨by omega,by omega,by omega,by omega⟩,?_⟩
  conv=>whnf
  refine⟨by omega,by omega,l'.length,fun k=>enF (l'.getD k en0),fun q hq=>?_,?_⟩
  ·rcases Nat.lt_trichotomy q i with h2 | h2 | h2
   ·exact .inr ⟨.inl (by omega),by omega,by simp only[hget,if_pos h2]⟩
   ·subst h2
    exact .inr ⟨.inl (by omega),by omega,by simp only[hget,if_neg (Nat.lt_irrefl _),if_true]⟩
   ·refine .inl ⟨by omega,by omega,?_⟩
    simp only[hget,if_neg (show ¬ q<i by omega),if_neg (show ¬ q=i by omega)]
    congr 2
    omega
  conv=>whnf
  refine⟨_,a0y 6 3 (n:=l'.length) rfl rfl (by omega) (by omega) (by omega) (by omega),?_⟩
  conv=>whnf
  exact⟨[none,none,none,some 4],rfl,rfl,rfl,rfl⟩
 ·have h:=of_decide_eq_false h
  rw[w1]at h
  conv=>whnf
  rw[w1];refine⟨⟨by omega,by omega,by omega,by omega⟩,?_⟩
  conv=>whnf
  rw[w3];refine⟨⟨by omega,by omega,by omega,by omega⟩,?_⟩
  conv=>whnf
  refine a2m (t:=91) (r:=4) (ti:=ti95) Tryz.func191 (by kernel_rfl) rfl (by kernel_rfl) (by kernel_rfl) tf95 Tryz.underlying91 (a2r (by decide) rfl rfl (by omega) (by omega) (by omega) (by decide)) ?_
  conv=>whnf
  refine a0I 8 mixed (by kernel_rfl) ttok ftok ?_
  conv=>whnf
  rw[w3];refine⟨⟨by omega,by omega,by omega,by omega⟩,?_⟩
  conv=>whnf
  refine⟨⟨by omega,by omega,by omega,by omega⟩,?_⟩
  conv=>whnf
  refine⟨by omega,by omega,l'.length,fun q=>if q<i+1 then enF (l.getD q en0)else enF (l.getD (q-1) en0),fun q hq=>?_,?_⟩
  ·rcases Nat.lt_or_ge q (i+1)with h2 | h2
   ·exact .inr ⟨.inl (by omega),by omega,by dsimp only;rw[if_pos h2]⟩
   ·refine .inl ⟨by omega,by omega,?_⟩
    dsimp only
    rw[if_neg (by omega)]
    congr 2
    omega
  conv=>whnf
  refine⟨⟨by omega,by omega,by omega,by omega⟩,?_⟩
  conv=>whnf
  refine⟨trivial,by omega,l'.length,fun k=>enF (l'.getD k en0),fun q hq=>?_,?_⟩
  ·rcases Nat.lt_trichotomy q i with h2 | h2 | h2
   ·exact .inr ⟨.inl (by omega),by omega,by dsimp only;rw[hget,if_pos h2,if_pos (by omega)]⟩
   ·subst h2
    exact .inl ⟨by omega,by omega,by dsimp only;rw[hget,if_neg (Nat.lt_irrefl _),if_pos rfl,hg0 _ (by omega)]⟩
   ·exact .inr ⟨.inr (by omega),by omega,by dsimp only;rw[hget,if_neg (by omega),if_neg (by omega),if_neg (by omega)]⟩
  conv=>whnf
  refine⟨_,a0y 6 2 (n:=l'.length) rfl rfl (by omega) (by omega) (by omega) (by omega),?_⟩
  conv=>whnf
  exact⟨[none,none,none,some 3],rfl,rfl,rfl,rfl⟩
end Go.Eng
namespace Go.Eng
open Go Go.RowKit Go.Proofs
abbrev ixZ:AV:=.agg [.v (.slice none 0 0),vi 0,vi 0]
def hdC(cs:Ck)(a:I2):Option Ck:=(plcC cs a).map fun p=>repL cs p.1 [a1w (cs.getD p.1 []) p.2]
def hdV(o:Option Ck):AV:=match o with
 | some cs=>.tup [ixA cs,.c (.v .nilIface)]
 | none=>.tup [ixZ,erC 1]
theorem c2k(cs:Ck)(hl:cs.length≤50000)(hs:sumL cs≤50000)(a:I2):a0f Tryz.prog 141 [ixA cs,idA a] [] (fun r own'=>own'=[]∧r=hdV (hdC cs a)):=by
 refine a0e Tryz.func141 rfl ttok ftok rfl rfl rfl (Nat.le_of_ble_eq_true rfl) ?_
 conv=>whnf
 refine a0a (b4o cs (by omega) (by omega) a) rfl ?_
 rintro _ rfl;unfold hdC;cases hp:plcC cs a with
 | none =>
  conv=>whnf
  all_goals first | rfl | exact⟨rfl,rfl⟩
 | some p =>
 obtain⟨i,k⟩:=p;obtain⟨hi,hk⟩:=b0A hp;have s3:=a2p cs (i+1);have s4:=a2K hi
 conv=>whnf
 refine⟨⟨by omega,by omega⟩,?_⟩
 conv=>whnf
 rw[a0k];refine a0c [] rfl rfl rfl rfl (a8y (cs.getD i []) (by omega)) ?_
 rintro r own2 ⟨rfl,rfl⟩;generalize hc:cs.getD i []=c at *;refine⟨.c (.row 3),[some (.cells 72 (ixF cs)),some (.cells 59 (idF a)),some (.cells 72 [.v (.slice none 0 0),vi 0,vi 0]),some (.row 95 4 c.length (enR c))],rfl,rfl,?_⟩
 conv=>whnf
 refine⟨⟨by omega,by omega⟩,?_⟩
 conv=>whnf
 have hlen:(a1w c k).length=c.length:=by unfold a1w;rw[List.length_set]
 have hget:∀ j,(a1w c k).getD j en0=if j=k then{ c.getD k en0 with gone:=true }else c.getD j en0:=fun j=>by
  unfold a1w;rw[List.getD_eq_getElem?_getD,List.getElem?_set]
  by_cases h:k=j
  ·rw[if_pos h,if_pos h.symm,if_pos hk];rfl
  ·rw[if_neg h,if_neg (Ne.symm h),←List.getD_eq_getElem?_getD]
 have hpk:=a9m (a1w c k) (by omega)
 refine⟨enR (a1w c k),fun j hj=>?_,?_⟩
 ·show enF ((a1w c k).getD j en0)=_
  rw[hget,a0k]
  by_cases h:j=k
  ·rw[if_pos h,if_pos h]
   rfl
  ·rw[if_neg h,if_neg h]
 conv=>whnf
 generalize hh:a1w c k=h at hlen hpk;rw[←hlen];refine a0m (.rd 0 (.rd 1 (.rd 2 (.ef 3 (.ef 4 (.ef 5 (.ef 6 (.rd 7 (.nil))))))))) [2,3,4] mixed (by kernel_rfl) ttok ftok ?_
 conv=>whnf
 refine⟨fun _ _=>rfl,?_⟩
 conv=>whnf
 refine a0a hpk rfl ?_;rintro _ rfl
 conv=>whnf
 refine⟨chR [h],fun q hq=>?_,?_⟩
 ·obtain rfl:q=0:=by omega
  rfl
 conv=>whnf
 refine⟨fun _ _=>rfl,?_⟩
 conv=>whnf
 refine a0a (a6n cs i hi (by omega) (by omega) [h] (by simp) (by simp) (by simp[sumL];omega)) rfl ?_
 rintro _ rfl
 conv=>whnf
 show _=hdV (some (repL cs i [a1w (cs.getD i []) k]));rw[hc,hh]
 all_goals first | rfl | exact⟨rfl,rfl⟩
end Go.Eng
namespace Go.Eng
open Go Go.RowKit Go.Proofs
def OfC:Prop:=∀ l:List En,l.length≤50000→a0f Tryz.prog 179 [enS l] [] (fun r own'=>own'=[]∧∃ cs:Ck,cs.flatten=l∧cs.length≤l.length∧r=ixA cs)
structure putS(cs:Ck)(n:Int)(e:En)(r:AV):Prop where
 out:if n<0∨(sumL cs:Int)<n then r=.tup [ixZ,erC 3]else if(fnE cs.flatten e.id).isSome=true then r=.tup [ixZ,erC 1]else
  ∃ cs':Ck,cs'.flatten=cs.flatten.take n.toNat++[e]++cs.flatten.drop n.toNat∧cs'.length≤cs.length+1∧r=.tup [ixA cs',.c (.v .nilIface)]
def puI(cs:Ck)(N:Nat)(e:En)(n:Nat)(st:St):Prop:=∃ i:Nat,n=cs.length-i∧i≤cs.length∧sumL (cs.take i)≤N∧(i=0∨sumL (cs.take i)<N) ∧
 st=⟨81,0,[(1,vci .i64 ((N-sumL (cs.take i):Nat):Int)),(3,.c (.own 0 0)),(5,.c (.own 1 0)),(6,.c (.own 2 0)),(34,chS cs),(35,vci .i64 (cs.length:Int)),(36,vci .i64 (i:Int))],[some (.cells 72 (ixF cs)),some (.cells 95 (enF e)),some (.cells 72 [.v (.slice none 0 0),vi 0,vi 0])]⟩
theorem b0y(hof:OfC)(cs:Ck)(hl:cs.length≤50000)(hs:sumL cs≤30000)(n:Int)(e:En):a0f Tryz.prog 156 [ixA cs,vci .i64 n,.agg (enF e)] [] (fun r own'=>own'=[]∧putS cs n e r):=by
 have hfl:cs.flatten.length=sumL cs:=rfl;refine a0e Tryz.func156 rfl ttok ftok rfl rfl rfl (Nat.le_of_ble_eq_true rfl) ?_
 conv=>whnf
 refine a0d (fun h=>?_) (fun h=>?_)
 ·have h:n<0∨(sumL cs:Int)<n:=by
   simp only[a0J,a0O,Bool.or_eq_true,decide_eq_true_eq]at h;omega
  conv=>whnf
  exact⟨by rw[if_pos h];rfl⟩
 have h:¬(n<0∨(sumL cs:Int)<n):=by
  simp only[a0J,a0O,Bool.or_eq_false_iff,decide_eq_false_iff_not]at h;omega
 obtain⟨N,rfl⟩:∃ N:Nat,n=(N:Int):=⟨n.toNat,(Int.toNat_of_nonneg (by omega)).symm⟩
 have hN:N≤sumL cs:=by omega
 conv=>whnf
 refine a0a (b5j cs (by omega) (by omega) e.id) rfl ?_
 rintro _ rfl;cases hf:fnE cs.flatten e.id with
 | some q =>
  conv=>whnf
  exact⟨by rw[if_neg h,hf,if_pos Option.isSome_some];rfl⟩
 | none =>
 have hput:∀ r,(∃ cs':Ck,cs'.flatten=cs.flatten.take N++[e]++cs.flatten.drop N∧cs'.length≤cs.length+1∧r=.tup [ixA cs',.c (.v .nilIface)])→putS cs N e r:=fun r hr=>⟨by rw[if_neg h,hf,if_neg (by simp),a0k];exact hr⟩
 conv=>whnf
 refine a0B ttok ftok (puI cs N e) (a0b [1,3,5,6,34,35,36] [some 0,some 1,some 2] rfl rfl) ⟨0,rfl,Nat.zero_le _,by simp[sumL],.inl rfl,rfl⟩ ?_
 rintro m st ⟨i,rfl,hi,hiN,hi0,rfl⟩;have e1:=e64 (k:=i) (by omega)
 conv=>whnf
 refine a0d (fun h=>?_) (fun h=>?_)
 ·have h:=of_decide_eq_true h
  have hil:i<cs.length:=by omega
  have s5:=a2K hil;have s6:=a2p cs (i+1)
  conv=>whnf
  refine⟨⟨by omega,by omega⟩,?_⟩
  conv=>whnf
  rw[a0k];refine a0d (fun g=>?_) (fun g=>?_)
  ·have g:=of_decide_eq_true g
   conv=>whnf
   rw[e1,show IntKind.i64.wrap (((N-sumL (cs.take i):Nat):Int)-((cs.getD i []).length:Int))=((N-sumL (cs.take (i+1)):Nat):Int)from by rw[a0s (by omega) (by omega)];omega]
   exact⟨cs.length-(i+1),_,by omega,a0b [1,3,5,6,34,35,36] [some 0,some 1,some 2] rfl rfl,i+1,rfl,by omega,by omega,.inr (by omega),rfl⟩
  ·have g:=of_decide_eq_false g
   obtain⟨A,hA⟩:∃ A,A=N-sumL (cs.take i):=⟨_,rfl⟩;have hAl:A≤(cs.getD i []).length:=by omega
   have hcl:(cs.getD i []).length≤30000:=by omega
   rw[←hA]
   conv=>whnf
   refine b2s ⟨81,0,[(3,.c (.own 0 0)),(6,.c (.own 1 0)),(10,vci .i64 (i:Int)),(12,.c (.row 2))],[some (.cells 72 (ixF cs)),some (.cells 72 [.v (.slice none 0 0),vi 0,vi 0]),some (.row 95 4 ((cs.getD i []).take A++e::(cs.getD i []).drop A).length (enR ((cs.getD i []).take A++e::(cs.getD i []).drop A)))]⟩ ?_ ?_
   ·generalize cs.getD i []=c at hAl hcl
    refine a0m (.rd 0 (.rd 1 (.rd 3 (.rd 4 (.alt (.ef 2 (.ef 5 (.ef 6 (.rd 7 (.nil))))) (.ef 5 (.ef 2 (.ef 6 (.rd 7 (.nil)))))))))) [4,5] mixed (by kernel_rfl) ttok ftok ?_
    conv=>whnf
    refine⟨?_,?_⟩
    ·conv=>whnf
     refine a0c [] rfl rfl rfl rfl (a8y c (by omega)) ?_
     rintro r own2 ⟨rfl,rfl⟩;refine⟨.c (.row 4),[none,none,none,none,some (.row 95 4 c.length (enR c))],rfl,rfl,?_⟩
     conv=>whnf
     refine⟨fun _=>enF e,fun q hq=>?_,?_⟩
     ·obtain rfl:q=0:=by omega
      rfl
     conv=>whnf
     refine a0c [some 4,some 5] rfl rfl rfl rfl (b2r c e A hAl (by omega) (fun _=>enF e) rfl) ?_
     rintro r own2 ⟨rfl,rfl⟩;refine⟨.c (.row 7),[none,none,none,none,none,none,none,some (.row 95 4 (c.take A++e::c.drop A).length (enR (c.take A++e::c.drop A)))],rfl,rfl,?_⟩
     conv=>whnf
     exact a0b [3,6,10,12] [some 0,some 2,some 7] rfl rfl
    ·conv=>whnf
     refine⟨fun _=>enF e,fun q hq=>?_,?_⟩
     ·obtain rfl:q=0:=by omega
      rfl
     conv=>whnf
     refine a0c [] rfl rfl rfl rfl (a8y c (by omega)) ?_
     rintro r own2 ⟨rfl,rfl⟩;refine⟨.c (.row 5),[none,none,none,none,some (.row 95 4 1 fun _=>enF e),some (.row 95 4 c.length (enR c))],rfl,rfl,?_⟩
     conv=>whnf
     refine a0c [some 5,some 4] rfl rfl rfl rfl (b2r c e A hAl (by omega) (fun _=>enF e) rfl) ?_
     rintro r own2 ⟨rfl,rfl⟩;refine⟨.c (.row 7),[none,none,none,none,none,none,none,some (.row 95 4 (c.take A++e::c.drop A).length (enR (c.take A++e::c.drop A)))],rfl,rfl,?_⟩
     conv=>whnf
     exact a0b [3,6,10,12] [some 0,some 2,some 7] rfl rfl
   generalize hc:cs.getD i []=c at *;have hL:(c.take A++e::c.drop A).length=c.length+1:=by rw[List.length_append,List.length_cons,List.length_take,List.length_drop];omega
   obtain⟨L,hLd⟩:∃ L,L=c.take A++e::c.drop A:=⟨_,rfl⟩;rw[←hLd]at hL ⊢
   conv=>whnf
   refine a0d (fun g2=>?_) (fun g2=>?_)
   ·have g2:=of_decide_eq_true g2
    conv=>whnf
    refine a0m (.rd 0 (.rd 1 (.rd 2 (.ef 3 (.ef 4 (.ef 5 (.ef 6 (.rd 7 (.nil))))))))) [1,2,3] mixed (by kernel_rfl) ttok ftok ?_
    conv=>whnf
    refine⟨fun _ _=>rfl,?_⟩
    conv=>whnf
    refine a0a (a9m L (by omega)) rfl ?_
    rintro _ rfl
    conv=>whnf
    refine⟨chR [L],fun q hq=>?_,?_⟩
    ·obtain rfl:q=0:=by omega
     rfl
    conv=>whnf
    refine⟨fun _ _=>rfl,?_⟩
    conv=>whnf
    refine a0a (a6n cs i hil (by omega) (by omega) [L] (by simp) (by simp) (by simp[sumL];omega)) rfl ?_
    rintro _ rfl
    conv=>whnf
    refine hput _ ⟨repL cs i [L],?_,by rw[a4s _ hil];show cs.length-1+1≤_;omega,rfl⟩
    have:=b2m hil (at_:=A) (by rw[hc];omega) [L] e (by rw[hc,hLd];simp)
    rw[show sumL (cs.take i)+A=N by omega]at this
    exact this
   have g2:=of_decide_eq_false g2
   conv=>whnf
   refine a6F [2] ?_
   conv=>whnf
   refine⟨fun _ _=>rfl,?_⟩
   conv=>whnf
   refine a0m (.rd 0 (.rd 1 (.rd 2 (.rd 3 (.rd 5 (.rd 6 (.ef 4 (.ef 7 (.ef 8 (.ef 9 (.ef 10 (.rd 11 (.nil))))))))))))) [1,3] mixed (by kernel_rfl) ttok ftok ?_
   conv=>whnf
   have ht:(L.take 16).length=16:=by rw[List.length_take];omega
   have hd:(L.drop 16).length=L.length-16:=List.length_drop;refine⟨⟨by omega,by omega,by omega,by omega⟩,?_⟩
   refine⟨(L.take 16).length,enR (L.take 16),by rw[ht];rfl,fun q hq=>?_,?_⟩
   ·show enF _=enF (L.getD (Int.toNat 0+q) en0)
    rw[a0Q _ _ _ _ (by omega),show Int.toNat 0+q=q from Nat.zero_add q]
   conv=>whnf
   refine⟨⟨by omega,by omega,by omega,by omega⟩,?_⟩
   refine⟨(L.drop 16).length,enR (L.drop 16),by rw[hd];rfl,fun q hq=>?_,?_⟩
   ·show enF _=enF (L.getD (Int.toNat 16+q) en0)
    rw[a1j];rfl
   conv=>whnf
   refine a0a (a9m (L.take 16) (by omega)) rfl ?_
   rintro _ rfl
   conv=>whnf
   refine a0a (a9m (L.drop 16) (by omega)) rfl ?_
   rintro _ rfl
   conv=>whnf
   refine⟨chR [L.take 16,L.drop 16],fun q hq=>?_,?_⟩
   ·match q,hq with
    | 0,_=>rfl
    | 1,_=>rfl
   conv=>whnf
   refine⟨fun j hj=>?_,?_⟩
   ·rfl
   conv=>whnf
   refine a0a (a6n cs i hil (by omega) (by omega) [L.take 16,L.drop 16] (by simp) (by simp) (by simp[sumL];omega)) rfl ?_
   rintro _ rfl
   conv=>whnf
   refine hput _ ⟨repL cs i [L.take 16,L.drop 16],?_,by rw[a4s _ hil];show cs.length-1+2≤_;omega,rfl⟩
   have:=b2m hil (at_:=A) (by rw[hc];omega) [L.take 16,L.drop 16] e (by rw[hc];simp only[List.flatten_cons,List.flatten_nil,List.append_nil];rw[List.take_append_drop,hLd];simp)
   rw[show sumL (cs.take i)+A=N by omega]at this
   exact this
 ·have h:=of_decide_eq_false h
  obtain rfl:i=cs.length:=by omega
  have hcs:cs=[]:=by
   rw[List.take_length]at hi0;rcases hi0 with h0 | h0
   ·exact List.eq_nil_of_length_eq_zero h0
   ·omega
  subst hcs;have hN0:N=0:=by simpa [sumL]using hN
  subst hN0
  conv=>whnf
  refine⟨enR [e],fun q hq=>?_,?_⟩
  ·obtain rfl:q=0:=by omega
   rfl
  conv=>whnf
  refine⟨fun _ _=>rfl,?_⟩
  conv=>whnf
  refine a0a (hof [e] (by simp)) rfl ?_
  rintro _ ⟨cs',h1,h2,rfl⟩
  conv=>whnf
  exact hput _ ⟨cs',h1,by simpa using h2,rfl⟩
end Go.Eng
namespace Go.Eng
open Go Go.RowKit Go.Proofs
def ckAt(l:List En)(i:Nat):List En:=(l.drop i).take 16
theorem a8C(l:List En)(i:Nat):(ckAt l i).length=min 16 (l.length-i):=by simp[ckAt]
theorem b7F(l:List En)(i k:Nat)(hk:k<(ckAt l i).length):enR (ckAt l i) k=enR l (i+k):=by
 have:k<16:=by rw[a8C]at hk;omega
 unfold enR ckAt;rw[List.getD_eq_getElem?_getD,List.getD_eq_getElem?_getD,List.getElem?_take,if_pos this,List.getElem?_drop]
theorem b8P(l:List En)(i:Nat):l.take i++ckAt l i=l.take (i+16):=by
 unfold ckAt;rw[List.take_add]
def chBx(l:List En):IC:=.fp [.sl 4 l.length (enR l)]
def n16:IC:=.fp [.v (.int .i64 16)]
theorem c0h(l:List En):a0f Tryz.prog 193 [enS l,vci .i64 16] [] (fun r own'=>own'=[]∧r=.c (.fn 209 [(false,[chBx l]),(false,[n16])])):=by
 refine b0Z [0,1] Tryz.func193 rfl ttok ftok rfl rfl rfl (Nat.le_of_ble_eq_true rfl) ?_
 conv=>whnf
 all_goals first | rfl | exact⟨rfl,rfl⟩
abbrev CkA(L:Nat→Value)(m:Nat→Option Obj):={ p:Value × List En // DenA L ⟨m,0⟩ (enS p.2) p.1∧p.2≠[]∧p.2.length≤16 }
def ckS(l:List En)(y:Value)(i:Nat):St:=⟨31,0,[(0,.c (.v y)),(1,.c (chBx l)),(2,.c n16),(4,vci .i64 (i:Int))],[]⟩
theorem a9S(l:List En)(hl:l.length≤50000){L:Nat→Value}{m:Nat→Option Obj}{v1 v2:Value}(h1:Den L ⟨m,0⟩ (chBx l) v1)(h2:Den L ⟨m,0⟩ n16 v2)(w1:World)(hf:FzIn m w1)(hgl:a0h.ok Tryz.prog m)(n:Nat) :
  SeqStopsK Fence.wide n Tryz.prog 209 #[v1,v2] (fun x:CkA L m=>#[x.1.1]) (fun W W'=>FzIn m W→FzIn m W') (fun xs=>(xs.map (fun x=>x.1.2)).flatten=l) (fun _=>True) l.length w1:=by
 intro ln J Jx W hW hJ hJx hY h0;have hfW:FzIn m W:=hf.below hW;have hJb:∀ pre A B,J pre A→Below A.heap.size A B→J pre B:=fun pre A B hs hb=>hJ pre A B none hs (b1c hb) (fun r e=>by cases e)
 obtain⟨y,hy⟩:∃ y,y=Value.func (.yield ln) #[] #[]:=⟨_,rfl⟩;have ha:a0r Tryz.prog L ⟨m,0⟩ ⟨31,0,[(0,.c (.v y)),(1,.c (chBx l)),(2,.c n16)],[]⟩ { tmps:=#[y,v1,v2]++Array.replicate (31-3) undef,defers:=[] } :=
  a7G (args:=[.c (.v y),.c (chBx l),.c n16]) (vs:=[y,v1,v2]) (n:=31) (Nat.le_of_ble_eq_true rfl) ⟨rfl,fun j a v ha hv=>by
   match j with
   | 0=>cases ha;cases hv;exact Den.v _ (by rw[hy];rfl)
   | 1=>cases ha;cases hv;exact h1
   | 2=>cases ha;cases hv;exact h2
   | j+3=>cases ha⟩ 0 [] rfl
 rw[←hy];refine callsIn_of_wp Tryz.func209 rfl trivial ?_ rfl;refine wpIn_seq ?_;refine wpIn_mono (wpIn_wide.2 (b4j (K:=fun st=>st.n=31∧a6p st.env [0,1,2,4]=some (ckS l y 0).env) ttok hfW rfl ?_ ha)) ?_
 ·conv=>whnf
  all_goals first | rfl | exact⟨rfl,rfl⟩
 rintro e a' w' ⟨rfl,rfl,st,ha',ho,hn,hp⟩;have ha0:=a1d (k:=0) (own:=[]) ha' hn hp;refine a2u ?_;refine wpIn_block ?_;refine wpIn_loop (fun a w=>∃(pre:List (CkA L m)) (i:Nat),a0r Tryz.prog L ⟨m,0⟩ (ckS l y i) a∧FzIn m w∧J pre w∧(pre.map (fun x=>x.1.2)).flatten=l.take i∧i=16*pre.length) (fun a _=>l.length+16-(RowKit.intOf (a.eval (.tmp 4))).toNat) ⟨[],0,ha0,hfW,h0,rfl,rfl⟩ ?_;clear ha0 ho hp hn ha' ha h0 st a' hfW;rintro a w ⟨pre,i,ha,hfw,hJp,hpre,hi⟩;have e4:a.eval (.tmp 4)=.int .i64 (i:Int):=ev_v (st:=ckS l y i) ha rfl;refine wpIn_seq (wpIn_seq ?_);refine wpIn_mono (wpIn_wide.2 (b4j (K:=fun st=>st.n=31∧a6p st.env [9,0,1,2,4]=some ((9,.c (.v (.bool (decide (i<l.length)))))::(ckS l y i).env)) ttok hfw rfl ?_ ha)) ?_
 ·conv=>whnf
  rw[show decide ((i:Int)<(l.length:Int))=decide (i<l.length)from by simp]
  exact⟨rfl,rfl⟩
 rintro e a' w' ⟨rfl,rfl,st,ha',ho,hn,hp⟩;have ha1:=a1d (k:=0) (own:=[]) ha' hn hp;refine a2u ?_
 by_cases hil:i<l.length
 ·rw[decide_eq_true hil]at ha1
  refine wpIn_cond_true (ev_v ha1 rfl) (wpIn_skip (a2u ?_));refine wpIn_seq ?_;refine wpIn_block ?_;refine wpIn_seq ?_;refine wpIn_mono (wpIn_wide.2 (c1F (K:=fun st=>st.n=31∧a6p st.env [5,0,1,2,4]=some ((5,vci .i64 ((min 16 (l.length-i):Nat):Int))::(ckS l y i).env)) hgl mixed (by kernel_rfl) ttok ftok hfw rfl ?_ ha1)) ?_
  ·have hmin:minI 16 ((l.length-i:Nat):Int)=((min 16 (l.length-i):Nat):Int):=by unfold minI;split <;> omega
   conv=>whnf
   refine⟨by omega,l.length-i,fun k=>enR l (i+k),by omega,fun k _=>by rw[a0k],?_⟩
   conv=>whnf
   rw[hmin];exact⟨rfl,rfl⟩
  rintro e a2 w2 ⟨rfl,hb2,st2,ha2,ho2,hn2,hp2⟩;have ha3:=a1d (k:=0) (own:=[]) ha2 hn2 hp2;have hf2:=hfw.below hb2;have hJ2:=hJb _ _ _ hJp hb2;refine a2u (wpIn_seq ?_);refine b2U 10 (R:=fun a' w'=>w'=w2∧∃ st',a0r Tryz.prog L ⟨m,0⟩ st' a'∧st'.own=[]∧(st'.n=31∧a6p st'.env [19,28,0,1,2,4]=some ((19,.c (.v y))::(28,enS (ckAt l i))::(ckS l y i).env))) rfl (a4u ttok hf2 _ _ [] _ rfl ?_ ha3 a5l) ?_
  ·have hlen:=a8C l i
   have hw:IntKind.i64.wrap ((i:Int)+((min 16 (l.length-i):Nat):Int))=((i+min 16 (l.length-i):Nat):Int):=by rw[a0s (by omega) (by omega)];omega
   conv=>whnf
   rw[hw];refine⟨by omega,(ckAt l i).length,enR (ckAt l i),by omega,fun k hk=>by rw[a0k];exact b7F l i k hk,?_⟩
   conv=>whnf
   all_goals first | rfl | exact⟨rfl,rfl⟩
  rintro a4 w4 ⟨rfl,st4,ha4,ho4,hn4,hp4⟩;have ha5:=a1d (k:=0) (own:=[]) ha4 hn4 hp4;have hx:DenA L ⟨m,0⟩ (enS (ckAt l i)) (a4.eval (.tmp 28)):=ha5.env 28 _ rfl;have hlen:=a8C l i;have hne:ckAt l i≠[]:=fun e=>by rw[e]at hlen;simp at hlen;omega
  have hle:(ckAt l i).length≤16:=by omega
  have hyx:=hY pre ⟨(a4.eval (.tmp 28),ckAt l i),hx,hne,hle⟩ w4 hJ2 (by omega)
  show wpListIn _ _ _ _ _ (_::_::[]) _ _;refine wpListIn_plain rfl (fun K hK=>b6d rfl ?_ hyx ?_)
  ·exact(ev_v ha5 rfl).trans hy
  rintro e W' (⟨rfl,hJ',hf'⟩|⟨rfl,hJx'⟩)
  ·refine⟨_,rfl,hK _ _ ?_⟩
   have ha6:=a1u (d:=29) ha5 (Nat.le_of_ble_eq_true rfl) (av:=vcb true) (Den.v _ rfl);refine a8d (l:=[_]) (l2:=[]) (R:=fun a' w'=>w'=W'∧∃ st',a0r Tryz.prog L ⟨m,0⟩ st' a'∧st'.own=[]∧(st'.n=31∧a6p st'.env [30,0,1,2,4]=some ((30,vcb false)::(ckS l y i).env))) rfl (a4u ttok (hf' hf2) [_] _ [] _ rfl ?_ ha6 a5l) ?_
   ·conv=>whnf
    all_goals first | rfl | exact⟨rfl,rfl⟩
   rintro a7 w7 ⟨rfl,st7,ha7,ho7,hn7,hp7⟩;have ha8:=a1d (k:=0) (own:=[]) ha7 hn7 hp7;refine wpListIn_nil (a2u (wpIn_cond_false (ev_v ha8 rfl) (wpIn_skip (b9N (a2u ?_)))));refine wpIn_mono (wpIn_wide.2 (b4j (K:=fun st=>st.n=31∧a6p st.env [0,1,2,4]=some (ckS l y (i+16)).env) ttok (hf' hf2) rfl ?_ ha8)) ?_
   ·have hw:IntKind.i64.wrap ((i:Int)+16)=((i+16:Nat):Int):=by rw[a0s (by omega) (by omega)];omega
    conv=>whnf
    rw[hw];exact⟨rfl,rfl⟩
   rintro e a9 w9 ⟨rfl,rfl,st9,ha9,ho9,hn9,hp9⟩;have ha10:=a1d (k:=0) (own:=[]) ha9 hn9 hp9;have e10:a9.eval (.tmp 4)=.int .i64 ((i+16:Nat):Int):=ev_v (st:=ckS l y (i+16)) ha10 rfl;refine a2u ⟨⟨_,i+16,ha10,hf' hf2,hJ',?_,?_⟩,?_⟩
   ·rw[List.map_append,List.flatten_append,hpre]
    simp only[List.map_cons,List.map_nil,List.flatten_cons,List.flatten_nil,List.append_nil];exact b8P l i
   ·rw[List.length_append];simp;omega
   ·rw[e10,e4]
    show l.length+16-((i+16:Nat):Int).toNat<l.length+16-(i:Int).toNat;omega
  ·refine⟨_,rfl,hK _ _ ?_⟩
   have ha50:a0r Tryz.prog L ⟨fun _=>none,0⟩ ⟨31,0,[],[]⟩ a4:=⟨ha5.size,fun t av ht=>by simp at ht,ha5.defers⟩
   have ha6:=a1u (d:=29) ha50 (Nat.le_of_ble_eq_true rfl) (av:=vcb false) (Den.v _ rfl);have hf9:FzIn (fun _=>none) W':=fun k o hk=>by cases hk
   refine a8d (l:=[_]) (l2:=[]) (R:=fun a' w'=>w'=W'∧∃ st',a0r Tryz.prog L ⟨fun _=>none,0⟩ st' a'∧st'.own=[]∧(st'.n=31∧a6p st'.env [30]=some [(30,vcb true)])) rfl (a4u ttok hf9 [_] _ [] _ rfl ?_ ha6 a5l) ?_
   ·conv=>whnf
    all_goals first | rfl | exact⟨rfl,rfl⟩
   rintro a7 w7 ⟨rfl,st7,ha7,ho7,hn7,hp7⟩;have ha8:=a1d (k:=0) (own:=[]) ha7 hn7 hp7;refine wpListIn_nil (a2u (wpIn_cond_true (ev_v ha8 rfl) (wpIn_ret (c2g (b7Q (b7Q (c2g ?_)))))));refine bodyPost_ret (results_none rfl _ _ _) ha8.defers ?_;exact⟨⟨_,rfl⟩,.inr ⟨_,trivial,hJx'⟩⟩
 ·rw[decide_eq_false hil]at ha1
  refine wpIn_cond_false (ev_v ha1 rfl) (wpIn_exit (b7R (b7R (c3U ?_))));refine bodyPost_end (results_none rfl _ _ _) ha1.defers ?_;exact⟨⟨_,rfl⟩,.inl ⟨pre,hpre.trans (List.take_of_length_le (by omega)),hJp⟩⟩
end Go.Eng
namespace Go.Eng
open Go Go.RowKit Go.Proofs
def a7V(cs:Ck):List (Option Ob):=[some (.cells 72 [.v (.slice none 0 0),vi 0,vi 0]),some (.cells 70 [.row 2]),some (.row 137 2 cs.length (chR cs))]
theorem b4s:OfC:=by
 intro l hl;refine⟨fun mine L F h w vs hgl hm hden=>?_⟩;refine(callsIn_wide (n:=5)).1 ?_;have hm0:Mem (a0g (a0l F []) w) L F h [] w:=hm.mine_mono (fun b hb=>.inl hb);have hs:Sat (a0l F []) w (⟨h,L,hgl⟩:Base Tryz.prog) ⟨16,0,env0 [enS l],[]⟩ { tmps:=vs.toArray++Array.replicate (16-vs.toArray.size) undef,defers:=[] } w :=
  ⟨⟨L,F,h,hm0,a7G (Nat.le_of_ble_eq_true rfl) hden 0 [] rfl,⟨Sub.refl h,fun _ _=>rfl,hm.hn.symm⟩,fun k hk=>.inl hk⟩,Keep.refl _ w⟩
 refine callsIn_of_wp_marks Tryz.func179 rfl trivial ?_ rfl;refine wpIn_seq (wpIn_mono (wpIn_wide.2 (a4i (Q:=fun e st=>e=.normal∧Weak st ⟨16,0,[(0,enS l),(2,.c (.own 0 0))],[some (.cells 72 [.v (.slice none 0 0),vi 0,vi 0])]⟩) ttok ftok _ _ _ _ ?_ hs)) ?_)
 ·conv=>whnf
  exact⟨rfl,a0b [0,2] [some 0] rfl rfl⟩
 rintro e a1 w1 ⟨e1,st1,rfl,hs1,rfl,hw1⟩
 replace hs1:=hw1.out _ _ _ _ _ hs1
 refine a2u (wpIn_seq (wpIn_mono (wpIn_wide.2 (a4i (Q:=fun e st=>e=.normal∧Weak st ⟨16,0,[(0,enS l),(2,.c (.own 0 0)),(3,.c (.own 1 0))],[some (.cells 72 [.v (.slice none 0 0),vi 0,vi 0]),some (.cells 70 [.v (.slice none 0 0)])]⟩) ttok ftok _ _ _ _ ?_ hs1)) ?_))
 ·conv=>whnf
  exact⟨rfl,a0b [0,2,3] [some 0,some 1] rfl rfl⟩
 rintro e a2 w2 ⟨e2,st2,rfl,hs2,rfl,hw2⟩
 replace hs2:=hw2.out _ _ _ _ _ hs2
 refine a2u (wpIn_seq (wpIn_seq (wpIn_mono (wpIn_wide.2 (a4i (Q:=fun e st=>e=.normal∧Weak st ⟨16,0,[(2,.c (.own 0 0)),(3,.c (.own 1 0)),(7,.c (.fn 209 [(false,[chBx l]),(false,[n16])]))],[some (.cells 72 [.v (.slice none 0 0),vi 0,vi 0]),some (.cells 70 [.v (.slice none 0 0)])]⟩) ttok ftok _ _ _ _ ?_ hs2)) ?_)))
 ·conv=>whnf
  refine a0c [] rfl rfl rfl rfl (a8y l (by omega)) ?_
  rintro r own2 ⟨rfl,rfl⟩;refine⟨.c (.row 2),[some (.cells 72 [.v (.slice none 0 0),vi 0,vi 0]),some (.cells 70 [.v (.slice none 0 0)]),some (.row 95 4 l.length (enR l))],rfl,rfl,?_⟩
  conv=>whnf
  refine⟨fun _ _=>rfl,?_⟩
  conv=>whnf
  refine a0a (c0h l) rfl ?_;rintro _ rfl
  conv=>whnf
  exact⟨rfl,a0b [2,3,7] [some 0,some 1] rfl rfl⟩
 rintro e a3 w3 ⟨e3,st3,rfl,hs3,rfl,hw3⟩
 replace hs3:=hw3.out _ _ _ _ _ hs3
 obtain⟨b,f,hfz,hbn,hab,hsr,hback⟩:=b2Q hs3;clear hs3 hw3 hs2 hw2 hs1 hw1 hs hm0;obtain⟨v1,v2,hg,hv1,hv2⟩:∃ v1 v2,a3.eval (.tmp 7)=.func (.func 209) #[] #[v1,v2]∧Den b.L ⟨b.h.m,0⟩ (chBx l) v1∧Den b.L ⟨b.h.m,0⟩ n16 v2:=by
  have hd:Den b.L b.h (.fn 209 [(false,[chBx l]),(false,[n16])]) (a3.eval (.tmp 7)):=hab.env 7 _ rfl;generalize a3.eval (.tmp 7)=z at hd;cases hd with
  | fn _ _ vs g hl hv h1 hr =>
   match vs,hl with
   | [v1,v2],_ =>
    refine⟨v1,v2,rfl,?_,?_⟩
    ·have:=hv 0 false [chBx l] v1 rfl rfl
     rw[this];exact Den.clo (hr 0 false [chBx l] rfl 0 _ rfl) 0 rfl
    ·have:=hv 1 false [n16] v2 rfl rfl
     rw[this];exact Den.clo (hr 1 false [n16] rfl 0 _ rfl) 0 rfl
 have hbB:∀ x,b.h.m x≠none→x<w3.heap.size:=fun x hx=>by
  cases e:b.h.m x with
  | none=>exact absurd e hx
  | some o=>exact(Array.getElem?_eq_some_iff.1 (hfz x o e)).1
 have hsr2:Sat f w3 b ⟨16,2,[],a7V []⟩ a3 w3:=((a7Y 1 0 137 2 (chR []) rfl rfl).trans (a0b [] [some 0,some 1,some 2] rfl rfl)).out _ _ _ _ _ hsr;have hR0:RInv f w3 b 2 w3.heap.size (a7V []) w3:=RInv.of_sat hsr2 rfl hbB;refine a2u (wpIn_block ?_);refine wpIn_rangeFunc_ownF rfl (by decide) (gf:=209) (lb:=#[v1,v2]) hg trivial (enters_of Tryz.func209 (by kernel_rfl) rfl)
  (a9S l hl hv1 hv2 w3 hfz b.gl 4) (fun h1 h2 h=>h2 (h1 h)) ?_ (Below.refl _ _) (fun _=>rfl)
  (fun pre W=>RInv f w3 b 2 w3.heap.size (a7V (pre.map (fun x=>x.1.2))) W) (fun _ _ _=>False) ?_ (fun _ _ _ _ _ hs _ _=>hs) hR0
  (fun x=>(a3.put (some 8) x.1.1).put (some 4) x.1.1) ?_ ?_ ?_ ?_
 ·intro W x o o' hx _ _ _ h k o2 hk
  rw[World.putObj_heap_other (by have:=hbB k (by rw[hk];simp);omega)]
  exact h k o2 hk
 ·exact fun s A B row hs hg hr=>hs.grown (Nat.le_refl _) hg hr
 ·intro lr x W K hK
  refine b5Q ?_;have e:(a3.put (some 8) x.1.1).eval (.tmp 8)=x.1.1:=by
   have:=hab.size;simp[Act.eval,Act.put,this]
  have hd0:a3.defers=[]:=hab.defers;have ea:(⟨(#[8].zip #[x.1.1]).foldl (fun t (p,v)=>t.setIfInBounds p v) a3.tmps,[]⟩:Act)=a3.put (some 8) x.1.1:=by
   obtain⟨t,d⟩:=a3;cases hd0;simp[Act.put]
  show K ((⟨(#[8].zip #[x.1.1]).foldl (fun t (p,v)=>t.setIfInBounds p v) a3.tmps,[]⟩:Act).put (some 4) ((⟨(#[8].zip #[x.1.1]).foldl (fun t (p,v)=>t.setIfInBounds p v) a3.tmps,[]⟩:Act).eval (.tmp 8))) W;rw[ea,e];exact hK
 ·rintro lr pre x W hI hlen
  have hd0:a3.defers=[]:=hab.defers;have hlx:(x.1.2:List En).length≤16:=x.2.2.2;have hxl:pre.length<l.length:=hlen;have hag:∀(L:Nat→Value) (h:Hp),Sub b.h h→(∀ i,i<b.h.n→L i=b.L i)→a0r Tryz.prog L h ⟨16,2,[(4,enS x.1.2),(2,.c (.own 0 0)),(3,.c (.own 1 0))],a7V (pre.map (fun x=>x.1.2))⟩ ((a3.put (some 8) x.1.1).put (some 4) x.1.1):=fun L h h1 h2=>by
   have g1:=hab.mono2 (k:=2) (own:=a7V (pre.map (fun x=>x.1.2))) h1 h2;have hx:DenA L h (enS x.1.2) x.1.1:=DenA.mono ⟨h1.m,Nat.zero_le _⟩ (fun i hi=>by cases hi) (h:=⟨b.h.m,0⟩) (L:=b.L) x.2.1
   have g2:=a1u (d:=8) g1 (Nat.le_of_ble_eq_true rfl) hx;have g3:=a1u (d:=4) g2 (Nat.le_of_ble_eq_true rfl) hx;exact a1d (ts:=[4,2,3]) g3 rfl rfl
  obtain⟨b2,f2,hs2,hb2⟩:=hI.open (Nat.le_refl _) hag;refine wpIn_block ?_;refine wpIn_mono (b2T 4 [0,1] [2,3] [2,3,4] (ro:=some lr) (K:=fun st=>Weak ⟨st.n,2,st.env,st.own⟩ ⟨16,2,[],a7V ((pre++[x]).map (fun x=>x.1.2))⟩) mixed (by kernel_rfl) (by kernel_rfl) ttok ftok ?_ hs2) ?_
  ·conv=>whnf
   refine a0a (a9m x.1.2 (by omega)) rfl ?_
   rintro _ rfl
   conv=>whnf
   refine⟨chR [x.1.2],fun q hq=>?_,?_⟩
   ·obtain rfl:q=0:=by omega
    rfl
   conv=>whnf
   refine⟨rfl,?_⟩
   conv=>whnf
   have hml:(pre.map (fun x=>x.1.2)).length=pre.length:=List.length_map ..;refine⟨⟨by rw[hml];omega,by rw[hml];show(pre.length+1)*32≤_;omega⟩,?_⟩
   conv=>whnf
   refine b2C (enc:=chF) (d:=[]) (l:=pre.map (fun x=>x.1.2)) (b:=[x.1.2]) (fun k hk=>rfl) (fun k hk=>rfl) ?_
   conv=>whnf
   rw[List.map_append];exact a0b [] [some 0,some 1,some 4] rfl rfl
  ·rintro e a' W' ⟨rfl,st',hs',hw⟩
   obtain⟨hko,hsb,_⟩:=hb2 _ a' W' hs'
   replace hsb:=hw.out _ _ _ _ _ hsb
   refine b9N ⟨hko,fun _=>?_,RInv.of_sat hsb rfl hbB⟩;obtain⟨⟨L',F',h',hm',_,hsub',_⟩,_⟩:=hsb;exact fun k o hk=>hm'.hsub k o (hsub'.sub.m k o hk)
 ·rintro D xs W hD hS hI hK
  obtain⟨cs,hcs⟩:∃ cs:Ck,xs.map (fun x=>x.1.2)=cs:=⟨_,rfl⟩;have hS:(xs.map (fun x=>x.1.2)).flatten=l:=hS;have hI:RInv f w3 b 2 w3.heap.size (a7V (xs.map (fun x=>x.1.2))) W:=hI;have hne:∀ c,c∈cs→1≤c.length:=fun c hc=>by
   rw[←hcs]at hc;obtain⟨x,_,rfl⟩:=List.mem_map.1 hc;exact List.length_pos_iff.2 x.2.2.1
  rw[hcs]at hS hI;have hcl:cs.length≤l.length:=by
   rw[←hS];clear hS hI hcs
   induction cs with
   | nil=>exact Nat.zero_le _
   | cons c r ih =>
    have h1:=hne c (List.mem_cons_self ..);have h2:=ih (fun c hc=>hne c (List.mem_cons_of_mem _ hc));rw[List.flatten_cons,List.length_append,List.length_cons];omega
  have hsl:sumL cs=l.length:=by show cs.flatten.length=_;rw[hS]
  have hag:∀(L:Nat→Value) (h:Hp),Sub b.h h→(∀ i,i<b.h.n→L i=b.L i)→a0r Tryz.prog L h ⟨16,2,[(2,.c (.own 0 0)),(3,.c (.own 1 0))],a7V cs⟩ a3:=fun L h h1 h2=>
   a1d (ts:=[2,3]) (hab.mono2 (k:=2) (own:=a7V cs) h1 h2) rfl rfl
  obtain⟨b2,f2,hs2,hb2⟩:=hI.open (Nat.le_refl _) hag;refine b9N (a2u (wpIn_seq (wpIn_region_list ?_)));have hd0:a3.defers=[]:=hab.defers;rw[b5Z hd0];refine b7b (ro:=none) (Q:=fun e a' w'=>e=.normal∧∃ st,Sat f2 W b2 st a' w'∧Weak ⟨st.n,0,st.env,st.own⟩ ⟨16,0,[(2,.c (.own 0 0))],[some (.cells 72 (ixF cs))]⟩) (fun e a w h=>h.1) ?_ (by kernel_rfl)
   (a6q (K:=fun st=>Weak ⟨st.n,0,st.env,st.own⟩ ⟨16,0,[(2,.c (.own 0 0))],[some (.cells 72 (ixF cs))]⟩) ttok ftok (fun st a w h1 h2=>⟨rfl,st,h1,h2⟩) _ _ _ _ ?_ hs2)
  ·rintro a' W' ⟨_,st',hs',hw⟩
   obtain⟨hko,_,hput⟩:=hb2 _ a' W' hs';have hK':=hko.same D _ hK rfl;have hfin:=hw.out _ _ _ _ _ (hback ⟨st'.n,2,st'.env,st'.own⟩ _ _ (hput D _ (.deferred none) hD hK rfl));have hda:a'.defers=[]:=by
    obtain⟨⟨_,_,_,_,ha,_⟩,_⟩:=hfin;exact ha.defers
   refine a2u (wpIn_ret ?_);show LeavesInM _ _ _ _ _ _ (a'.defers++[_]) _ _;rw[hda];refine⟨by simp,.inl ⟨D,_,rfl,run_takeDeferred hK',?_⟩⟩
   have hz:=b8Y (fn:=Tryz.f179) (Q:=fun r=>∃ cs:Ck,cs.flatten=l∧cs.length≤l.length∧r=ixA cs) ttok hm.hn hfin (by
    conv=>whnf
    exact⟨cs,hS,hcl,rfl⟩)
   exact hz
  ·conv=>whnf
   refine⟨fun _ _=>rfl,?_⟩
   conv=>whnf
   refine a0a (b7M cs (by omega) (by omega)) rfl ?_
   rintro _ rfl
   conv=>whnf
   exact a0b [2] [some 0] rfl rfl
 ·rintro D c pre W _ _ h _
  exact h.elim
end Go.Eng
namespace Go.Eng
open Go Go.RowKit Go.Proofs
abbrev Nd:=It × Hg
def nd0:Nd:=(it0,⟨(0,0),false⟩)
abbrev hgF(h:Hg):List IC:=[vu h.on.1,vu h.on.2,.v (.bool h.right)]
abbrev hgA(h:Hg):AV:=.agg (hgF h)
abbrev ndF(p:Nd):List IC:=[vu p.1.id.1,vu p.1.id.2,vu p.1.left.1,vu p.1.left.2,vu p.1.right.1,vu p.1.right.2,vr p.1.ch,vu p.2.on.1,vu p.2.on.2,.v (.bool p.2.right)]
abbrev ndR(l:List Nd):Nat→List IC:=fun k=>ndF (l.getD k nd0)
abbrev liF(cs:Ck)(l:List Nd):List IC:=[.sl 2 cs.length (chR cs),vi (sumL cs:Int),vi (shnC cs:Int),.sl 10 l.length (ndR l)]
abbrev liA(cs:Ck)(l:List Nd):AV:=.agg (liF cs l)
def srtN(l:List Nd):Prop:=l.Pairwise (fun p q=>il p.1.id q.1.id)
def hasN(l:List Nd)(a:I2):Prop:=∃ p,p∈l∧p.1.id=a
instance (l:List Nd) (a:I2):Decidable (hasN l a):=inferInstanceAs (Decidable (∃ p,p∈l∧p.1.id=a))
theorem b0m{l:List Nd}(h:srtN l){i j:Nat}(hij:i<j)(hj:j<l.length):il (l.getD i nd0).1.id (l.getD j nd0).1.id:=by
 rw[List.getD_eq_getElem?_getD,List.getD_eq_getElem?_getD,List.getElem?_eq_getElem hj,List.getElem?_eq_getElem (by omega)]
 exact List.pairwise_iff_getElem.1 h i j (by omega) hj hij
structure fdP(l:List Nd)(a:I2)(i:Nat):Prop where
 le:i≤l.length
 lo:∀ j,j<i→il (l.getD j nd0).1.id a
 hi:∀ j,i≤j→j<l.length→¬il (l.getD j nd0).1.id a
theorem c2p{l:List Nd}(h:srtN l){a:I2}{i:Nat}(hi:i≤l.length)(h1:i=0∨a5J (l.getD (i-1) nd0).1.id a<0)(h2:i=l.length∨0≤a5J (l.getD i nd0).1.id a):fdP l a i:=by
 refine⟨hi,fun j hj=>?_,fun j hj hjl hlt=>?_⟩
 ·rcases h1 with h1 | h1
  ·omega
  ·have h3:=(a3E _ _).1 h1
   rcases Nat.lt_or_ge j (i-1)with g | g
   ·exact b9O (b0m h g (by omega)) h3
   ·obtain rfl:j=i-1:=by omega
    exact h3
 ·rcases h2 with h2 | h2
  ·omega
  ·have h3:¬il (l.getD i nd0).1.id a:=fun g=>by have:=(a3E _ _).2 g;omega
   rcases Nat.lt_or_ge i j with g | g
   ·exact h3 (b9O (b0m h g hjl) hlt)
   ·obtain rfl:j=i:=by omega
    exact h3 hlt
theorem b5n{l:List Nd}{a:I2}{i:Nat}(hs:srtN l)(h:fdP l a i):(i<l.length∧(l.getD i nd0).1.id=a)↔hasN l a:=by
 constructor
 ·rintro⟨h1,h2⟩
  exact⟨_,a1a h1,h2⟩
 ·rintro⟨p,hp,e⟩
  obtain⟨j,hj,rfl⟩:=List.getElem_of_mem hp;have ej:l.getD j nd0=l[j]:=by rw[List.getD_eq_getElem?_getD,List.getElem?_eq_getElem hj];rfl
  have hji:¬j<i:=fun g=>b4P a (by have:=h.lo j g;rw[ej,e]at this;exact this)
  have hij:¬i<j:=fun g=>h.hi i (Nat.le_refl _) (by omega) (by have:=b0m hs g hj;rw[ej,e]at this;exact this)
  obtain rfl:j=i:=by omega
  exact⟨hj,by rw[ej];exact e⟩
theorem b7j{l:List Nd}{hs:HS}(hp:l.Perm hs)(a:I2):hasN l a↔hasI hs a:=by
 unfold hasN hasI;constructor
 ·rintro⟨p,h1,h2⟩;exact⟨p,hp.mem_iff.1 h1,h2⟩
 ·rintro⟨p,h1,h2⟩;exact⟨p,hp.mem_iff.2 h1,h2⟩
def bel(hs:HS)(a b:I2):Bool:=(und hs a ⟨b,false⟩).isSome||(und hs a ⟨b,true⟩).isSome
def belR(hs:HS)(a b:I2):Bool:=b.1==0||bel hs a b
def hgOf(hs:HS)(x:It):Hg:=if(x.right.1 != 0&&belR hs x.right x.left)=true then⟨x.right,false⟩else if x.left.1=0 then a9h else⟨x.left,true⟩
structure LSt(hs:HS)(l:List Nd):Prop where
 ok:okH hs
 perm:l.Perm hs
 srt:srtN l
 len:l.length≤100000
theorem LSt.has{hs:HS}{l:List Nd}(h:LSt hs l)(a:I2):hasN l a↔hasI hs a:=b7j h.perm a
theorem LSt.at_{hs:HS}{l:List Nd}(h:LSt hs l){a:I2}{i:Nat}(hf:fdP l a i)(ha:hasI hs a):i<l.length∧(l.getD i nd0).1.id=a∧((l.getD i nd0).1,(l.getD i nd0).2)∈hs:=by
 obtain⟨h1,h2⟩:=(b5n h.srt hf).2 ((h.has a).2 ha);exact⟨h1,h2,h.perm.mem_iff.1 (a1a h1)⟩
def undV(o:Option I2):AV:=match o with
 | some k=>.tup [idA k,vcb true]
 | none=>.tup [idA (0,0),vcb false]
end Go.Eng
namespace Go.Eng
open Go Go.RowKit Go.Proofs
theorem b9X(p:Nd)(a:I2):a0f Tryz.prog 97 [.agg (ndF p),idA a] [] (fun r own'=>own'=[]∧r=vci .i64 (a5J p.1.id a)):=by
 refine a0e Tryz.func97 rfl ttok ftok rfl rfl rfl (Nat.le_of_ble_eq_true rfl) ?_
 conv=>whnf
 refine a0a (b7z p.1.id a) rfl ?_;rintro _ rfl
 conv=>whnf
 all_goals first | rfl | exact⟨rfl,rfl⟩
def b4w(l:List Nd)(t:I2)(c:Nd→Int)(m:Nat)(st:St):Prop:=∃ i j:Nat,m=j-i∧i≤j∧j≤l.length∧(i=0∨c (l.getD (i-1) nd0)<0)∧(j=l.length∨0≤c (l.getD j nd0)) ∧
 st=⟨49,0,[(0,.c (.sl 10 l.length fun k=>ndF (l.getD k nd0))),(2,.c (.fn 97 [])),(4,.c (.own 0 0)),(8,vci .i64 l.length),(9,vci .i64 (i:Int)),(10,vci .i64 (j:Int))],[some (.cells 59 (idF t))]⟩
theorem b6W(l:List Nd)(hl:l.length≤1000000000)(t:I2)(c:Nd→Int)
  (hp:∀ k,k<l.length→a0f Tryz.prog 97 [.agg (ndF (l.getD k nd0)),idA t] [] (fun r own'=>own'=[]∧r=vci .i64 (c (l.getD k nd0)))) :
  a0f Tryz.prog 96 [.c (.sl 10 l.length fun k=>ndF (l.getD k nd0)),idA t,.c (.fn 97 [])] [] (fun r own'=>own'=[]∧∃ i:Nat,i≤l.length∧(i=0∨c (l.getD (i-1) nd0)<0)∧(i=l.length∨0≤c (l.getD i nd0)) ∧
   r=.tup [vci .i64 i,vcb (decide (i<l.length∧c (l.getD i nd0)=0))]):=by
 refine a0e Tryz.func96 rfl ttok ftok rfl rfl rfl (Nat.le_of_ble_eq_true rfl) ?_
 conv=>whnf
 refine a0B ttok ftok (b4w l t c) (a0b [0,2,4,8,9,10] [some 0] rfl rfl) ⟨0,l.length,rfl,Nat.zero_le _,Nat.le_refl _,.inl rfl,.inl rfl,rfl⟩ ?_;rintro m st ⟨i,j,rfl,hij,hj,h1,h2,rfl⟩
 conv=>whnf
 refine a0d (fun h=>?_) (fun h=>?_)
 ·have h:=of_decide_eq_true h
  have hw:IntKind.i64.wrap (IntKind.u64.wrap (IntKind.i64.wrap ((i:Int)+j))/2 ^ Int.toNat 1)=(((i+j)/2:Nat):Int):=by
   rw[a0s (x:=(i:Int)+j) (by omega) (by omega),a5H,show(2:Int) ^ Int.toNat 1=2 from rfl,a0s (by omega) (by omega)]
   omega
  have hil:(i+j)/2<l.length:=by omega
  have hpk:=hp ((i+j)/2) hil
  conv=>whnf
  refine⟨⟨by omega,by decide⟩,?_⟩
  conv=>whnf
  rw[hw];generalize hk:(i+j)/2=k at hil hpk;refine a0w mixed (by kernel_rfl) ttok ftok ?_
  conv=>whnf
  refine⟨⟨by omega,by omega⟩,?_⟩
  conv=>whnf
  rw[a0k];refine b1a hpk rfl rfl ?_
  conv=>whnf
  refine a0d (fun h3=>?_) (fun h3=>?_)
  ·have h3:=of_decide_eq_true h3
   conv=>whnf
   rw[show IntKind.i64.wrap ((k:Int)+1)=((k+1:Nat):Int)from by rw[a0s (by omega) (by omega)];omega]
   exact⟨j-(k+1),_,by omega,a0b [0,2,4,8,9,10] [some 0] rfl rfl,k+1,j,rfl,by omega,hj,.inr (by rw[Nat.add_sub_cancel];exact h3),h2,rfl⟩
  ·have h3:=of_decide_eq_false h3
   conv=>whnf
   exact⟨k-i,_,by omega,a0b [0,2,4,8,9,10] [some 0] rfl rfl,i,k,rfl,by omega,by omega,h1,.inr (by omega),rfl⟩
 ·have h:=of_decide_eq_false h
  obtain rfl:i=j:=by omega
  conv=>whnf
  by_cases h3:i<l.length
  ·have hpk:=hp i h3
   refine a0w mixed (by kernel_rfl) ttok ftok ?_
   conv=>whnf
   rw[show decide ((i:Int)<(l.length:Int))=true from decide_eq_true (by omega)]
   conv=>whnf
   refine⟨⟨by omega,by omega⟩,?_⟩
   conv=>whnf
   rw[a0k];refine b1a hpk rfl rfl ?_
   conv=>whnf
   refine⟨i,hj,h1,h2,?_⟩;rw[show decide (i<l.length∧c (l.getD i nd0)=0)=(c (l.getD i nd0)==0)from by rw[Bool.eq_iff_iff];simp[h3]]
   all_goals rfl
  ·refine a0w mixed (by kernel_rfl) ttok ftok ?_
   conv=>whnf
   rw[show decide ((i:Int)<(l.length:Int))=false from decide_eq_false (by omega)]
   conv=>whnf
   refine⟨i,hj,h1,h2,?_⟩;rw[show decide (i<l.length∧c (l.getD i nd0)=0)=false from decide_eq_false (by omega)]
   all_goals rfl
theorem a8f(cs:Ck)(l:List Nd)(hs:srtN l)(hl:l.length≤100000)(a:I2):a0f Tryz.prog 57 [liA cs l,idA a] [] (fun r own'=>own'=[]∧∃ i:Nat,fdP l a i∧r=.tup [vci .i64 (i:Int),vcb (decide (hasN l a))]):=by
 refine a0e Tryz.func57 rfl ttok ftok rfl rfl rfl (Nat.le_of_ble_eq_true rfl) ?_
 conv=>whnf
 refine a0a (b6W l (by omega) a (fun p=>a5J p.1.id a) (fun k hk=>b9X _ _)) rfl ?_
 rintro _ ⟨i,hi,h1,h2,rfl⟩;have hf:=c2p hs hi h1 h2;have hd:decide (i<l.length∧a5J (l.getD i nd0).1.id a=0)=decide (hasN l a):=decide_eq_decide.2 (by rw[b7B];exact b5n hs hf)
 rw[hd]
 conv=>whnf
 exact⟨i,hf,rfl⟩
theorem b1M(cs:Ck)(l:List Nd)(hs:srtN l)(hl:l.length≤100000)(a:I2):a0f Tryz.prog 153 [liA cs l,idA a] [] (fun r own'=>own'=[]∧r=vcb (decide (hasN l a)||a.1==0)):=by
 refine a0e Tryz.func153 rfl ttok ftok rfl rfl rfl (Nat.le_of_ble_eq_true rfl) ?_
 conv=>whnf
 refine a0a (a8f cs l hs hl a) rfl ?_;rintro _ ⟨i,_,rfl⟩;cases decide (hasN l a)with
 | true =>
  conv=>whnf
  all_goals first | rfl | exact⟨rfl,rfl⟩
 | false =>
  conv=>whnf
  refine a0a (a3k a) rfl ?_;rintro _ rfl
  conv=>whnf
  all_goals first | rfl | exact⟨rfl,rfl⟩
theorem c2l(g h:Hg):((g.on.1==h.on.1&&(g.on.2==h.on.2&&true))&&(g.right==h.right&&true))=decide (g=h):=by
 rw[Bool.eq_iff_iff,decide_eq_true_iff];simp only[Bool.and_true,Bool.and_eq_true,beq_iff_eq];obtain⟨⟨a,b⟩,c⟩:=g;obtain⟨⟨d,e⟩,f⟩:=h;constructor
 ·rintro⟨⟨h1,h2⟩,h3⟩
  simp only at h1 h2 h3;rw[h1,h2,h3]
 ·intro e
  cases e;exact⟨⟨rfl,rfl⟩,rfl⟩
def unI(hs:HS)(cs:Ck)(l:List Nd)(a:I2)(h:Hg)(n:Nat)(st:St):Prop:=∃ b:I2,n=(pth hs b).length∧und hs b h=und hs a h ∧
 st=⟨38,0,[(3,.c (.own 0 0)),(4,.c (.own 1 0)),(5,.c (.own 2 0)),(6,.c (.own 3 0))],[some (.cells 75 (liF cs l)),some (.cells 59 (idF b)),some (.cells 113 (hgF h)),some (.cells 59 (idF (0,0)))]⟩
theorem a4Z{hs:HS}{l:List Nd}(L:LSt hs l)(cs:Ck)(a:I2)(h:Hg):a0f Tryz.prog 180 [liA cs l,idA a,hgA h] [] (fun r own'=>own'=[]∧r=undV (und hs a h)):=by
 refine a0e Tryz.func180 rfl ttok ftok rfl rfl rfl (Nat.le_of_ble_eq_true rfl) ?_
 conv=>whnf
 refine a2y 0 (fun st=>und hs a h=none∧st=⟨38,0,[(6,.c (.own 0 0))],[some (.cells 59 (idF (0,0)))]⟩) ?_ ?_
 ·refine a0B ttok ftok (unI hs cs l a h) (a0b [3,4,5,6] [some 0,some 1,some 2,some 3] rfl rfl) ⟨a,rfl,rfl,rfl⟩ ?_
  rintro m st ⟨b,rfl,hb,rfl⟩
  conv=>whnf
  refine a0a (a3k b) rfl ?_;rintro _ rfl
  by_cases hz:b.1=0
  ·rw[beq_iff_eq.2 hz]
   have hn:und hs b h=none:=a7a (fun g=>a1D L.ok g hz)
   conv=>whnf
   exact⟨rfl,_,a0b [6] [some 3] rfl rfl,hb▸hn,rfl⟩
  rw[beq_eq_false_iff_ne.2 hz]
  conv=>whnf
  refine a0a (a8f cs l L.srt L.len b) rfl ?_;rintro _ ⟨i,hf,rfl⟩
  by_cases hh:hasI hs b
  rotate_left
  ·rw[decide_eq_false (fun g=>hh ((L.has b).1 g))]
   have hn:und hs b h=none:=a7a hh
   conv=>whnf
   exact⟨rfl,_,a0b [6] [some 3] rfl rfl,hb▸hn,rfl⟩
  rw[decide_eq_true ((L.has b).2 hh)];obtain⟨hil,hie,him⟩:=L.at_ hf hh;have hua:=a5w (k:=h) L.ok him;have hpa:=a1P L.ok him;rw[hie]at hua hpa
  conv=>whnf
  refine a2C mixed (by kernel_rfl) ttok ?_
  conv=>whnf
  refine⟨⟨by omega,by omega⟩,?_⟩
  conv=>whnf
  rw[a0k];rw[c2l]
  by_cases hg:(l.getD i nd0).2=h
  ·rw[if_pos hg,hb]at hua
   rw[decide_eq_true hg,hua]
   conv=>whnf
   all_goals first | rfl | exact⟨rfl,rfl⟩
  ·rw[if_neg hg,hb]at hua
   rw[decide_eq_false hg]
   conv=>whnf
   refine⟨⟨by omega,by omega⟩,?_⟩
   conv=>whnf
   rw[a0k];refine⟨(pth hs (l.getD i nd0).2.on).length,_,?_,a0b [3,4,5,6] [some 0,some 1,some 2,some 3] rfl rfl,(l.getD i nd0).2.on,rfl,hua.symm,rfl⟩;rw[hpa,List.length_append,List.length_singleton];omega
 ·rintro st ⟨hu,rfl⟩
  rw[hu]
  conv=>whnf
  all_goals first | rfl | exact⟨rfl,rfl⟩
theorem a5L{o1 o2:Option I2}{hs:HS}{a b:I2}(h1:und hs a ⟨b,false⟩=o1)(h2:und hs a ⟨b,true⟩=o2):bel hs a b=(o1.isSome||o2.isSome):=by unfold bel;rw[h1,h2]
theorem b7c{hs:HS}{l:List Nd}(L:LSt hs l)(cs:Ck)(a b:I2):a0f Tryz.prog 176 [liA cs l,idA a,idA b] [] (fun r own'=>own'=[]∧r=vcb (belR hs a b)):=by
 refine a0e Tryz.func176 rfl ttok ftok rfl rfl rfl (Nat.le_of_ble_eq_true rfl) ?_
 conv=>whnf
 refine a0a (a3k b) rfl ?_;rintro _ rfl;unfold belR
 by_cases hz:b.1=0
 ·rw[beq_iff_eq.2 hz]
  conv=>whnf
  all_goals first | rfl | exact⟨rfl,rfl⟩
 rw[beq_eq_false_iff_ne.2 hz]
 conv=>whnf
 refine a0a (a4Z L cs a ⟨b,false⟩) rfl ?_;rintro _ rfl;cases h1:und hs a ⟨b,false⟩with
 | some k =>
  conv=>whnf
  refine a0a (a4Z L cs a ⟨b,true⟩) rfl ?_;rintro _ rfl;cases h2:und hs a ⟨b,true⟩with
  | some k2 =>
   conv=>whnf
   rw[a5L h1 h2]
   all_goals first | rfl | exact⟨rfl,rfl⟩
  | none =>
   conv=>whnf
   rw[a5L h1 h2]
   all_goals first | rfl | exact⟨rfl,rfl⟩
 | none =>
  conv=>whnf
  refine a0a (a4Z L cs a ⟨b,true⟩) rfl ?_;rintro _ rfl;cases h2:und hs a ⟨b,true⟩with
  | some k2 =>
   conv=>whnf
   rw[a5L h1 h2]
   all_goals first | rfl | exact⟨rfl,rfl⟩
  | none =>
   conv=>whnf
   rw[a5L h1 h2]
   all_goals first | rfl | exact⟨rfl,rfl⟩
theorem b9C{hs:HS}{l:List Nd}(L:LSt hs l)(cs:Ck)(x:It):a0f Tryz.prog 155 [liA cs l,.agg (itF x)] [] (fun r own'=>own'=[]∧r=hgA (hgOf hs x)):=by
 have tail:∀ r,r=hgA (if x.left.1=0 then a9h else⟨x.left,true⟩)→(x.right.1 != 0&&belR hs x.right x.left)=false→r=hgA (hgOf hs x):=fun r h1 h2=>by
  rw[h1];unfold hgOf;rw[h2,if_neg Bool.false_ne_true]
 refine a0e Tryz.func155 rfl ttok ftok rfl rfl rfl (Nat.le_of_ble_eq_true rfl) ?_
 conv=>whnf
 refine a0a (a3k x.right) rfl ?_;rintro _ rfl
 by_cases hz:x.right.1=0
 ·have ht:=fun r h1=>tail r h1 (by rw[hz];rfl)
  rw[beq_iff_eq.2 hz]
  conv=>whnf
  refine a0a (a3k x.left) rfl ?_;rintro _ rfl
  by_cases hw:x.left.1=0
  ·rw[if_pos hw]at ht
   rw[beq_iff_eq.2 hw]
   conv=>whnf
   exact ht _ rfl
  ·rw[if_neg hw]at ht
   rw[beq_eq_false_iff_ne.2 hw]
   conv=>whnf
   exact ht _ rfl
 rw[beq_eq_false_iff_ne.2 hz]
 conv=>whnf
 refine a0a (b7c L cs x.right x.left) rfl ?_;rintro _ rfl;cases hb:belR hs x.right x.left with
 | true =>
  conv=>whnf
  unfold hgOf;rw[if_pos (by rw[hb,bne_iff_ne.2 hz];rfl)]
  all_goals first | rfl | exact⟨rfl,rfl⟩
 | false =>
  have ht:=fun r h1=>tail r h1 (by rw[hb];simp)
  conv=>whnf
  refine a0a (a3k x.left) rfl ?_;rintro _ rfl
  by_cases hw:x.left.1=0
  ·rw[if_pos hw]at ht
   rw[beq_iff_eq.2 hw]
   conv=>whnf
   exact ht _ rfl
  ·rw[if_neg hw]at ht
   rw[beq_eq_false_iff_ne.2 hw]
   conv=>whnf
   exact ht _ rfl
end Go.Eng
namespace Go.Eng
open Go Go.RowKit Go.Proofs
def ixO(cs:Ck)(o:List I2):Prop:=cs.flatten.map (fun e=>e.id)=o
theorem b0L{cs:Ck}{o:List I2}(h:ixO cs o):cs.flatten.length=o.length:=by rw[←h,List.length_map]
theorem b1T{cs:Ck}{o:List I2}(h:ixO cs o)(j:Nat):(cs.flatten.getD j en0).id=o.getD j (0,0):=by
 rw[←h,List.getD_eq_getElem?_getD,List.getD_eq_getElem?_getD,List.getElem?_map];cases cs.flatten[j]? <;> rfl
theorem a8k{cs:Ck}{o:List I2}(h:ixO cs o){a:I2}(ha:a∈o):∃ q,fnE cs.flatten a=some q∧q<o.length∧o.getD q (0,0)=a:=by
 cases hf:fnE cs.flatten a with
 | some q =>
  have hq:=hf;unfold fnE at hf;rw[List.findIdx?_eq_some_iff_getElem]at hf;obtain⟨h1,h2,_⟩:=hf;refine⟨q,rfl,by rw[←b0L h];exact h1,?_⟩
  rw[←b1T h,List.getD_eq_getElem?_getD,List.getElem?_eq_getElem h1];exact beq_iff_eq.1 h2
 | none =>
  exfalso;unfold fnE at hf;rw[List.findIdx?_eq_none_iff]at hf;rw[←h]at ha;obtain⟨e,he,rfl⟩:=List.mem_map.1 ha;have:=hf e he;simp at this
theorem a8j{cs:Ck}{o:List I2}(h:ixO cs o){a:I2}(ha:a∉o):fnE cs.flatten a=none:=by
 unfold fnE;rw[List.findIdx?_eq_none_iff];intro e he;refine beq_eq_false_iff_ne.2 (fun e2=>ha ?_);rw[←h,←e2];exact List.mem_map.2 ⟨e,he,rfl⟩
def plLI(hs:HS)(cs:Ck)(l:List Nd)(x:It)(h:Hg)(o:List I2)(q:Nat)(m:Nat)(st:St):Prop:=∃ n:Nat,m=n∧n≤q∧(∀ j,n≤j→j<q→∃ k,und hs (o.getD j (0,0)) h=some k∧¬il k x.id) ∧
 st=⟨105,0,[(3,.c (.own 0 0)),(4,.c (.own 1 0)),(5,.c (.own 2 0)),(7,vci .i64 (n:Int))],[some (.cells 75 (liF cs l)),some (.cells 61 (itF x)),some (.cells 113 (hgF h))]⟩
def plRI(hs:HS)(cs:Ck)(l:List Nd)(x:It)(h:Hg)(o:List I2)(s:Nat)(m:Nat)(st:St):Prop:=∃ n:Nat,m=o.length-n∧s≤n∧n≤o.length∧(∀ j,s≤j→j<n→∃ k,und hs (o.getD j (0,0)) h=some k∧¬il x.id k) ∧
 st=⟨105,0,[(3,.c (.own 0 0)),(4,.c (.own 1 0)),(5,.c (.own 2 0)),(7,vci .i64 (n:Int))],[some (.cells 75 (liF cs l)),some (.cells 61 (itF x)),some (.cells 113 (hgF h))]⟩
def plS(cs:Ck)(l:List Nd)(x:It)(h:Hg)(n:Nat):St:=⟨105,0,[(3,.c (.own 0 0)),(4,.c (.own 1 0)),(5,.c (.own 2 0)),(7,vci .i64 (n:Int))],[some (.cells 75 (liF cs l)),some (.cells 61 (itF x)),some (.cells 113 (hgF h))]⟩
theorem b7a{hs:HS}{l:List Nd}(L:LSt hs l)(cs:Ck)(hl:cs.length≤100000)(hsz:sumL cs≤100000){o:List I2}(hO:a0V hs o)(hx:ixO cs o)(x:It)(h:Hg)(ho:okH ((x,h)::hs)) :
  a0f Tryz.prog 157 [liA cs l,.agg (itF x),hgA h] [] (fun r own'=>own'=[]∧∃ n:Nat,n≤o.length∧a0V ((x,h)::hs) (o.take n++[x.id]++o.drop n)∧r=vci .i64 (n:Int)):=by
 have hlen:o.length≤100000:=by rw[←b0L hx];exact hsz
 have hfl:=b0L hx;obtain⟨on,rt⟩:=h;cases rt with
 | false =>
  obtain⟨q,hf,hq,hqe⟩:∃ q,fnE cs.flatten on=some q∧q<o.length∧o.getD q (0,0)=on:=by
   rcases ho.2.2.2 with g|⟨_,g⟩
   ·cases g
   ·exact a8k hx (hO.has.2 g)
  have hfc:=b5j cs (by omega) (by omega) on
  rw[hf]at hfc;refine a0e Tryz.func157 rfl ttok ftok rfl rfl rfl (Nat.le_of_ble_eq_true rfl) ?_
  conv=>whnf
  refine a0a hfc rfl ?_;rintro _ rfl
  conv=>whnf
  refine a2y 0 (fun st=>∃ n,n≤o.length∧a0V ((x,⟨on,false⟩)::hs) (o.take n++[x.id]++o.drop n)∧st=plS cs l x ⟨on,false⟩ n) ?_ ?_
  ·refine a0B ttok ftok (plLI hs cs l x ⟨on,false⟩ o q) (a0b [3,4,5,7] [some 0,some 1,some 2] rfl rfl) ⟨q,rfl,Nat.le_refl _,fun j h1 h2=>by omega,rfl⟩ ?_
   rintro m st ⟨n,rfl,hn,hj,rfl⟩;have fin:(0<m→und hs (o.getD (m-1) (0,0)) ⟨on,false⟩=none∨∃ k,und hs (o.getD (m-1) (0,0)) ⟨on,false⟩=some k∧il k x.id)→a0V ((x,⟨on,false⟩)::hs) (o.take m++[x.id]++o.drop m):=fun h2=>b6P ho hO rfl hq hqe hn hj h2
   conv=>whnf
   refine a0d (fun g=>?_) (fun g=>?_)
   ·have g:0<m:=by simp[a0J,a0O]at g;omega
    have hw:IntKind.i64.wrap ((m:Int)-1)=((m-1:Nat):Int):=by rw[a0s (by omega) (by omega)];omega
    have hec:=a5n cs (by omega) (by omega) ((m-1:Nat):Int)
    unfold enV at hec;rw[if_pos (by omega),a0k]at hec
    have hid:=b1T hx (m-1);generalize cs.flatten.getD (m-1) en0=e at hec hid
    conv=>whnf
    rw[hw];refine a0a hec rfl ?_;rintro _ rfl
    conv=>whnf
    refine a0a (a4Z L cs e.id ⟨on,false⟩) rfl ?_;rintro _ rfl;rw[hid];cases hu:und hs (o.getD (m-1) (0,0)) ⟨on,false⟩with
    | none =>
     conv=>whnf
     exact⟨rfl,_,a0b [3,4,5,7] [some 0,some 1,some 2] rfl rfl,m,by omega,fin (fun _=>.inl hu),rfl⟩
    | some k =>
     conv=>whnf
     refine a0a (b7z k x.id) rfl ?_;rintro _ rfl
     conv=>whnf
     refine a0d (fun g2=>?_) (fun g2=>?_)
     ·have g2:=(a3E _ _).1 (of_decide_eq_true g2)
      conv=>whnf
      exact⟨rfl,_,a0b [3,4,5,7] [some 0,some 1,some 2] rfl rfl,m,by omega,fin (fun _=>.inr ⟨k,hu,g2⟩),rfl⟩
     ·have g2:¬il k x.id:=fun g3=>of_decide_eq_false g2 ((a3E _ _).2 g3)
      conv=>whnf
      rw[hw];refine⟨m-1,_,by omega,a0b [3,4,5,7] [some 0,some 1,some 2] rfl rfl,m-1,rfl,by omega,fun j h1 h2=>?_,rfl⟩
      rcases Nat.lt_or_ge j m with g4 | g4
      ·obtain rfl:j=m-1:=by omega
       exact⟨k,hu,g2⟩
      ·exact hj j g4 h2
   ·have g:m=0:=by simp[a0J,a0O]at g;omega
    conv=>whnf
    exact⟨rfl,_,a0b [3,4,5,7] [some 0,some 1,some 2] rfl rfl,m,by omega,fin (fun h=>by omega),rfl⟩
  ·rintro st ⟨n,hn,hord,rfl⟩
   conv=>whnf
   refine a0N 1 ttok ftok ?_
   conv=>whnf
   exact⟨n,hn,hord,rfl⟩
 | true =>
  obtain⟨s,hs0,hfn⟩:∃ s:Nat,((on.1=0∧s=0)∨∃ q,s=q+1∧q<o.length∧o.getD q (0,0)=on)∧(fnE cs.flatten on=if s=0 then none else some (s-1)):=by
   rcases ho.2.2.2 with g|⟨g0,g⟩
   ·cases g
    refine⟨0,.inl ⟨rfl,rfl⟩,?_⟩;rw[if_pos rfl];exact a8j hx (fun hm=>a1D ho.1 (hO.has.1 hm) rfl)
   ·obtain⟨q,h1,h2,h3⟩:=a8k hx (hO.has.2 g)
    exact⟨q+1,.inr ⟨q,rfl,h2,h3⟩,by rw[if_neg (by omega)];exact h1⟩
  have hsl:s≤o.length:=by
   rcases hs0 with⟨_,rfl⟩|⟨q,rfl,hq,_⟩ <;> omega
  have hz:(on.1==0)=decide (s=0):=by
   rcases hs0 with⟨h1,rfl⟩|⟨q,rfl,hq,hqe⟩
   ·rw[h1];rfl
   ·have:on.1≠0:=by
     rw[←hqe];exact a1D ho.1 (hO.has.1 (a1a hq))
    rw[beq_eq_false_iff_ne.2 this];rfl
  have hfc:=b5j cs (by omega) (by omega) on
  rw[hfn]at hfc;rcases hs0 with⟨h0,rfl⟩|⟨q,rfl,hq,hqe⟩
  ·have hs0:(on.1=0∧0=0)∨∃ q,0=q+1∧q<o.length∧o.getD q (0,0)=on:=.inl ⟨h0,rfl⟩
   rw[if_pos rfl]at hfc;refine a0e Tryz.func157 rfl ttok ftok rfl rfl rfl (Nat.le_of_ble_eq_true rfl) ?_
   conv=>whnf
   refine a0a hfc rfl ?_;rintro _ rfl
   conv=>whnf
   refine a0N 1 ttok ftok ?_
   conv=>whnf
   refine a0a (a3k on) rfl ?_;rintro _ rfl;rw[hz]
   conv=>whnf
   refine a2y 2 (fun st=>∃ n,n≤o.length∧a0V ((x,⟨on,true⟩)::hs) (o.take n++[x.id]++o.drop n)∧st=plS cs l x ⟨on,true⟩ n) ?_ ?_
   ·refine a0B ttok ftok (plRI hs cs l x ⟨on,true⟩ o (0)) (a0b [3,4,5,7] [some 0,some 1,some 2] rfl rfl) ⟨0,rfl,Nat.le_refl _,hsl,fun j h1 h2=>by omega,rfl⟩ ?_
    rintro m st ⟨n,rfl,hsn,hn,hj,rfl⟩;have fin:(n<o.length→und hs (o.getD n (0,0)) ⟨on,true⟩=none∨∃ k,und hs (o.getD n (0,0)) ⟨on,true⟩=some k∧il x.id k)→a0V ((x,⟨on,true⟩)::hs) (o.take n++[x.id]++o.drop n):=fun h2=>a9j ho hO rfl hs0 hsn hn hj h2
    conv=>whnf
    refine a0a (c1U cs) rfl ?_;rintro _ rfl
    conv=>whnf
    refine a0d (fun g=>?_) (fun g=>?_)
    ·have g:n<o.length:=by
      have:=of_decide_eq_true g;have h9:sumL cs=o.length:=hfl;omega
     have e1:=e64 (k:=n) (by omega)
     have hec:=a5n cs (by omega) (by omega) (n:Int)
     unfold enV at hec;rw[if_pos (by omega),a0k]at hec
     have hid:=b1T hx n;generalize cs.flatten.getD n en0=e at hec hid
     conv=>whnf
     refine a0a hec rfl ?_;rintro _ rfl
     conv=>whnf
     refine a0a (a4Z L cs e.id ⟨on,true⟩) rfl ?_;rintro _ rfl;rw[hid];cases hu:und hs (o.getD n (0,0)) ⟨on,true⟩with
     | none =>
      conv=>whnf
      exact⟨rfl,_,a0b [3,4,5,7] [some 0,some 1,some 2] rfl rfl,n,hn,fin (fun _=>.inl hu),rfl⟩
     | some k =>
      conv=>whnf
      refine a0a (b7z k x.id) rfl ?_;rintro _ rfl
      conv=>whnf
      refine a0d (fun g2=>?_) (fun g2=>?_)
      ·have g2:=(a3F _ _).1 (of_decide_eq_true g2)
       conv=>whnf
       exact⟨rfl,_,a0b [3,4,5,7] [some 0,some 1,some 2] rfl rfl,n,hn,fin (fun _=>.inr ⟨k,hu,g2⟩),rfl⟩
      ·have g2:¬il x.id k:=fun g3=>of_decide_eq_false g2 ((a3F _ _).2 g3)
       conv=>whnf
       rw[e1];refine⟨o.length-(n+1),_,by omega,a0b [3,4,5,7] [some 0,some 1,some 2] rfl rfl,n+1,rfl,by omega,by omega,fun j h1 h2=>?_,rfl⟩
       rcases Nat.lt_succ_iff_lt_or_eq.1 h2 with g4 | rfl
       ·exact hj j h1 g4
       ·exact⟨k,hu,g2⟩
    ·have g:n=o.length:=by
      have:=of_decide_eq_false g;have h9:sumL cs=o.length:=hfl;omega
     conv=>whnf
     exact⟨rfl,_,a0b [3,4,5,7] [some 0,some 1,some 2] rfl rfl,n,hn,fin (fun h=>by omega),rfl⟩
   ·rintro st ⟨n,hn,hord,rfl⟩
    conv=>whnf
    exact⟨n,hn,hord,rfl⟩
  ·have hs0:(on.1=0∧q+1=0)∨∃ p,q+1=p+1∧p<o.length∧o.getD p (0,0)=on:=.inr ⟨q,rfl,hq,hqe⟩
   rw[if_neg (by omega),Nat.add_sub_cancel]at hfc
   have e1:=e64 (k:=q) (by omega)
   refine a0e Tryz.func157 rfl ttok ftok rfl rfl rfl (Nat.le_of_ble_eq_true rfl) ?_
   conv=>whnf
   refine a0a hfc rfl ?_;rintro _ rfl
   conv=>whnf
   refine a0N 1 ttok ftok ?_
   conv=>whnf
   refine a0a (a3k on) rfl ?_;rintro _ rfl;rw[hz,show decide (q+1=0)=false from rfl]
   conv=>whnf
   rw[e1];refine a2y 2 (fun st=>∃ n,n≤o.length∧a0V ((x,⟨on,true⟩)::hs) (o.take n++[x.id]++o.drop n)∧st=plS cs l x ⟨on,true⟩ n) ?_ ?_
   ·refine a0B ttok ftok (plRI hs cs l x ⟨on,true⟩ o (q+1)) (a0b [3,4,5,7] [some 0,some 1,some 2] rfl rfl) ⟨q+1,rfl,Nat.le_refl _,hsl,fun j h1 h2=>by omega,rfl⟩ ?_
    rintro m st ⟨n,rfl,hsn,hn,hj,rfl⟩;have fin:(n<o.length→und hs (o.getD n (0,0)) ⟨on,true⟩=none∨∃ k,und hs (o.getD n (0,0)) ⟨on,true⟩=some k∧il x.id k)→a0V ((x,⟨on,true⟩)::hs) (o.take n++[x.id]++o.drop n):=fun h2=>a9j ho hO rfl hs0 hsn hn hj h2
    conv=>whnf
    refine a0a (c1U cs) rfl ?_;rintro _ rfl
    conv=>whnf
    refine a0d (fun g=>?_) (fun g=>?_)
    ·have g:n<o.length:=by
      have:=of_decide_eq_true g;have h9:sumL cs=o.length:=hfl;omega
     have e1:=e64 (k:=n) (by omega)
     have hec:=a5n cs (by omega) (by omega) (n:Int)
     unfold enV at hec;rw[if_pos (by omega),a0k]at hec
     have hid:=b1T hx n;generalize cs.flatten.getD n en0=e at hec hid
     conv=>whnf
     refine a0a hec rfl ?_;rintro _ rfl
     conv=>whnf
     refine a0a (a4Z L cs e.id ⟨on,true⟩) rfl ?_;rintro _ rfl;rw[hid];cases hu:und hs (o.getD n (0,0)) ⟨on,true⟩with
     | none =>
      conv=>whnf
      exact⟨rfl,_,a0b [3,4,5,7] [some 0,some 1,some 2] rfl rfl,n,hn,fin (fun _=>.inl hu),rfl⟩
     | some k =>
      conv=>whnf
      refine a0a (b7z k x.id) rfl ?_;rintro _ rfl
      conv=>whnf
      refine a0d (fun g2=>?_) (fun g2=>?_)
      ·have g2:=(a3F _ _).1 (of_decide_eq_true g2)
       conv=>whnf
       exact⟨rfl,_,a0b [3,4,5,7] [some 0,some 1,some 2] rfl rfl,n,hn,fin (fun _=>.inr ⟨k,hu,g2⟩),rfl⟩
      ·have g2:¬il x.id k:=fun g3=>of_decide_eq_false g2 ((a3F _ _).2 g3)
       conv=>whnf
       rw[e1];refine⟨o.length-(n+1),_,by omega,a0b [3,4,5,7] [some 0,some 1,some 2] rfl rfl,n+1,rfl,by omega,by omega,fun j h1 h2=>?_,rfl⟩
       rcases Nat.lt_succ_iff_lt_or_eq.1 h2 with g4 | rfl
       ·exact hj j h1 g4
       ·exact⟨k,hu,g2⟩
    ·have g:n=o.length:=by
      have:=of_decide_eq_false g;have h9:sumL cs=o.length:=hfl;omega
     conv=>whnf
     exact⟨rfl,_,a0b [3,4,5,7] [some 0,some 1,some 2] rfl rfl,n,hn,fin (fun h=>by omega),rfl⟩
   ·rintro st ⟨n,hn,hord,rfl⟩
    conv=>whnf
    exact⟨n,hn,hord,rfl⟩
end Go.Eng
namespace Go.Eng
open Go Go.RowKit Go.Proofs
theorem b0z{cs:Ck}{n:Nat}{e:En}{r:AV}(h:putS cs n e r)(hn:n≤sumL cs)(hf:fnE cs.flatten e.id=none):∃ cs':Ck,cs'.flatten=cs.flatten.take n++[e]++cs.flatten.drop n∧cs'.length≤cs.length+1∧r=.tup [ixA cs',.c (.v .nilIface)]:=by
 have:=h.out;rw[if_neg (by omega),hf,if_neg (by simp),a0k]at this
 exact this
theorem b7i{cs:Ck}{a:I2}{j:Nat}(h:fnE cs.flatten a=some j):∃ cs2:Ck,hdC cs a=some cs2∧cs2.flatten=a1w cs.flatten j∧cs2.length=cs.length:=by
 have hpf:(plcC cs a).map (fun p=>sumL (cs.take p.1)+p.2)=fnE cs.flatten a:=a4x cs a;rw[h]at hpf;cases hp:plcC cs a with
 | none=>rw[hp]at hpf;cases hpf
 | some p =>
  obtain⟨p,q⟩:=p;rw[hp]at hpf;obtain⟨hpl,hql⟩:=b0A hp;have e:sumL (cs.take p)+q=j:=by simpa using hpf
  refine⟨repL cs p [a1w (cs.getD p []) q],by unfold hdC;rw[hp];rfl,?_,?_⟩
  ·rw[←e];exact b5h hpl hql
  ·rw[a4s _ hpl];simp;omega
def a5E(hs:HS)(a:I2):Int:=match hs.find? (fun p=>p.1.id==a)with
 | some p=>p.1.ch
 | none=>0
def enOf(hs:HS)(G:I2→Bool)(a:I2):En:=⟨a,a5E hs a,G a⟩
def updG(G:I2→Bool)(a:I2)(b:Bool):I2→Bool:=fun c=>if c=a then b else G c
structure LV(hs:HS)(G:I2→Bool)(cs:Ck)(l:List Nd)(N:Nat):Prop where
 L:LSt hs l
 ord:∃ o,a0V hs o∧cs.flatten=o.map (enOf hs G)
 len:hs.length≤N
 ck:cs.length≤N
theorem LV.ixO{hs:HS}{G:I2→Bool}{cs:Ck}{o:List I2}(h:cs.flatten=o.map (enOf hs G)):ixO cs o:=by
 unfold Go.Eng.ixO;rw[h,List.map_map]
 conv=>rhs;rw[←List.map_id o]
 rfl
theorem a0V.length{hs:HS}{o:List I2}(h:a0V hs o):o.length=hs.length:=by
 have:=h.perm.length_eq;unfold idsH at this;rw[this,List.length_map]
theorem LV.sum{hs:HS}{G:I2→Bool}{cs:Ck}{l:List Nd}{N:Nat}(h:LV hs G cs l N):sumL cs=hs.length:=by
 obtain⟨o,ho,hf⟩:=h.ord;show cs.flatten.length=_;rw[hf,List.length_map,ho.length]
theorem a9V{x:It}{h:Hg}{r:HS}{a:I2}(ha:x.id≠a):a5E ((x,h)::r) a=a5E r a:=by
 unfold a5E;rw[List.find?_cons_of_neg (by simpa using ha)]
theorem b2A{x:It}{h:Hg}{r:HS}:a5E ((x,h)::r) x.id=x.ch:=by
 unfold a5E;rw[List.find?_cons_of_pos (by simp)]
theorem b7r{x:It}{h:Hg}{r:HS}{o:List I2}{G:I2→Bool}{gone:Bool}(ho:okH ((x,h)::r))(hO:a0V r o)(n:Nat) :
  (o.take n++[x.id]++o.drop n).map (enOf ((x,h)::r) (updG G x.id gone))=(o.map (enOf r G)).take n++[⟨x.id,x.ch,gone⟩]++(o.map (enOf r G)).drop n:=by
 have key:∀ a,a∈o→enOf ((x,h)::r) (updG G x.id gone) a=enOf r G a:=fun a ha=>by
  have hne:x.id≠a:=fun e=>by
   obtain⟨p,hp,hpe⟩:=hO.has.1 ha;exact ho.2.2.1 p hp (hpe.trans e.symm)
  unfold enOf updG;rw[a9V hne,if_neg (Ne.symm hne)]
 have hnew:enOf ((x,h)::r) (updG G x.id gone) x.id=⟨x.id,x.ch,gone⟩:=by
  unfold enOf updG;rw[b2A,if_pos rfl]
 rw[List.map_append,List.map_append,List.map_singleton,hnew,←List.map_take,←List.map_drop]
 congr 1
 ·congr 1
  exact List.map_congr_left (fun a ha=>key a (List.mem_of_mem_take ha))
 ·exact List.map_congr_left (fun a ha=>key a (List.mem_of_mem_drop ha))
theorem c1P{hs:HS}{l:List Nd}(L:LSt hs l){x:It}{h:Hg}(ho:okH ((x,h)::hs)){k:Nat}(hf:fdP l x.id k)(hlen:l.length<100000):LSt ((x,h)::hs) (l.take k++(x,h)::l.drop k):=by
 have hnot:∀ p,p∈l→p.1.id≠x.id:=fun p hp=>ho.2.2.1 p (L.perm.mem_iff.1 hp);have hpw:=L.srt;unfold srtN at hpw;rw[←List.take_append_drop k l,List.pairwise_append]at hpw;obtain⟨p1,p2,p3⟩:=hpw;have ht:∀ a,a∈l.take k→il a.1.id x.id:=fun a ha=>by
  obtain⟨j,hj,rfl⟩:=List.getElem_of_mem ha;have:=hf.lo j (by simp at hj;omega)
  rw[List.getD_eq_getElem?_getD,List.getElem?_eq_getElem (by simp at hj;omega)]at this
  rw[List.getElem_take];exact this
 have hd:∀ a,a∈l.drop k→il x.id a.1.id:=fun a ha=>by
  have hm:=hnot a (List.mem_of_mem_drop ha);obtain⟨j,hj,rfl⟩:=List.getElem_of_mem ha;have hj2:k+j<l.length:=by simp at hj;omega
  have:=hf.hi (k+j) (by omega) hj2
  rw[List.getD_eq_getElem?_getD,List.getElem?_eq_getElem hj2]at this;rw[List.getElem_drop]at hm ⊢;rcases b2b hm with g | g
  ·exact absurd g this
  ·exact g
 refine⟨ho,?_,?_,?_⟩
 ·have h3:(l.take k++(x,h)::l.drop k).Perm ((x,h)::(l.take k++l.drop k)):=List.perm_middle
  rw[List.take_append_drop]at h3;exact h3.trans (L.perm.cons _)
 ·unfold srtN
  rw[List.pairwise_append];refine⟨p1,List.pairwise_cons.2 ⟨hd,p2⟩,fun a ha b hb=>?_⟩;rcases List.mem_cons.1 hb with rfl | hb
  ·exact ht a ha
  ·exact p3 a ha b hb
 ·rw[List.length_append,List.length_cons,List.length_take,List.length_drop];omega
def vldR(c:Int):Bool:=(decide (0≤c)&&decide (c<55296))||(decide (57343<c)&&decide (c≤1114111))
structure okA(hs:HS)(x:It):Prop where
 new:¬hasI hs x.id
 nz:x.id.1≠0
 left:hasI hs x.left∨x.left.1=0
 right:hasI hs x.right∨x.right.1=0
 ch:vldR x.ch=true
theorem b9u{hs:HS}(ho:okH hs){x:It}(h:okA hs x):okH ((x,hgOf hs x)::hs):=by
 refine⟨ho,h.nz,fun p hp e=>h.new ⟨p,hp,e⟩,?_⟩;unfold hgOf;split
 ·rename_i g
  rw[Bool.and_eq_true,bne_iff_ne]at g;exact .inr ⟨g.1,h.right.resolve_right g.1⟩
 ·split
  ·exact .inl rfl
  ·rename_i g
   exact .inr ⟨g,h.left.resolve_right g⟩
theorem b3a{hs:HS}{G:I2→Bool}(o:List I2)(hnd:o.Nodup){q:Nat}(hq:q<o.length):a1w (o.map (enOf hs G)) q=o.map (enOf hs (updG G (o.getD q (0,0)) true)):=by
 have e:(o.map (enOf hs G)).getD q en0=enOf hs G o[q]:=by rw[List.getD_eq_getElem?_getD,List.getElem?_map,List.getElem?_eq_getElem hq];rfl
 have e2:o.getD q (0,0)=o[q]:=by rw[List.getD_eq_getElem?_getD,List.getElem?_eq_getElem hq];rfl
 have hset:a1w (o.map (enOf hs G)) q=(o.map (enOf hs G)).set q ⟨o[q],a5E hs o[q],true⟩:=by unfold a1w;rw[e];rfl
 rw[hset,e2];apply List.ext_getElem
 ·rw[List.length_set,List.length_map,List.length_map]
 ·intro i h1 h2
  have hi:i<o.length:=by rw[List.length_map]at h2;exact h2
  rw[List.getElem_set,List.getElem_map,List.getElem_map];split
  ·rename_i g
   subst g;unfold enOf updG;rw[if_pos rfl]
  ·rename_i g
   have:o[i]≠o[q]:=fun e3=>g ((List.getElem_inj hnd).1 e3.symm)
   unfold enOf updG;rw[if_neg this]
end Go.Eng
namespace Go.Eng
open Go Go.RowKit Go.Proofs
theorem b4x(l:List Nd)(hl:l.length≤1000000000):a0f Tryz.prog 159 [.c (.sl 10 l.length fun k=>ndF (l.getD k nd0))] []
  (fun r own'=>r=.c (.row 0)∧own'=[some (.row 141 10 l.length fun k=>ndF (l.getD k nd0))]):=by
 refine a0i Tryz.func159 rfl ttok ftok rfl rfl rfl (Nat.le_of_ble_eq_true rfl) rfl ?_
 conv=>whnf
 intro b hb;cases b with
 | true =>
  have h0:=hb rfl;obtain rfl:l=[]:=List.eq_nil_of_length_eq_zero h0
  conv=>whnf
  refine⟨_,a0M 2 141 10 (fun k=>ndF (([]:List Nd).getD k nd0)) rfl,?_⟩
  conv=>whnf
  exact⟨[some 0],rfl,rfl,rfl,rfl⟩
 | false =>
  clear hb
  conv=>whnf
  refine⟨⟨by omega,by show(0+l.length)*40≤_;omega⟩,?_⟩
  conv=>whnf
  refine⟨l.length,fun k=>ndF (l.getD k nd0),by omega,fun k hk=>by omega,fun k hk=>by rw[Nat.zero_add],?_⟩
  conv=>whnf
  refine⟨_,Weak.refl _,?_⟩
  conv=>whnf
  exact⟨[some 1],rfl,rfl,rfl,rfl⟩
theorem a9t(l:List Nd)(x:Nd)(i:Nat)(hi:i≤l.length)(q:Nat):(l.take i++x::l.drop i).getD q nd0=if q<i then l.getD q nd0 else if q=i then x else l.getD (q-1) nd0:=by
 split
 ·rename_i h
  rw[List.getD_eq_getElem?_getD,List.getElem?_append_left (by rw[List.length_take];omega),←List.getD_eq_getElem?_getD,a0Q _ _ _ _ h]
 ·rename_i h
  rw[List.getD_eq_getElem?_getD,List.getElem?_append_right (by rw[List.length_take];omega),←List.getD_eq_getElem?_getD,List.length_take,Nat.min_eq_left hi]
  split
  ·rename_i e
   subst e;simp
  ·rename_i e
   obtain⟨r,hr⟩:∃ r,q-i=r+1:=⟨q-i-1,by omega⟩
   rw[hr,List.getD_cons_succ,a1j]
   congr 1
   omega
theorem a9s(l:List Nd)(x:Nd)(i:Nat)(hi:i≤l.length):(l.take i++x::l.drop i).length=l.length+1:=by
 rw[List.length_append,List.length_cons,List.length_take,List.length_drop];omega
theorem b1I(l:List Nd)(x:Nd)(i:Nat)(hi:i≤l.length)(hl:l.length≤1000000000)(g:Nat→List IC)(hg:g 0=ndF x):a0f Tryz.prog 158 [.c (.row 0),vci .i64 i,.c (.row 1)] [some (.row 141 10 l.length fun k=>ndF (l.getD k nd0)),some (.row 141 10 1 g)]
  (fun r own'=>r=.c (.row 3)∧own'=[none,none,none,some (.row 141 10 (l.take i++x::l.drop i).length fun k=>ndF ((l.take i++x::l.drop i).getD k nd0))]):=by
 have hget:=a9t l x i hi;have hlen:=a9s l x i hi;have hg0:∀ q,q<1→g q=ndF x:=fun q hq=>by
  obtain rfl:q=0:=by omega
  exact hg
 generalize hl':l.take i++x::l.drop i=l' at hget hlen;refine a1B 0 rfl (fun h0=>?_) (fun c hc hc2=>?_)
 ·obtain rfl:l=[]:=List.eq_nil_of_length_eq_zero h0
  obtain rfl:i=0:=by simpa using hi
  show a0f Tryz.prog 158 [.c (.v (.slice none 0 0)),vci .i64 (0:Nat),.c (.row 1)] [none,some (.row 141 10 1 g)] _;refine a0i Tryz.func158 rfl ttok ftok rfl rfl rfl (Nat.le_of_ble_eq_true rfl) rfl ?_
  conv=>whnf
  refine⟨⟨rfl,rfl,rfl⟩,?_⟩
  conv=>whnf
  refine⟨by omega,?_⟩
  conv=>whnf
  refine⟨⟨by omega,by show(0+1)*40≤_;omega⟩,?_⟩
  conv=>whnf
  refine⟨l'.length,fun k=>ndF (l'.getD k nd0),by rw[hlen];simp,fun k hk=>by omega,fun k hk=>?_,?_⟩
  ·obtain rfl:k=0:=by omega
   rw[hg];show ndF (l'.getD (0+0) nd0)=_;rw[hget];rfl
  conv=>whnf
  refine⟨_,Weak.refl _,?_⟩
  conv=>whnf
  exact⟨[none,none,none,some 2],rfl,rfl,rfl,rfl⟩
 show a0f Tryz.prog 158 [.c (.view 2 10 0 l.length c),vci .i64 i,.c (.row 1)] [none,some (.row 141 10 1 g),some (.arr 141 10 c l.length fun k=>ndF (l.getD k nd0))] _;refine a0i Tryz.func158 rfl ttok ftok rfl rfl rfl (Nat.le_of_ble_eq_true rfl) rfl ?_
 conv=>whnf
 refine⟨⟨by omega,by omega,by omega,by omega⟩,?_⟩
 conv=>whnf
 refine a0d (fun h=>?_) (fun h=>?_)
 ·have e:(i:Int)=l.length:=by simpa using h
  have e:i=l.length:=by omega
  subst e
  conv=>whnf
  refine⟨trivial,⟨by omega,by omega⟩,fun h1=>?_,fun h1=>?_⟩
  ·refine⟨l'.length,fun k=>ndF (l'.getD k nd0),fun q hq=>?_,?_⟩
   rotate_left
   ·conv=>whnf
    refine⟨_,a0y 6 2 (n:=l'.length) rfl rfl (by omega) (by omega) (by omega) (by omega),?_⟩
    conv=>whnf
    exact⟨[none,none,none,some 3],rfl,rfl,rfl,rfl⟩
   ·rcases Nat.lt_or_ge q l.length with h2 | h2
    ·exact .inr ⟨.inl (by omega),h2,by simp only[hget,if_pos h2]⟩
    ·obtain rfl:q=l.length:=by omega
     refine .inl ⟨by omega,by omega,?_⟩
     rw[show l.length-(0+l.length)=0 by omega,hg]
     simp only[hget,if_neg (Nat.lt_irrefl _),if_true]
  ·refine⟨⟨by omega,by show(l.length+1)*40≤_;omega⟩,fun k=>ndF (l'.getD k nd0),fun q hq=>by simp only[hget,if_pos hq,Nat.zero_add],fun q hq=>?_,fun cap' hcap=>?_⟩
   ·rw[hg0 q hq]
    obtain rfl:q=0:=by omega
    simp only[Nat.add_zero,hget,if_neg (Nat.lt_irrefl _),if_true]
   ·conv=>whnf
    refine⟨_,a0y 6 3 (n:=l'.length) rfl rfl rfl (by omega) (by omega) rfl,?_⟩
    conv=>whnf
    exact⟨[none,none,none,some 4],rfl,rfl,rfl,rfl⟩
 have hne:i<l.length:=by
  have:i≠l.length:=fun e=>by rw[e]at h;simp at h
  omega
 clear h
 conv=>whnf
 have w1:IntKind.i64.wrap ((l.length:Int)+(1:Nat))=(l.length:Int)+(1:Nat):=a0s (by omega) (by omega)
 have w2:IntKind.i64.wrap ((l.length:Int)+(1:Nat)-i)=((l.length+1-i:Nat):Int):=by rw[a0s (by omega) (by omega)];omega
 have w3:IntKind.i64.wrap ((i:Int)+(1:Nat))=((i+1:Nat):Int):=by rw[a0s (by omega) (by omega)];omega
 refine a0d (fun h=>?_) (fun h=>?_)
 ·have h:=of_decide_eq_true h
  rw[w1]at h
  conv=>whnf
  refine⟨⟨by omega,by omega,by omega,by omega⟩,?_⟩
  conv=>whnf
  rw[w1,w2];refine⟨by omega,⟨by omega,by omega,by omega,by show _*(((40:Nat)):Int)≤_;omega⟩,fun q=>if q<i then ndF (l.getD q nd0)else[vu 0,vu 0,vu 0,vu 0,vu 0,vu 0,vr 0,vu 0,vu 0,.v (.bool false)],fun q hq=>?_,fun q hq=>?_,fun cap' hcap=>?_⟩
  ·dsimp only
   rw[if_pos (by omega),show 0+Int.toNat 0+q=q from by omega]
  ·dsimp only
   rw[if_neg (by omega)];rfl
  conv=>whnf
  refine⟨⟨by omega,by omega,by omega,by omega⟩,?_⟩
  conv=>whnf
  refine⟨trivial,by omega,l.length+1,fun q=>if q<i then ndF (l.getD q nd0)else if q=i then ndF x else[vu 0,vu 0,vu 0,vu 0,vu 0,vu 0,vr 0,vu 0,vu 0,.v (.bool false)],fun q hq=>?_,?_⟩
  ·rcases Nat.lt_trichotomy q i with h2 | h2 | h2
   ·exact .inr ⟨.inl (by omega),by omega,by dsimp only;rw[if_pos h2,if_pos h2]⟩
   ·subst h2
    exact .inl ⟨by omega,by omega,by dsimp only;rw[if_neg (Nat.lt_irrefl _),if_pos rfl,hg0 _ (by omega)]⟩
   ·exact .inr ⟨.inr (by omega),by omega,by dsimp only;rw[if_neg (by omega),if_neg (by omega),if_neg (by omega)]⟩
  conv=>whnf
  refine a0I 8 mixed (by kernel_rfl) ttok ftok ?_
  conv=>whnf
  rw[w3];refine⟨⟨by omega,by omega,by omega,by omega⟩,?_⟩
  conv=>whnf
  refine⟨⟨by omega,by omega,by omega,by omega⟩,?_⟩
  conv=>whnf
  refine⟨by omega,by omega,l'.length,fun k=>ndF (l'.getD k nd0),fun q hq=>?_,?_⟩
  ·rcases Nat.lt_trichotomy q i with h2 | h2 | h2
   ·exact .inr ⟨.inl (by omega),by omega,by simp only[hget,if_pos h2]⟩
   ·subst h2
    exact .inr ⟨.inl (by omega),by omega,by simp only[hget,if_neg (Nat.lt_irrefl _),if_true]⟩
   ·refine .inl ⟨by omega,by omega,?_⟩
    simp only[hget,if_neg (show ¬ q<i by omega),if_neg (show ¬ q=i by omega)]
    congr 2
    omega
  conv=>whnf
  refine⟨_,a0y 6 3 (n:=l'.length) rfl rfl (by omega) (by omega) (by omega) (by omega),?_⟩
  conv=>whnf
  exact⟨[none,none,none,some 4],rfl,rfl,rfl,rfl⟩
 ·have h:=of_decide_eq_false h
  rw[w1]at h
  conv=>whnf
  rw[w1];refine⟨⟨by omega,by omega,by omega,by omega⟩,?_⟩
  conv=>whnf
  rw[w3];refine⟨⟨by omega,by omega,by omega,by omega⟩,?_⟩
  conv=>whnf
  refine a2m (t:=73) (r:=4) (ti:=c4G) Tryz.func182 (by kernel_rfl) rfl (by kernel_rfl) (by kernel_rfl) c5p Tryz.underlying73 (a2r (by decide) rfl rfl (by omega) (by omega) (by omega) (by decide)) ?_
  conv=>whnf
  refine a0I 8 mixed (by kernel_rfl) ttok ftok ?_
  conv=>whnf
  rw[w3];refine⟨⟨by omega,by omega,by omega,by omega⟩,?_⟩
  conv=>whnf
  refine⟨⟨by omega,by omega,by omega,by omega⟩,?_⟩
  conv=>whnf
  refine⟨by omega,by omega,l'.length,fun q=>if q<i+1 then ndF (l.getD q nd0)else ndF (l.getD (q-1) nd0),fun q hq=>?_,?_⟩
  ·rcases Nat.lt_or_ge q (i+1)with h2 | h2
   ·exact .inr ⟨.inl (by omega),by omega,by dsimp only;rw[if_pos h2]⟩
   ·refine .inl ⟨by omega,by omega,?_⟩
    dsimp only
    rw[if_neg (by omega)]
    congr 2
    omega
  conv=>whnf
  refine⟨⟨by omega,by omega,by omega,by omega⟩,?_⟩
  conv=>whnf
  refine⟨trivial,by omega,l'.length,fun k=>ndF (l'.getD k nd0),fun q hq=>?_,?_⟩
  ·rcases Nat.lt_trichotomy q i with h2 | h2 | h2
   ·exact .inr ⟨.inl (by omega),by omega,by dsimp only;rw[hget,if_pos h2,if_pos (by omega)]⟩
   ·subst h2
    exact .inl ⟨by omega,by omega,by dsimp only;rw[hget,if_neg (Nat.lt_irrefl _),if_pos rfl,hg0 _ (by omega)]⟩
   ·exact .inr ⟨.inr (by omega),by omega,by dsimp only;rw[hget,if_neg (by omega),if_neg (by omega),if_neg (by omega)]⟩
  conv=>whnf
  refine⟨_,a0y 6 2 (n:=l'.length) rfl rfl (by omega) (by omega) (by omega) (by omega),?_⟩
  conv=>whnf
  exact⟨[none,none,none,some 3],rfl,rfl,rfl,rfl⟩
abbrev liZ:AV:=.agg [.v (.slice none 0 0),vi 0,vi 0,.v (.slice none 0 0)]
theorem vr_c(c:Int):a0f Tryz.prog 154 [vci .i32 c] [] (fun r own'=>own'=[]∧r=vcb (vldR c)):=by
 refine a0e Tryz.func154 rfl ttok ftok rfl rfl rfl (Nat.le_of_ble_eq_true rfl) ?_
 conv=>whnf
 have hp:∀(a b:Bool) (x:Operand),a0J a x (.const (.bool false)) b false=(a&&b):=fun a b x=>by cases a <;> cases b <;> rfl
 refine a0d (fun g=>?_) (fun g=>?_)
 ·have g:(decide (0≤c)&&decide (c<55296))=true:=by
   cases h1:decide (0≤c) <;> cases h2:decide (c<55296) <;> rw[h1,h2]at g <;> first | rfl | cases g
  conv=>whnf
  unfold vldR;rw[g]
  all_goals first | rfl | exact⟨rfl,rfl⟩
 ·have g:(decide (0≤c)&&decide (c<55296))=false:=by
   cases h1:decide (0≤c) <;> cases h2:decide (c<55296) <;> rw[h1,h2]at g <;> first | rfl | cases g
  conv=>whnf
  refine a0d (fun g2=>?_) (fun g2=>?_)
  ·have g2:(decide (57343<c)&&decide (c≤1114111))=true:=by
    cases h1:decide (57343<c) <;> cases h2:decide (c≤1114111) <;> rw[h1,h2]at g2 <;> first | rfl | cases g2
   conv=>whnf
   unfold vldR;rw[g2];simp
  ·have g2:(decide (57343<c)&&decide (c≤1114111))=false:=by
    cases h1:decide (57343<c) <;> cases h2:decide (c≤1114111) <;> rw[h1,h2]at g2 <;> first | rfl | cases g2
   conv=>whnf
   unfold vldR;rw[g,g2]
   all_goals first | rfl | exact⟨rfl,rfl⟩
theorem b9B{hs:HS}{l:List Nd}(L:LSt hs l)(cs:Ck)(a:I2):a0f Tryz.prog 33 [liA cs l,idA a] [] (fun r own'=>own'=[]∧((∃ p,p∈hs∧p.1.id=a∧r=.tup [.agg (itF p.1),vcb true])∨(¬hasI hs a∧r=.tup [.agg (itF it0),vcb false]))):=by
 refine a0e Tryz.func33 rfl ttok ftok rfl rfl rfl (Nat.le_of_ble_eq_true rfl) ?_
 conv=>whnf
 refine a0a (a8f cs l L.srt L.len a) rfl ?_;rintro _ ⟨i,hf,rfl⟩
 by_cases hh:hasI hs a
 ·rw[decide_eq_true ((L.has a).2 hh)]
  obtain⟨hil,hie,him⟩:=L.at_ hf hh
  conv=>whnf
  refine⟨⟨by omega,by omega⟩,?_⟩
  conv=>whnf
  rw[a0k];exact .inl ⟨_,him,hie,rfl⟩
 ·rw[decide_eq_false (fun g=>hh ((L.has a).1 g))]
  conv=>whnf
  exact .inr ⟨hh,rfl⟩
theorem a5O(cs:Ck)(l:List Nd):a0f Tryz.prog 31 [liA cs l] [] (fun r own'=>own'=[]∧r=ixA cs):=by
 refine a0e Tryz.func31 rfl ttok ftok rfl rfl rfl (Nat.le_of_ble_eq_true rfl) ?_
 conv=>whnf
 all_goals first | rfl | exact⟨rfl,rfl⟩
theorem b4E{hs:HS}{G:I2→Bool}{cs:Ck}{l:List Nd}{N:Nat}(V:LV hs G cs l N)(hN:N≤20000)(a:I2):a0f Tryz.prog 88 [liA cs l,idA a] []
  (fun r own'=>own'=[]∧((hasI hs a∧∃ cs2,LV hs (updG G a true) cs2 l N∧r=.tup [liA cs2 l,.c (.v .nilIface)])∨(¬hasI hs a∧r=.tup [liZ,erC 1]))):=by
 have hs1:=V.sum;have hc1:=V.ck;have hl1:=V.len;obtain⟨o,hO,hf⟩:=V.ord;have hix:=LV.ixO hf;refine a0e Tryz.func88 rfl ttok ftok rfl rfl rfl (Nat.le_of_ble_eq_true rfl) ?_
 conv=>whnf
 refine a0a (c2k cs (by omega) (by omega) a) rfl ?_
 rintro _ rfl
 by_cases hh:hasI hs a
 ·obtain⟨q,hq1,hq2,hq3⟩:=a8k hix (hO.has.2 hh)
  obtain⟨cs2,h1,h2,h3⟩:=b7i hq1;rw[h1]
  conv=>whnf
  refine .inl ⟨hh,cs2,⟨V.L,⟨o,hO,?_⟩,V.len,by omega⟩,rfl⟩
  rw[h2,hf,b3a o (hO.nodup V.L.ok) hq2,hq3]
 ·have hn:hdC cs a=none:=by
   have:=a8j hix (fun g=>hh (hO.has.1 g));have hpf:(plcC cs a).map (fun p=>sumL (cs.take p.1)+p.2)=fnE cs.flatten a:=a4x cs a;rw[this]at hpf;unfold hdC;cases hp:plcC cs a with
   | none=>rfl
   | some p=>rw[hp]at hpf;cases hpf
  rw[hn]
  conv=>whnf
  exact .inr ⟨hh,rfl⟩
end Go.Eng
namespace Go.Eng
open Go Go.RowKit Go.Proofs
theorem b0U{P:Program}[a0h P](J:St→Prop){id:Nat}{ops:Array Oper}{K:St→Prop}{st:St}(h:a4V P id ops (fun st'=>∃ S,Weak st' S∧J S) st)(hK:∀ S,J S→K S):a4V P id ops K st:=by
 refine⟨fun may w0 h0 a w hs=>?_⟩;refine Code.wp_mono (fun e a' w' hh=>?_) (h.out may w0 h0 a w hs);obtain⟨h1,st',h2,S,h3,h4⟩:=hh;exact⟨h1,S,h3.out may w0 h0 a' w' h2,hK S h4⟩
def adV(hs:HS)(G:I2→Bool)(N:Nat)(x:It)(gone:Bool)(r:AV):Prop :=
 (okA hs x∧∃ cs2 l2,LV ((x,hgOf hs x)::hs) (updG G x.id gone) cs2 l2 (N+1)∧r=.tup [liA cs2 l2,.c (.v .nilIface)])∨(¬okA hs x∧r=.tup [liZ,erC 1])
theorem b4G{hs:HS}{G:I2→Bool}{cs:Ck}{l:List Nd}{N:Nat}(V:LV hs G cs l N)(hN:N≤20000)(x:It)(gone:Bool):a0f Tryz.prog 122 [liA cs l,.agg (itF x),vcb gone] [] (fun r own'=>own'=[]∧adV hs G N x gone r):=by
 have hs1:=V.sum;have hc1:=V.ck;have hl1:=V.len;have L:=V.L;obtain⟨o,hO,hf⟩:=V.ord;have hix:=LV.ixO hf;have hlo:=hO.length;refine a0e Tryz.func122 rfl ttok ftok rfl rfl rfl (Nat.le_of_ble_eq_true rfl) ?_
 conv=>whnf
 refine a0a (a8f cs l L.srt L.len x.id) rfl ?_;rintro _ ⟨i,hfd,rfl⟩
 by_cases hh:hasI hs x.id
 ·rw[decide_eq_true ((L.has _).2 hh)]
  conv=>whnf
  exact .inr ⟨fun h=>h.new hh,rfl⟩
 rw[decide_eq_false (fun g=>hh ((L.has _).1 g))]
 conv=>whnf
 refine a0a (a3k x.id) rfl ?_;rintro _ rfl
 by_cases hz:x.id.1=0
 ·rw[beq_iff_eq.2 hz]
  conv=>whnf
  exact .inr ⟨fun h=>h.nz hz,rfl⟩
 rw[beq_eq_false_iff_ne.2 hz]
 conv=>whnf
 have hkn:∀ a,(decide (hasN l a)||a.1==0)=true↔(hasI hs a∨a.1=0):=fun a=>by
  rw[Bool.or_eq_true,decide_eq_true_iff,beq_iff_eq,L.has]
 refine a0a (b1M cs l L.srt L.len x.left) rfl ?_;rintro _ rfl
 by_cases hL:hasI hs x.left∨x.left.1=0
 rotate_left
 ·rw[Bool.eq_false_iff.2 (fun g=>hL ((hkn _).1 g))]
  conv=>whnf
  exact .inr ⟨fun h=>hL h.left,rfl⟩
 rw[(hkn _).2 hL]
 conv=>whnf
 refine a0a (b1M cs l L.srt L.len x.right) rfl ?_;rintro _ rfl
 by_cases hR:hasI hs x.right∨x.right.1=0
 rotate_left
 ·rw[Bool.eq_false_iff.2 (fun g=>hR ((hkn _).1 g))]
  conv=>whnf
  exact .inr ⟨fun h=>hR h.right,rfl⟩
 rw[(hkn _).2 hR]
 conv=>whnf
 refine a0a (vr_c x.ch) rfl ?_;rintro _ rfl;cases hch:vldR x.ch with
 | false =>
  conv=>whnf
  exact .inr ⟨fun h=>(by rw[h.ch]at hch;cases hch),rfl⟩
 | true =>
 have hok:okA hs x:=⟨hh,hz,hL,hR,hch⟩;have hoH:=b9u L.ok hok
 conv=>whnf
 refine a0a (b9C L cs x) rfl ?_;rintro _ rfl;have hfn:fnE cs.flatten x.id=none:=a8j hix (fun g=>hh (hO.has.1 g));have hpl:=b7a L cs (by omega) (by omega) hO hix x (hgOf hs x) hoH
 obtain⟨h,hhe⟩:∃ h,hgOf hs x=h:=⟨_,rfl⟩;rw[hhe]at hoH hpl ⊢
 conv=>whnf
 refine b0U (fun S=>∃(n:Nat) (cs2:Ck),n≤o.length∧a0V ((x,h)::hs) (o.take n++[x.id]++o.drop n)∧cs2.flatten=cs.flatten.take n++[⟨x.id,x.ch,gone⟩]++cs.flatten.drop n∧cs2.length≤cs.length+1 ∧
  S=⟨82,0,[(2,vcb gone),(3,.c (.own 0 0)),(4,.c (.own 1 0)),(6,.c (.own 2 0)),(8,vci .i64 (i:Int)),(10,.c (.own 3 0)),(11,.c (.own 4 0)),(12,.c (.v .nilIface))],
   [some (.cells 75 (liF cs l)),some (.cells 61 (itF x)),some (.cells 75 [.v (.slice none 0 0),vi 0,vi 0,.v (.slice none 0 0)]),some (.cells 113 (hgF h)),some (.cells 72 (ixF cs2))]⟩) ?_ ?_
 ·refine a0m (.rd 0 (.rd 1 (.rd 2 (.rd 3 (.rd 4 (.rd 6 (.rd 7 (.rd 8 (.rd 9 (.rd 10 (.rd 11 (.alt (.ef 5 (.alt (.ef 12 (.rd 13 (.rd 14 (.rd 15 (.ef 16 (.ef 17 (.rd 18 (.nil)))))))) (.ef 16 (.ef 12 (.rd 13 (.rd 14 (.rd 15 (.ef 17 (.rd 18 (.nil)))))))))) (.ef 16 (.ef 5 (.ef 12 (.rd 13 (.rd 14 (.rd 15 (.ef 17 (.rd 18 (.nil))))))))))))))))))))) [4] mixed (by kernel_rfl) ttok ftok ?_
  conv=>whnf
  refine⟨?_,?_⟩
  ·conv=>whnf
   refine a0a hpl rfl ?_;rintro _ ⟨n,hn,hO2,rfl⟩
   conv=>whnf
   refine⟨?_,?_⟩
   ·conv=>whnf
    refine a0a (b0y b4s cs (by omega) (by omega) (n:Int) ⟨x.id,x.ch,gone⟩) rfl ?_
    rintro _ hp;obtain⟨cs2,g1,g2,rfl⟩:=b0z (n:=n) hp (by omega) hfn
    conv=>whnf
    exact⟨_,a0b [2,3,4,6,8,10,11,12] [some 0,some 1,some 2,some 3,some 4] rfl rfl,n,cs2,hn,hO2,g1,g2,rfl⟩
   ·conv=>whnf
    refine a0a (b0y b4s cs (by omega) (by omega) (n:Int) ⟨x.id,x.ch,gone⟩) rfl ?_
    rintro _ hp;obtain⟨cs2,g1,g2,rfl⟩:=b0z (n:=n) hp (by omega) hfn
    conv=>whnf
    exact⟨_,a0b [2,3,4,6,8,10,11,12] [some 0,some 1,some 2,some 3,some 4] rfl rfl,n,cs2,hn,hO2,g1,g2,rfl⟩
  ·conv=>whnf
   refine a0a hpl rfl ?_;rintro _ ⟨n,hn,hO2,rfl⟩
   conv=>whnf
   refine a0a (b0y b4s cs (by omega) (by omega) (n:Int) ⟨x.id,x.ch,gone⟩) rfl ?_
   rintro _ hp;obtain⟨cs2,g1,g2,rfl⟩:=b0z (n:=n) hp (by omega) hfn
   conv=>whnf
   exact⟨_,a0b [2,3,4,6,8,10,11,12] [some 0,some 1,some 2,some 3,some 4] rfl rfl,n,cs2,hn,hO2,g1,g2,rfl⟩
 ·rintro st ⟨n,cs2,hn,hO2,hc2,hl2,rfl⟩
  have hil:=hfd.le;have hll:l.length≤20000:=by rw[L.perm.length_eq];omega
  conv=>whnf
  refine b2s ⟨82,0,[(6,.c (.own 0 0)),(7,.c (.v .nilIface))],[some (.cells 75 [.sl 2 cs2.length (chR cs2),vi (sumL cs2:Int),vi (shnC cs2:Int),.row 1]),some (.row 141 10 (l.take i++(x,h)::l.drop i).length (ndR (l.take i++(x,h)::l.drop i)))]⟩ ?_ ?_
  ·refine a0m (.rd 0 (.rd 1 (.rd 2 (.rd 4 (.rd 5 (.rd 6 (.rd 7 (.alt (.ef 3 (.ef 8 (.ef 9 (.rd 10 (.ef 11 (.rd 12 (.nil))))))) (.ef 8 (.ef 3 (.ef 9 (.rd 10 (.ef 11 (.rd 12 (.nil))))))))))))))) [2,5,6] mixed (by kernel_rfl) ttok ftok ?_
   conv=>whnf
   refine⟨?_,?_⟩
   ·conv=>whnf
    refine a0c [] rfl rfl rfl rfl (b4x l (by omega)) ?_
    rintro r own2 ⟨rfl,rfl⟩;refine⟨.c (.row 5),[none,none,some (.cells 75 [.v (.slice none 0 0),vi 0,vi 0,.v (.slice none 0 0)]),none,none,some (.row 141 10 l.length (ndR l))],rfl,rfl,?_⟩
    conv=>whnf
    refine⟨fun _=>ndF (x,h),fun q hq=>?_,?_⟩
    ·obtain rfl:q=0:=by omega
     rfl
    conv=>whnf
    refine a0c [some 5,some 6] rfl rfl rfl rfl (b1I l (x,h) i hil (by omega) (fun _=>ndF (x,h)) rfl) ?_
    rintro r own2 ⟨rfl,rfl⟩;refine⟨.c (.row 8),[none,none,some (.cells 75 [.v (.slice none 0 0),vi 0,vi 0,.v (.slice none 0 0)]),none,none,none,none,none,some (.row 141 10 (l.take i++(x,h)::l.drop i).length (ndR (l.take i++(x,h)::l.drop i)))],rfl,rfl,?_⟩
    conv=>whnf
    exact a0b [6,7] [some 2,some 8] rfl rfl
   ·conv=>whnf
    refine⟨fun _=>ndF (x,h),fun q hq=>?_,?_⟩
    ·obtain rfl:q=0:=by omega
     rfl
    conv=>whnf
    refine a0c [] rfl rfl rfl rfl (b4x l (by omega)) ?_
    rintro r own2 ⟨rfl,rfl⟩;refine⟨.c (.row 6),[none,none,some (.cells 75 [.v (.slice none 0 0),vi 0,vi 0,.v (.slice none 0 0)]),none,none,some (.row 141 10 1 fun _=>ndF (x,h)),some (.row 141 10 l.length (ndR l))],rfl,rfl,?_⟩
    conv=>whnf
    refine a0c [some 6,some 5] rfl rfl rfl rfl (b1I l (x,h) i hil (by omega) (fun _=>ndF (x,h)) rfl) ?_
    rintro r own2 ⟨rfl,rfl⟩;refine⟨.c (.row 8),[none,none,some (.cells 75 [.v (.slice none 0 0),vi 0,vi 0,.v (.slice none 0 0)]),none,none,none,none,none,some (.row 141 10 (l.take i++(x,h)::l.drop i).length (ndR (l.take i++(x,h)::l.drop i)))],rfl,rfl,?_⟩
    conv=>whnf
    exact a0b [6,7] [some 2,some 8] rfl rfl
  conv=>whnf
  refine⟨fun _ _=>rfl,?_⟩
  conv=>whnf
  have hnd:=c1P L hoH hfd (by omega)
  refine .inl ⟨hok,cs2,l.take i++(x,h)::l.drop i,?_,rfl⟩;rw[hhe];refine⟨hnd,⟨_,hO2,?_⟩,by rw[List.length_cons];omega,by omega⟩
  rw[hc2,hf,b7r hoH hO n]
end Go.Eng
namespace Go.Eng
open Go Go.RowKit Go.Proofs
def txL:List En→List Int
 | []=>[]
 | e::l=>if e.gone=true then txL l else e.ch::txL l
theorem a7b:∀(a b:List En),txL (a++b)=txL a++txL b
 | [],b=>rfl
 | e::a,b=>by
  rw[List.cons_append,txL,txL,a7b a b];split <;> rfl
theorem b6l{l:List En}{k:Nat}(hk:k<l.length):txL (l.take (k+1))=txL (l.take k)++if(l.getD k en0).gone=true then[]else[(l.getD k en0).ch]:=by
 rw[a7c hk,a7b];unfold txL;split <;> rfl
theorem b3H:∀(l:List En),(txL l).length≤l.length
 | []=>Nat.le_refl _
 | e::l=>by
  have:=b3H l;unfold txL;split
  ·rw[List.length_cons];omega
  ·rw[List.length_cons,List.length_cons];omega
def txS(es:List En):ByteArray:=runesBytes (txL es)
def txI(cs:Ck)(l:List Nd)(n:Nat)(st:St):Prop:=∃ k:Nat,n=cs.flatten.length-k∧k≤cs.flatten.length ∧
 st=⟨25,0,[(3,.c (.row 0)),(8,enS cs.flatten),(9,vci .i64 (cs.flatten.length:Int)),(10,vci .i64 (k:Int))],[some (.row 21 1 (txL (cs.flatten.take k)).length (b9b (txL (cs.flatten.take k))))]⟩
theorem c1t(cs:Ck)(l:List Nd)(hl:cs.length≤100000)(hs:sumL cs≤100000):a0f Tryz.prog 28 [liA cs l] [] (fun r own'=>own'=[]∧r=vcs (txS cs.flatten)):=by
 have hfl:cs.flatten.length=sumL cs:=rfl;refine a0e Tryz.func28 rfl ttok ftok rfl rfl rfl (Nat.le_of_ble_eq_true rfl) ?_
 conv=>whnf
 refine a0a (b5X cs (by omega) (by omega)) rfl ?_
 rintro _ rfl
 conv=>whnf
 refine a0B ttok ftok (txI cs l) ((a0M 3 21 1 (b9b []) rfl).trans (a0b [3,8,9,10] [some 1] rfl rfl)) ⟨0,rfl,Nat.zero_le _,rfl⟩ ?_;rintro m st ⟨k,rfl,hk,rfl⟩;have e1:=e64 (k:=k) (by omega)
 have hx:=b3H (cs.flatten.take k);rw[List.length_take]at hx
 conv=>whnf
 refine a0d (fun h=>?_) (fun h=>?_)
 ·have h:=of_decide_eq_true h
  have hkl:k<cs.flatten.length:=by omega
  have hsn:=b6l hkl
  conv=>whnf
  refine⟨⟨by omega,by omega⟩,?_⟩
  conv=>whnf
  rw[a0k];cases hg:(cs.flatten.getD k en0).gone with
  | true =>
   rw[hg,if_pos rfl,List.append_nil]at hsn
   conv=>whnf
   rw[e1];refine⟨cs.flatten.length-(k+1),_,by omega,a0b [3,8,9,10] [some 0] rfl rfl,k+1,rfl,by omega,?_⟩
   rw[hsn]
   all_goals rfl
  | false =>
   rw[hg,if_neg (by decide)]at hsn
   generalize cs.flatten.getD k en0=e at hsn
   conv=>whnf
   refine⟨fun _=>[vr e.ch],fun j hj2=>?_,?_⟩
   ·obtain rfl:j=0:=by omega
    rfl
   conv=>whnf
   refine⟨⟨by omega,by show(List.length (txL (cs.flatten.take k))+1)*4≤_;omega⟩,?_⟩
   conv=>whnf
   refine app1 (enc:=fun n:Int=>[vr n]) (d:=0) (l:=txL (cs.flatten.take k)) e.ch (fun k hk=>rfl) rfl ?_
   conv=>whnf
   rw[e1,←hsn];exact⟨cs.flatten.length-(k+1),_,by omega,a0b [3,8,9,10] [some 3] rfl rfl,k+1,rfl,by omega,rfl⟩
 ·have h:=of_decide_eq_false h
  have hk2:k=cs.flatten.length:=by omega
  subst hk2;rw[List.take_length]
  conv=>whnf
  refine⟨fun _ _=>rfl,?_⟩
  conv=>whnf
  refine⟨txL cs.flatten,rfl,fun _ _=>rfl,?_⟩
  conv=>whnf
  all_goals first | rfl | exact⟨rfl,rfl⟩
theorem a7O:∀(l:List En) (n p:Nat),p∈shp l n→n≤p∧p<n+l.length
 | [],n,p,h=>by cases h
 | e::l,n,p,h=>by
  have ih:=a7O l (n+1) p;unfold shp at h;rw[List.length_cons];split at h
  ·have:=ih h;omega
  ·rcases List.mem_cons.1 h with rfl | h
   ·omega
   ·have:=ih h;omega
def btA(es:List En)(k:Nat):Nat:=if k=0 then 0 else(shp es 0).getD (k-1) 0+1
def btL(es:List En)(k:Nat):I2:=if k=0 then(0,0)else(es.getD (btA es k-1) en0).id
def btR(es:List En)(k:Nat):I2:=if btA es k<es.length then(es.getD (btA es k) en0).id else(0,0)
def btV(es:List En)(k:Int):AV:=if k<0∨(shn es:Int)<k then .tup [idA (0,0),idA (0,0),erC 3]else .tup [idA (btL es k.toNat),idA (btR es k.toNat),.c (.v .nilIface)]
theorem b5L(cs:Ck)(l:List Nd)(hl:cs.length≤100000)(hs:sumL cs≤100000)(k:Int):a0f Tryz.prog 69 [liA cs l,vci .i64 k] [] (fun r own'=>own'=[]∧r=btV cs.flatten k):=by
 have hfl:cs.flatten.length=sumL cs:=rfl;have hse:shn cs.flatten=shnC cs:=rfl;have hsl:=b0p cs;have hsh:(shp cs.flatten 0).length=shnC cs:=a6e _ _;refine a0e Tryz.func69 rfl ttok ftok rfl rfl rfl (Nat.le_of_ble_eq_true rfl) ?_
 conv=>whnf
 by_cases h0:k<0
 ·rw[decide_eq_true h0]
  conv=>whnf
  unfold btV;rw[if_pos (.inl h0)]
  all_goals first | rfl | exact⟨rfl,rfl⟩
 rw[decide_eq_false h0]
 conv=>whnf
 refine a0a (b8U cs) rfl ?_;rintro _ rfl
 conv=>whnf
 refine a0d (fun h=>?_) (fun h=>?_)
 ·have h:=of_decide_eq_true h
  conv=>whnf
  unfold btV;rw[if_pos (.inr (by omega))]
  all_goals first | rfl | exact⟨rfl,rfl⟩
 have h:=of_decide_eq_false h;obtain⟨K,rfl⟩:∃ K:Nat,k=(K:Int):=⟨k.toNat,(Int.toNat_of_nonneg (by omega)).symm⟩
 have hres:∀ r,r=.tup [idA (btL cs.flatten K),idA (btR cs.flatten K),.c (.v .nilIface)]→r=btV cs.flatten (K:Int):=fun r hr=>by
  unfold btV;rw[if_neg (by omega),a0k];exact hr
 conv=>whnf
 refine a0d (fun h2=>?_) (fun h2=>?_)
 ·have h2:=of_decide_eq_true h2
  have hK:0<K:=by omega
  have hw:IntKind.i64.wrap ((K:Int)-1)=((K-1:Nat):Int):=by rw[a0s (by omega) (by omega)];omega
  have hca:=at_c cs (by omega) (by omega) ((K-1:Nat):Int)
  unfold atV at hca;rw[if_pos (by rw[hse];omega),a0k]at hca
  have hAp:btA cs.flatten K=(shp cs.flatten 0).getD (K-1) 0+1:=by unfold btA;rw[if_neg (by omega)]
  have hpm:(shp cs.flatten 0).getD (K-1) 0<cs.flatten.length:=by
   have hin:=a1a (d:=0) (show K-1<(shp cs.flatten 0).length by omega)
   have:=(a7O _ _ _ hin).2;omega
  have hL:btL cs.flatten K=(cs.flatten.getD ((shp cs.flatten 0).getD (K-1) 0) en0).id:=by unfold btL;rw[if_neg (by omega),hAp,Nat.add_sub_cancel]
  generalize (shp cs.flatten 0).getD (K-1) 0=p at hca hAp hpm hL;have hce:=a5n cs (by omega) (by omega) (p:Int)
  unfold enV at hce;rw[if_pos (by omega),a0k]at hce
  have e1:=e64 (k:=p) (by omega)
  have hce2:=a5n cs (by omega) (by omega) ((p+1:Nat):Int)
  unfold enV at hce2;generalize cs.flatten.getD p en0=e at hce hL
  conv=>whnf
  rw[hw];refine a0a hca rfl ?_;rintro _ rfl
  conv=>whnf
  refine a0a hce rfl ?_;rintro _ rfl
  conv=>whnf
  rw[e1];refine a0a hce2 rfl ?_;rintro _ rfl
  by_cases h3:p+1<cs.flatten.length
  ·have hR:btR cs.flatten K=(cs.flatten.getD (p+1) en0).id:=by unfold btR;rw[hAp,if_pos h3]
   rw[if_pos (by omega),a0k]
   generalize cs.flatten.getD (p+1) en0=e2 at hR
   conv=>whnf
   refine a0m (.rd 0 (.rd 1 (.ef 2 (.ef 3 (.rd 4 (.nil)))))) [1,2] mixed (by kernel_rfl) ttok ftok ?_
   conv=>whnf
   exact hres _ (by rw[hL,hR];rfl)
  ·have hR:btR cs.flatten K=(0,0):=by unfold btR;rw[hAp,if_neg h3]
   rw[if_neg (by omega)]
   conv=>whnf
   refine a0m (.rd 0 (.rd 1 (.ef 2 (.ef 3 (.rd 4 (.nil)))))) [1,2] mixed (by kernel_rfl) ttok ftok ?_
   conv=>whnf
   exact hres _ (by rw[hL,hR];rfl)
 ·have h2:=of_decide_eq_false h2
  obtain rfl:K=0:=by omega
  have hA0:btA cs.flatten 0=0:=rfl;have hce2:=a5n cs (by omega) (by omega) 0
  unfold enV at hce2
  conv=>whnf
  refine a0a hce2 rfl ?_;rintro _ rfl
  by_cases h3:0<cs.flatten.length
  ·have hR:btR cs.flatten 0=(cs.flatten.getD 0 en0).id:=by unfold btR;rw[hA0,if_pos h3]
   rw[if_pos (by omega),show Int.toNat 0=0 from rfl]
   generalize cs.flatten.getD 0 en0=e2 at hR
   conv=>whnf
   refine a0m (.rd 0 (.rd 1 (.ef 2 (.ef 3 (.rd 4 (.nil)))))) [1,2] mixed (by kernel_rfl) ttok ftok ?_
   conv=>whnf
   exact hres _ (by rw[hR];rfl)
  ·have hR:btR cs.flatten 0=(0,0):=by unfold btR;rw[hA0,if_neg h3]
   rw[if_neg (by omega)]
   conv=>whnf
   refine a0m (.rd 0 (.rd 1 (.ef 2 (.ef 3 (.rd 4 (.nil)))))) [1,2] mixed (by kernel_rfl) ttok ftok ?_
   conv=>whnf
   exact hres _ (by rw[hR];rfl)
end Go.Eng
namespace Go.Eng
open Go Go.RowKit Go.Proofs
theorem c2N(n b:Int)(hb:0<b):(n.tmod b<0→n%b=n.tmod b+b)∧(¬n.tmod b<0→n%b=n.tmod b):=by
 have h0:=Int.emod_nonneg n (show b≠0 by omega)
 have h1:=Int.emod_lt_of_pos n hb;have h2:(b.natAbs:Int)=b:=Int.natAbs_of_nonneg (by omega)
 rw[Int.tmod_eq_emod];split <;> constructor <;> intro h <;> omega
theorem b6R(n by_:Int)(hn:-9223372036854775808≤n∧n≤9223372036854775807)(hb:0<by_∧by_≤1000000):a0f Tryz.prog 15 [vci .i64 n,vci .i64 by_] [] (fun r own'=>own'=[]∧r=vci .i64 (n%by_)):=by
 refine a0e Tryz.func15 rfl ttok ftok rfl rfl rfl (Nat.le_of_ble_eq_true rfl) ?_
 conv=>whnf
 refine⟨hb.1,?_⟩
 conv=>whnf
 obtain⟨t1,t2⟩:=c2N n by_ hb.1;have h0:=Int.emod_nonneg n (show by_≠0 by omega)
 have h1:=Int.emod_lt_of_pos n hb.1
 by_cases h:n.tmod by_<0
 ·rw[decide_eq_true h]
  conv=>whnf
  rw[←t1 h,a0s (by omega) (by omega)]
  all_goals first | rfl | exact⟨rfl,rfl⟩
 ·rw[decide_eq_false h]
  conv=>whnf
  rw[←t2 h]
  all_goals first | rfl | exact⟨rfl,rfl⟩
abbrev idR(l:List I2):Nat→List IC:=fun k=>idF (l.getD k (0,0))
abbrev c4z(l:List I2):AV:=.c (.sl 2 l.length (idR l))
end Go.Eng
namespace Go.Eng
open Go Go.RowKit Go.Proofs
def idsL(es:List En)(at_ n:Nat):List I2:=(List.range n).map (fun k=>(es.getD ((shp es 0).getD (at_+k) 0) en0).id)
theorem c4q(es:List En)(at_ n:Nat):(idsL es at_ n).length=n:=by unfold idsL;rw[List.length_map,List.length_range]
theorem c4u(es:List En)(at_ n:Nat):idsL es at_ (n+1)=idsL es at_ n++[(es.getD ((shp es 0).getD (at_+n) 0) en0).id]:=by
 unfold idsL;rw[List.range_succ,List.map_append];rfl
def c4j(es:List En)(a n:Int):Prop:=a<0∨n<0∨(shn es:Int)<a∨(shn es:Int)-a<n
instance (es:List En) (a n:Int):Decidable (c4j es a n):=inferInstanceAs (Decidable (_∨_∨_∨_))
def lsI(cs:Ck)(l:List Nd)(a n:Nat)(m:Nat)(st:St):Prop:=∃ k:Nat,m=n-k∧k≤n ∧
 st=⟨64,0,[(1,vci .i64 (a:Int)),(3,.c (.own 0 0)),(8,.c (.row 1)),(37,vci .i64 (n:Int)),(38,vci .i64 (k:Int))],[some (.cells 75 (liF cs l)),some (.row 59 2 (idsL cs.flatten a k).length (idR (idsL cs.flatten a k)))]⟩
theorem c4x(cs:Ck)(l:List Nd)(hl:cs.length≤100000)(hs:sumL cs≤100000)(a n:Int):a0f Tryz.prog 55 [liA cs l,vci .i64 a,vci .i64 n] []
  (fun r own'=>own'=[]∧r=if c4j cs.flatten a n then .tup [.c (.v (.slice none 0 0)),erC 3]else .tup [c4z (idsL cs.flatten a.toNat n.toNat),.c (.v .nilIface)]):=by
 have hfl:cs.flatten.length=sumL cs:=rfl;have hse:shn cs.flatten=shnC cs:=rfl;have hsl:=b0p cs;have hsh:(shp cs.flatten 0).length=shnC cs:=a6e _ _;have hbad:∀ r:AV,c4j cs.flatten a n→r=.tup [.c (.v (.slice none 0 0)),erC 3]→r=if c4j cs.flatten a n then .tup [.c (.v (.slice none 0 0)),erC 3]else .tup [c4z (idsL cs.flatten a.toNat n.toNat),.c (.v .nilIface)]:=fun r h1 h2=>by rw[if_pos h1];exact h2
 refine a0e Tryz.func55 rfl ttok ftok rfl rfl rfl (Nat.le_of_ble_eq_true rfl) ?_
 conv=>whnf
 by_cases h1:a<0
 ·rw[decide_eq_true h1]
  conv=>whnf
  exact hbad _ (.inl h1) rfl
 rw[decide_eq_false h1]
 conv=>whnf
 by_cases h2:n<0
 ·rw[decide_eq_true h2]
  conv=>whnf
  exact hbad _ (.inr (.inl h2)) rfl
 rw[decide_eq_false h2]
 conv=>whnf
 refine a0a (b8U cs) rfl ?_;rintro _ rfl
 conv=>whnf
 by_cases h3:a>(shnC cs:Int)
 ·rw[decide_eq_true h3]
  conv=>whnf
  exact hbad _ (.inr (.inr (.inl (by omega)))) rfl
 rw[decide_eq_false h3];obtain⟨A,rfl⟩:∃ A:Nat,a=(A:Int):=⟨a.toNat,(Int.toNat_of_nonneg (by omega)).symm⟩
 obtain⟨N,rfl⟩:∃ N:Nat,n=(N:Int):=⟨n.toNat,(Int.toNat_of_nonneg (by omega)).symm⟩
 have hw:IntKind.i64.wrap ((shnC cs:Int)-(A:Int))=(shnC cs:Int)-A:=a0s (by omega) (by omega)
 conv=>whnf
 refine a0a (b8U cs) rfl ?_;rintro _ rfl
 conv=>whnf
 rw[hw];refine a0d (fun g=>?_) (fun g=>?_)
 ·have g:=of_decide_eq_true g
  conv=>whnf
  exact hbad _ (.inr (.inr (.inr (by omega)))) rfl
 have g:=of_decide_eq_false g;have hno:¬c4j cs.flatten (A:Int) (N:Int):=by unfold c4j;omega
 rw[if_neg hno,a0k,a0k];have hAN:A+N≤shnC cs:=by omega
 conv=>whnf
 refine a0B ttok ftok (lsI cs l A N) ((a0M 8 59 2 (idR []) rfl).trans (a0b [1,3,8,37,38] [some 0,some 1] rfl rfl)) ⟨0,rfl,Nat.zero_le _,rfl⟩ ?_;rintro m st ⟨k,rfl,hk,rfl⟩;have e1:=e64 (k:=k) (by omega)
 have hw2:IntKind.i64.wrap ((A:Int)+(k:Int))=((A+k:Nat):Int):=by rw[a0s (by omega) (by omega)];omega
 have hil:=c4q cs.flatten A k
 conv=>whnf
 refine a0d (fun g2=>?_) (fun g2=>?_)
 ·have g2:=of_decide_eq_true g2
  have hkN:k<N:=by omega
  have hpm:(shp cs.flatten 0).getD (A+k) 0<cs.flatten.length:=by
   have hin:=a1a (d:=0) (show A+k<(shp cs.flatten 0).length by omega)
   have:=(a7O _ _ _ hin).2;omega
  have hsn:=c4u cs.flatten A k;have hca:=at_c cs (by omega) (by omega) ((A+k:Nat):Int)
  unfold atV at hca;rw[if_pos (by rw[hse];omega),a0k]at hca
  generalize (shp cs.flatten 0).getD (A+k) 0=p at hpm hsn hca;have hce:=a5n cs (by omega) (by omega) (p:Int)
  unfold enV at hce;rw[if_pos (by omega),a0k]at hce
  generalize (cs.flatten.getD p en0)=e at hsn hce
  conv=>whnf
  rw[hw2];refine a0a hca rfl ?_;rintro _ rfl
  conv=>whnf
  refine a0a hce rfl ?_;rintro _ rfl
  conv=>whnf
  refine⟨fun _=>idF e.id,fun j hj2=>?_,?_⟩
  ·obtain rfl:j=0:=by omega
   rfl
  conv=>whnf
  refine⟨⟨by omega,by show(List.length (idsL cs.flatten A k)+1)*8≤_;omega⟩,?_⟩
  conv=>whnf
  refine app1 (enc:=idF) (d:=(0,0)) (l:=idsL cs.flatten A k) e.id (fun k hk=>rfl) rfl ?_
  conv=>whnf
  rw[e1,←hsn];exact⟨N-(k+1),_,by omega,a0b [1,3,8,37,38] [some 0,some 4] rfl rfl,k+1,rfl,by omega,rfl⟩
 ·have g2:=of_decide_eq_false g2
  obtain rfl:k=N:=by omega
  conv=>whnf
  refine⟨fun _ _=>rfl,?_⟩
  conv=>whnf
  all_goals first | rfl | exact⟨rfl,rfl⟩
end Go.Eng
namespace Go.Eng
open Go Go.RowKit Go.Proofs
abbrev itR(l:List It):Nat→List IC:=fun k=>itF (l.getD k it0)
def itsH(hs:HS):List It:=(hs.map (fun p=>p.1)).reverse
instance (a b:I2):Decidable (il a b):=inferInstanceAs (Decidable (_∨_∧_))
def bldH:HS→Prop
 | []=>True
 | (x,h)::r=>bldH r∧h=hgOf r x
end Go.Eng
namespace Go.Eng
end Go.Eng
namespace Go.Eng
open Go Go.RowKit Go.Proofs
end Go.Eng
namespace Go.Eng
open Go Go.RowKit Go.Proofs
instance (hs:HS) (a:I2):Decidable (hasI hs a):=inferInstanceAs (Decidable (∃ p,p∈hs∧p.1.id=a))
end Go.Eng
namespace Go.Eng
open Go Go.RowKit Go.Proofs
end Go.Eng
namespace Go.Eng
def hasR(v:CV)(a:I2):Bool:=a.1==0||decide (a.2<nxt v a.1)
def rdyR(v:CV)(x:It):Bool:=x.id.2==nxt v x.id.1&&(hasR v x.left&&hasR v x.right)
def putR(v:CV)(x:It):CV:=setR v x.id.1 (x.id.2+1)
def delA(l:List It)(k:Nat):List It:=l.take k++l.drop (k+1)
def a1r:Nat→CV→List It→List It × List It × CV
 | 0,v,r=>([],r,v)
 | n+1,v,r=>match r.findIdx? (rdyR v)with
  | none=>([],r,v)
  | some k=>(r.getD k it0::(a1r n (putR v (r.getD k it0)) (delA r k)).1,(a1r n (putR v (r.getD k it0)) (delA r k)).2)
def Tk:CV→List It→CV→Prop
 | v,[],w=>w=v
 | v,x::T,w=>rdyR v x=true∧Tk (putR v x) T w
theorem a5N{v:CV}{x:It}(hv:mayV v)(h:0<x.id.1∧0≤x.id.2∧x.id.2≤4294967294):mayV (putR v x):=a4o hv (by omega) (by omega)
theorem b0E{v:CV}{x:It}(hv:mayV v)(h:0<x.id.1)(c:Int):nxt (putR v x) c=if c=x.id.1 then x.id.2+1 else nxt v c:=a5i hv (by omega) c
theorem a9i{v:CV}{x:It}(h:rdyR v x=true):x.id.2=nxt v x.id.1:=by
 unfold rdyR at h;simp only[Bool.and_eq_true,beq_iff_eq]at h;exact h.1
theorem b3e{l:List It}{k:Nat}(hk:k<l.length):l=l.take k++l.getD k it0::l.drop (k+1):=by
 rw[List.getD_eq_getElem?_getD,List.getElem?_eq_getElem hk];exact(List.take_append_drop k l).symm.trans (by rw[List.drop_eq_getElem_cons hk];rfl)
theorem b5z{l:List It}{k:Nat}(hk:k<l.length):(l.getD k it0::delA l k).Perm l:=by
 conv=>rhs;rw[b3e hk]
 exact List.perm_middle.symm
theorem b2u(l:List It)(k:Nat):(delA l k).Sublist l:=by
 unfold delA
 conv=>rhs;rw[←List.take_append_drop k l]
 exact List.Sublist.append (List.Sublist.refl _) (by rw[show k+1=k+1 from rfl,←List.drop_drop];exact List.drop_sublist _ _)
theorem a8B{l:List It}{k:Nat}(hk:k<l.length):(delA l k).length+1=l.length:=by
 unfold delA;rw[List.length_append,List.length_take,List.length_drop];omega
structure tkS(v:CV)(r:List It)(t:List It × List It × CV):Prop where
 run:Tk v t.1 t.2.2
 perm:(t.1++t.2.1).Perm r
 sub:t.2.1.Sublist r
 stop:∀ x,x∈t.2.1→rdyR t.2.2 x=false
theorem a9E{l:List It}{p:It→Bool}{k:Nat}(h:l.findIdx? p=some k):k<l.length∧p (l.getD k it0)=true∧∀ j,j<k→p (l.getD j it0)=false:=by
 rw[List.findIdx?_eq_some_iff_getElem]at h;obtain⟨hk,h1,h2⟩:=h;have hg:∀ j (hj:j<l.length),l.getD j it0=l[j]:=fun j hj=>by rw[List.getD_eq_getElem?_getD,List.getElem?_eq_getElem hj];rfl
 refine⟨hk,by rw[hg k hk];exact h1,fun j hj=>?_⟩
 rw[hg j (by omega)]
 simpa using h2 j hj
theorem a9F{l:List It}{p:It→Bool}(h:l.findIdx? p=none):∀ x,x∈l→p x=false:=by
 rw[List.findIdx?_eq_none_iff]at h;exact h
theorem a4k:∀(n:Nat) (v:CV) (r:List It),r.length≤n→tkS v r (a1r n v r)
 | 0,v,r,h=>by
  obtain rfl:r=[]:=List.eq_nil_of_length_eq_zero (by omega)
  exact⟨rfl,.refl _,.refl _,fun x hx=>by cases hx⟩
 | n+1,v,r,h=>by
  unfold a1r;cases hf:r.findIdx? (rdyR v)with
  | none=>exact⟨rfl,.refl _,.refl _,a9F hf⟩
  | some k =>
   obtain⟨h1,h2,h3⟩:=a9E hf;have hl:=a8B h1;obtain⟨g1,g2,g3,g4⟩:=a4k n (putR v (r.getD k it0)) (delA r k) (by omega)
   exact⟨⟨h2,g1⟩,((List.perm_cons _).2 g2).trans (b5z h1),g3.trans (b2u r k),g4⟩
def ltI(a b:I2):Prop:=a.1<b.1∨a.1=b.1∧a.2<b.2
def risI(l:List It):Prop:=l.Pairwise fun x y=>ltI x.id y.id
end Go.Eng
namespace Go.Proofs
open Go.Shelf Go.RowKit Go.Lib Go.Sort Go.Eng
def a0R(x y:Int):Int:=if x<y then -1 else if y<x then 1 else 0
theorem b9K(x:Int)(w:World):Calls Tryz.prog 110 #[.int .u32 x] w fun e w'=>e=.returned (.bool false)∧w'=w:=by
 go_enter Tryz.func110,(show Tryz.f110.ntmps=6 from rfl)
 go_wp2
 go_ret
 exact⟨by simp,rfl⟩
theorem b5D(x y:Int)(w:World):Calls Tryz.prog 62 #[.int .u32 x,.int .u32 y] w fun e w'=>e=.returned (.int .i64 (a0R x y))∧w'=w:=by
 have e7:∀ args w,(callFunc 110 args).run Tryz.prog w=.ok (.enter 110 args) w:=enters_of Tryz.func110 (by kernel_rfl) rfl
 go_enter Tryz.func62,(show Tryz.f62.ntmps=20 from rfl)
 go_wp2_with (go_at_fn 110;refine(b9K _ _).mono ?_;rintro e w' ⟨rfl,hw⟩;rw[hw])
 all_goals (go_ret;refine⟨?_,rfl⟩;unfold a0R;(repeat' split) <;> first | rfl | (exfalso;omega))
theorem a9P(x y:Int)(w:World):Calls Tryz.prog 62 #[.int .u32 x,.int .u32 y] w fun e w'=>e=.returned (.int .i64 (a0R x y))∧∃ q os',w'=grow (w.drewN q) os' :=
 (b5D x y w).mono fun e w' ⟨h1,h2⟩=>⟨h1,0,#[],by rw[h2,grow_empty];rfl⟩
theorem or_w(a b:Int)(blk:Nat)(w:World)(h0:w.cell? ⟨blk,0,none⟩=some (.int .i64 a))(h1:w.cell? ⟨blk,1,none⟩=some (.int .i64 b)) :
  Calls Tryz.prog 61 #[.slice (some ⟨blk,0,none⟩) 2 2] w fun e w'=>e=.returned (.int .i64 (if a=0 then b else a))∧w'=w:=by
 obtain⟨r,hr⟩:∃ r,(if a=0 then b else a)=r:=⟨_,rfl⟩
 rw[hr]
 go_enter Tryz.func61,(show Tryz.f61.ntmps=18 from rfl)
 go_wp2
 refine wp_loop_rounds 3 ?_;unfold Code.rounds
 by_cases ha:a=0
 ·rw[if_pos ha]at hr
  subst ha;subst hr;have e0:(((0:Int) != 0))=false:=rfl
  go_wp2
  unfold Code.rounds
  by_cases hb:b=0
  ·subst hb
   go_wp2
   unfold Code.rounds
   go_wp2
   go_ret
   exact⟨rfl,rfl⟩
  ·have e1:(b != 0)=true:=bne_iff_ne.2 hb
   go_wp2
   go_ret
   exact⟨rfl,rfl⟩
 ·rw[if_neg ha]at hr
  subst hr;have e0:(a != 0)=true:=bne_iff_ne.2 ha
  go_wp2
  go_ret
  exact⟨rfl,rfl⟩
theorem c3K(x y:Int × Int × Int)(W:World):Calls Tryz.prog 166 #[.agg #[.int .u32 x.1,.int .u32 x.2.1,.int .u32 x.2.2],.agg #[.int .u32 y.1,.int .u32 y.2.1,.int .u32 y.2.2]] W fun e w'=>e=.returned (.int .i64 (if a0R x.1 y.1=0 then a0R x.2.1 y.2.1 else a0R x.1 y.1))∧∃ q os',w'=grow (W.drewN q) os':=by
 have e7:∀ args w,(callFunc 62 args).run Tryz.prog w=.ok (.enter 62 args) w:=enters_of Tryz.func62 (by kernel_rfl) rfl
 have e8:∀ args w,(callFunc 61 args).run Tryz.prog w=.ok (.enter 61 args) w:=enters_of Tryz.func61 (by kernel_rfl) rfl
 have mixed:Tryz.prog.follows .mixedOrders=true:=by kernel_rfl
 obtain⟨r,hr⟩:∃ r,(if a0R x.1 y.1=0 then a0R x.2.1 y.2.1 else a0R x.1 y.1)=r:=⟨_,rfl⟩
 rw[hr]
 go_enter Tryz.func166,(show Tryz.f166.ntmps=17 from rfl)
 go_wp2
 obtain⟨W2,hW2⟩:∃ W2,W2=((W.alloc (Obj.cells #[.int .u32 x.1,.int .u32 x.2.1,.int .u32 x.2.2] 105)).alloc (Obj.cells #[.int .u32 y.1,.int .u32 y.2.1,.int .u32 y.2.2] 105)):=⟨_,rfl⟩;have c0:∀ n os,(grow (W2.drewN n) os).cell? ⟨W.heap.size,0,none⟩=some (.int .u32 x.1):=fun n os=>cell_grown (by subst hW2;simp <;> omega) (by subst hW2;simp) n os
 have c1:∀ n os,(grow (W2.drewN n) os).cell? ⟨W.heap.size,1,none⟩=some (.int .u32 x.2.1):=fun n os=>cell_grown (by subst hW2;simp <;> omega) (by subst hW2;simp) n os
 have c2:∀ n os,(grow (W2.drewN n) os).cell? ⟨W.heap.size+1,0,none⟩=some (.int .u32 y.1):=fun n os=>cell_grown (by subst hW2;simp <;> omega) (by subst hW2;simp) n os
 have c3:∀ n os,(grow (W2.drewN n) os).cell? ⟨W.heap.size+1,1,none⟩=some (.int .u32 y.2.1):=fun n os=>cell_grown (by subst hW2;simp <;> omega) (by subst hW2;simp) n os
 have hfin:∃ q os',W2=grow (W.drewN q) os':=⟨0,_,by rw[hW2,alloc_eq_grow,alloc_eq_grow,grow_grow];rfl⟩
 rw[←hW2];clear hW2;refine a2H (k:=10) (C:=fun w'=>∃ p:GrownBy,w'=grow (W2.drewN p.n) p.os) mixed (by kernel_rfl) ⟨⟨1,#[]⟩,by rw[grow_empty];rfl⟩ ?_
 simp only[List.take_succ_cons,List.take_zero,List.drop_succ_cons,List.drop_zero]
 repeat (quiet_step (exact Calls.grown_of (a9P _ _ _)))
 refine wpQuiet_nil ?_;intro _ hw';obtain⟨⟨nq,osq⟩,rfl⟩:=hw';obtain⟨q1,os1,hfin⟩:=hfin;have hfin3:∃ q os',grow (W2.drewN nq) osq=grow (W.drewN q) os':=⟨q1+nq,os1++osq,by rw[hfin];show grow (grow ((W.drewN q1).drewN nq) os1) osq=_;rw[grow_grow,World.drewN_drewN]⟩
 clear hfin c0 c1 c2 c3;show wpList _ _ _ _ _ (grow (W2.drewN nq) osq);generalize grow (W2.drewN nq) osq=W3 at hfin3 ⊢;generalize a0R x.1 y.1=a at hr ⊢;generalize a0R x.2.1 y.2.1=b at hr ⊢
 go_wp2_with (go_at_fn 61;refine(or_w a b W3.heap.size _ (by simp) (by simp)).mono ?_;rintro e w' ⟨rfl,hw⟩;rw[hw,hr])
 go_ret
 obtain⟨q,os',rfl⟩:=hfin3;exact⟨rfl,q,os'++#[_],by rw[alloc_eq_grow,grow_grow]⟩
theorem c2h(x y:Int × Int)(W:World):Calls Tryz.prog 37 #[.agg #[.int .u32 x.1,.int .u32 x.2],.agg #[.int .u32 y.1,.int .u32 y.2]] W fun e w'=>e=.returned (.int .i64 (if a0R x.1 y.1=0 then a0R x.2 y.2 else a0R x.1 y.1))∧∃ q os',w'=grow (W.drewN q) os':=by
 have e7:∀ args w,(callFunc 62 args).run Tryz.prog w=.ok (.enter 62 args) w:=enters_of Tryz.func62 (by kernel_rfl) rfl
 have e8:∀ args w,(callFunc 61 args).run Tryz.prog w=.ok (.enter 61 args) w:=enters_of Tryz.func61 (by kernel_rfl) rfl
 have mixed:Tryz.prog.follows .mixedOrders=true:=by kernel_rfl
 obtain⟨r,hr⟩:∃ r,(if a0R x.1 y.1=0 then a0R x.2 y.2 else a0R x.1 y.1)=r:=⟨_,rfl⟩
 rw[hr]
 go_enter Tryz.func37,(show Tryz.f37.ntmps=17 from rfl)
 go_wp2
 obtain⟨W2,hW2⟩:∃ W2,W2=((W.alloc (Obj.cells #[.int .u32 x.1,.int .u32 x.2] 59)).alloc (Obj.cells #[.int .u32 y.1,.int .u32 y.2] 59)):=⟨_,rfl⟩;have c0:∀ n os,(grow (W2.drewN n) os).cell? ⟨W.heap.size,0,none⟩=some (.int .u32 x.1):=fun n os=>cell_grown (by subst hW2;simp <;> omega) (by subst hW2;simp) n os
 have c1:∀ n os,(grow (W2.drewN n) os).cell? ⟨W.heap.size,1,none⟩=some (.int .u32 x.2):=fun n os=>cell_grown (by subst hW2;simp <;> omega) (by subst hW2;simp) n os
 have c2:∀ n os,(grow (W2.drewN n) os).cell? ⟨W.heap.size+1,0,none⟩=some (.int .u32 y.1):=fun n os=>cell_grown (by subst hW2;simp <;> omega) (by subst hW2;simp) n os
 have c3:∀ n os,(grow (W2.drewN n) os).cell? ⟨W.heap.size+1,1,none⟩=some (.int .u32 y.2):=fun n os=>cell_grown (by subst hW2;simp <;> omega) (by subst hW2;simp) n os
 have hfin:∃ q os',W2=grow (W.drewN q) os':=⟨0,_,by rw[hW2,alloc_eq_grow,alloc_eq_grow,grow_grow];rfl⟩
 rw[←hW2];clear hW2;refine a2H (k:=10) (C:=fun w'=>∃ p:GrownBy,w'=grow (W2.drewN p.n) p.os) mixed (by kernel_rfl) ⟨⟨1,#[]⟩,by rw[grow_empty];rfl⟩ ?_
 simp only[List.take_succ_cons,List.take_zero,List.drop_succ_cons,List.drop_zero]
 repeat (quiet_step (exact Calls.grown_of (a9P _ _ _)))
 refine wpQuiet_nil ?_;intro _ hw';obtain⟨⟨nq,osq⟩,rfl⟩:=hw';obtain⟨q1,os1,hfin⟩:=hfin;have hfin3:∃ q os',grow (W2.drewN nq) osq=grow (W.drewN q) os':=⟨q1+nq,os1++osq,by rw[hfin];show grow (grow ((W.drewN q1).drewN nq) os1) osq=_;rw[grow_grow,World.drewN_drewN]⟩
 clear hfin c0 c1 c2 c3;show wpList _ _ _ _ _ (grow (W2.drewN nq) osq);generalize grow (W2.drewN nq) osq=W3 at hfin3 ⊢;generalize a0R x.1 y.1=a at hr ⊢;generalize a0R x.2 y.2=b at hr ⊢
 go_wp2_with (go_at_fn 61;refine(or_w a b W3.heap.size _ (by simp) (by simp)).mono ?_;rintro e w' ⟨rfl,hw⟩;rw[hw,hr])
 go_ret
 obtain⟨q,os',rfl⟩:=hfin3;exact⟨rfl,q,os'++#[_],by rw[alloc_eq_grow,grow_grow]⟩
theorem a7l{α:Type}(f g:α→Int)(x y:α):ltOf (fun x y:α=>if a0R (f x) (f y)=0 then a0R (g x) (g y)else a0R (f x) (f y)) x y=decide (f x<f y∨f x=f y∧g x<g y):=by
 simp only[ltOf,a0R]
 congr 1
 repeat' split
 all_goals (simp only[eq_iff_iff];omega)
theorem b0k{α:Type}(f g:α→Int):SWO (ltOf fun x y:α=>if a0R (f x) (f y)=0 then a0R (g x) (g y)else a0R (f x) (f y)):=by
 refine⟨fun x=>?_,fun x y z h1 h2=>?_,fun x y z h1 h2=>?_⟩
 all_goals
  rw[a7l]at *
  try rw[a7l]at h1
  try rw[a7l]at h2
  simp only[decide_eq_true_eq,decide_eq_false_iff_not]at *;omega
end Go.Proofs
namespace Go.Proofs
open Go.Shelf
def Tryz.laysValid_ren:Go.Shelf.Ren:=⟨fun | 196=>68 | 259=>121 | n=>n,fun | 9=>9 | 4=>4 | 3=>3 | 5=>5 | 12=>12 | 119=>215 | 0=>0 | 46=>145 | 139=>218 | 138=>217 | 53=>156 | n=>n,fun | 3=>1 | 4=>2 | n=>n⟩
theorem Tryz.laysValid:Go.Proofs.Lays.n196 Tryz.prog Tryz.laysValid_ren:={
 mixed:=by kernel_rfl
 f196:=Tryz.func68.trans (congrArg some (by kernel_rfl))
 f259:=Tryz.func121.trans (congrArg some (by kernel_rfl))
 t0:=Tryz.underlying0
 a0:=Tryz.isAgg0
 z0:=Tryz.sizeOf0
 v0:=Tryz.zeroValue0
 t3:=Tryz.underlying3
 a3:=Tryz.isAgg3
 z3:=Tryz.sizeOf3
 v3:=Tryz.zeroValue3
 t4:=Tryz.underlying4
 a4:=Tryz.isAgg4
 z4:=Tryz.sizeOf4
 v4:=Tryz.zeroValue4
 t5:=Tryz.underlying5
 a5:=Tryz.isAgg5
 z5:=Tryz.sizeOf5
 v5:=Tryz.zeroValue5
 t9:=Tryz.underlying9
 a9:=Tryz.isAgg9
 z9:=Tryz.sizeOf9
 v9:=Tryz.zeroValue9
 t12:=Tryz.underlying12
 a12:=Tryz.isAgg12
 z12:=Tryz.sizeOf12
 v12:=Tryz.zeroValue12
 t46:=Tryz.underlying145
 a46:=Tryz.isAgg145
 z46:=Tryz.sizeOf145
 v46:=Tryz.zeroValue145
 t53:=Tryz.underlying156
 a53:=Tryz.isAgg156
 z53:=Tryz.sizeOf156
 v53:=Tryz.zeroValue156
 t119:=Tryz.underlying215
 a119:=Tryz.isAgg215
 z119:=Tryz.sizeOf215
 t138:=Tryz.underlying217
 a138:=Tryz.isAgg217
 z138:=Tryz.sizeOf217
 v138:=Tryz.zeroValue217
 t139:=Tryz.underlying218
 a139:=Tryz.isAgg218
 z139:=Tryz.sizeOf218
 v139:=Tryz.zeroValue218
 g3:=by kernel_rfl
 g4:=by kernel_rfl }
def Tryz.laysCount_ren:Go.Shelf.Ren:=⟨fun | 195=>70 | n=>n,fun | 9=>9 | 3=>3 | 0=>0 | 4=>4 | n=>n,fun | n=>n⟩
theorem Tryz.laysCount:Go.Proofs.Lays.n195 Tryz.prog Tryz.laysCount_ren:={
 mixed:=by kernel_rfl
 f195:=Tryz.func70.trans (congrArg some (by kernel_rfl))
 t0:=Tryz.underlying0
 a0:=Tryz.isAgg0
 z0:=Tryz.sizeOf0
 v0:=Tryz.zeroValue0
 t3:=Tryz.underlying3
 a3:=Tryz.isAgg3
 z3:=Tryz.sizeOf3
 v3:=Tryz.zeroValue3
 t4:=Tryz.underlying4
 a4:=Tryz.isAgg4
 z4:=Tryz.sizeOf4
 v4:=Tryz.zeroValue4
 t9:=Tryz.underlying9
 a9:=Tryz.isAgg9
 z9:=Tryz.sizeOf9
 v9:=Tryz.zeroValue9 }
def Tryz.sortItem_ren:Go.Shelf.Ren:=⟨fun | 6=>35 | 15=>60 | 14=>59 | 28=>108 | 29=>109 | 20=>100 | 21=>101 | 22=>102 | 23=>103 | 24=>104 | 25=>105 | 26=>106 | 27=>107 | 46=>145 | 47=>146 | 48=>147 | 49=>148 | 50=>149 | 57=>174 | n=>n,fun | 22=>46 | 24=>61 | 25=>101 | 3=>3 | 39=>145 | 0=>0 | 53=>22 | 55=>156 | 4=>4 | 46=>198 | 45=>197 | 50=>138 | 5=>5 | 9=>9 | 66=>249 | 70=>253 | 76=>277 | 77=>278 | n=>n,fun | n=>n⟩
theorem Tryz.sortItem:Go.Proofs.SlLaysF0.n6 Tryz.prog Tryz.sortItem_ren:={
 mixed:=by kernel_rfl
 f6:=⟨Tryz.f35.name,by decide,Tryz.func35.trans (congrArg some (by kernel_rfl))⟩
 f14:=⟨Tryz.f59.name,by decide,Tryz.func59.trans (congrArg some (by kernel_rfl))⟩
 f15:=Tryz.func60.trans (congrArg some (by kernel_rfl))
 f20:=⟨Tryz.f100.name,by decide,Tryz.func100.trans (congrArg some (by kernel_rfl))⟩
 f21:=⟨Tryz.f101.name,by decide,Tryz.func101.trans (congrArg some (by kernel_rfl))⟩
 f22:=⟨Tryz.f102.name,by decide,Tryz.func102.trans (congrArg some (by kernel_rfl))⟩
 f23:=⟨Tryz.f103.name,by decide,Tryz.func103.trans (congrArg some (by kernel_rfl))⟩
 f24:=⟨Tryz.f104.name,by decide,Tryz.func104.trans (congrArg some (by kernel_rfl))⟩
 f25:=⟨Tryz.f105.name,by decide,Tryz.func105.trans (congrArg some (by kernel_rfl))⟩
 f26:=⟨Tryz.f106.name,by decide,Tryz.func106.trans (congrArg some (by kernel_rfl))⟩
 f27:=⟨Tryz.f107.name,by decide,Tryz.func107.trans (congrArg some (by kernel_rfl))⟩
 f28:=Tryz.func108.trans (congrArg some (by kernel_rfl))
 f29:=Tryz.func109.trans (congrArg some (by kernel_rfl))
 f46:=⟨Tryz.f145.name,by decide,Tryz.func145.trans (congrArg some (by kernel_rfl))⟩
 f47:=Tryz.func146.trans (congrArg some (by kernel_rfl))
 f48:=Tryz.func147.trans (congrArg some (by kernel_rfl))
 f49:=⟨Tryz.f148.name,by decide,Tryz.func148.trans (congrArg some (by kernel_rfl))⟩
 f50:=⟨Tryz.f149.name,by decide,Tryz.func149.trans (congrArg some (by kernel_rfl))⟩
 f57:=⟨Tryz.f174.name,by decide,Tryz.func174.trans (congrArg some (by kernel_rfl))⟩
 t0:=Tryz.underlying0
 a0:=Tryz.isAgg0
 z0:=Tryz.sizeOf0
 v0:=Tryz.zeroValue0
 t3:=Tryz.underlying3
 a3:=Tryz.isAgg3
 z3:=Tryz.sizeOf3
 v3:=Tryz.zeroValue3
 t4:=Tryz.underlying4
 a4:=Tryz.isAgg4
 z4:=Tryz.sizeOf4
 v4:=Tryz.zeroValue4
 t5:=Tryz.underlying5
 a5:=Tryz.isAgg5
 z5:=Tryz.sizeOf5
 v5:=Tryz.zeroValue5
 t9:=Tryz.underlying9
 a9:=Tryz.isAgg9
 z9:=Tryz.sizeOf9
 v9:=Tryz.zeroValue9
 t22:=Tryz.underlying46
 a22:=Tryz.isAgg46
 z22:=Tryz.sizeOf46
 v22:=Tryz.zeroValue46
 t25:=Tryz.underlying101
 a25:=Tryz.isAgg101
 z25:=Tryz.sizeOf101
 v25:=Tryz.zeroValue101
 t39:=Tryz.underlying145
 a39:=Tryz.isAgg145
 z39:=Tryz.sizeOf145
 v39:=Tryz.zeroValue145
 t45:=Tryz.underlying197
 a45:=Tryz.isAgg197
 z45:=Tryz.sizeOf197
 v45:=Tryz.zeroValue197
 t46:=Tryz.underlying198
 a46:=Tryz.isAgg198
 z46:=Tryz.sizeOf198
 v46:=Tryz.zeroValue198
 t50:=Tryz.underlying138
 a50:=Tryz.isAgg138
 z50:=Tryz.sizeOf138
 v50:=Tryz.zeroValue138
 t53:=Tryz.underlying22
 a53:=Tryz.isAgg22
 z53:=Tryz.sizeOf22
 v53:=Tryz.zeroValue22
 t55:=Tryz.underlying156
 a55:=Tryz.isAgg156
 z55:=Tryz.sizeOf156
 v55:=Tryz.zeroValue156
 t66:=Tryz.underlying249
 a66:=Tryz.isAgg249
 z66:=Tryz.sizeOf249
 v66:=Tryz.zeroValue249
 t70:=Tryz.underlying253
 a70:=Tryz.isAgg253
 z70:=Tryz.sizeOf253
 v70:=Tryz.zeroValue253
 t76:=Tryz.underlying277
 a76:=Tryz.isAgg277
 z76:=Tryz.sizeOf277
 v76:=Tryz.zeroValue277
 t77:=Tryz.underlying278
 a77:=Tryz.isAgg278
 z77:=Tryz.sizeOf278
 v77:=Tryz.zeroValue278 }
def Tryz.sortSpan_ren:Go.Shelf.Ren:=⟨fun | 6=>165 | 15=>60 | 14=>185 | 28=>108 | 29=>109 | 20=>196 | 21=>197 | 22=>198 | 23=>199 | 24=>200 | 25=>201 | 26=>202 | 27=>203 | 46=>211 | 47=>146 | 48=>147 | 49=>212 | 50=>213 | 57=>216 | n=>n,fun | 22=>49 | 24=>105 | 25=>268 | 3=>3 | 39=>145 | 0=>0 | 53=>22 | 55=>156 | 4=>4 | 46=>198 | 45=>197 | 50=>138 | 5=>5 | 9=>9 | 66=>249 | 70=>253 | 76=>277 | 77=>278 | n=>n,fun | n=>n⟩
theorem Tryz.sortSpan:Go.Proofs.SlLaysF0.n6 Tryz.prog Tryz.sortSpan_ren:={
 mixed:=by kernel_rfl
 f6:=⟨Tryz.f165.name,by decide,Tryz.func165.trans (congrArg some (by kernel_rfl))⟩
 f14:=⟨Tryz.f185.name,by decide,Tryz.func185.trans (congrArg some (by kernel_rfl))⟩
 f15:=Tryz.func60.trans (congrArg some (by kernel_rfl))
 f20:=⟨Tryz.f196.name,by decide,Tryz.func196.trans (congrArg some (by kernel_rfl))⟩
 f21:=⟨Tryz.f197.name,by decide,Tryz.func197.trans (congrArg some (by kernel_rfl))⟩
 f22:=⟨Tryz.f198.name,by decide,Tryz.func198.trans (congrArg some (by kernel_rfl))⟩
 f23:=⟨Tryz.f199.name,by decide,Tryz.func199.trans (congrArg some (by kernel_rfl))⟩
 f24:=⟨Tryz.f200.name,by decide,Tryz.func200.trans (congrArg some (by kernel_rfl))⟩
 f25:=⟨Tryz.f201.name,by decide,Tryz.func201.trans (congrArg some (by kernel_rfl))⟩
 f26:=⟨Tryz.f202.name,by decide,Tryz.func202.trans (congrArg some (by kernel_rfl))⟩
 f27:=⟨Tryz.f203.name,by decide,Tryz.func203.trans (congrArg some (by kernel_rfl))⟩
 f28:=Tryz.func108.trans (congrArg some (by kernel_rfl))
 f29:=Tryz.func109.trans (congrArg some (by kernel_rfl))
 f46:=⟨Tryz.f211.name,by decide,Tryz.func211.trans (congrArg some (by kernel_rfl))⟩
 f47:=Tryz.func146.trans (congrArg some (by kernel_rfl))
 f48:=Tryz.func147.trans (congrArg some (by kernel_rfl))
 f49:=⟨Tryz.f212.name,by decide,Tryz.func212.trans (congrArg some (by kernel_rfl))⟩
 f50:=⟨Tryz.f213.name,by decide,Tryz.func213.trans (congrArg some (by kernel_rfl))⟩
 f57:=⟨Tryz.f216.name,by decide,Tryz.func216.trans (congrArg some (by kernel_rfl))⟩
 t0:=Tryz.underlying0
 a0:=Tryz.isAgg0
 z0:=Tryz.sizeOf0
 v0:=Tryz.zeroValue0
 t3:=Tryz.underlying3
 a3:=Tryz.isAgg3
 z3:=Tryz.sizeOf3
 v3:=Tryz.zeroValue3
 t4:=Tryz.underlying4
 a4:=Tryz.isAgg4
 z4:=Tryz.sizeOf4
 v4:=Tryz.zeroValue4
 t5:=Tryz.underlying5
 a5:=Tryz.isAgg5
 z5:=Tryz.sizeOf5
 v5:=Tryz.zeroValue5
 t9:=Tryz.underlying9
 a9:=Tryz.isAgg9
 z9:=Tryz.sizeOf9
 v9:=Tryz.zeroValue9
 t22:=Tryz.underlying49
 a22:=Tryz.isAgg49
 z22:=Tryz.sizeOf49
 v22:=Tryz.zeroValue49
 t25:=Tryz.underlying268
 a25:=Tryz.isAgg268
 z25:=Tryz.sizeOf268
 v25:=Tryz.zeroValue268
 t39:=Tryz.underlying145
 a39:=Tryz.isAgg145
 z39:=Tryz.sizeOf145
 v39:=Tryz.zeroValue145
 t45:=Tryz.underlying197
 a45:=Tryz.isAgg197
 z45:=Tryz.sizeOf197
 v45:=Tryz.zeroValue197
 t46:=Tryz.underlying198
 a46:=Tryz.isAgg198
 z46:=Tryz.sizeOf198
 v46:=Tryz.zeroValue198
 t50:=Tryz.underlying138
 a50:=Tryz.isAgg138
 z50:=Tryz.sizeOf138
 v50:=Tryz.zeroValue138
 t53:=Tryz.underlying22
 a53:=Tryz.isAgg22
 z53:=Tryz.sizeOf22
 v53:=Tryz.zeroValue22
 t55:=Tryz.underlying156
 a55:=Tryz.isAgg156
 z55:=Tryz.sizeOf156
 v55:=Tryz.zeroValue156
 t66:=Tryz.underlying249
 a66:=Tryz.isAgg249
 z66:=Tryz.sizeOf249
 v66:=Tryz.zeroValue249
 t70:=Tryz.underlying253
 a70:=Tryz.isAgg253
 z70:=Tryz.sizeOf253
 v70:=Tryz.zeroValue253
 t76:=Tryz.underlying277
 a76:=Tryz.isAgg277
 z76:=Tryz.sizeOf277
 v76:=Tryz.zeroValue277
 t77:=Tryz.underlying278
 a77:=Tryz.isAgg278
 z77:=Tryz.sizeOf278
 v77:=Tryz.zeroValue278 }
def Tryz.growItem_ren:Go.Shelf.Ren:=⟨fun | 4=>138 | n=>n,fun | 22=>46 | 25=>61 | 3=>3 | 4=>4 | 9=>9 | 20=>20 | 0=>0 | n=>n,fun | n=>n⟩
theorem Tryz.growItem:Go.Proofs.Lays8.n4 Tryz.prog Tryz.growItem_ren:={
 mixed:=by kernel_rfl
 f4:=⟨Tryz.f138.name,by decide,Tryz.func138.trans (congrArg some (by kernel_rfl))⟩
 t0:=Tryz.underlying0
 a0:=Tryz.isAgg0
 z0:=Tryz.sizeOf0
 v0:=Tryz.zeroValue0
 t3:=Tryz.underlying3
 a3:=Tryz.isAgg3
 z3:=Tryz.sizeOf3
 v3:=Tryz.zeroValue3
 t4:=Tryz.underlying4
 a4:=Tryz.isAgg4
 z4:=Tryz.sizeOf4
 v4:=Tryz.zeroValue4
 t9:=Tryz.underlying9
 a9:=Tryz.isAgg9
 z9:=Tryz.sizeOf9
 v9:=Tryz.zeroValue9
 t20:=Tryz.underlying20
 a20:=Tryz.isAgg20
 z20:=Tryz.sizeOf20
 v20:=Tryz.zeroValue20
 t22:=Tryz.underlying46
 a22:=Tryz.isAgg46
 z22:=Tryz.sizeOf46
 v22:=Tryz.zeroValue46 }
def Tryz.growSpan_ren:Go.Shelf.Ren:=⟨fun | 4=>167 | n=>n,fun | 22=>49 | 25=>105 | 3=>3 | 4=>4 | 9=>9 | 20=>20 | 0=>0 | n=>n,fun | n=>n⟩
theorem Tryz.growSpan:Go.Proofs.Lays8.n4 Tryz.prog Tryz.growSpan_ren:={
 mixed:=by kernel_rfl
 f4:=⟨Tryz.f167.name,by decide,Tryz.func167.trans (congrArg some (by kernel_rfl))⟩
 t0:=Tryz.underlying0
 a0:=Tryz.isAgg0
 z0:=Tryz.sizeOf0
 v0:=Tryz.zeroValue0
 t3:=Tryz.underlying3
 a3:=Tryz.isAgg3
 z3:=Tryz.sizeOf3
 v3:=Tryz.zeroValue3
 t4:=Tryz.underlying4
 a4:=Tryz.isAgg4
 z4:=Tryz.sizeOf4
 v4:=Tryz.zeroValue4
 t9:=Tryz.underlying9
 a9:=Tryz.isAgg9
 z9:=Tryz.sizeOf9
 v9:=Tryz.zeroValue9
 t20:=Tryz.underlying20
 a20:=Tryz.isAgg20
 z20:=Tryz.sizeOf20
 v20:=Tryz.zeroValue20
 t22:=Tryz.underlying49
 a22:=Tryz.isAgg49
 z22:=Tryz.sizeOf49
 v22:=Tryz.zeroValue49 }
end Go.Proofs
namespace Go.Eng
open Go Go.RowKit Go.Proofs Go.Sort Go.Shelf Go.Lib
def a6V(x:It):List Value:=[.int .u32 x.id.1,.int .u32 x.id.2,.int .u32 x.left.1,.int .u32 x.left.2,.int .u32 x.right.1,.int .u32 x.right.2,.int .i32 x.ch]
theorem a8P(W:World)(o1 o2:Obj)(q:Nat)(os':Array Obj):∃ os2,grow (((W.alloc o1).alloc o2).drewN q) os'=grow (W.drewN q) os2 :=
 ⟨(#[o1]++#[o2])++os',by rw[alloc_eq_grow,alloc_eq_grow,grow_grow];exact grow_grow (W.drewN q) _ os'⟩
theorem c3S(x y:It)(W:World):Calls Tryz.prog 134 #[.agg (a6V x).toArray,.agg (a6V y).toArray] W fun e w'=>e=.returned (.int .i64 (if a0R x.id.1 y.id.1=0 then a0R x.id.2 y.id.2 else a0R x.id.1 y.id.1))∧∃ q os',w'=grow (W.drewN q) os':=by
 have e7:∀ args w,(callFunc 37 args).run Tryz.prog w=.ok (.enter 37 args) w:=enters_of Tryz.func37 (by kernel_rfl) rfl
 have mixed:Tryz.prog.follows .mixedOrders=true:=by kernel_rfl
 obtain⟨⟨x1,x2⟩,⟨x3,x4⟩,⟨x5,x6⟩,x7⟩:=x;obtain⟨⟨y1,y2⟩,⟨y3,y4⟩,⟨y5,y6⟩,y7⟩:=y;unfold a6V;have hc:=fun W=>c2h (x1,x2) (y1,y2) W;simp only at hc ⊢;obtain⟨r,hr⟩:∃ r,(if a0R x1 y1=0 then a0R x2 y2 else a0R x1 y1)=r:=⟨_,rfl⟩
 rw[hr]at hc ⊢
 go_enter Tryz.func134,(show Tryz.f134.ntmps=10 from rfl)
 go_wp2_with (go_at_fn 37;refine(hc _).mono ?_;rintro e w' ⟨rfl,q,os',hw⟩)
 go_ret
 refine⟨rfl,q,?_⟩;exact a8P W _ _ q os'
instance:Inhabited It:=⟨it0⟩
theorem b4K(l:List It)(hl:l.length≤1000000):a0f Tryz.prog 35 [.c (.row 0),.c (.fn 134 [])] [some (.row 61 7 l.length (itR l))]
  (fun r own'=>∃ ys:List It,ys.Perm l∧ys.Pairwise (fun x y=>¬ ltI y.id x.id)∧r=.tup []∧own'=[some (.row 61 7 ys.length (itR ys))]):=by
 have h:=a5q (α:=It) Tryz.sortItem 7 (fun _=>by kernel_rfl) (fun _=>by kernel_rfl) a6V (fun _=>rfl) (fun x v hv=>by
   simp only[a6V,List.mem_cons,List.not_mem_nil,or_false]at hv
   rcases hv with rfl | rfl | rfl | rfl | rfl | rfl | rfl <;> rfl) _ (b0k (fun x:It=>x.id.1) (fun x:It=>x.id.2)) 134 (enters_of Tryz.func134 (by kernel_rfl) rfl) (fun x y W=>c3S x y W) 61 l (by omega)
 refine a0f.mono h ?_;rintro r own' ⟨ys,h1,h2,h3,h4⟩;refine⟨ys,h1,List.pairwise_iff_getElem.2 fun i j hi hj hij=>?_,h3,h4⟩;have:=h2 i j hij hj;rw[a7l,List.getD_eq_getElem?_getD,List.getD_eq_getElem?_getD,List.getElem?_eq_getElem hi,List.getElem?_eq_getElem hj]at this;simp only[Option.getD_some,decide_eq_false_iff_not]at this;exact this
end Go.Eng
namespace Go.Eng
open Go Go.RowKit Go.Proofs
abbrev ckF(c:Int × Int):List IC:=[vu c.1,vu c.2]
theorem b7E(l:List (Int × Int))(i j:Nat)(hij:i≤j)(hj:j≤l.length)(hl:l.length≤1000000000):a0f Tryz.prog 123 [.c (.row 0),vci .i64 i,vci .i64 j] [some (.row 85 2 l.length fun k=>ckF (l.getD k (0,0)))]
  (fun r own'=>r=.c (.row 2)∧own'=[none,none,some (.row 85 2 (l.take i++l.drop j).length fun k=>ckF ((l.take i++l.drop j).getD k (0,0)))]):=by
 refine a1B 0 rfl (fun h0=>?_) (fun c hc hc2=>?_)
 ·obtain rfl:l=[]:=List.eq_nil_of_length_eq_zero h0
  obtain rfl:j=0:=by simpa using hj
  obtain rfl:i=0:=by omega
  show a0f Tryz.prog 123 [.c (.v (.slice none 0 0)),vci .i64 (0:Nat),vci .i64 (0:Nat)] [none] _;refine a0i Tryz.func123 rfl ttok ftok rfl rfl rfl (Nat.le_of_ble_eq_true rfl) rfl ?_
  conv=>whnf
  refine⟨by omega,?_⟩
  conv=>whnf
  refine⟨⟨rfl,rfl,rfl⟩,?_⟩
  conv=>whnf
  refine⟨_,a0M 6 85 2 (fun k=>ckF ([].getD k (0,0))) rfl,?_⟩
  conv=>whnf
  exact⟨[none,none,some 1],rfl,rfl,rfl,rfl⟩
 show a0f Tryz.prog 123 [.c (.view 1 2 0 l.length c),vci .i64 i,vci .i64 j] [none,some (.arr 85 2 c l.length fun k=>ckF (l.getD k (0,0)))] _;refine a0i Tryz.func123 rfl ttok ftok rfl rfl rfl (Nat.le_of_ble_eq_true rfl) rfl ?_
 conv=>whnf
 refine⟨⟨by omega,by omega,by omega,by omega⟩,?_⟩
 conv=>whnf
 refine a0d (fun h=>?_) (fun h=>?_)
 ·have e:(i:Int)=j:=by simpa using h
  have e:i=j:=by omega
  subst e
  conv=>whnf
  refine⟨_,a0y 6 1 (n:=l.length) rfl rfl rfl rfl (Nat.le_refl _) rfl,?_⟩
  conv=>whnf
  refine⟨[none,none,some 2],rfl,rfl,rfl,?_⟩;rw[List.take_append_drop];rfl
 have hne:i≠j:=fun e=>by rw[e]at h;simp at h
 conv=>whnf
 refine a0I 6 mixed (by kernel_rfl) ttok ftok ?_
 conv=>whnf
 refine⟨⟨by omega,by omega,by omega,by omega⟩,?_⟩
 conv=>whnf
 refine⟨⟨by omega,by omega,by omega,by omega⟩,?_⟩
 conv=>whnf
 refine⟨by omega,⟨by omega,by omega⟩,fun h1=>?_,fun h1=>absurd h1 (by omega)⟩
 have hlen:(l.take i++l.drop j).length=i+(l.length-j):=by rw[List.length_append,List.length_take,List.length_drop];omega
 have hget:∀ q,q<(l.take i++l.drop j).length→(i≤q∧(l.take i++l.drop j).getD q (0,0)=l.getD (j+(q-i)) (0,0))∨(q<i∧(l.take i++l.drop j).getD q (0,0)=l.getD q (0,0)):=fun q hq=>by
  rcases Nat.lt_or_ge q i with h2 | h2
  ·exact .inr ⟨h2,by rw[List.getD_eq_getElem?_getD,List.getElem?_append_left (by rw[List.length_take];omega),←List.getD_eq_getElem?_getD,a0Q _ _ _ _ h2]⟩
  ·exact .inl ⟨h2,by rw[List.getD_eq_getElem?_getD,List.getElem?_append_right (by rw[List.length_take];omega),←List.getD_eq_getElem?_getD,a1j,List.length_take,Nat.min_eq_left (by omega)]⟩
 refine⟨(l.take i++l.drop j).length,fun k=>ckF ((l.take i++l.drop j).getD k (0,0)),fun q hq=>?_,?_⟩;rotate_left
 ·conv=>whnf
  refine⟨⟨by omega,by omega,by omega,by omega⟩,?_⟩
  conv=>whnf
  refine⟨by omega,(l.take i++l.drop j).length,fun k=>ckF ((l.take i++l.drop j).getD k (0,0)),fun q hq=>.inr ⟨.inl (by omega),hq,rfl⟩,?_⟩
  conv=>whnf
  refine⟨_,a0y 6 1 (n:=(l.take i++l.drop j).length) rfl rfl (by omega) (by omega) (by omega) (by omega),?_⟩
  conv=>whnf
  exact⟨[none,none,some 2],rfl,rfl,rfl,rfl⟩
 ·rcases hget q hq with⟨h2,h3⟩|⟨h2,h3⟩
  ·refine .inl ⟨by omega,by omega,?_⟩
   simp only[h3]
   congr 2
   omega
  ·exact .inr ⟨.inl (by omega),by omega,by simp only[h3]⟩
theorem a9R(l:List (Int × Int))(x:(Int × Int))(i:Nat)(hi:i≤l.length)(q:Nat):(l.take i++x::l.drop i).getD q (0,0)=if q<i then l.getD q (0,0)else if q=i then x else l.getD (q-1) (0,0):=by
 split
 ·rename_i h
  rw[List.getD_eq_getElem?_getD,List.getElem?_append_left (by rw[List.length_take];omega),←List.getD_eq_getElem?_getD,a0Q _ _ _ _ h]
 ·rename_i h
  rw[List.getD_eq_getElem?_getD,List.getElem?_append_right (by rw[List.length_take];omega),←List.getD_eq_getElem?_getD,List.length_take,Nat.min_eq_left hi]
  split
  ·rename_i e
   subst e;simp
  ·rename_i e
   obtain⟨r,hr⟩:∃ r,q-i=r+1:=⟨q-i-1,by omega⟩
   rw[hr,List.getD_cons_succ,a1j]
   congr 1
   omega
theorem a9Q(l:List (Int × Int))(x:(Int × Int))(i:Nat)(hi:i≤l.length):(l.take i++x::l.drop i).length=l.length+1:=by
 rw[List.length_append,List.length_cons,List.length_take,List.length_drop];omega
theorem b7D(l:List (Int × Int))(x:(Int × Int))(i:Nat)(hi:i≤l.length)(hl:l.length≤1000000000)(g:Nat→List IC)(hg:g 0=ckF x):a0f Tryz.prog 124 [.c (.row 0),vci .i64 i,.c (.row 1)] [some (.row 85 2 l.length fun k=>ckF (l.getD k (0,0))),some (.row 85 2 1 g)]
  (fun r own'=>r=.c (.row 3)∧own'=[none,none,none,some (.row 85 2 (l.take i++x::l.drop i).length fun k=>ckF ((l.take i++x::l.drop i).getD k (0,0)))]):=by
 have hget:=a9R l x i hi;have hlen:=a9Q l x i hi;have hg0:∀ q,q<1→g q=ckF x:=fun q hq=>by
  obtain rfl:q=0:=by omega
  exact hg
 generalize hl':l.take i++x::l.drop i=l' at hget hlen;refine a1B 0 rfl (fun h0=>?_) (fun c hc hc2=>?_)
 ·obtain rfl:l=[]:=List.eq_nil_of_length_eq_zero h0
  obtain rfl:i=0:=by simpa using hi
  show a0f Tryz.prog 124 [.c (.v (.slice none 0 0)),vci .i64 (0:Nat),.c (.row 1)] [none,some (.row 85 2 1 g)] _;refine a0i Tryz.func124 rfl ttok ftok rfl rfl rfl (Nat.le_of_ble_eq_true rfl) rfl ?_
  conv=>whnf
  refine⟨⟨rfl,rfl,rfl⟩,?_⟩
  conv=>whnf
  refine⟨by omega,?_⟩
  conv=>whnf
  refine⟨⟨by omega,by show(0+1)*8≤_;omega⟩,?_⟩
  conv=>whnf
  refine⟨l'.length,fun k=>ckF (l'.getD k (0,0)),by rw[hlen];simp,fun k hk=>by omega,fun k hk=>?_,?_⟩
  ·obtain rfl:k=0:=by omega
   rw[hg];show ckF (l'.getD (0+0) (0,0))=_;rw[hget];rfl
  conv=>whnf
  refine⟨_,Weak.refl _,?_⟩
  conv=>whnf
  exact⟨[none,none,none,some 2],rfl,rfl,rfl,rfl⟩
 show a0f Tryz.prog 124 [.c (.view 2 2 0 l.length c),vci .i64 i,.c (.row 1)] [none,some (.row 85 2 1 g),some (.arr 85 2 c l.length fun k=>ckF (l.getD k (0,0)))] _;refine a0i Tryz.func124 rfl ttok ftok rfl rfl rfl (Nat.le_of_ble_eq_true rfl) rfl ?_
 conv=>whnf
 refine⟨⟨by omega,by omega,by omega,by omega⟩,?_⟩
 conv=>whnf
 refine a0d (fun h=>?_) (fun h=>?_)
 ·have e:(i:Int)=l.length:=by simpa using h
  have e:i=l.length:=by omega
  subst e
  conv=>whnf
  refine⟨trivial,⟨by omega,by omega⟩,fun h1=>?_,fun h1=>?_⟩
  ·refine⟨l'.length,fun k=>ckF (l'.getD k (0,0)),fun q hq=>?_,?_⟩
   rotate_left
   ·conv=>whnf
    refine⟨_,a0y 6 2 (n:=l'.length) rfl rfl (by omega) (by omega) (by omega) (by omega),?_⟩
    conv=>whnf
    exact⟨[none,none,none,some 3],rfl,rfl,rfl,rfl⟩
   ·rcases Nat.lt_or_ge q l.length with h2 | h2
    ·exact .inr ⟨.inl (by omega),h2,by simp only[hget,if_pos h2]⟩
    ·obtain rfl:q=l.length:=by omega
     refine .inl ⟨by omega,by omega,?_⟩
     rw[show l.length-(0+l.length)=0 by omega,hg]
     simp only[hget,if_neg (Nat.lt_irrefl _),if_true]
  ·refine⟨⟨by omega,by show(l.length+1)*8≤_;omega⟩,fun k=>ckF (l'.getD k (0,0)),fun q hq=>by simp only[hget,if_pos hq,Nat.zero_add],fun q hq=>?_,fun cap' hcap=>?_⟩
   ·rw[hg0 q hq]
    obtain rfl:q=0:=by omega
    simp only[Nat.add_zero,hget,if_neg (Nat.lt_irrefl _),if_true]
   ·conv=>whnf
    refine⟨_,a0y 6 3 (n:=l'.length) rfl rfl rfl (by omega) (by omega) rfl,?_⟩
    conv=>whnf
    exact⟨[none,none,none,some 4],rfl,rfl,rfl,rfl⟩
 have hne:i<l.length:=by
  have:i≠l.length:=fun e=>by rw[e]at h;simp at h
  omega
 clear h
 conv=>whnf
 have w1:IntKind.i64.wrap ((l.length:Int)+(1:Nat))=(l.length:Int)+(1:Nat):=a0s (by omega) (by omega)
 have w2:IntKind.i64.wrap ((l.length:Int)+(1:Nat)-i)=((l.length+1-i:Nat):Int):=by rw[a0s (by omega) (by omega)];omega
 have w3:IntKind.i64.wrap ((i:Int)+(1:Nat))=((i+1:Nat):Int):=by rw[a0s (by omega) (by omega)];omega
 refine a0d (fun h=>?_) (fun h=>?_)
 ·have h:=of_decide_eq_true h
  rw[w1]at h
  conv=>whnf
  refine⟨⟨by omega,by omega,by omega,by omega⟩,?_⟩
  conv=>whnf
  rw[w1,w2];refine⟨by omega,⟨by omega,by omega,by omega,by show _*(((8:Nat)):Int)≤_;omega⟩,fun q=>if q<i then ckF (l.getD q (0,0))else[vu 0,vu 0],fun q hq=>?_,fun q hq=>?_,fun cap' hcap=>?_⟩
  ·dsimp only
   rw[if_pos (by omega),show 0+Int.toNat 0+q=q from by omega]
  ·dsimp only
   rw[if_neg (by omega)];rfl
  conv=>whnf
  refine⟨⟨by omega,by omega,by omega,by omega⟩,?_⟩
  conv=>whnf
  refine⟨trivial,by omega,l.length+1,fun q=>if q<i then ckF (l.getD q (0,0))else if q=i then ckF x else[vu 0,vu 0],fun q hq=>?_,?_⟩
  ·rcases Nat.lt_trichotomy q i with h2 | h2 | h2
   ·exact .inr ⟨.inl (by omega),by omega,by dsimp only;rw[if_pos h2,if_pos h2]⟩
   ·subst h2
    exact .inl ⟨by omega,by omega,by dsimp only;rw[if_neg (Nat.lt_irrefl _),if_pos rfl,hg0 _ (by omega)]⟩
   ·exact .inr ⟨.inr (by omega),by omega,by dsimp only;rw[if_neg (by omega),if_neg (by omega),if_neg (by omega)]⟩
  conv=>whnf
  refine a0I 8 mixed (by kernel_rfl) ttok ftok ?_
  conv=>whnf
  rw[w3];refine⟨⟨by omega,by omega,by omega,by omega⟩,?_⟩
  conv=>whnf
  refine⟨⟨by omega,by omega,by omega,by omega⟩,?_⟩
  conv=>whnf
  refine⟨by omega,by omega,l'.length,fun k=>ckF (l'.getD k (0,0)),fun q hq=>?_,?_⟩
  ·rcases Nat.lt_trichotomy q i with h2 | h2 | h2
   ·exact .inr ⟨.inl (by omega),by omega,by simp only[hget,if_pos h2]⟩
   ·subst h2
    exact .inr ⟨.inl (by omega),by omega,by simp only[hget,if_neg (Nat.lt_irrefl _),if_true]⟩
   ·refine .inl ⟨by omega,by omega,?_⟩
    simp only[hget,if_neg (show ¬ q<i by omega),if_neg (show ¬ q=i by omega)]
    congr 2
    omega
  conv=>whnf
  refine⟨_,a0y 6 3 (n:=l'.length) rfl rfl (by omega) (by omega) (by omega) (by omega),?_⟩
  conv=>whnf
  exact⟨[none,none,none,some 4],rfl,rfl,rfl,rfl⟩
 ·have h:=of_decide_eq_false h
  rw[w1]at h
  conv=>whnf
  rw[w1];refine⟨⟨by omega,by omega,by omega,by omega⟩,?_⟩
  conv=>whnf
  rw[w3];refine⟨⟨by omega,by omega,by omega,by omega⟩,?_⟩
  conv=>whnf
  refine a2m (t:=38) (r:=4) (ti:=ti85) Tryz.func160 (by kernel_rfl) rfl (by kernel_rfl) (by kernel_rfl) tf85 Tryz.underlying38 (a2r (by decide) rfl rfl (by omega) (by omega) (by omega) (by decide)) ?_
  conv=>whnf
  refine a0I 8 mixed (by kernel_rfl) ttok ftok ?_
  conv=>whnf
  rw[w3];refine⟨⟨by omega,by omega,by omega,by omega⟩,?_⟩
  conv=>whnf
  refine⟨⟨by omega,by omega,by omega,by omega⟩,?_⟩
  conv=>whnf
  refine⟨by omega,by omega,l'.length,fun q=>if q<i+1 then ckF (l.getD q (0,0))else ckF (l.getD (q-1) (0,0)),fun q hq=>?_,?_⟩
  ·rcases Nat.lt_or_ge q (i+1)with h2 | h2
   ·exact .inr ⟨.inl (by omega),by omega,by dsimp only;rw[if_pos h2]⟩
   ·refine .inl ⟨by omega,by omega,?_⟩
    dsimp only
    rw[if_neg (by omega)]
    congr 2
    omega
  conv=>whnf
  refine⟨⟨by omega,by omega,by omega,by omega⟩,?_⟩
  conv=>whnf
  refine⟨trivial,by omega,l'.length,fun k=>ckF (l'.getD k (0,0)),fun q hq=>?_,?_⟩
  ·rcases Nat.lt_trichotomy q i with h2 | h2 | h2
   ·exact .inr ⟨.inl (by omega),by omega,by dsimp only;rw[hget,if_pos h2,if_pos (by omega)]⟩
   ·subst h2
    exact .inl ⟨by omega,by omega,by dsimp only;rw[hget,if_neg (Nat.lt_irrefl _),if_pos rfl,hg0 _ (by omega)]⟩
   ·exact .inr ⟨.inr (by omega),by omega,by dsimp only;rw[hget,if_neg (by omega),if_neg (by omega),if_neg (by omega)]⟩
  conv=>whnf
  refine⟨_,a0y 6 2 (n:=l'.length) rfl rfl (by omega) (by omega) (by omega) (by omega),?_⟩
  conv=>whnf
  exact⟨[none,none,none,some 3],rfl,rfl,rfl,rfl⟩
end Go.Eng
namespace Go.Eng
open Go Go.RowKit Go.Proofs
theorem b0X(l:List (Int × Int))(hl:l.length≤1000000000):a0f Tryz.prog 29 [.c (.sl 2 l.length fun k=>ckF (l.getD k (0,0)))] []
  (fun r own'=>r=.c (.row 0)∧own'=[some (.row 85 2 l.length fun k=>ckF (l.getD k (0,0)))]):=by
 refine a0i Tryz.func29 rfl ttok ftok rfl rfl rfl (Nat.le_of_ble_eq_true rfl) rfl ?_
 conv=>whnf
 intro b hb;cases b with
 | true =>
  have h0:=hb rfl;obtain rfl:l=[]:=List.eq_nil_of_length_eq_zero h0
  conv=>whnf
  refine⟨_,a0M 2 85 2 (fun k=>ckF (([]:List (Int × Int)).getD k (0,0))) rfl,?_⟩
  conv=>whnf
  exact⟨[some 0],rfl,rfl,rfl,rfl⟩
 | false =>
  clear hb
  conv=>whnf
  refine⟨⟨by omega,by show(0+l.length)*8≤_;omega⟩,?_⟩
  conv=>whnf
  refine⟨l.length,fun k=>ckF (l.getD k (0,0)),by omega,fun k hk=>by omega,fun k hk=>by rw[Nat.zero_add],?_⟩
  conv=>whnf
  refine⟨_,Weak.refl _,?_⟩
  conv=>whnf
  exact⟨[some 1],rfl,rfl,rfl,rfl⟩
def b5H(O:List (Option Ob))(l:List (Int × Int))(ta:AV)(c:(Int × Int)→Int)(caps:List (Bool × List IC))(m:Nat)(st:St):Prop:=∃ i j:Nat,m=j-i∧i≤j∧j≤l.length∧(i=0∨c (l.getD (i-1) (0,0))<0)∧(j=l.length∨0≤c (l.getD j (0,0))) ∧
 st=⟨49,O.length,[(0,.c (.sl 2 l.length fun k=>ckF (l.getD k (0,0)))),(1,ta),(2,.c (.fn 99 caps)),(8,vci .i64 l.length),(9,vci .i64 (i:Int)),(10,vci .i64 (j:Int))],O⟩
theorem b7C(O:List (Option Ob))(l:List (Int × Int))(hl:l.length≤1000000000)(caps:List (Bool × List IC))(t:Int)(c:(Int × Int)→Int)
  (hp:∀ k,k<l.length→a0f Tryz.prog 99 (.agg (ckF (l.getD k (0,0)))::(vci .u32 t)::a2f caps) O (fun r own'=>r=vci .i64 (c (l.getD k (0,0)))∧own'=O)) :
  a0f Tryz.prog 98 [.c (.sl 2 l.length fun k=>ckF (l.getD k (0,0))),vci .u32 t,.c (.fn 99 caps)] O (fun r own'=>∃ i:Nat,i≤l.length∧(i=0∨c (l.getD (i-1) (0,0))<0)∧(i=l.length∨0≤c (l.getD i (0,0))) ∧
   r=.tup [vci .i64 i,vcb (decide (i<l.length∧c (l.getD i (0,0))=0))]∧own'=O):=by
 refine a1C Tryz.func98 rfl ttok ftok rfl rfl rfl (Nat.le_of_ble_eq_true rfl) ?_
 conv=>whnf
 refine a0B ttok ftok (b5H O l (vci .u32 t) c caps) (a0F [0,1,2,8,9,10] rfl) ⟨0,l.length,rfl,Nat.zero_le _,Nat.le_refl _,.inl rfl,.inl rfl,rfl⟩ ?_;rintro m st ⟨i,j,rfl,hij,hj,h1,h2,rfl⟩
 conv=>whnf
 refine a0d (fun h=>?_) (fun h=>?_)
 ·have h:=of_decide_eq_true h
  have hw:IntKind.i64.wrap (IntKind.u64.wrap (IntKind.i64.wrap ((i:Int)+j))/2 ^ Int.toNat 1)=(((i+j)/2:Nat):Int):=by
   rw[a0s (x:=(i:Int)+j) (by omega) (by omega),a5H,show(2:Int) ^ Int.toNat 1=2 from rfl,a0s (by omega) (by omega)]
   omega
  conv=>whnf
  refine⟨⟨by omega,by decide⟩,?_⟩
  conv=>whnf
  rw[a0q]
  conv=>whnf
  rw[hw];refine⟨⟨by omega,by omega⟩,?_⟩
  conv=>whnf
  refine(hp ((i+j)/2) (by omega)).mono ?_
  rintro r own2 ⟨rfl,rfl⟩
  conv=>whnf
  refine a0d (fun h3=>?_) (fun h3=>?_)
  ·have h3:=of_decide_eq_true h3
   conv=>whnf
   refine⟨j-((i+j)/2+1),_,by omega,a0F [0,1,2,8,9,10] rfl,(i+j)/2+1,j,rfl,by omega,hj,.inr (by rw[Nat.add_sub_cancel];exact h3),h2,?_⟩
   rw[show((((i+j)/2+1:Nat)):Int)=IntKind.i64.wrap ((((i+j)/2:Nat):Int)+1)from by rw[a0s (by omega) (by omega)];omega,←hw]
   all_goals rfl
  ·have h3:=of_decide_eq_false h3
   conv=>whnf
   refine⟨(i+j)/2-i,_,by omega,a0F [0,1,2,8,9,10] rfl,i,(i+j)/2,rfl,by omega,by omega,h1,.inr (by omega),?_⟩
   rw[←hw]
   all_goals rfl
 ·have h:=of_decide_eq_false h
  obtain rfl:i=j:=by omega
  conv=>whnf
  by_cases h3:i<l.length
  ·rw[show decide ((i:Int)<(l.length:Int))=true from decide_eq_true (by omega)]
   conv=>whnf
   rw[a0q]
   conv=>whnf
   refine⟨⟨by omega,by omega⟩,?_⟩
   conv=>whnf
   refine(hp i (by omega)).mono ?_
   rintro r own2 ⟨rfl,rfl⟩
   conv=>whnf
   refine⟨_,Weak.refl _,?_⟩
   conv=>whnf
   refine⟨i,hj,h1,h2,?_,rfl⟩;rw[show decide (i<l.length∧c (l.getD i (0,0))=0)=(c (l.getD i (0,0))==0)from by rw[Bool.eq_iff_iff];simp[h3]]
   all_goals rfl
  ·rw[show decide ((i:Int)<(l.length:Int))=false from decide_eq_false (by omega)]
   conv=>whnf
   refine⟨_,Weak.refl _,?_⟩
   conv=>whnf
   refine⟨i,hj,h1,h2,?_,rfl⟩;rw[show decide (i<l.length∧c (l.getD i (0,0))=0)=false from decide_eq_false (by omega)]
   all_goals rfl
end Go.Eng
