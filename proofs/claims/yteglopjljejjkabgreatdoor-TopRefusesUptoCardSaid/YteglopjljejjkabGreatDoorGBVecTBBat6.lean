/- A part of the proof. -/
import Derived.Test.YteglopjljejjkabGreatDoorGBIdxFTBSlW
import Derived.Shelf.Unicode.ValidAny
import Derived.Lib.MapLaws
import Derived.Lib.ValidLaws
import Derived.Shelf.Utf8.RuneCount
import Derived.Laws.BitsAllLaws
set_option linter.unusedVariables false
set_option linter.unusedSimpArgs false
set_option maxRecDepth 100000
set_option maxHeartbeats 4000000
namespace Go.Eng
open Go Go.RowKit Go.Proofs
abbrev ckR(l:CV)(k:Nat):List IC:=ckF (l.getD k (0,0))
abbrev a4b(l:CV):AV:=.c (.sl 2 l.length (ckR l))
theorem b7A{x y:Int}:cmpI x y<0↔x<y:=by unfold cmpI;split <;> (try split) <;> omega
theorem c0g{x y:Int}:0≤cmpI x y↔y≤x:=by unfold cmpI;split <;> (try split) <;> omega
theorem b5F{x y:Int}:cmpI x y=0↔x=y:=by unfold cmpI;split <;> (try split) <;> omega
theorem b5k(x:Int × Int)(t:Int):a0f Tryz.prog 99 [.agg (ckF x),vci .u32 t] [] (fun r own'=>own'=[]∧r=vci .i64 (cmpI x.1 t)):=by
 refine a0e Tryz.func99 rfl ttok ftok rfl rfl rfl (Nat.le_of_ble_eq_true rfl) ?_
 conv=>whnf
 refine a0a (b5E _ _) rfl ?_;rintro _ rfl
 conv=>whnf
 all_goals rfl
theorem b2p(l:CV)(hl:l.length≤1000000000)(hs:srt l)(t:Int):a0f Tryz.prog 58 [a4b l,vci .u32 t] [] (fun r own'=>own'=[]∧∃ i,At l t i∧r=.tup [vci .i64 (i:Int),vcb (decide (i<l.length∧(l.getD i (0,0)).1=t))]):=by
 refine a0e Tryz.func58 rfl ttok ftok rfl rfl rfl (Nat.le_of_ble_eq_true rfl) ?_
 conv=>whnf
 refine(b7C [] l hl [] t (fun x=>cmpI x.1 t) (fun k hk=>a0a (b5k _ t) rfl (fun r h=>⟨h,rfl⟩))).mono ?_;rintro r own2 ⟨i,hi,h1,h2,rfl,rfl⟩
 conv=>whnf
 refine⟨i,At.of hs hi (h1.imp_right b7A.1) (h2.imp_right c0g.1),?_⟩;rw[show decide (i<l.length∧(l.getD i (0,0)).1=t)=decide (i<l.length∧cmpI (l.getD i (0,0)).1 t=0)from by rw[Bool.eq_iff_iff];simp only[decide_eq_true_eq,b5F]]
theorem a9r(l:CV)(hl:l.length≤1000000000)(hs:srt l)(t:Int):a0f Tryz.prog 34 [a4b l,vci .u32 t] [] (fun r own'=>own'=[]∧r=vci .u32 (nxt l t)):=by
 refine a0e Tryz.func34 rfl ttok ftok rfl rfl rfl (Nat.le_of_ble_eq_true rfl) ?_
 conv=>whnf
 refine a0a (b2p l hl hs t) rfl ?_;rintro _ ⟨i,h,rfl⟩
 conv=>whnf
 refine a0d (fun h2=>?_) (fun h2=>?_)
 ·have h2:=of_decide_eq_true h2
  conv=>whnf
  refine⟨⟨by omega,by omega⟩,?_⟩
  conv=>whnf
  rw[b4u h h2.1 h2.2]
  all_goals rfl
 ·have h2:=of_decide_eq_false h2
  conv=>whnf
  rw[b1F hs h h2]
theorem c1y(l:CV)(hl:l.length≤1000000)(hs:srt l)(t n:Int)(ht:0≤t)(hn:0≤n):a0f Tryz.prog 72 [a4b l,vci .u32 t,vci .u32 n] [] (fun r own'=>own'=[]∧r=a4b (setR l t n)):=by
 refine a0e Tryz.func72 rfl ttok ftok rfl rfl rfl (Nat.le_of_ble_eq_true rfl) ?_
 conv=>whnf
 refine a0c [] rfl rfl rfl rfl (b0X l (by omega)) ?_
 rintro r own2 ⟨rfl,rfl⟩;refine⟨.c (.row 0),[some (.row 85 2 l.length (ckR l))],rfl,rfl,?_⟩
 conv=>whnf
 refine a0a (b2p l (by omega) hs t) rfl ?_
 rintro _ ⟨i,h,rfl⟩
 conv=>whnf
 by_cases h0:t=0
 ·subst h0
  conv=>whnf
  refine⟨fun k hk=>rfl,?_⟩
  conv=>whnf
  rw[show setR l 0 n=l from by unfold setR;rw[if_pos rfl]]
 rw[show(t==0)=false from by simpa using h0]
 conv=>whnf
 by_cases hh:i<l.length∧(l.getD i (0,0)).1=t
 ·rw[show decide (i<l.length∧(l.getD i (0,0)).1=t)=true from decide_eq_true hh]
  conv=>whnf
  by_cases hn0:n=0
  ·subst hn0
   conv=>whnf
   rw[show IntKind.i64.wrap ((i:Int)+1)=((i+1:Nat):Int)from by rw[a0s (by omega) (by omega)];omega]
   refine a0c [some 0] rfl rfl rfl rfl (b7E l i (i+1) (by omega) (by omega) (by omega)) ?_
   rintro r own2 ⟨rfl,rfl⟩;refine⟨.c (.row 2),[none,none,some (.row 85 2 (l.take i++l.drop (i+1)).length (ckR (l.take i++l.drop (i+1))))],rfl,rfl,?_⟩
   conv=>whnf
   refine⟨fun k hk=>rfl,?_⟩
   conv=>whnf
   rw[a5M hs h h0 hh.1 hh.2,if_pos rfl,List.append_nil]
  ·rw[show(n==0)=false from by simpa using hn0]
   conv=>whnf
   have hlen:(l.take i++[(t,n)]++l.drop (i+1)).length=l.length:=by simp;omega
   refine⟨⟨by omega,by omega⟩,?_⟩
   conv=>whnf
   refine⟨ckR (l.take i++[(t,n)]++l.drop (i+1)),fun j hj=>?_,?_⟩
   ·show ckF _=_
    rw[List.append_assoc];rcases Nat.lt_trichotomy j i with h3 | h3 | h3
    ·rw[if_neg (by omega),List.getD_eq_getElem?_getD,List.getElem?_append_left (by rw[List.length_take];omega),←List.getD_eq_getElem?_getD,a0Q _ _ _ _ h3]
    ·subst h3
     rw[if_pos (by omega),List.getD_eq_getElem?_getD,List.getElem?_append_right (by rw[List.length_take];omega),List.length_take,Nat.min_eq_left (by omega),Nat.sub_self]
     show[vu t,vu n]=[vu (l.getD j (0,0)).1,vu n];rw[hh.2]
    ·rw[if_neg (by omega),List.getD_eq_getElem?_getD,List.getElem?_append_right (by rw[List.length_take];omega),List.length_take,Nat.min_eq_left (by omega),List.singleton_append]
     obtain⟨q,hq⟩:∃ q,j-i=q+1:=⟨j-i-1,by omega⟩
     rw[hq,←List.getD_eq_getElem?_getD,List.getD_cons_succ,a1j,show i+1+q=j by omega]
   conv=>whnf
   refine⟨fun k hk=>rfl,?_⟩
   conv=>whnf
   rw[a5M hs h h0 hh.1 hh.2,if_neg hn0];show _=AV.c (IC.sl 2 _ _);rw[hlen]
 ·rw[show decide (i<l.length∧(l.getD i (0,0)).1=t)=false from decide_eq_false hh]
  conv=>whnf
  refine a0d (fun h3=>?_) (fun h3=>?_)
  ·have h3:=of_decide_eq_true h3
   conv=>whnf
   refine⟨fun _=>ckF (t,n),fun j hj=>?_,?_⟩
   ·obtain rfl:j=0:=by omega
    rfl
   conv=>whnf
   refine a0c [some 0,some 1] rfl rfl rfl rfl (b7D l (t,n) i h.le (by omega) (fun _=>ckF (t,n)) rfl) ?_
   rintro r own2 ⟨rfl,rfl⟩;refine⟨.c (.row 3),[none,none,none,some (.row 85 2 (l.take i++(t,n)::l.drop i).length (ckR (l.take i++(t,n)::l.drop i)))],rfl,rfl,?_⟩
   conv=>whnf
   refine⟨fun k hk=>rfl,?_⟩
   conv=>whnf
   rw[a4m hs h h0 hh,if_neg (by omega),List.append_assoc,List.singleton_append]
  ·have h3:=of_decide_eq_false h3
   conv=>whnf
   refine⟨fun k hk=>rfl,?_⟩
   conv=>whnf
   rw[a4m hs h h0 hh,if_pos (by omega),List.append_nil,List.take_append_drop]
theorem b1q(l:CV)(c n:Int):(setR l c n).length≤l.length+1:=by
 unfold setR;split
 ·omega
 ·suffices ∀(l:CV) (p:Bool),(rset c n l p).length≤l.length+(if p then 0 else 1) by
   have:=this l (n==0);split at this <;> omega
  intro l
  induction l with
  | nil=>intro p;rw[rset];cases p <;> simp
  | cons x r ih =>
   intro p;rw[rset];have h1:=ih (p||decide (c≤x.1));generalize decide (c≤x.1)=q at h1 ⊢;cases p <;> cases q <;> simp at h1 ⊢ <;> split <;> simp <;> omega
theorem c1S{l:CV}(h:∀ j,j<l.length→0<(l.getD j (0,0)).1∧0<(l.getD j (0,0)).2∧(0<j→(l.getD (j-1) (0,0)).1<(l.getD j (0,0)).1)):mayV l:=by
 refine⟨List.pairwise_iff_getElem.2 ?_,fun x hx=>?_⟩
 ·have key:∀ d i,i+d+1<l.length→(l.getD i (0,0)).1<(l.getD (i+d+1) (0,0)).1:=by
   intro d
   induction d with
   | zero=>intro i hi;have:=(h (i+1) (by omega)).2.2 (by omega);simpa using this
   | succ d ih =>
    intro i hi;have h1:=ih i (by omega)
    have h2:=(h (i+(d+1)+1) hi).2.2 (by omega)
    rw[show i+(d+1)+1-1=i+d+1 by omega]at h2
    omega
  intro i j hi hj hij;have:=key (j-i-1) i (by omega)
  rw[show i+(j-i-1)+1=j by omega,List.getD_eq_getElem?_getD,List.getElem?_eq_getElem hi,List.getD_eq_getElem?_getD,List.getElem?_eq_getElem hj]at this
  exact this
 ·obtain⟨j,hj,rfl⟩:=a2j (d:=(0,0)) hx
  exact⟨(h j hj).1,(h j hj).2.1⟩
end Go.Eng
namespace Go.Eng
open Go Go.RowKit Go.Proofs
theorem b7h{k:Nat}(h:k<9223372036854775807):IntKind.i64.wrap ((k:Int)+1)=((k+1:Nat):Int):=by rw[a0s (by omega) (by omega)];omega
theorem c2w{x y:CV}(hl:x.length=y.length)(h:∀ j,j<x.length→x.getD j (0,0)=y.getD j (0,0)):x=y:=by
 refine List.ext_getElem hl (fun i h1 h2=>?_);have:=h i h1;rw[List.getD_eq_getElem?_getD,List.getD_eq_getElem?_getD,List.getElem?_eq_getElem h1,List.getElem?_eq_getElem h2]at this;exact this
def smI(x y:CV)(m:Nat)(st:St):Prop:=∃ k:Nat,m=x.length-k∧k≤x.length∧(∀ j,j<k→x.getD j (0,0)=y.getD j (0,0))∧st=⟨26,0,[(0,a4b x),(1,a4b y),(5,vci .i64 (k:Int))],[]⟩
theorem b6E(x y:CV)(hx:x.length≤1000000000)(hy:y.length≤1000000000):a0f Tryz.prog 14 [a4b x,a4b y] [] (fun r own'=>own'=[]∧r=vcb (decide (x=y))):=by
 refine a0e Tryz.func14 rfl ttok ftok rfl rfl rfl (Nat.le_of_ble_eq_true rfl) ?_
 conv=>whnf
 refine a0d (fun h=>?_) (fun h=>?_)
 ·conv=>whnf
  rw[show decide (x=y)=false from decide_eq_false (fun e=>by rw[e]at h;simp at h)]
 ·have hlen:x.length=y.length:=by
   have h:((x.length:Int) != y.length)=false:=h;simp at h;omega
  conv=>whnf
  refine a0B ttok ftok (smI x y) (a0b [0,1,5] [] rfl rfl) ⟨0,rfl,Nat.zero_le _,fun j hj=>by omega,rfl⟩ ?_
  rintro m st ⟨k,rfl,hk,hj,rfl⟩
  conv=>whnf
  refine a0d (fun h=>?_) (fun h=>?_)
  ·have h:=of_decide_eq_true h
   conv=>whnf
   refine a2C mixed (by kernel_rfl) ttok ?_
   conv=>whnf
   refine⟨⟨by omega,by omega⟩,?_⟩
   conv=>whnf
   refine⟨⟨by omega,by omega⟩,?_⟩
   conv=>whnf
   refine a0d (fun h2=>?_) (fun h2=>?_)
   ·have h2:(!((x.getD k (0,0)).1==(y.getD k (0,0)).1&&((x.getD k (0,0)).2==(y.getD k (0,0)).2&&true)))=true:=h2
    conv=>whnf
    rw[show decide (x=y)=false from decide_eq_false (fun e=>by rw[e]at h2;simp at h2)]
   ·have h2:(!((x.getD k (0,0)).1==(y.getD k (0,0)).1&&((x.getD k (0,0)).2==(y.getD k (0,0)).2&&true)))=false:=h2
    have h3:x.getD k (0,0)=y.getD k (0,0):=by
     simp only[Bool.not_eq_false',Bool.and_true,Bool.and_eq_true,beq_iff_eq]at h2;exact Prod.ext h2.1 h2.2
    conv=>whnf
    refine⟨x.length-(k+1),_,by omega,a0b [0,1,5] [] rfl rfl,k+1,rfl,by omega,fun j hj2=>?_,?_⟩
    ·rcases Nat.lt_succ_iff_lt_or_eq.1 hj2 with h4 | rfl
     ·exact hj j h4
     ·exact h3
    rw[←b7h (by omega)]
    all_goals rfl
  ·have h:=of_decide_eq_false h
   conv=>whnf
   rw[show decide (x=y)=true from decide_eq_true (c2w hlen (fun j hj2=>hj j (by omega)))]
end Go.Eng
namespace Go.Eng
open Go Go.RowKit Go.Proofs
end Go.Eng
namespace Go.Eng
open Go Go.RowKit Go.Proofs
theorem b8c(v:CV)(hl:v.length≤1000000)(hs:srt v)(a:I2):a0f Tryz.prog 168 [idA a,.c (.fp [.sl 2 v.length (ckR v)])] [] (fun r own'=>own'=[]∧r=vcb (hasR v a)):=by
 refine a0e Tryz.func168 rfl ttok ftok rfl rfl rfl (Nat.le_of_ble_eq_true rfl) ?_
 conv=>whnf
 refine a0w mixed (by kernel_rfl) ttok ftok ?_
 conv=>whnf
 refine b1a (a3k a) rfl rfl ?_
 conv=>whnf
 by_cases h:a.1=0
 ·rw[show(a.1==0)=true from beq_iff_eq.2 h]
  conv=>whnf
  rw[show hasR v a=true from by unfold hasR;rw[beq_iff_eq.2 h];rfl]
  all_goals first | rfl | exact⟨rfl,rfl⟩
 ·rw[show(a.1==0)=false from beq_eq_false_iff_ne.2 h]
  conv=>whnf
  refine b1a (a9r v (by omega) hs a.1) rfl rfl ?_
  conv=>whnf
  rw[show hasR v a=decide (a.2<nxt v a.1)from by unfold hasR;rw[beq_eq_false_iff_ne.2 h];rfl]
  all_goals first | rfl | exact⟨rfl,rfl⟩
theorem b9g(v:CV)(hl:v.length≤1000000)(hs:srt v)(x:It):a0f Tryz.prog 136 [a4b v,.agg (itF x)] [] (fun r own'=>own'=[]∧r=vcb (rdyR v x)):=by
 refine a0e Tryz.func136 rfl ttok ftok rfl rfl rfl (Nat.le_of_ble_eq_true rfl) ?_
 conv=>whnf
 refine a6F [0] ?_
 conv=>whnf
 refine a0w mixed (by kernel_rfl) ttok ftok ?_
 conv=>whnf
 refine b1a (a9r v (by omega) hs x.id.1) rfl rfl ?_
 conv=>whnf
 by_cases h:x.id.2=nxt v x.id.1
 rotate_left
 ·rw[show(x.id.2==nxt v x.id.1)=false from beq_eq_false_iff_ne.2 h]
  conv=>whnf
  rw[show rdyR v x=false from by unfold rdyR;rw[beq_eq_false_iff_ne.2 h];rfl]
  all_goals first | rfl | exact⟨rfl,rfl⟩
 rw[show(x.id.2==nxt v x.id.1)=true from beq_iff_eq.2 h]
 conv=>whnf
 refine b1a (b8c v hl hs x.left) rfl rfl ?_
 conv=>whnf
 cases h2:hasR v x.left with
 | false =>
  conv=>whnf
  rw[show rdyR v x=false from by unfold rdyR;rw[h2];simp]
  all_goals first | rfl | exact⟨rfl,rfl⟩
 | true =>
 conv=>whnf
 refine b1a (b8c v hl hs x.right) rfl rfl ?_
 conv=>whnf
 rw[show rdyR v x=hasR v x.right from by unfold rdyR;rw[h2,beq_iff_eq.2 h];rfl]
 all_goals first | rfl | exact⟨rfl,rfl⟩
end Go.Eng
namespace Go.Eng
open Go Go.RowKit Go.Proofs
theorem b9J(l:List It)(hl:l.length≤1000000000):a0f Tryz.prog 133 [.c (.sl 7 l.length fun k=>itF (l.getD k it0))] []
  (fun r own'=>r=.c (.row 0)∧own'=[some (.row 61 7 l.length fun k=>itF (l.getD k it0))]):=by
 refine a0i Tryz.func133 rfl ttok ftok rfl rfl rfl (Nat.le_of_ble_eq_true rfl) rfl ?_
 conv=>whnf
 intro b hb;cases b with
 | true =>
  have h0:=hb rfl;obtain rfl:l=[]:=List.eq_nil_of_length_eq_zero h0
  conv=>whnf
  refine⟨_,a0M 2 61 7 (fun k=>itF (([]:List It).getD k it0)) rfl,?_⟩
  conv=>whnf
  exact⟨[some 0],rfl,rfl,rfl,rfl⟩
 | false =>
  clear hb
  conv=>whnf
  refine⟨⟨by omega,by show(0+l.length)*28≤_;omega⟩,?_⟩
  conv=>whnf
  refine⟨l.length,fun k=>itF (l.getD k it0),by omega,fun k hk=>by omega,fun k hk=>by rw[Nat.zero_add],?_⟩
  conv=>whnf
  refine⟨_,Weak.refl _,?_⟩
  conv=>whnf
  exact⟨[some 1],rfl,rfl,rfl,rfl⟩
theorem b7e(l:List It)(i j:Nat)(hij:i≤j)(hj:j≤l.length)(hl:l.length≤1000000000):a0f Tryz.prog 137 [.c (.row 0),vci .i64 i,vci .i64 j] [some (.row 61 7 l.length fun k=>itF (l.getD k it0))]
  (fun r own'=>r=.c (.row 2)∧own'=[none,none,some (.row 61 7 (l.take i++l.drop j).length fun k=>itF ((l.take i++l.drop j).getD k it0))]):=by
 refine a1B 0 rfl (fun h0=>?_) (fun c hc hc2=>?_)
 ·obtain rfl:l=[]:=List.eq_nil_of_length_eq_zero h0
  obtain rfl:j=0:=by simpa using hj
  obtain rfl:i=0:=by omega
  show a0f Tryz.prog 137 [.c (.v (.slice none 0 0)),vci .i64 (0:Nat),vci .i64 (0:Nat)] [none] _;refine a0i Tryz.func137 rfl ttok ftok rfl rfl rfl (Nat.le_of_ble_eq_true rfl) rfl ?_
  conv=>whnf
  refine⟨by omega,?_⟩
  conv=>whnf
  refine⟨⟨rfl,rfl,rfl⟩,?_⟩
  conv=>whnf
  refine⟨_,a0M 6 61 7 (fun k=>itF ([].getD k it0)) rfl,?_⟩
  conv=>whnf
  exact⟨[none,none,some 1],rfl,rfl,rfl,rfl⟩
 show a0f Tryz.prog 137 [.c (.view 1 7 0 l.length c),vci .i64 i,vci .i64 j] [none,some (.arr 61 7 c l.length fun k=>itF (l.getD k it0))] _;refine a0i Tryz.func137 rfl ttok ftok rfl rfl rfl (Nat.le_of_ble_eq_true rfl) rfl ?_
 conv=>whnf
 refine⟨⟨by omega,by omega,by omega,by omega⟩,?_⟩
 conv=>whnf
 refine a0d (fun h=>?_) (fun h=>?_)
 ·have e:(i:Int)=j:=by simpa using h
  have e:i=j:=by omega
  subst e
  conv=>whnf
  refine⟨_,a0y 6 1 (n:=l.length) rfl rfl rfl rfl (Nat.le_refl _) rfl,?_⟩
  conv=>whnf
  refine⟨[none,none,some 2],rfl,rfl,rfl,?_⟩;rw[List.take_append_drop];rfl
 have hne:i≠j:=fun e=>by rw[e]at h;simp at h
 conv=>whnf
 refine a0I 6 mixed (by kernel_rfl) ttok ftok ?_
 conv=>whnf
 refine⟨⟨by omega,by omega,by omega,by omega⟩,?_⟩
 conv=>whnf
 refine⟨⟨by omega,by omega,by omega,by omega⟩,?_⟩
 conv=>whnf
 refine⟨by omega,⟨by omega,by omega⟩,fun h1=>?_,fun h1=>absurd h1 (by omega)⟩
 have hlen:(l.take i++l.drop j).length=i+(l.length-j):=by rw[List.length_append,List.length_take,List.length_drop];omega
 have hget:∀ q,q<(l.take i++l.drop j).length→(i≤q∧(l.take i++l.drop j).getD q it0=l.getD (j+(q-i)) it0)∨(q<i∧(l.take i++l.drop j).getD q it0=l.getD q it0):=fun q hq=>by
  rcases Nat.lt_or_ge q i with h2 | h2
  ·exact .inr ⟨h2,by rw[List.getD_eq_getElem?_getD,List.getElem?_append_left (by rw[List.length_take];omega),←List.getD_eq_getElem?_getD,a0Q _ _ _ _ h2]⟩
  ·exact .inl ⟨h2,by rw[List.getD_eq_getElem?_getD,List.getElem?_append_right (by rw[List.length_take];omega),←List.getD_eq_getElem?_getD,a1j,List.length_take,Nat.min_eq_left (by omega)]⟩
 refine⟨(l.take i++l.drop j).length,fun k=>itF ((l.take i++l.drop j).getD k it0),fun q hq=>?_,?_⟩;rotate_left
 ·conv=>whnf
  refine⟨⟨by omega,by omega,by omega,by omega⟩,?_⟩
  conv=>whnf
  refine⟨by omega,(l.take i++l.drop j).length,fun k=>itF ((l.take i++l.drop j).getD k it0),fun q hq=>.inr ⟨.inl (by omega),hq,rfl⟩,?_⟩
  conv=>whnf
  refine⟨_,a0y 6 1 (n:=(l.take i++l.drop j).length) rfl rfl (by omega) (by omega) (by omega) (by omega),?_⟩
  conv=>whnf
  exact⟨[none,none,some 2],rfl,rfl,rfl,rfl⟩
 ·rcases hget q hq with⟨h2,h3⟩|⟨h2,h3⟩
  ·refine .inl ⟨by omega,by omega,?_⟩
   simp only[h3]
   congr 2
   omega
  ·exact .inr ⟨.inl (by omega),by omega,by simp only[h3]⟩
abbrev vBox(v:CV):Option Ob:=some (.cells 38 [.sl 2 v.length (ckR v)])
abbrev a1m(l:List It):Option Ob:=some (.row 61 7 l.length (itR l))
theorem c2O(v:CV)(hl:v.length≤1000000)(hs:srt v)(x:It):a0f Tryz.prog 135 [.agg (itF x),.c (.own 0 0)] [vBox v] (fun r own'=>r=vcb (rdyR v x)∧own'=[vBox v]):=by
 refine a0i Tryz.func135 rfl ttok ftok rfl rfl rfl (Nat.le_of_ble_eq_true rfl) rfl ?_
 conv=>whnf
 refine a0a (b9g v hl hs x) rfl ?_;rintro _ rfl
 conv=>whnf
 refine⟨_,Weak.refl _,?_⟩
 conv=>whnf
 exact⟨[some 0],rfl,rfl,rfl,rfl⟩
def ixrI(r:List It)(v:CV)(n:Nat)(st:St):Prop:=∃ k:Nat,n=r.length-k∧k≤r.length∧(∀ j,j<k→rdyR v (r.getD j it0)=false) ∧
 st=⟨19,2,[(0,.c (.row 0)),(1,.c (.fn 135 [(false,[.own 1 0])])),(7,vci .i64 r.length),(8,vci .i64 (k:Int))],[a1m r,vBox v]⟩
theorem b0N{k:Nat}(hk:k≤1000000000000):IntKind.i64.wrap ((k:Int)+1)=((k+1:Nat):Int):=by rw[a0s (by omega) (by omega)];omega
theorem c3O(r:List It)(hr:r.length≤1000000)(v:CV)(hl:v.length≤1000000)(hs:srt v):a0f Tryz.prog 129 [.c (.row 0),.c (.fn 135 [(false,[.own 1 0])])] [a1m r,vBox v]
  (fun rr own'=>((∃ k:Nat,k<r.length∧rdyR v (r.getD k it0)=true∧(∀ j,j<k→rdyR v (r.getD j it0)=false)∧rr=vci .i64 k)∨((∀ j,j<r.length→rdyR v (r.getD j it0)=false)∧rr=vci .i64 (-1)))∧own'=[a1m r,vBox v]):=by
 refine a0i Tryz.func129 rfl ttok ftok rfl rfl rfl (Nat.le_of_ble_eq_true rfl) rfl ?_
 conv=>whnf
 refine a0B ttok ftok (ixrI r v) (a0b [0,1,7,8] [some 0,some 1] rfl rfl) ⟨0,rfl,Nat.zero_le _,fun j hj=>by omega,rfl⟩ ?_
 rintro n st ⟨k,rfl,hk,hj,rfl⟩;have e1:=b0N (k:=k) (by omega)
 conv=>whnf
 refine a0d (fun h=>?_) (fun h=>?_)
 ·have h:=of_decide_eq_true h
  have hkl:k<r.length:=by omega
  conv=>whnf
  refine⟨⟨by omega,by omega⟩,?_⟩
  conv=>whnf
  rw[a0k];refine a0c [some 1] rfl rfl rfl rfl (c2O v hl hs (r.getD k it0)) ?_;rintro r2 own2 ⟨rfl,rfl⟩;refine⟨vcb (rdyR v (r.getD k it0)),[a1m r,vBox v],rfl,rfl,?_⟩
  conv=>whnf
  cases hv:rdyR v (r.getD k it0)with
  | true =>
   conv=>whnf
   refine⟨_,Weak.refl _,?_⟩
   conv=>whnf
   exact⟨[some 0,some 1],rfl,rfl,.inl ⟨k,hkl,hv,hj,rfl⟩,rfl⟩
  | false =>
   conv=>whnf
   rw[e1];refine⟨r.length-(k+1),_,by omega,a0b [0,1,7,8] [some 0,some 1] rfl rfl,k+1,rfl,by omega,fun j h2=>?_,rfl⟩
   rcases Nat.lt_succ_iff_lt_or_eq.1 h2 with h3 | rfl
   ·exact hj j h3
   ·exact hv
 ·have h:=of_decide_eq_false h
  conv=>whnf
  refine⟨_,Weak.refl _,?_⟩
  conv=>whnf
  exact⟨[some 0,some 1],rfl,rfl,.inr ⟨fun j hj2=>hj j (by omega),rfl⟩,rfl⟩
def tkI(N:Nat)(v0:CV)(r0:List It)(m:Nat)(st:St):Prop:=∃(v:CV) (r out:List It),m=r.length∧mayV v∧(∀ x,x∈r→0<x.id.1∧0≤x.id.2∧x.id.2≤4294967294)∧v.length+r.length≤200000∧out.length+r.length≤100000 ∧
 a1r N v0 r0=(out++(a1r r.length v r).1,(a1r r.length v r).2) ∧
 st=⟨47,0,[(2,.c (.own 0 0)),(7,.c (.row 1)),(8,.c (.row 2))],[vBox v,a1m r,a1m out]⟩
theorem b2J{v:CV}{r:List It}(h:∀ j,j<r.length→rdyR v (r.getD j it0)=false):a1r r.length v r=([],r,v):=by
 cases hn:r.length with
 | zero=>rfl
 | succ n =>
  unfold a1r;rw[List.findIdx?_eq_none_iff.2 fun x hx=>?_];obtain⟨j,hj,rfl⟩:=List.getElem_of_mem hx;have:=h j hj
  rwa [List.getD_eq_getElem?_getD,List.getElem?_eq_getElem hj]at this
theorem b2I{v:CV}{r:List It}{k:Nat}(hk:k<r.length)(h1:rdyR v (r.getD k it0)=true)(h2:∀ j,j<k→rdyR v (r.getD j it0)=false) :
  a1r r.length v r=(r.getD k it0::(a1r (delA r k).length (putR v (r.getD k it0)) (delA r k)).1,(a1r (delA r k).length (putR v (r.getD k it0)) (delA r k)).2):=by
 have hl:=a8B hk;have hg:∀ j (hj:j<r.length),r.getD j it0=r[j]:=fun j hj=>by rw[List.getD_eq_getElem?_getD,List.getElem?_eq_getElem hj];rfl
 have hf:r.findIdx? (rdyR v)=some k:=by
  rw[List.findIdx?_eq_some_iff_getElem];refine⟨hk,by rw[←hg k hk];exact h1,fun j hj=>?_⟩
  have:=h2 j hj;rw[hg j (by omega)]at this
  simp[this]
 rw[←hl]
 conv=>lhs;unfold a1r
 rw[hf]
theorem b3I(v:CV)(l:List It)(hvl:v.length≤100000)(hll:l.length≤100000)(hv:mayV v)(hcl:∀ x,x∈l→0<x.id.1∧0≤x.id.2∧x.id.2≤4294967294):a0f Tryz.prog 85 [a4b v,itS l] []
  (fun r own'=>own'=[]∧∃ ys:List It,ys.Perm l∧ys.Pairwise (fun x y=>¬ ltI y.id x.id)∧r=.tup [itS (a1r ys.length v ys).1,itS (a1r ys.length v ys).2.1,a4b (a1r ys.length v ys).2.2]):=by
 refine a0e Tryz.func85 rfl ttok ftok rfl rfl rfl (Nat.le_of_ble_eq_true rfl) ?_
 conv=>whnf
 refine a0c [] rfl rfl rfl rfl (b9J l (by omega)) ?_
 rintro r own2 ⟨rfl,rfl⟩;refine⟨.c (.row 1),[vBox v,a1m l],rfl,rfl,?_⟩
 conv=>whnf
 refine a0c [some 1] rfl rfl rfl rfl (b4K l (by omega)) ?_
 rintro r own2 ⟨ys,hp,hs,rfl,rfl⟩;have hlen:=hp.length_eq;refine⟨.tup [],[vBox v,a1m ys],rfl,rfl,?_⟩
 conv=>whnf
 refine a0c [] rfl rfl rfl rfl (b0X v (by omega)) ?_
 rintro r own2 ⟨rfl,rfl⟩;refine⟨.c (.row 2),[vBox v,a1m ys,some (.row 85 2 v.length (ckR v))],rfl,rfl,?_⟩
 conv=>whnf
 refine b4B [2] ?_
 conv=>whnf
 refine⟨fun k hk=>rfl,?_⟩
 conv=>whnf
 refine a0B ttok ftok (tkI ys.length v ys) ((a0M 8 61 7 (itR []) rfl).trans (a0b [2,7,8] [some 0,some 1,some 3] rfl rfl)) ⟨v,ys,[],rfl,hv,fun x hx=>hcl x (hp.mem_iff.1 hx),by omega,by simp;omega,rfl,rfl⟩ ?_
 rintro m st ⟨w,r,out,rfl,hw,hrc,hwl,hol,htk,rfl⟩
 conv=>whnf
 refine a0c [some 1,some 0] rfl rfl rfl rfl (c3O r (by omega) w (by omega) hw.1) ?_
 rintro rr own2 ⟨⟨k,hk,h1,h2,rfl⟩|⟨h1,rfl⟩,rfl⟩;rotate_left
 ·rw[b2J h1,List.append_nil]at htk
  refine⟨vci .i64 (-1),[vBox w,a1m r,a1m out],rfl,rfl,?_⟩
  conv=>whnf
  refine a0w mixed (by kernel_rfl) ttok ftok ?_
  conv=>whnf
  refine⟨fun _ _=>rfl,?_⟩
  conv=>whnf
  refine⟨fun _ _=>rfl,?_⟩
  conv=>whnf
  refine⟨ys,hp,hs,?_⟩;rw[htk]
  all_goals rfl
 ·rw[b2I hk h1 h2]at htk
  have hdl:=a8B hk;refine⟨vci .i64 k,[vBox w,a1m r,a1m out],rfl,rfl,?_⟩
  conv=>whnf
  refine⟨⟨by omega,by omega⟩,?_⟩
  conv=>whnf
  rw[a0k];refine⟨fun _=>itF (r.getD k it0),fun j hj2=>?_,?_⟩
  ·obtain rfl:j=0:=by omega
   rfl
  conv=>whnf
  refine⟨⟨by(try simp only[List.length_append,List.length_singleton]);omega,by show(List.length out+1)*28≤_;(try simp only[List.length_append,List.length_singleton]);omega⟩,?_⟩
  conv=>whnf
  refine app1 (enc:=itF) (d:=it0) (l:=out) (r.getD k it0) (fun k hk=>rfl) rfl ?_
  conv=>whnf
  rw[b0N (by omega)]
  have hx:=hrc (r.getD k it0) (by rw[List.getD_eq_getElem?_getD,List.getElem?_eq_getElem hk];exact List.getElem_mem hk)
  generalize hxd:r.getD k it0=x at htk h1 hx;refine a0c [some 1] rfl rfl rfl rfl (b7e r k (k+1) (by omega) (by omega) (by omega)) ?_
  rintro r2 own2 ⟨rfl,rfl⟩;refine⟨.c (.row 7),[vBox w,none,none,some (.cells 61 (itF x)),some (.row 61 7 1 fun _=>itF x),a1m (out++[x]),none,a1m (delA r k)],rfl,rfl,?_⟩
  conv=>whnf
  rw[show IntKind.u32.wrap (x.id.2+1)=x.id.2+1 from by rw[a4W];omega]
  refine a0a (c1y w (by omega) hw.1 x.id.1 (x.id.2+1) (by omega) (by omega)) rfl ?_
  rintro _ rfl
  conv=>whnf
  have hsl:=b1q w x.id.1 (x.id.2+1);refine⟨(delA r k).length,_,by omega,a0b [2,7,8] [some 0,some 7,some 5] rfl rfl,putR w x,delA r k,out++[x],rfl,a5N hw hx,fun y hy=>hrc y ((b2u r k).subset hy),by unfold putR;omega,by simp;omega,?_,rfl⟩
  rw[htk,List.append_assoc];rfl
end Go.Eng
namespace Go.Eng
open Go Go.RowKit Go.Proofs
instance (a b:I2):Decidable (ltI a b):=inferInstanceAs (Decidable (a.1<b.1∨a.1=b.1∧a.2<b.2))
def nsI(l:List It):Prop:=l.Pairwise fun x y=>¬ ltI y.id x.id
end Go.Eng
namespace Go.Eng
def valS(s:Sp):Prop:=s.cl≠0∧s.fr<s.tz
instance (s:Sp):Decidable (valS s):=inferInstanceAs (Decidable (s.cl≠0∧s.fr<s.tz))
def a0S(s t:Sp):Prop:=s.cl<t.cl∨s.cl=t.cl∧s.tz<t.fr
instance (s t:Sp):Decidable (a0S s t):=inferInstanceAs (Decidable (s.cl<t.cl∨s.cl=t.cl∧s.tz<t.fr))
def a2P(s:Sp)(c x:Int):Prop:=s.cl=c∧s.fr≤x∧x<s.tz
def hasS(l:List Sp)(c x:Int):Prop:=∃ s,s∈l∧a2P s c x
structure a1c(l:List Sp):Prop where
 val:∀ s,s∈l→valS s
 pw:l.Pairwise a0S
theorem a1c.tail{s:Sp}{l:List Sp}(h:a1c (s::l)):a1c l:=⟨fun t ht=>h.val t (List.mem_cons_of_mem _ ht),(List.pairwise_cons.1 h.pw).2⟩
theorem a0Z(c x:Int):¬hasS [] c x:=fun⟨s,h,_⟩=>by cases h
theorem a0A(s:Sp)(l:List Sp)(c x:Int):hasS (s::l) c x↔a2P s c x∨hasS l c x:=by
 constructor
 ·rintro⟨t,ht,h⟩
  rcases List.mem_cons.1 ht with rfl | ht
  ·exact .inl h
  ·exact .inr ⟨t,ht,h⟩
 ·rintro(h|⟨t,ht,h⟩)
  ·exact⟨s,List.mem_cons_self,h⟩
  ·exact⟨t,List.mem_cons_of_mem _ ht,h⟩
theorem a0K(a b:List Sp)(c x:Int):hasS (a++b) c x↔hasS a c x∨hasS b c x:=by
 induction a with
 | nil=>simp[a0Z]
 | cons s a ih=>rw[List.cons_append,a0A,ih,a0A];exact or_assoc.symm
theorem b4V{a b:List Sp}(h:a.Perm b)(c x:Int):hasS a c x↔hasS b c x :=
 ⟨fun⟨s,hs,hi⟩=>⟨s,h.mem_iff.1 hs,hi⟩,fun⟨s,hs,hi⟩=>⟨s,h.mem_iff.2 hs,hi⟩⟩
theorem a3j{s:Sp}{l:List Sp}(h:a1c (s::l)){c x:Int}(hs:a2P s c x)(hl:hasS l c x):False:=by
 obtain⟨u,hu,h1,h2,h3⟩:=hl;obtain⟨g1,g2,g3⟩:=hs;rcases(List.pairwise_cons.1 h.pw).1 u hu with h4|⟨h4,h5⟩ <;> omega
theorem b2o{s:Sp}{l:List Sp}(h:a1c (s::l)){c x:Int}(hp:hasS (s::l) c x):s.cl<c∨s.cl=c∧s.fr≤x:=by
 have hv:=(h.val s List.mem_cons_self).2;obtain⟨u,hu,h1,h2,h3⟩:=hp;rcases List.mem_cons.1 hu with rfl | hu
 ·exact .inr ⟨h1,h2⟩
 ·rcases(List.pairwise_cons.1 h.pw).1 u hu with h4|⟨h4,h5⟩ <;> omega
theorem b0d{s:Sp}{l:List Sp}(h:a1c (s::l)):¬hasS (s::l) s.cl s.tz:=by
 rintro⟨u,hu,h1,h2,h3⟩;rcases List.mem_cons.1 hu with rfl | hu
 ·omega
 ·rcases(List.pairwise_cons.1 h.pw).1 u hu with h4|⟨h4,h5⟩ <;> omega
theorem a4G{s:Sp}{l:List Sp}(h:a1c (s::l)):hasS (s::l) s.cl s.fr:=⟨s,List.mem_cons_self,rfl,Int.le_refl _,(h.val s List.mem_cons_self).2⟩
theorem a3G:∀(a b:List Sp),a1c a→a1c b→(∀ c x,hasS a c x↔hasS b c x)→a=b
 | [],[],_,_,_=>rfl
 | [],t::b,_,hb,h=>absurd ((h _ _).2 (a4G hb)) (a0Z _ _)
 | s::a,[],ha,_,h=>absurd ((h _ _).1 (a4G ha)) (a0Z _ _)
 | s::a,t::b,ha,hb,h=>by
  have h1:=b2o hb ((h _ _).1 (a4G ha));have h2:=b2o ha ((h _ _).2 (a4G hb));have hc:s.cl=t.cl:=by omega
  have hf:s.fr=t.fr:=by omega
  have vs:=(ha.val s List.mem_cons_self).2;have vt:=(hb.val t List.mem_cons_self).2;have hz:s.tz=t.tz:=by
   rcases Int.lt_trichotomy s.tz t.tz with h3 | h3 | h3
   ·exact absurd ((h s.cl s.tz).2 ⟨t,List.mem_cons_self,hc.symm,by omega,h3⟩) (b0d ha)
   ·exact h3
   ·exact absurd ((h t.cl t.tz).1 ⟨s,List.mem_cons_self,hc,by omega,h3⟩) (b0d hb)
  obtain rfl:s=t:=b7S hc hf hz
  congr 1
  refine a3G a b ha.tail hb.tail fun c x=>⟨fun hx=>?_,fun hx=>?_⟩
  ·rcases(a0A _ _ _ _).1 ((h c x).1 ((a0A _ _ _ _).2 (.inr hx)))with h4 | h4
   ·exact(a3j ha h4 hx).elim
   ·exact h4
  ·rcases(a0A _ _ _ _).1 ((h c x).2 ((a0A _ _ _ _).2 (.inr hx)))with h4 | h4
   ·exact(a3j hb h4 hx).elim
   ·exact h4
theorem a2o{s t u:Sp}(ht:valS t)(h1:a0S s t)(h2:a0S t u):a0S s u:=by
 obtain⟨_,hv⟩:=ht;unfold a0S at *;omega
theorem b2X{l:List Sp}:mayS l↔a1c l:=by
 constructor
 ·intro h
  have hv:∀ s,s∈l→valS s:=fun s hs=>by
   obtain⟨k,hk,rfl⟩:=List.getElem_of_mem hs;have:=(h k hk).1;rw[List.getD_eq_getElem?_getD,List.getElem?_eq_getElem hk]at this;simp only[Option.getD_some]at this;unfold valS;omega
  have key:∀(d i:Nat),i+d+1<l.length→a0S (l.getD i sp0) (l.getD (i+d+1) sp0):=by
   intro d
   induction d with
   | zero =>
    intro i hi;have:=(h (i+0+1) hi).2 (by omega)
    rw[show i+0+1-1=i from by omega]at this
    unfold a0S;omega
   | succ d ih =>
    intro i hi;have h1:=ih i (by omega)
    have h2:=(h (i+(d+1)+1) hi).2 (by omega)
    rw[show i+(d+1)+1-1=i+d+1 from by omega]at h2
    refine a2o (t:=l.getD (i+d+1) sp0) ?_ h1 (by unfold a0S;omega)
    rw[List.getD_eq_getElem?_getD,List.getElem?_eq_getElem (show i+d+1<l.length by omega)]
    exact hv _ (List.getElem_mem _)
  refine⟨hv,List.pairwise_iff_getElem.2 fun i j hi hj hij=>?_⟩;have:=key (j-i-1) i (by omega)
  rw[show i+(j-i-1)+1=j from by omega]at this
  simpa [List.getD_eq_getElem?_getD,List.getElem?_eq_getElem hi,List.getElem?_eq_getElem hj]using this
 ·intro h k hk
  have hg:∀ j (hj:j<l.length),l.getD j sp0=l[j]:=fun j hj=>by rw[List.getD_eq_getElem?_getD,List.getElem?_eq_getElem hj];rfl
  refine⟨?_,fun h0=>?_⟩
  ·rw[hg k hk]
   have:=h.val _ (List.getElem_mem hk);unfold valS at this;omega
  ·rw[hg k hk,hg (k-1) (by omega)]
   have:=List.pairwise_iff_getElem.1 h.pw (k-1) k (by omega) hk (by omega)
   unfold a0S at this;omega
def layA(s:Sp)(x:Sp):Bool:=decide (x.cl<s.cl∨x.cl=s.cl∧x.tz<s.fr)
def layB(s:Sp)(x:Sp):Bool:=decide (x.cl>s.cl∨x.fr>s.tz)
def layG:List Sp→List Sp × List Sp × Sp→List Sp × List Sp × Sp
 | [],r=>r
 | x::l,(a,b,s)=>if layA s x=true then layG l (a++[x],b,s)else if layB s x=true then layG l (a,b++[x],s)else layG l (a,b,⟨s.cl,min s.fr x.fr,max s.tz x.tz⟩)
def layL(l:List Sp)(s:Sp):List Sp:=let r:=layG l ([],[],s);(r.1++[r.2.2])++r.2.1
theorem a8h:∀(l a b:List Sp) (s:Sp),a1c (a++l)→valS s→(∀ x,x∈a→a0S x s)→(∀ x,x∈b→a0S s x)→a1c b→(b=[]∨∀ x,x∈l→a0S s x)→(∀ x y,x∈b→y∈l→a0S x y) →
  a1c (((layG l (a,b,s)).1++[(layG l (a,b,s)).2.2])++(layG l (a,b,s)).2.1)∧∀ c x,hasS (((layG l (a,b,s)).1++[(layG l (a,b,s)).2.2])++(layG l (a,b,s)).2.1) c x↔hasS a c x∨hasS l c x∨hasS b c x∨a2P s c x
 | [],a,b,s,hc,hv,h1,h2,hb,_,_=>by
  rw[List.append_nil]at hc;refine⟨⟨fun x hx=>?_,?_⟩,fun c x=>?_⟩
  ·simp only[layG,List.mem_append,List.mem_singleton]at hx
   rcases hx with(hx | rfl) | hx
   ·exact hc.val x hx
   ·exact hv
   ·exact hb.val x hx
  ·simp only[layG]
   rw[List.pairwise_append,List.pairwise_append];refine⟨⟨hc.pw,by simp,fun x hx y hy=>?_⟩,hb.pw,fun x hx y hy=>?_⟩
   ·rw[List.mem_singleton]at hy;rw[hy];exact h1 x hx
   ·rcases List.mem_append.1 hx with hx | hx
    ·exact a2o hv (h1 x hx) (h2 y hy)
    ·rw[List.mem_singleton]at hx;rw[hx];exact h2 y hy
  ·simp only[layG,a0K,a0A]
   have:=a0Z c x;constructor
   ·rintro((h | h | h) | h)
    ·exact .inl h
    ·exact .inr (.inr (.inr h))
    ·exact(this h).elim
    ·exact .inr (.inr (.inl h))
   ·rintro(h | h | h | h)
    ·exact .inl (.inl h)
    ·exact(this h).elim
    ·exact .inr h
    ·exact .inl (.inr (.inl h))
 | x::l,a,b,s,hc,hv,h1,h2,hb,h3,h4=>by
  have hx:valS x:=hc.val x (by simp)
  have hxl:∀ y,y∈l→a0S x y:=fun y hy=>(List.pairwise_cons.1 (List.pairwise_append.1 hc.pw).2.1).1 y hy;have hax:∀ y,y∈a→a0S y x:=fun y hy=>(List.pairwise_append.1 hc.pw).2.2 y hy x (by simp)
  have hcl:a1c (a++l):=⟨fun y hy=>hc.val y (by rw[List.mem_append]at hy ⊢;exact hy.imp id (List.mem_cons_of_mem _)),by
   have:=List.pairwise_append.1 hc.pw
   exact List.pairwise_append.2 ⟨this.1,(List.pairwise_cons.1 this.2.1).2,fun y hy z hz=>this.2.2 y hy z (List.mem_cons_of_mem _ hz)⟩⟩
  obtain⟨_,hx2⟩:=hx;obtain⟨hv1,hv2⟩:=hv;unfold layG
  by_cases g1:layA s x=true
  ·rw[if_pos g1]
   have g1:=of_decide_eq_true g1;have hb0:b=[]:=by
    rcases h3 with h3 | h3
    ·exact h3
    ·have:=h3 x (by simp);unfold a0S at this;omega
   subst hb0;have:=a8h l (a++[x]) [] s (by rw[List.append_assoc];exact hc) ⟨hv1,hv2⟩ (fun y hy=>by
    rcases List.mem_append.1 hy with hy | hy
    ·exact h1 y hy
    ·rw[List.mem_singleton]at hy;rw[hy];exact g1) h2 hb (.inl rfl) (fun y z hy=>by cases hy)
   refine⟨this.1,fun c z=>?_⟩;rw[this.2,a0K,a0A,a0A];have:=a0Z c z;constructor
   ·rintro((h | h | h) | h | h | h)
    ·exact .inl h
    ·exact .inr (.inl (.inl h))
    ·exact(this h).elim
    ·exact .inr (.inl (.inr h))
    ·exact .inr (.inr (.inl h))
    ·exact .inr (.inr (.inr h))
   ·rintro(h | (h | h) | h | h)
    ·exact .inl (.inl h)
    ·exact .inl (.inr (.inl h))
    ·exact .inr (.inl h)
    ·exact .inr (.inr (.inl h))
    ·exact .inr (.inr (.inr h))
  ·rw[if_neg g1]
   have g1:¬(x.cl<s.cl∨x.cl=s.cl∧x.tz<s.fr):=fun h=>g1 (decide_eq_true h)
   by_cases g2:layB s x=true
   ·rw[if_pos g2]
    have g2:x.cl>s.cl∨x.fr>s.tz:=of_decide_eq_true g2;have hsx:a0S s x:=by unfold a0S;omega
    have:=a8h l a (b++[x]) s hcl ⟨hv1,hv2⟩ h1 (fun y hy=>by
     rcases List.mem_append.1 hy with hy | hy
     ·exact h2 y hy
     ·rw[List.mem_singleton]at hy;rw[hy];exact hsx)
     ⟨fun y hy=>by
      rcases List.mem_append.1 hy with hy | hy
      ·exact hb.val y hy
      ·rw[List.mem_singleton]at hy;rw[hy];exact hc.val x (by simp),List.pairwise_append.2 ⟨hb.pw,by simp,fun y hy z hz=>by
       rw[List.mem_singleton]at hz;rw[hz];exact h4 y x hy (by simp)⟩⟩
     (.inr fun y hy=>a2o ⟨(hc.val x (by simp)).1,hx2⟩ hsx (hxl y hy)) (fun y z hy hz=>by
      rcases List.mem_append.1 hy with hy | hy
      ·exact h4 y z hy (List.mem_cons_of_mem _ hz)
      ·rw[List.mem_singleton]at hy;rw[hy];exact hxl z hz)
    refine⟨this.1,fun c z=>?_⟩;rw[this.2,a0K,a0A,a0A];have:=a0Z c z;constructor
    ·rintro(h | h | (h | h | h) | h)
     ·exact .inl h
     ·exact .inr (.inl (.inr h))
     ·exact .inr (.inr (.inl h))
     ·exact .inr (.inl (.inl h))
     ·exact(this h).elim
     ·exact .inr (.inr (.inr h))
    ·rintro(h | (h | h) | h | h)
     ·exact .inl h
     ·exact .inr (.inr (.inl (.inr (.inl h))))
     ·exact .inr (.inl h)
     ·exact .inr (.inr (.inl (.inl h)))
     ·exact .inr (.inr (.inr h))
   ·rw[if_neg g2]
    have g2:¬(x.cl>s.cl∨x.fr>s.tz):=fun h=>g2 (decide_eq_true h);have ecl:x.cl=s.cl:=by omega
    have hb0:b=[]:=by
     rcases h3 with h3 | h3
     ·exact h3
     ·have:=h3 x (by simp);unfold a0S at this;omega
    subst hb0;have:=a8h l a [] ⟨s.cl,min s.fr x.fr,max s.tz x.tz⟩ hcl ⟨hv1,by show min s.fr x.fr<max s.tz x.tz;omega⟩ (fun y hy=>by
     have q1:=h1 y hy;have q2:=hax y hy;unfold a0S at *;show y.cl<s.cl∨y.cl=s.cl∧y.tz<min s.fr x.fr
     omega) (fun y hy=>by cases hy) ⟨fun y hy=>(by cases hy),List.Pairwise.nil⟩ (.inl rfl) (fun y z hy=>by cases hy)
    refine⟨this.1,fun c z=>?_⟩;rw[this.2,a0A];have hn:=a0Z c z;have hi:a2P ⟨s.cl,min s.fr x.fr,max s.tz x.tz⟩ c z↔a2P x c z∨a2P s c z:=by
     unfold a2P;show s.cl=c∧min s.fr x.fr≤z∧z<max s.tz x.tz↔_;omega
    rw[hi];constructor
    ·rintro(h | h | h | h | h)
     ·exact .inl h
     ·exact .inr (.inl (.inr h))
     ·exact(hn h).elim
     ·exact .inr (.inl (.inl h))
     ·exact .inr (.inr (.inr h))
    ·rintro(h | (h | h) | h | h)
     ·exact .inl h
     ·exact .inr (.inr (.inr (.inl h)))
     ·exact .inr (.inl h)
     ·exact(hn h).elim
     ·exact .inr (.inr (.inr (.inr h)))
theorem b9D{l:List Sp}{s:Sp}(hl:a1c l)(hs:valS s):a1c (layL l s)∧∀ c x,hasS (layL l s) c x↔hasS l c x∨a2P s c x:=by
 have h:=a8h l [] [] s hl hs (fun x hx=>by cases hx) (fun x hx=>by cases hx) ⟨fun y hy=>(by cases hy),List.Pairwise.nil⟩ (.inl rfl) (fun y z hy=>by cases hy)
 refine⟨h.1,fun c x=>(h.2 c x).trans ?_⟩;have hn:=a0Z c x;constructor
 ·rintro(h | h | h | h)
  ·exact(hn h).elim
  ·exact .inl h
  ·exact(hn h).elim
  ·exact .inr h
 ·rintro(h | h)
  ·exact .inr (.inl h)
  ·exact .inr (.inr (.inr h))
def setL(l:List Sp):List Sp:=l.foldl (fun o s=>if valS s then layL o s else o) []
theorem b3W(l:List Sp)(s:Sp):setL (l++[s])=if valS s then layL (setL l) s else setL l:=by simp[setL]
def valid(l:List Sp):List Sp:=l.filter fun s=>decide (valS s)
theorem a0U(l:List Sp):a1c (setL l)∧∀ c x,hasS (setL l) c x↔hasS (valid l) c x:=by
 suffices h:∀(n:Nat) (l:List Sp),l.length=n→(a1c (setL l)∧∀ c x,hasS (setL l) c x↔hasS (valid l) c x)from h _ l rfl
 intro n
 induction n with
 | zero =>
  intro l hl;obtain rfl:=List.eq_nil_of_length_eq_zero hl;exact⟨⟨fun y hy=>(by cases hy),List.Pairwise.nil⟩,fun c x=>Iff.rfl⟩
 | succ n ih =>
  intro l hl;have hne:l≠[]:=fun e=>by subst e;cases hl
  obtain⟨l',s,rfl⟩:∃ l' s,l=l'++[s]:=⟨l.dropLast,l.getLast hne,(List.dropLast_concat_getLast hne).symm⟩;obtain⟨h1,h2⟩:=ih l' (by simpa using hl)
  rw[b3W];have hv:valid (l'++[s])=valid l'++valid [s]:=List.filter_append ..
  by_cases hs:valS s
  ·rw[if_pos hs]
   have h3:=b9D h1 hs;refine⟨h3.1,fun c x=>?_⟩;rw[h3.2,h2,hv,a0K,show valid [s]=[s]from by simp[valid,hs],a0A]
   have hn:=a0Z c x;constructor
   ·rintro(h | h)
    ·exact .inl h
    ·exact .inr (.inl h)
   ·rintro(h | h | h)
    ·exact .inl h
    ·exact .inr h
    ·exact(hn h).elim
  ·rw[if_neg hs,hv,show valid [s]=[]from by simp[valid,hs],List.append_nil]
   exact⟨h1,h2⟩
def a2v(l:List Sp):Int:=(l.map fun s=>s.tz-s.fr).foldr (·+·) 0
theorem a2h(a b:List Sp):a2v (a++b)=a2v a+a2v b:=by
 induction a with
 | nil=>simp[a2v]
 | cons s a ih=>simp only[a2v,List.cons_append,List.map_cons,List.foldr_cons]at *;omega
theorem b2N{a b:List Sp}(h:a.Perm b):a2v a=a2v b:=by
 induction h with
 | nil=>rfl
 | cons x _ ih=>simp only[a2v,List.map_cons,List.foldr_cons]at *;omega
 | swap x y l=>simp only[a2v,List.map_cons,List.foldr_cons];omega
 | trans _ _ h1 h2=>omega
def mrg(o:List Sp)(s:Sp):List Sp :=
 match o.getLast? with
 | some t=>if t.cl=s.cl∧s.fr≤t.tz then o.dropLast++[⟨t.cl,t.fr,max t.tz s.tz⟩]else o++[s]
 | none=>[s]
theorem b1J(o:List Sp)(t s:Sp):mrg (o++[t]) s=if t.cl=s.cl∧s.fr≤t.tz then o++[⟨t.cl,t.fr,max t.tz s.tz⟩]else(o++[t])++[s]:=by
 unfold mrg;rw[List.getLast?_concat,List.dropLast_concat]
def lexS(s t:Sp):Prop:=s.cl<t.cl∨s.cl=t.cl∧s.fr≤t.fr
theorem a5c(o:List Sp):o=[]∨∃ o' t,o=o'++[t]:=by
 by_cases h:o=[]
 ·exact .inl h
 ·exact .inr ⟨o.dropLast,o.getLast h,(List.dropLast_concat_getLast h).symm⟩
theorem c1R{o:List Sp}{s:Sp}(ho:a1c o)(hs:valS s)(hlex:∀ t,t∈o→lexS t s) :
  a1c (mrg o s)∧(∀ c x,hasS (mrg o s) c x↔hasS o c x∨a2P s c x)∧a2v (mrg o s)≤a2v o+a2v [s]∧(mrg o s).length≤o.length+1∧∀ u,lexS s u→∀ t,t∈mrg o s→lexS t u:=by
 obtain⟨hs1,hs2⟩:=hs;rcases a5c o with rfl|⟨o,t,rfl⟩
 ·refine⟨⟨fun y hy=>?_,by simp[mrg]⟩,fun c x=>?_,by simp[mrg,a2v],by simp[mrg],fun u hu t ht=>?_⟩
  ·simp[mrg]at hy;rw[hy];exact⟨hs1,hs2⟩
  ·simp only[mrg,List.getLast?_nil,a0A]
   exact or_comm
  ·simp[mrg]at ht;rw[ht];exact hu
 ·rw[b1J]
  have ht:valS t:=ho.val t (by simp)
  have hlt:=hlex t (by simp)
  have hp:=List.pairwise_append.1 ho.pw;have hot:∀ y,y∈o→a0S y t:=fun y hy=>hp.2.2 y hy t (by simp)
  obtain⟨ht1,ht2⟩:=ht
  by_cases h:t.cl=s.cl∧s.fr≤t.tz
  ·rw[if_pos h]
   have hfr:t.fr≤s.fr:=by unfold lexS at hlt;omega
   refine⟨⟨fun y hy=>?_,List.pairwise_append.2 ⟨hp.1,by simp,fun y hy z hz=>?_⟩⟩,fun c x=>?_,?_,by simp,fun u hu y hy=>?_⟩
   ·rcases List.mem_append.1 hy with hy | hy
    ·exact ho.val y (by simp[hy])
    ·rw[List.mem_singleton]at hy;rw[hy];exact⟨ht1,by show t.fr<max t.tz s.tz;omega⟩
   ·rw[List.mem_singleton]at hz;rw[hz]
    have:=hot y hy;unfold a0S at *;exact this
   ·rw[a0K,a0A,a0K,a0A]
    have hn:=a0Z c x;have hi:a2P ⟨t.cl,t.fr,max t.tz s.tz⟩ c x↔a2P t c x∨a2P s c x:=by
     unfold a2P;show t.cl=c∧t.fr≤x∧x<max t.tz s.tz↔_;omega
    rw[hi];constructor
    ·rintro(h | (h | h) | h)
     ·exact .inl (.inl h)
     ·exact .inl (.inr (.inl h))
     ·exact .inr h
     ·exact(hn h).elim
    ·rintro((h | h | h) | h)
     ·exact .inl h
     ·exact .inr (.inl (.inl h))
     ·exact(hn h).elim
     ·exact .inr (.inl (.inr h))
   ·rw[a2h,a2h]
    simp only[a2v,List.map_cons,List.map_nil,List.foldr_cons,List.foldr_nil];omega
   ·rcases List.mem_append.1 hy with hy | hy
    ·have:=hlex y (by simp[hy]);unfold lexS at *;omega
    ·rw[List.mem_singleton]at hy;rw[hy];unfold lexS at *;show t.cl<u.cl∨t.cl=u.cl∧t.fr≤u.fr;omega
  ·rw[if_neg h]
   have hts:a0S t s:=by unfold lexS at hlt;unfold a0S;omega
   refine⟨⟨fun y hy=>?_,List.pairwise_append.2 ⟨ho.pw,by simp,fun y hy z hz=>?_⟩⟩,fun c x=>?_,?_,by simp,fun u hu y hy=>?_⟩
   ·rcases List.mem_append.1 hy with hy | hy
    ·exact ho.val y hy
    ·rw[List.mem_singleton]at hy;rw[hy];exact⟨hs1,hs2⟩
   ·rw[List.mem_singleton]at hz;rw[hz]
    rcases List.mem_append.1 hy with hy | hy
    ·exact a2o ⟨ht1,ht2⟩ (hot y hy) hts
    ·rw[List.mem_singleton]at hy;rw[hy];exact hts
   ·rw[a0K (o++[t]),a0A]
    have hn:=a0Z c x;constructor
    ·rintro(h | h | h)
     ·exact .inl h
     ·exact .inr h
     ·exact(hn h).elim
    ·rintro(h | h)
     ·exact .inl h
     ·exact .inr (.inl h)
   ·rw[a2h (o++[t])];omega
   ·rcases List.mem_append.1 hy with hy | hy
    ·have:=hlex y hy;unfold lexS at *;omega
    ·rw[List.mem_singleton]at hy;rw[hy];exact hu
def mrgL(l:List Sp):List Sp:=l.foldl mrg []
theorem a9u(l:List Sp)(s:Sp):mrgL (l++[s])=mrg (mrgL l) s:=by simp[mrgL]
theorem b9z(l:List Sp)(hv:∀ s,s∈l→valS s)(hp:l.Pairwise lexS) :
  a1c (mrgL l)∧(∀ c x,hasS (mrgL l) c x↔hasS l c x)∧a2v (mrgL l)≤a2v l∧(mrgL l).length≤l.length∧∀ u,(∀ t,t∈l→lexS t u)→∀ t,t∈mrgL l→lexS t u:=by
 suffices h:∀(n:Nat) (l:List Sp),l.length=n→(∀ s,s∈l→valS s)→l.Pairwise lexS→(a1c (mrgL l)∧(∀ c x,hasS (mrgL l) c x↔hasS l c x)∧a2v (mrgL l)≤a2v l∧(mrgL l).length≤l.length∧∀ u,(∀ t,t∈l→lexS t u)→∀ t,t∈mrgL l→lexS t u)from h _ l rfl hv hp
 clear hv hp l;intro n
 induction n with
 | zero =>
  intro l hl _ _;obtain rfl:=List.eq_nil_of_length_eq_zero hl;exact⟨⟨fun y hy=>(by cases hy),List.Pairwise.nil⟩,fun c x=>Iff.rfl,Int.le_refl _,Nat.le_refl _,fun u _ t ht=>by cases ht⟩
 | succ n ih =>
  intro l hl hv hp;rcases a5c l with rfl|⟨l,s,rfl⟩
  ·cases hl
  have hp':=List.pairwise_append.1 hp;obtain⟨h1,h2,h3,h4,h5⟩:=ih l (by simpa using hl) (fun t ht=>hv t (by simp[ht])) hp'.1
  rw[a9u];obtain⟨g1,g2,g3,g4,g5⟩:=c1R h1 (hv s (by simp)) (h5 s fun t ht=>hp'.2.2 t ht s (by simp))
  refine⟨g1,fun c x=>?_,?_,?_,fun u hu=>g5 u (hu s (by simp))⟩
  ·rw[g2,h2,a0K,a0A]
   have hn:=a0Z c x;constructor
   ·rintro(h | h)
    ·exact .inl h
    ·exact .inr (.inl h)
   ·rintro(h | h | h)
    ·exact .inl h
    ·exact .inr h
    ·exact(hn h).elim
  ·rw[a2h];omega
  ·simp;omega
structure ofS(l o:List Sp):Prop where
 can:a1c o
 has:∀ c x,hasS o c x↔hasS (valid l) c x
 size:a2v o≤a2v (valid l)
 len:o.length≤l.length
theorem c1L{l ys:List Sp}(hp:ys.Perm (valid l))(hs:ys.Pairwise lexS):ofS l (mrgL ys):=by
 have hv:∀ s,s∈ys→valS s:=fun s h=>by
  have:=hp.mem_iff.1 h;simp only[valid,List.mem_filter,decide_eq_true_eq]at this;exact this.2
 obtain⟨h1,h2,h3,h4,_⟩:=b9z ys hv hs;exact⟨h1,fun c x=>(h2 c x).trans (b4V hp c x),by rw[←b2N hp];exact h3,Nat.le_trans h4 (by rw[hp.length_eq];exact List.length_filter_le _ _)⟩
theorem b9v{l o:List Sp}(h:ofS l o):o=setL l:=a3G _ _ h.can (a0U l).1 fun c x=>(h.has c x).trans ((a0U l).2 c x).symm
theorem a1X{l:List Sp}(h:a1c l):valid l=l:=List.filter_eq_self.2 fun s hs=>decide_eq_true (h.val s hs)
theorem a1o(a b:List Sp):valid (a++b)=valid a++valid b:=List.filter_append ..
end Go.Eng
namespace Go.Eng
open Go Go.RowKit Go.Proofs
def bAt(s:ByteArray)(i:Nat):Int:=((s[i]!).toNat:Int)
theorem a4R(s:ByteArray)(i:Nat):0≤bAt s i∧bAt s i≤255:=by
 have:=(s[i]!).toNat_lt;unfold bAt;omega
def a8r(c:Int):Option (Nat × Int × Int) :=
 if 240≤c∧c<248 then some (4,c-240,65536)else if 224≤c∧c<240 then some (3,c-224,2048)else if 192≤c∧c<224 then some (2,c-192,128)else if 128≤c then none else some (1,c,0)
def a4l(s:ByteArray)(i:Nat):Nat→Nat→Int→Option Int
 | _,0,v=>some v
 | k,m+1,v=>if bAt s (i+k)<128∨191<bAt s (i+k)then none else a4l s i (k+1) m (64*v+bAt s (i+k)-128)
def badR(v least:Int):Prop:=v<least∨1114111<v∨55296≤v∧v≤57343
instance (v least:Int):Decidable (badR v least):=by unfold badR;infer_instance
def a6X(s:ByteArray)(i:Nat):Option (Int × Nat) :=
 match a8r (bAt s i)with
 | none=>none
 | some (n,v0,least)=>if s.size<i+n then none else match a4l s i 1 (n-1) v0 with
  | none=>none
  | some v=>if badR v least then none else some (v,n)
def a0W(s:ByteArray):Nat→Nat→Option (List Int)
 | 0,_=>some []
 | f+1,i=>if i<s.size then match a6X s i with
   | none=>none
   | some (v,n)=>(a0W s f (i+n)).map (v::·)
  else some []
def a0E(s:ByteArray):Option (List Int):=a0W s s.size 0
theorem b9Q{c:Int}(h:¬(240≤c∧c<248))(h2:¬(224≤c∧c<240))(h3:¬(192≤c∧c<224))(h4:¬128≤c):a8r c=some (1,c,0):=by unfold a8r;rw[if_neg h,if_neg h2,if_neg h3,if_neg h4]
theorem a3x{s:ByteArray}{i k m:Nat}{v:Int}(h:¬(bAt s (i+k)<128∨191<bAt s (i+k))):a4l s i k (m+1) v=a4l s i (k+1) m (64*v+bAt s (i+k)-128):=by rw[a4l,if_neg h]
theorem a5T{s:ByteArray}{i n:Nat}{v u least:Int}(hh:a8r (bAt s i)=some (n,v,least))(h:¬s.size<i+n)(ht:a4l s i 1 (n-1) v=some u)(hb:¬badR u least):a6X s i=some (u,n):=by unfold a6X;simp only[hh];rw[if_neg h,ht];simp only;rw[if_neg hb]
end Go.Eng
namespace Go.Eng
open Go Go.RowKit
theorem a3m(s:ByteArray)(i:Nat)(h:i<s.size):(s.get! i).toNat=(bAt s i).toNat:=by
 unfold bAt;rw[Int.toNat_natCast]
 congr 1
 show s.get! i=_;simp[ByteArray.get!,getElem!_pos,h];rfl
theorem a0P{s:ByteArray}{i k m:Nat}{v u:Int}(h:a4l s i k (m+1) v=some u):128≤bAt s (i+k)∧bAt s (i+k)≤191∧a4l s i (k+1) m (64*v+bAt s (i+k)-128)=some u:=by
 unfold a4l at h;split at h
 ·cases h
 ·exact⟨by omega,by omega,h⟩
theorem a3g{s:ByteArray}{i k:Nat}{v u:Int}(h:a4l s i k 0 v=some u):v=u:=by unfold a4l at h;cases h;rfl
theorem a3w{v:Int}(h0:0≤v)(h1:v≤1114111)(h2:¬(55296≤v∧v≤57343)):Utf8.valid v=true:=by
 unfold Utf8.valid;simp only[Bool.or_eq_true,Bool.and_eq_true,decide_eq_true_eq];omega
set_option maxHeartbeats 1000000 in
theorem a2d{s:ByteArray}{i n:Nat}{v:Int}(hi:i<s.size)(h:a6X s i=some (v,n)):Utf8.decode s i=(v.toNat,n)∧i+n≤s.size∧1≤n∧0≤v∧Utf8.valid v=true:=by
 have l0:=a4R s i;have l1:=a4R s (i+1);have l2:=a4R s (i+2);have l3:=a4R s (i+3);unfold a6X at h;split at h
 ·cases h
 ·rename_i n0 v0 least hh
  split at h
  ·cases h
  ·rename_i hfit
   split at h
   ·cases h
   ·rename_i v1 ht
    split at h
    ·cases h
    ·rename_i hb
     cases h;unfold badR at hb;unfold a8r at hh;have g0:=a3m s i (by omega)
     split at hh
     ·cases hh
      obtain⟨a1,b1,ht⟩:=a0P ht;obtain⟨a2,b2,ht⟩:=a0P ht;obtain⟨a3,b3,ht⟩:=a0P ht;have ht:=a3g ht;have g1:=a3m s (i+1) (by omega)
      have g2:=a3m s (i+2) (by omega)
      have g3:=a3m s (i+3) (by omega)
      refine⟨?_,by omega,by omega,by omega,a3w (by omega) (by omega) (by omega)⟩
      simp only[Nat.add_assoc,Nat.reduceAdd]at a1 a2 a3 b1 b2 b3 ht g1 g2 g3;have hval:=a3w (v:=v) (by omega) (by omega) (by omega)
      unfold Utf8.decode;simp only[Nat.add_zero,g0,g1,g2,g3];have c1:i+1<s.size:=by omega
      have c2:i+2<s.size:=by omega
      have c3:i+3<s.size:=by omega
      rw[if_neg (by omega),if_neg (by simp;omega),if_neg (by simp;omega),if_pos (by simp[c1,c2,c3];omega)]
      have hv:(bAt s i).toNat%8*262144+(bAt s (i+1)).toNat%64*4096+(bAt s (i+2)).toNat%64*64+(bAt s (i+3)).toNat%64=v.toNat:=by omega
      rw[hv,if_pos];simp only[Bool.and_eq_true,decide_eq_true_eq];exact⟨by omega,by rw[Int.toNat_of_nonneg (by omega)];exact hval⟩
     ·split at hh
      ·cases hh
       obtain⟨a1,b1,ht⟩:=a0P ht;obtain⟨a2,b2,ht⟩:=a0P ht;have ht:=a3g ht;have g1:=a3m s (i+1) (by omega)
       have g2:=a3m s (i+2) (by omega)
       refine⟨?_,by omega,by omega,by omega,a3w (by omega) (by omega) (by omega)⟩
       simp only[Nat.add_assoc,Nat.reduceAdd]at a1 a2 b1 b2 ht g1 g2;have hval:=a3w (v:=v) (by omega) (by omega) (by omega)
       unfold Utf8.decode;simp only[Nat.add_zero,g0,g1,g2];have c1:i+1<s.size:=by omega
       have c2:i+2<s.size:=by omega
       rw[if_neg (by omega),if_neg (by simp;omega),if_pos (by simp[c1,c2];omega)]
       have hv:(bAt s i).toNat%16*4096+(bAt s (i+1)).toNat%64*64+(bAt s (i+2)).toNat%64=v.toNat:=by omega
       rw[hv,if_pos];simp only[Bool.and_eq_true,decide_eq_true_eq];exact⟨by omega,by rw[Int.toNat_of_nonneg (by omega)];exact hval⟩
      ·split at hh
       ·cases hh
        obtain⟨a1,b1,ht⟩:=a0P ht;have ht:=a3g ht;have g1:=a3m s (i+1) (by omega)
        refine⟨?_,by omega,by omega,by omega,a3w (by omega) (by omega) (by omega)⟩
        unfold Utf8.decode;simp only[Nat.add_zero,g0,g1];have c1:i+1<s.size:=by omega
        rw[if_neg (by omega),if_pos (by simp[c1];omega)]
        have hv:(bAt s i).toNat%32*64+(bAt s (i+1)).toNat%64=v.toNat:=by omega
        rw[hv,if_pos (by omega)]
       ·split at hh
        ·cases hh
        ·cases hh
         have ht:=a3g ht;refine⟨?_,by omega,by omega,by omega,a3w (by omega) (by omega) (by omega)⟩
         unfold Utf8.decode;simp only[Nat.add_zero,g0];rw[if_pos (by omega),ht]
theorem a7A(s:ByteArray):∀(f i:Nat) (l:List Int),i≤s.size→a0W s f i=some l→l.length≤s.size-i
 | 0,i,l,hi,h=>by cases h;simp
 | f+1,i,l,hi,h=>by
  unfold a0W at h;split at h
  ·rename_i hi
   split at h
   ·cases h
   ·rename_i v n hc
    cases hr:a0W s f (i+n)with
    | none=>rw[hr]at h;cases h
    | some l' =>
     rw[hr]at h;cases h;obtain⟨h1,h2,h3,h4⟩:=a2d hi hc;have:=a7A s f (i+n) l' (by omega) hr
     simp;omega
  ·cases h;simp
theorem b3k{s:ByteArray}{l:List Int}(h:a0E s=some l):l.length≤s.size:=by
 have:=a7A s s.size 0 l (by omega) h
 omega
end Go.Eng
namespace Go.Eng
open Go Go.RowKit
abbrev encL(v:Int):List UInt8:=(Utf8.encode v).data.toList
theorem a1M(s:ByteArray):s.data.toList.length=s.size:=by rw[Array.length_toList];rfl
theorem c0p{s:ByteArray}{i:Nat}(h:i<s.data.toList.length):(s.data.toList[i]).toNat=(bAt s i).toNat:=by
 have h':i<s.size:=by rw[←a1M];exact h
 rw[←a3m s i h'];simp[ByteArray.get!,h']
theorem a1b{s:ByteArray}{i:Nat}(h:i<s.size):s.data.toList.drop i=UInt8.ofNat (bAt s i).toNat::s.data.toList.drop (i+1):=by
 have h':i<s.data.toList.length:=by rw[a1M];exact h
 rw[List.drop_eq_getElem_cons h',←c0p h',UInt8.ofNat_toNat]
theorem a1k{s:ByteArray}{i:Nat}{b:UInt8}{r:List UInt8}(h:s.data.toList.drop i=b::r):i<s.size∧bAt s i=(b.toNat:Int)∧s.data.toList.drop (i+1)=r:=by
 have hi:i<s.size:=by
  have:i<s.data.toList.length:=by
   false_or_by_contra
   rw[List.drop_eq_nil_of_le (by omega)]at h
   cases h
  rw[a1M]at this;exact this
 rw[a1b hi]at h;injection h with h1 h2;refine⟨hi,?_,h2⟩;have l:=a4R s i;rw[←h1];simp;omega
theorem a9U{s:ByteArray}{i n:Nat}{v:Int}(hi:i<s.size)(h:a6X s i=some (v,n)):s.data.toList.drop i=encL v++s.data.toList.drop (i+n):=by
 have l0:=a4R s i;have l1:=a4R s (i+1);have l2:=a4R s (i+2);have l3:=a4R s (i+3);obtain⟨_,hsz,hn1,hv0,hval⟩:=a2d hi h;unfold a6X at h;split at h
 ·cases h
 ·rename_i n0 v0 least hh
  split at h
  ·cases h
  ·rename_i hfit
   split at h
   ·cases h
   ·rename_i v1 ht
    split at h
    ·cases h
    ·rename_i hb
     cases h;unfold badR at hb;unfold a8r at hh;unfold encL Utf8.encode;rw[if_pos hval];split at hh
     ·cases hh
      obtain⟨a1,b1,ht⟩:=a0P ht;obtain⟨a2,b2,ht⟩:=a0P ht;obtain⟨a3,b3,ht⟩:=a0P ht;have ht:=a3g ht;simp only[Nat.add_assoc,Nat.reduceAdd]at a1 a2 a3 b1 b2 b3 ht;simp only;rw[if_neg (by omega),if_neg (by omega),if_neg (by omega),a1b hi,a1b (i:=i+1) (by omega),a1b (i:=i+1+1) (by omega),a1b (i:=i+1+1+1) (by omega)]
      simp only[Nat.add_assoc,Nat.reduceAdd];rw[show(bAt s i).toNat=0xF0+v.toNat/262144 from by omega,show(bAt s (i+1)).toNat=0x80+v.toNat/4096%64 from by omega,show(bAt s (i+2)).toNat=0x80+v.toNat/64%64 from by omega,show(bAt s (i+3)).toNat=0x80+v.toNat%64 from by omega]
      rfl
     ·split at hh
      ·cases hh
       obtain⟨a1,b1,ht⟩:=a0P ht;obtain⟨a2,b2,ht⟩:=a0P ht;have ht:=a3g ht;simp only[Nat.add_assoc,Nat.reduceAdd]at a1 a2 b1 b2 ht;simp only;rw[if_neg (by omega),if_neg (by omega),if_pos (by omega),a1b hi,a1b (i:=i+1) (by omega),a1b (i:=i+1+1) (by omega)]
       simp only[Nat.add_assoc,Nat.reduceAdd];rw[show(bAt s i).toNat=0xE0+v.toNat/4096 from by omega,show(bAt s (i+1)).toNat=0x80+v.toNat/64%64 from by omega,show(bAt s (i+2)).toNat=0x80+v.toNat%64 from by omega]
       rfl
      ·split at hh
       ·cases hh
        obtain⟨a1,b1,ht⟩:=a0P ht;have ht:=a3g ht;simp only;rw[if_neg (by omega),if_pos (by omega),a1b hi,a1b (i:=i+1) (by omega)]
        simp only[Nat.add_assoc,Nat.reduceAdd];rw[show(bAt s i).toNat=0xC0+v.toNat/64 from by omega,show(bAt s (i+1)).toNat=0x80+v.toNat%64 from by omega]
        rfl
       ·split at hh
        ·cases hh
        ·cases hh
         have ht:=a3g ht;simp only;rw[if_pos (by omega),a1b hi,ht]
         rfl
theorem nb{n:Nat}(h:n<256):(UInt8.ofNat n).toNat=n:=by simp;omega
theorem a4j{v:Int}(h:Utf8.valid v=true):0≤v∧v≤1114111∧¬(55296≤v∧v≤57343):=by
 unfold Utf8.valid at h;simp only[Bool.or_eq_true,Bool.and_eq_true,decide_eq_true_eq]at h;omega
theorem a6E{s:ByteArray}{i:Nat}{v:Int}{r:List UInt8}(hv:Utf8.valid v=true)(h:s.data.toList.drop i=encL v++r):i<s.size∧a6X s i=some (v,(encL v).length)∧s.data.toList.drop (i+(encL v).length)=r:=by
 obtain⟨h0,h1,h2⟩:=a4j hv;unfold encL Utf8.encode at *;rw[if_pos hv]at *;simp only at *
 by_cases c1:v.toNat<128
 ·rw[if_pos c1]at *
  obtain⟨g0,e0,d0⟩:=a1k h;rw[nb (by omega)]at e0
  refine⟨g0,?_,d0⟩;refine a5T (n:=1) (v:=v) (least:=0) ?_ (by omega) rfl (by unfold badR;omega)
  rw[b9Q (by omega) (by omega) (by omega) (by omega),e0,Int.toNat_of_nonneg h0]
 rw[if_neg c1]at *
 by_cases c2:v.toNat<2048
 ·rw[if_pos c2]at *
  obtain⟨g0,e0,h⟩:=a1k h;obtain⟨g1,e1,d0⟩:=a1k h;rw[nb (by omega)]at e0 e1
  refine⟨g0,?_,d0⟩;refine a5T (n:=2) (v:=bAt s i-192) (least:=128) ?_ (by omega) ?_ (by unfold badR;omega)
  ·unfold a8r;rw[if_neg (by omega),if_neg (by omega),if_pos (by omega)]
  ·rw[a3x (by omega)];unfold a4l;congr 1;omega
 rw[if_neg c2]at *
 by_cases c3:v.toNat<65536
 ·rw[if_pos c3]at *
  obtain⟨g0,e0,h⟩:=a1k h;obtain⟨g1,e1,h⟩:=a1k h;obtain⟨g2,e2,d0⟩:=a1k h;rw[nb (by omega)]at e0 e1 e2
  refine⟨g0,?_,d0⟩;refine a5T (n:=3) (v:=bAt s i-224) (least:=2048) ?_ (by omega) ?_ (by unfold badR;omega)
  ·unfold a8r;rw[if_neg (by omega),if_pos (by omega)]
  ·simp only[Nat.add_assoc,Nat.reduceAdd]at e1 e2
   rw[a3x (by omega),a3x (by simp only[Nat.reduceAdd];omega)];unfold a4l;simp only[Nat.reduceAdd];congr 1;omega
 rw[if_neg c3]at *;obtain⟨g0,e0,h⟩:=a1k h;obtain⟨g1,e1,h⟩:=a1k h;obtain⟨g2,e2,h⟩:=a1k h;obtain⟨g3,e3,d0⟩:=a1k h;rw[nb (by omega)]at e0 e1 e2 e3
 refine⟨g0,?_,d0⟩;refine a5T (n:=4) (v:=bAt s i-240) (least:=65536) ?_ (by omega) ?_ (by unfold badR;omega)
 ·unfold a8r;rw[if_pos (by omega)]
 ·simp only[Nat.add_assoc,Nat.reduceAdd]at e1 e2 e3
  rw[a3x (by omega),a3x (by simp only[Nat.reduceAdd];omega),a3x (by simp only[Nat.reduceAdd];omega)];unfold a4l;simp only[Nat.reduceAdd];congr 1;omega
end Go.Eng
namespace Go.Eng
open Go Go.RowKit
theorem b9m(l:List Int):∀ s:ByteArray,(l.foldl (fun r n=>r++Utf8.encode n) s).data.toList=s.data.toList++l.flatMap encL:=by
 induction l with
 | nil=>intro s;simp
 | cons a l ih=>intro s;rw[List.foldl_cons,ih];simp[List.flatMap_cons]
theorem b9n(l:List Int):(runesBytes l).data.toList=l.flatMap encL:=by
 unfold runesBytes;rw[b9m];rfl
theorem b8k{a b:ByteArray}(h:a.data.toList=b.data.toList):a=b:=by
 rcases a with⟨u⟩;rcases b with⟨v⟩;have e:u=v:=Array.toList_inj.1 h;rw[e]
theorem a7B(s:ByteArray):∀(f i:Nat) (l:List Int),s.size-i≤f→a0W s f i=some l→s.data.toList.drop i=l.flatMap encL∧∀ v∈l,Utf8.valid v=true
 | 0,i,l,hf,h=>by
  cases h;rw[List.drop_eq_nil_of_le (by rw[a1M];omega)]
  simp
 | f+1,i,l,hf,h=>by
  unfold a0W at h;split at h
  ·rename_i hi
   split at h
   ·cases h
   ·rename_i v n hc
    cases hr:a0W s f (i+n)with
    | none=>rw[hr]at h;cases h
    | some l' =>
     rw[hr]at h;cases h;obtain⟨h1,h2,h3,h4,h5⟩:=a2d hi hc;obtain⟨g1,g2⟩:=a7B s f (i+n) l' (by omega) hr
     rw[a9U hi hc,g1];refine⟨by simp[List.flatMap_cons],fun u hu=>?_⟩
     rcases List.mem_cons.1 hu with rfl | hu
     ·exact h5
     ·exact g2 u hu
  ·cases h
   rw[List.drop_eq_nil_of_le (by rw[a1M];omega)]
   simp
def vals(l:List Int):Prop:=∀ v∈l,Utf8.valid v=true
theorem a3r{s:ByteArray}{l:List Int}(h:a0E s=some l):runesBytes l=s∧vals l:=by
 obtain⟨h1,h2⟩:=a7B s s.size 0 l (by omega) h
 refine⟨b8k ?_,h2⟩;rw[b9n,←h1];rfl
end Go.Eng
namespace Go.Eng
open Go Go.RowKit Go.Proofs
theorem c4c(n:Nat):((n:Int).toNat).toUInt8=UInt8.ofNat n:=by rw[Int.toNat_natCast]
theorem b7s(v:Int)(hv:Utf8.valid v=true):Lib.encodeRune v=encL v:=by
 obtain⟨h0,h1,h2⟩:=a4j hv;obtain⟨n,rfl⟩:∃ n:Nat,v=n:=⟨v.toNat,by omega⟩
 unfold Lib.encodeRune Lib.encodeRuneZ encL Utf8.encode;rw[if_pos hv];simp only[Int.toNat_natCast]
 by_cases c1:n<128
 ·rw[if_pos c1,if_pos (by omega)]
  simp only[List.map_cons,List.map_nil,c4c]
 rw[if_neg c1,if_neg (by omega)]
 by_cases c2:n<2048
 ·rw[if_pos c2,if_pos (by omega)]
  simp only[List.map_cons,List.map_nil];rw[show(192+(n:Int)/64).toNat=0xC0+n/64 from by omega,show(128+(n:Int)%64).toNat=0x80+n%64 from by omega]
 rw[if_neg c2,if_neg (by omega)]
 by_cases c3:n<65536
 ·rw[if_pos c3,if_pos (by omega)]
  simp only[List.map_cons,List.map_nil];rw[show(224+(n:Int)/4096).toNat=0xE0+n/4096 from by omega,show(128+(n:Int)/64%64).toNat=0x80+n/64%64 from by omega,show(128+(n:Int)%64).toNat=0x80+n%64 from by omega]
 rw[if_neg c3,if_neg (by omega),if_pos (by omega)]
 simp only[List.map_cons,List.map_nil];rw[show(240+(n:Int)/262144).toNat=0xF0+n/262144 from by omega,show(128+(n:Int)/4096%64).toNat=0x80+n/4096%64 from by omega,show(128+(n:Int)/64%64).toNat=0x80+n/64%64 from by omega,show(128+(n:Int)%64).toNat=0x80+n%64 from by omega]
theorem b9Z(n:Nat)(hv:¬Utf8.valid (n:Int)=true):Lib.encodeRune (n:Int)=encL 65533:=by
 unfold Utf8.valid at hv;simp only[Bool.or_eq_true,Bool.and_eq_true,decide_eq_true_eq]at hv;unfold Lib.encodeRune Lib.encodeRuneZ;rw[if_neg (by omega),if_neg (by omega),if_neg (by omega),if_neg (by omega)]
 rfl
theorem b7w{s:ByteArray}{i:Nat}(hi:i<s.size)(h:a6X s i=none):Utf8.decode s i=(65533,1):=by
 rw[←Lib.decodeL_drop];have hne:s.data.toList.drop i≠[]:=by
  rw[a1b hi];simp
 false_or_by_contra
 rename_i hn;have hv:¬((Lib.decodeL (s.data.toList.drop i)).1=65533∧(Lib.decodeL (s.data.toList.drop i)).2=1):=fun e=>hn (Prod.ext e.1 e.2);have he:=Lib.encode_decode _ hne hv;have hs:s.data.toList.drop i=Lib.encodeRune ((Lib.decodeL (s.data.toList.drop i)).1:Int)++(s.data.toList.drop i).drop (Lib.decodeL (s.data.toList.drop i)).2:=by
  rw[he,List.take_append_drop]
 by_cases hval:Utf8.valid ((Lib.decodeL (s.data.toList.drop i)).1:Int)=true
 ·rw[b7s _ hval]at hs
  have:=(a6E hval hs).2.1;rw[h]at this;cases this
 ·rw[b9Z _ hval]at hs
  have:=(a6E (v:=65533) rfl hs).2.1;rw[h]at this;cases this
theorem a5X(s:ByteArray):∀(f i:Nat),s.size-i≤f→Lib.validD (s.data.toList.drop i)=(a0W s f i).isSome
 | 0,i,hf=>by
  rw[List.drop_eq_nil_of_le (by rw[a1M];omega)]
  rfl
 | f+1,i,hf=>by
  unfold a0W
  by_cases hi:i<s.size
  ·rw[if_pos hi]
   have hne:s.data.toList.drop i≠[]:=by rw[a1b hi];simp
   rw[Lib.validD_step _ hne,Lib.decodeL_drop];cases hc:a6X s i with
   | none =>
    rw[b7w hi hc];simp
   | some x =>
    obtain⟨v,n⟩:=x;obtain⟨h1,h2,h3,h4,h5⟩:=a2d hi hc;rw[h1];have hno:¬(v.toNat=65533∧n=1):=fun⟨e1,e2⟩=>by
     have:=a9U hi hc;have hv:v=65533:=by omega
     subst hv e2;have h6:=a6E (v:=65533) rfl this;rw[hc]at h6;have:=h6.2.1;simp only[Option.some.injEq,Prod.mk.injEq,true_and]at this;exact absurd this (by decide)
    simp only;rw[if_neg hno,List.drop_drop,a5X s f (i+n) (by omega)]
    simp
  ·rw[if_neg hi,List.drop_eq_nil_of_le (by rw[a1M];omega)]
   rfl
theorem b2G(s:ByteArray):Lib.validD s.data.toList=(a0E s).isSome:=a5X s s.size 0 (by omega)
theorem a7J(s:ByteArray)(hs:s.size≤100000000):a0f Tryz.prog 68 [vcs s] [] (fun r own'=>own'=[]∧r=vcb (a0E s).isSome):=by
 rw[←b2G];exact a6M (vs:=[.string s]) (by simp[Value.oneCell']) rfl (fun m w hg hw=>Any.utf8_ValidString Tryz.laysValid s w (by omega) (c2n hg w hw))
end Go.Eng
namespace Go.Eng
open Go Go.RowKit Go.Proofs
structure Ru where
 id:I2
 left:I2
 right:I2
 text:ByteArray
def ru0:Ru:=⟨(0,0),(0,0),(0,0),⟨#[]⟩⟩
abbrev ruF(x:Ru):List IC:=[vu x.id.1,vu x.id.2,vu x.left.1,vu x.left.2,vu x.right.1,vu x.right.2,.v (.string x.text)]
abbrev ruS(l:List Ru):AV:=.c (.sl 7 l.length fun k=>ruF (l.getD k ru0))
def ruOk(x:Ru):Prop:=u32P x.id∧u32P x.left∧u32P x.right∧x.text.size≤1048576
theorem a6H(s:ByteArray):∀(f i:Nat) (l:List Int),s.size-i≤f→a0W s f i=some l→Lib.runeCountFrom s f i=l.length
 | 0,i,l,hf,h=>by cases h;rfl
 | f+1,i,l,hf,h=>by
  unfold a0W at h;unfold Lib.runeCountFrom;split at h
  ·rename_i hi
   rw[if_pos hi];split at h
   ·cases h
   ·rename_i v n hc
    obtain⟨h1,h2,h3,h4,h5⟩:=a2d hi hc;cases hr:a0W s f (i+n)with
    | none=>rw[hr]at h;cases h
    | some l' =>
     rw[hr]at h;cases h;rw[h1,a6H s f (i+n) l' (by omega) hr,List.length_cons]
     omega
  ·rename_i hi
   cases h;rw[if_neg hi];rfl
theorem b2w{s:ByteArray}{l:List Int}(h:a0E s=some l):Lib.runeCount s=l.length:=a6H s s.size 0 l (by omega) h
theorem b5B(s:ByteArray)(hs:s.size≤100000000):a0f Tryz.prog 70 [vcs s] [] (fun r own'=>own'=[]∧r=vci .i64 (Lib.runeCount s)) :=
 a6M (vs:=[.string s]) (by simp[Value.oneCell']) rfl (fun m w hg hw=>(Any.utf8_RuneCountInString Tryz.laysCount s w (by omega)).mono fun e w' h=>⟨h.1,by
  obtain⟨_,pos,rfl⟩:=h
  exact Below.alloc (Below.refl _ _) (Nat.le_refl _) _⟩)
def a8i:Int:=4294967294
def mayR(r:Ru):Bool:=match a0E r.text with
 | none=>false
 | some l=>decide (0<l.length∧r.id.1≠0∧r.id.2+l.length-1≤a8i)
theorem a6J{s:ByteArray}:∀(f i:Nat) (l:List Int),a0W s f i=some l→l.length≤s.size-i
 | 0,i,l,h=>by cases h;simp
 | f+1,i,l,h=>by
  unfold a0W at h;split at h
  ·rename_i hi
   split at h
   ·cases h
   ·rename_i v n hc
    obtain⟨h1,h2,h3,h4,h5⟩:=a2d hi hc;cases hr:a0W s f (i+n)with
    | none=>rw[hr]at h;cases h
    | some l' =>
     rw[hr]at h;cases h;have:=a6J f (i+n) l' hr;rw[List.length_cons];omega
  ·cases h
   simp
theorem b4y{r:Ru}(hc:a0E r.text=none):mayR r=false:=by unfold mayR;rw[hc]
theorem a9v{r:Ru}{l:List Int}(hc:a0E r.text=some l):mayR r=decide (0<l.length∧r.id.1≠0∧r.id.2+l.length-1≤a8i):=by unfold mayR;rw[hc]
theorem c3M(r:Ru)(hr:ruOk r):a0f Tryz.prog 76 [.agg (ruF r)] [] (fun x own'=>own'=[]∧x=vcb (mayR r)):=by
 obtain⟨ha,_,_,hs⟩:=hr;have hv:(a0E r.text).isSome=false∨(a0E r.text).isSome=true:=by cases (a0E r.text).isSome <;> simp
 refine a0e Tryz.func76 rfl ttok ftok rfl rfl rfl (Nat.le_of_ble_eq_true rfl) ?_
 conv=>whnf
 refine a0a (b5B r.text (by omega)) rfl ?_
 rintro _ rfl;cases hc:a0E r.text with
 | none =>
  rw[b4y hc]
  conv=>whnf
  cases hz:(((Lib.runeCount r.text:Nat):Int)==0)with
  | true =>
   conv=>whnf
   try rfl
  | false =>
   conv=>whnf
   refine a0a (a7J r.text (by omega)) rfl ?_
   rintro _ rfl;rw[hc]
   conv=>whnf
   try rfl
 | some l =>
  rw[a9v hc,b2w hc];have hl:=a6J (s:=r.text) r.text.size 0 l hc
  conv=>whnf
  cases hz:(((l.length:Nat):Int)==0)with
  | true =>
   have hz:=eq_of_beq hz;rw[decide_eq_false (by omega)]
   conv=>whnf
   try rfl
  | false =>
   have hz:¬((l.length:Nat):Int)=0:=by simpa using hz
   have e1:IntKind.i64.wrap ((l.length:Int)-1)=(l.length:Int)-1:=a0s (by omega) (by omega)
   conv=>whnf
   refine a0a (a7J r.text (by omega)) rfl ?_
   rintro _ rfl;rw[hc]
   conv=>whnf
   rw[e1];refine a0a (b5Y r.id ha ((l.length:Int)-1) 4294967294 (by omega) (by omega) (by omega) (by omega)) rfl ?_
   rintro _ rfl
   by_cases h0:aftC r.id ((l.length:Int)-1) 4294967294=0
   ·rw[show aftV r.id ((l.length:Int)-1) 4294967294=_ from by unfold aftV;rw[if_pos h0]]
    conv=>whnf
    rw[decide_eq_true];unfold aftC at h0;unfold a8i;split at h0
    ·cases h0
    ·split at h0
     ·cases h0
     ·omega
   ·rw[show aftV r.id ((l.length:Int)-1) 4294967294=_ from by unfold aftV;rw[if_neg h0]]
    conv=>whnf
    have hf:¬(0<l.length∧r.id.1≠0∧r.id.2+l.length-1≤a8i):=fun h1=>by
     refine h0 ?_;unfold aftC;unfold a8i at h1;rw[if_neg (by omega),if_neg (by omega)]
    rw[decide_eq_false hf]
    try rfl
def onR(x y:It):Prop:=aftC y.id 1 a8i=0∧x.id=(y.id.1,y.id.2+1)∧x.left=y.id∧x.right=y.right
instance (x y:It):Decidable (onR x y):=by unfold onR;infer_instance
theorem on_c(x y:It)(hy:itOk y):a0f Tryz.prog 63 [.agg (itF x),.agg (itF y)] [] (fun r own'=>own'=[]∧r=vcb (decide (onR x y))):=by
 obtain⟨ha,_,_⟩:=hy;refine a0e Tryz.func63 rfl ttok ftok rfl rfl rfl (Nat.le_of_ble_eq_true rfl) ?_
 conv=>whnf
 refine a0a (b5Y y.id ha 1 4294967294 (by omega) (by omega) (by omega) (by omega)) rfl ?_
 rintro _ rfl
 by_cases h0:aftC y.id 1 4294967294=0
 ·rw[show aftV y.id 1 4294967294=_ from by unfold aftV;rw[if_pos h0]]
  conv=>whnf
  have h1:aftC y.id 1 a8i=0:=h0;refine congrArg vcb ?_;rw[Bool.eq_iff_iff,decide_eq_true_iff];unfold onR;simp[a0J,a0O,Prod.ext_iff,h1,and_assoc]
 ·rw[show aftV y.id 1 4294967294=_ from by unfold aftV;rw[if_neg h0]]
  conv=>whnf
  have h1:¬aftC y.id 1 a8i=0:=h0;refine congrArg vcb ?_;rw[decide_eq_false (fun h:onR x y=>h1 h.1)];simp[a0J,a0O,h0]
end Go.Eng
namespace Go.Eng
open Go Go.RowKit Go.Proofs
abbrev b9G(l:List It):Option Ob:=some (.row 61 7 l.length fun k=>itF (l.getD k it0))
theorem a3f{α:Type}{l:List α}{k:Nat}{d:α}(h:k<l.length):l.take (k+1)=l.take k++[l.getD k d]:=by
 rw[List.take_add_one,List.getElem?_eq_getElem h];simp[List.getD_eq_getElem?_getD,List.getElem?_eq_getElem h]
theorem b9H{m:List It}(hok:∀ x,x∈m→itOk x){k:Nat}(hk:k<m.length):itOk (m.getD k it0):=by
 rw[List.getD_eq_getElem?_getD,List.getElem?_eq_getElem hk];exact hok _ (List.getElem_mem hk)
theorem b1C(c:List IC):∀ k,k<1→(fun _:Nat=>c) k=[c].getD k []:=fun k hk=>by
 obtain rfl:k=0:=by omega
 rfl
end Go.Eng
namespace Go.Eng
open Go Go.RowKit Go.Proofs
theorem b5x{P:Program}[a0h P](S:St){id:Nat}{ops:Array Oper}{K:St→Prop}{st:St}(h:a4V P id ops (fun st'=>Weak st' S) st)(hK:K S):a4V P id ops K st:=by
 refine⟨fun may w0 h0 a w hs=>?_⟩;refine Code.wp_mono (fun e a' w' hh=>?_) (h.out may w0 h0 a w hs);obtain⟨h1,st',h2,h3⟩:=hh;exact⟨h1,S,h3.out may w0 h0 a' w' h2,hK⟩
def clk(c:Int)(j:Nat):Int:=(c+j)%4294967296
def chOf(r:Ru):List Int:=(a0E r.text).getD []
def a7n(r:Ru)(j:Nat):I2:=if j=0 then r.left else(r.id.1,clk r.id.2 (j-1))
def itAt(r:Ru)(l:List Int)(j:Nat):It:=⟨(r.id.1,clk r.id.2 j),a7n r j,r.right,l.getD j 0⟩
def itsR(r:Ru):List It:=(List.range (chOf r).length).map (itAt r (chOf r))
def a0p(rs:List Ru):List It:=rs.flatMap itsR
theorem c4b{c:Int}(h:0≤c∧c≤4294967295):clk c 0=c:=by unfold clk;omega
theorem c4a(c:Int)(j:Nat):IntKind.u32.wrap (clk c j+1)=clk c (j+1):=by rw[a4W];unfold clk;omega
def imO(m:List Ru)(n:Nat)(st:St):Prop:=∃(k:Nat),n=m.length-k∧k≤m.length∧st=⟨42,0,[(3,.c (.row 0)),(10,ruS m),(11,vci .i64 m.length),(12,vci .i64 (k:Int))],[b9G (a0p (m.take k))]⟩
theorem b1U(r:Ru):(itsR r).length=(chOf r).length:=by unfold itsR;simp
theorem a8E(r:Ru):(chOf r).length≤r.text.size:=by
 unfold chOf;cases hc:a0E r.text with
 | none=>simp
 | some l=>exact Nat.le_trans (a6J (s:=r.text) r.text.size 0 l hc) (by omega)
theorem a3D(B:Nat):∀ rs:List Ru,(∀ x,x∈rs→x.text.size≤B)→(a0p rs).length≤rs.length*B
 | [],_=>by simp[a0p]
 | r::rs,h=>by
  have h1:=a3D B rs (fun x hx=>h x (List.mem_cons_of_mem _ hx));have h2:=h r (List.mem_cons_self ..);have h3:=a8E r;unfold a0p at h1 ⊢;rw[List.flatMap_cons,List.length_append,b1U,List.length_cons,Nat.succ_mul];omega
theorem b0M(rs:List Ru)(r:Ru):a0p (rs++[r])=a0p rs++itsR r:=by unfold a0p;rw[List.flatMap_append];simp
theorem a7z{s:ByteArray}{f pos:Nat}{l:List Int}(hf:s.size-pos≤f)(h:a0W s f pos=some l)(hlt:pos<s.size):∃ v n l' g,l=v::l'∧f=g+1∧Utf8.decode s pos=(v.toNat,n)∧pos+n≤s.size∧1≤n∧0≤v∧Utf8.valid v=true∧a0W s g (pos+n)=some l':=by
 obtain⟨g,rfl⟩:∃ g,f=g+1:=⟨f-1,by omega⟩
 unfold a0W at h;rw[if_pos hlt]at h;split at h
 ·cases h
 ·rename_i v n hc
  obtain⟨h1,h2,h3,h4,h5⟩:=a2d hlt hc;cases hr:a0W s g (pos+n)with
  | none=>rw[hr]at h;cases h
  | some l' =>
   rw[hr]at h;cases h;exact⟨v,n,l',g,rfl,rfl,h1,h2,h3,h4,h5,hr⟩
theorem a9T{s:ByteArray}{f pos:Nat}{l:List Int}(h:a0W s f pos=some l)(hlt:¬pos<s.size):l=[]:=by
 cases f with
 | zero=>cases h;rfl
 | succ f =>
  unfold a0W at h;rw[if_neg hlt]at h;cases h;rfl
theorem a9L{α:Type}{l l':List α}{j:Nat}{v d:α}(h:l.drop j=v::l'):j<l.length∧l.getD j d=v∧l.drop (j+1)=l':=by
 have hj:j<l.length:=by
  false_or_by_contra
  rw[List.drop_eq_nil_of_le (by omega)]at h
  cases h
 rw[List.drop_eq_getElem_cons hj]at h;injection h with h1 h2;exact⟨hj,by rw[List.getD_eq_getElem?_getD,List.getElem?_eq_getElem hj];exact h1,h2⟩
theorem b2V{α:Type}(g:Nat→α)(j:Nat)(P:List α):P++(List.range (j+1)).map g=(P++(List.range j).map g)++[g j]:=by
 rw[List.range_succ,List.map_append,List.append_assoc];rfl
def imI(m:List Ru)(k:Nat)(P:List It)(r:Ru)(n:Nat)(st:St):Prop:=∃(j pos f:Nat),n=r.text.size-pos∧j≤(chOf r).length∧pos≤r.text.size∧r.text.size-pos≤f∧a0W r.text f pos=some ((chOf r).drop j) ∧
 st=⟨42,0,[(3,.c (.row 0)),(5,.c (.own 1 0)),(6,.c (.own 2 0)),(7,.c (.own 3 0)),(10,ruS m),(11,vci .i64 m.length),(12,vci .i64 (k:Int)),(22,.c (.own 4 0))],
  [b9G (P++(List.range j).map (itAt r (chOf r))),some (.cells 90 (ruF r)),some (.cells 59 [vu r.id.1,vu (clk r.id.2 j)]),some (.cells 59 (idF (a7n r j))),some (.iter r.text pos)]⟩
theorem b4J(m:List Ru)(hm:m.length≤100000)(hok:∀ x,x∈m→ruOk x∧(a0E x.text).isSome=true):a0f Tryz.prog 77 [ruS m] [] (fun r own'=>own'=[]∧r=itS (a0p m)):=by
 refine a0e Tryz.func77 rfl ttok ftok rfl rfl rfl (Nat.le_of_ble_eq_true rfl) ?_
 conv=>whnf
 refine a0B ttok ftok (imO m) ((a0M 3 61 7 (fun k=>itF (([]:List It).getD k it0)) rfl).trans (a0b [3,10,11,12] [some 0] rfl rfl)) ⟨0,rfl,Nat.zero_le _,rfl⟩ ?_;rintro n st ⟨k,rfl,hk,rfl⟩;have e1:IntKind.i64.wrap ((k:Int)+1)=((k+1:Nat):Int):=by rw[a0s (by omega) (by omega)];omega
 conv=>whnf
 refine a0d (fun h=>?_) (fun h=>?_)
 ·have h:=of_decide_eq_true h
  have hk2:k<m.length:=by omega
  conv=>whnf
  refine⟨⟨by omega,by omega⟩,?_⟩
  conv=>whnf
  simp only[a0k];obtain⟨r,hr⟩:∃ r,m.getD k ru0=r:=⟨_,rfl⟩;rw[hr];refine b5x ⟨42,0,[(3,.c (.row 0)),(5,.c (.own 1 0)),(6,.c (.own 2 0)),(7,.c (.own 3 0)),(10,ruS m),(11,vci .i64 m.length),(12,vci .i64 (k:Int))],[b9G (a0p (m.take k)),some (.cells 90 (ruF r)),some (.cells 59 (idF r.id)),some (.cells 59 (idF r.left))]⟩ ?_ ?_
  ·refine a0m (.rd 0 (.rd 1 (.rd 2 (.rd 3 (.alt (.ef 4 (.ef 5 (.ef 6 (.ef 7 (.nil))))) (.ef 5 (.ef 4 (.ef 6 (.ef 7 (.nil)))))))))) [2,3] mixed (by kernel_rfl) ttok ftok ?_
   conv=>whnf
   refine⟨?_,?_⟩
   ·conv=>whnf
    exact a0b [3,5,6,7,10,11,12] [some 0,some 1,some 2,some 3] rfl rfl
   ·conv=>whnf
    exact a0b [3,5,6,7,10,11,12] [some 0,some 1,some 3,some 2] rfl rfl
  conv=>whnf
  have hmem:r∈m:=by rw[←hr,List.getD_eq_getElem?_getD,List.getElem?_eq_getElem hk2];exact List.getElem_mem hk2
  obtain⟨⟨hid,hlf,hrt,hsz⟩,hch⟩:=hok r hmem;obtain⟨L,hL⟩:∃ L,a0E r.text=some L:=Option.isSome_iff_exists.1 hch;have hLc:chOf r=L:=by unfold chOf;rw[hL];rfl
  have hP:(a0p (m.take k)).length≤100000*1048576:=by
   have:=a3D 1048576 (m.take k) (fun x hx=>(hok x (List.mem_of_mem_take hx)).1.2.2.2);rw[List.length_take]at this;refine Nat.le_trans this (Nat.mul_le_mul_right _ (by omega))
  have hcl:=a8E r;generalize hPP:a0p (m.take k)=P at hP;refine a0B ttok ftok (imI m k P r) (a0b [3,5,6,7,10,11,12,22] [some 0,some 1,some 2,some 3,some 4] rfl rfl) ⟨0,0,r.text.size,rfl,Nat.zero_le _,Nat.zero_le _,by omega,by rw[hLc,List.drop_zero];exact hL,?_⟩ ?_
  ·rw[c4b hid.2]
   simp only[List.range_zero,List.map_nil,List.append_nil];rfl
  rintro n st ⟨j,pos,f,rfl,hj,hpos,hf,hrest,rfl⟩
  conv=>whnf
  by_cases hlt:pos<r.text.size
  ·obtain⟨v,nn,l',g,hd,rfl,hdec,hfit,hn1,hv0,hval,hnext⟩:=a7z hf hrest hlt
   obtain⟨hjl,hgd,hdr⟩:=a9L (d:=0) hd;have hvr:=a4j hval;rw[decide_eq_true hlt,hdec]
   conv=>whnf
   refine⟨fun _=>itF (itAt r (chOf r) j),fun i hi=>?_,?_⟩
   ·obtain rfl:i=0:=by omega
    show itF (itAt r (chOf r) j)=[vu r.id.1,vu (clk r.id.2 j),vu (a7n r j).1,vu (a7n r j).2,vu r.right.1,vu r.right.2,vr ((v.toNat:Nat):Int)];rw[Int.toNat_of_nonneg hv0,←hgd];rfl
   conv=>whnf
   have hlen:(P++(List.range j).map (itAt r (chOf r))).length=P.length+j:=by simp
   refine⟨⟨by rw[hlen];omega,by simp only[hlen,show ti61.bytes=28 from rfl];omega⟩,?_⟩
   conv=>whnf
   refine app1 (enc:=itF) (d:=it0) (itAt r (chOf r) j) (fun k hk=>rfl) rfl ?_
   conv=>whnf
   rw[c4a,←b2V];refine⟨r.text.size-(pos+nn),_,by omega,a0b [3,5,6,7,10,11,12,22] [some 6,some 1,some 2,some 3,some 4] rfl rfl,j+1,pos+nn,g,rfl,by omega,by omega,by omega,by rw[hdr];exact hnext,?_⟩
   rfl
  ·have hnil:=a9T hrest hlt
   have hjl:j=(chOf r).length:=by
    have:=congrArg List.length hnil;rw[List.length_drop]at this;simp at this;omega
   rw[decide_eq_false hlt]
   conv=>whnf
   rw[e1];refine⟨m.length-(k+1),_,by omega,a0b [3,10,11,12] [some 0] rfl rfl,k+1,rfl,by omega,?_⟩
   rw[a3f hk2 (d:=ru0),hr,b0M,hPP,hjl];rfl
 ·have h:=of_decide_eq_false h
  obtain rfl:k=m.length:=by omega
  rw[List.take_length]
  conv=>whnf
  refine⟨fun j hj=>rfl,?_⟩
  conv=>whnf
  try rfl
end Go.Eng
namespace Go.Eng
open Go Go.RowKit Go.Proofs
end Go.Eng
namespace Go.Eng
open Go Go.RowKit Go.Proofs
abbrev b0v(l:List Ru):Option Ob:=some (.row 90 7 l.length fun k=>ruF (l.getD k ru0))
def newR(x:It):Ru:=⟨x.id,x.left,x.right,Utf8.encode x.ch⟩
def addT(acc:List Ru)(c:Int):List Ru:=acc.set (acc.length-1) { acc.getD (acc.length-1) ru0 with text:=(acc.getD (acc.length-1) ru0).text++Utf8.encode c }
def ofK(l:List It):Nat→List Ru
 | 0=>[]
 | k+1=>if 0<k∧onR (l.getD k it0) (l.getD (k-1) it0)then addT (ofK l k) (l.getD k it0).ch else ofK l k++[newR (l.getD k it0)]
theorem a8x(v:Int):(Utf8.encode v).size≤4:=by
 unfold Utf8.encode
 dsimp only
 generalize (if Utf8.valid v=true then v.toNat else Utf8.runeError)=c
 repeat' split
 all_goals exact Nat.le_of_ble_eq_true rfl
theorem b0D(l:List It):∀ k,(ofK l k).length≤k∧(0<k→0<(ofK l k).length)
 | 0=>⟨by simp[ofK],fun h=>by omega⟩
 | k+1=>by
  have ih:=b0D l k;unfold ofK;split
  ·rename_i h
   unfold addT;rw[List.length_set];exact⟨by omega,fun _=>ih.2 h.1⟩
  ·rw[List.length_append,List.length_singleton]
   exact⟨by omega,fun _=>by omega⟩
theorem b2i{α:Type}(l:List α)(i j:Nat)(a d:α):(l.set i a).getD j d=if i=j∧j<l.length then a else l.getD j d:=by
 rw[List.getD_eq_getElem?_getD,List.getElem?_set,List.getD_eq_getElem?_getD]
 by_cases h:i=j
 ·subst h
  by_cases h2:i<l.length
  ·simp[h2]
  ·simp[h2,List.getElem?_eq_none (Nat.le_of_not_lt h2)]
 ·simp[h]
theorem b0P{α:Type}(l m:List α)(j:Nat)(d:α):(l++m).getD j d=if j<l.length then l.getD j d else m.getD (j-l.length) d:=by
 rw[List.getD_eq_getElem?_getD];split
 ·rename_i h;rw[List.getElem?_append_left h,←List.getD_eq_getElem?_getD]
 ·rename_i h;rw[List.getElem?_append_right (by omega),←List.getD_eq_getElem?_getD]
theorem b1D(l:List It):∀ k j,((ofK l k).getD j ru0).text.size≤4*k
 | 0,j=>by
  rw[show(ofK l 0).getD j ru0=ru0 from by simp[ofK]]
  exact Nat.le_refl 0
 | k+1,j=>by
  have ih:=b1D l k;unfold ofK;split
  ·unfold addT
   rw[b2i];split
   ·show((((ofK l k).getD ((ofK l k).length-1) ru0).text)++Utf8.encode _).size≤_
    rw[ByteArray.size_append];have:=ih ((ofK l k).length-1);have:=a8x (l.getD k it0).ch;omega
   ·have:=ih j;omega
  ·rw[b0P]
   split
   ·have:=ih j;omega
   ·match j-(ofK l k).length with
    | 0 =>
     have:=a8x (l.getD k it0).ch;show(Utf8.encode (l.getD k it0).ch).size≤_;omega
    | q+1 =>
     rw[show[newR (l.getD k it0)].getD (q+1) ru0=ru0 from by simp]
     exact Nat.zero_le _
theorem b9w{l:List It}{k:Nat}{x:It}(hx:l.getD k it0=x)(h0:0<k)(h:onR x (l.getD (k-1) it0)):ofK l (k+1)=addT (ofK l k) x.ch:=by
 rw[ofK,hx,if_pos ⟨h0,h⟩]
theorem b7W{l:List It}{k:Nat}{x:It}(hx:l.getD k it0=x)(h:¬(0<k∧onR x (l.getD (k-1) it0))):ofK l (k+1)=ofK l k++[newR x]:=by
 rw[ofK,hx,if_neg h]
theorem b7L(acc:List Ru)(c:Int):(addT acc c).length=acc.length:=by unfold addT;rw[List.length_set]
theorem c0u(acc:List Ru)(c:Int)(j:Nat)(hj:j<acc.length):ruF ((addT acc c).getD j ru0)=if j=acc.length-1 then(ruF (acc.getD (acc.length-1) ru0)).take 6++[.v (.string ((acc.getD (acc.length-1) ru0).text++Utf8.encode c))]++(ruF (acc.getD (acc.length-1) ru0)).drop 7 else ruF (acc.getD j ru0):=by
 unfold addT;rw[b2i]
 by_cases h:j=acc.length-1
 ·rw[if_pos ⟨h.symm,hj⟩,if_pos h]
  rfl
 ·rw[if_neg (fun q=>h q.1.symm),if_neg h]
def ofI(l:List It)(n:Nat)(st:St):Prop:=∃(k:Nat),n=l.length-k∧k≤l.length∧st=⟨52,0,[(0,itS l),(3,.c (.row 0)),(6,itS l),(7,vci .i64 l.length),(8,vci .i64 (k:Int))],[b0v (ofK l k)]⟩
theorem of_c(l:List It)(hl:l.length≤1000000)(hok:∀ x,x∈l→itOk x):a0f Tryz.prog 38 [itS l] [] (fun r own'=>own'=[]∧r=ruS (ofK l l.length)):=by
 refine a0e Tryz.func38 rfl ttok ftok rfl rfl rfl (Nat.le_of_ble_eq_true rfl) ?_
 conv=>whnf
 refine a0B ttok ftok (ofI l) ((a0M 3 90 7 (fun k=>ruF (([]:List Ru).getD k ru0)) rfl).trans (a0b [0,3,6,7,8] [some 0] rfl rfl)) ⟨0,rfl,Nat.zero_le _,rfl⟩ ?_;rintro n st ⟨k,rfl,hk,rfl⟩;have e1:IntKind.i64.wrap ((k:Int)+1)=((k+1:Nat):Int):=by rw[a0s (by omega) (by omega)];omega
 have hlen:=b0D l k
 conv=>whnf
 refine a0d (fun h=>?_) (fun h=>?_)
 ·have h:=of_decide_eq_true h
  have hk2:k<l.length:=by omega
  conv=>whnf
  refine⟨⟨by omega,by omega⟩,?_⟩
  conv=>whnf
  simp only[a0k];obtain⟨x,hx⟩:∃ x,l.getD k it0=x:=⟨_,rfl⟩;rw[hx]
  by_cases hk0:0<k
  ·have e2:IntKind.i64.wrap ((k:Int)-1)=((k-1:Nat):Int):=by rw[a0s (by omega) (by omega)];omega
   refine a0m (.rd 0 (.rd 1 (.rd 2 (.rd 3 (.rd 4 (.rd 5 (.rd 6 (.rd 7 (.rd 8 (.ef 9 (.rd 10 (.nil)))))))))))) [] mixed (by kernel_rfl) ttok ftok ?_
   conv=>whnf
   rw[show decide ((k:Int)>0)=true from decide_eq_true (by omega)]
   conv=>whnf
   rw[e2];refine⟨⟨by omega,by omega⟩,?_⟩
   conv=>whnf
   simp only[a0k];refine a0a (on_c x (l.getD (k-1) it0) (b9H hok (by omega))) rfl ?_
   rintro _ rfl
   by_cases hon:onR x (l.getD (k-1) it0)
   ·rw[decide_eq_true hon]
    conv=>whnf
    have hpos:=hlen.2 hk0;have e3:IntKind.i64.wrap (((ofK l k).length:Int)-1)=(((ofK l k).length-1:Nat):Int):=by rw[a0s (by omega) (by omega)];omega
    have hsz:=b1D l k ((ofK l k).length-1);have hes:=a8x x.ch;refine a0I 11 mixed (by kernel_rfl) ttok ftok ?_
    conv=>whnf
    rw[e3];refine⟨⟨by omega,by omega⟩,?_⟩
    conv=>whnf
    simp only[a0k];refine⟨by omega,?_⟩
    conv=>whnf
    refine⟨⟨by omega,by omega⟩,?_⟩
    conv=>whnf
    simp only[a0k];refine⟨fun j=>ruF ((addT (ofK l k) x.ch).getD j ru0),fun j hj=>c0u _ _ j hj,?_⟩
    conv=>whnf
    rw[e1];refine⟨l.length-(k+1),_,by omega,a0b [0,3,6,7,8] [some 0] rfl rfl,k+1,rfl,by omega,?_⟩
    rw[b9w hx hk0 hon];simp only[b0v,b7L];rfl
   ·rw[decide_eq_false hon]
    conv=>whnf
    refine⟨fun _=>ruF (newR x),b1C _,?_⟩
    conv=>whnf
    refine⟨⟨by omega,by simp only[show ti90.bytes=40 from rfl];omega⟩,?_⟩
    conv=>whnf
    refine app1 (enc:=ruF) (d:=ru0) (newR x) (fun k hk=>rfl) rfl ?_
    conv=>whnf
    rw[e1];refine⟨l.length-(k+1),_,by omega,a0b [0,3,6,7,8] [some 3] rfl rfl,k+1,rfl,by omega,?_⟩
    rw[b7W hx (fun h=>hon h.2)];rfl
  ·refine a0m (.rd 0 (.rd 1 (.rd 2 (.rd 3 (.rd 4 (.rd 5 (.rd 6 (.rd 7 (.rd 8 (.ef 9 (.rd 10 (.nil)))))))))))) [] mixed (by kernel_rfl) ttok ftok ?_
   conv=>whnf
   rw[show decide ((k:Int)>0)=false from decide_eq_false (by omega)]
   conv=>whnf
   refine⟨fun _=>ruF (newR x),b1C _,?_⟩
   conv=>whnf
   refine⟨⟨by omega,by simp only[show ti90.bytes=40 from rfl];omega⟩,?_⟩
   conv=>whnf
   refine app1 (enc:=ruF) (d:=ru0) (newR x) (fun k hk=>rfl) rfl ?_
   conv=>whnf
   rw[e1];refine⟨l.length-(k+1),_,by omega,a0b [0,3,6,7,8] [some 3] rfl rfl,k+1,rfl,by omega,?_⟩
   rw[b7W hx (fun h=>hk0 h.1)];rfl
 ·have h:=of_decide_eq_false h
  obtain rfl:k=l.length:=by omega
  conv=>whnf
  refine⟨fun j hj=>rfl,?_⟩
  conv=>whnf
  try rfl
end Go.Eng
namespace Go.Eng
open Go Go.RowKit
end Go.Eng
namespace Go.Eng
open Go Go.RowKit Go.Proofs
structure Ba where
 runs:List Ru
 dels:List Sp
abbrev baF(x:Ba):List IC:=[.sl 7 x.runs.length fun k=>ruF (x.runs.getD k ru0),.sl 3 x.dels.length fun k=>spF (x.dels.getD k sp0)]
def baOk(x:Ba):Prop:=(∀ r,r∈x.runs→ruOk r)∧x.runs.length≤100000∧x.dels.length≤100000∧(a0p x.runs).length≤1000000
def mayB(x:Ba):Prop:=(∀ r,r∈x.runs→mayR r=true)∧mayS x.dels∧(∀ j,j+1<(a0p x.runs).length→a2V ((a0p x.runs).getD j it0).id ((a0p x.runs).getD (j+1) it0).id)∧(ofK (a0p x.runs) (a0p x.runs).length).length=x.runs.length
theorem a4E{r:Ru}(h:mayR r=true):(a0E r.text).isSome=true:=by
 unfold mayR at h;split at h
 ·cases h
 ·rename_i l e;rw[e];rfl
theorem a4D{α:Type}{l:List α}{x d:α}(h:x∈l):∃ j,j<l.length∧l.getD j d=x:=by
 obtain⟨j,hj,e⟩:=List.getElem_of_mem h;exact⟨j,hj,by rw[List.getD_eq_getElem?_getD,List.getElem?_eq_getElem hj];exact e⟩
theorem a7y(a b:I2):((if cmpI a.1 b.1=0 then cmpI a.2 b.2 else cmpI a.1 b.1)≥0)↔¬a2V a b:=by
 unfold cmpI a2V
 by_cases h1:a.1<b.1
 ·simp only[if_pos h1]
  rw[if_neg (by decide)]
  exact⟨fun h=>absurd h (by decide),fun h=>absurd (Or.inl h1) h⟩
 ·simp only[if_neg h1]
  by_cases h2:b.1<a.1
  ·simp only[if_pos h2]
   rw[if_neg (by decide)]
   exact⟨fun _ q=>by omega,fun _=>by decide⟩
  ·simp only[if_neg h2]
   rw[if_pos trivial]
   by_cases h3:a.2<b.2
   ·rw[if_pos h3]
    exact⟨fun h=>absurd h (by decide),fun h=>absurd (Or.inr ⟨by omega,h3⟩) h⟩
   ·rw[if_neg h3]
    split
    ·exact⟨fun _ q=>by omega,fun _=>by decide⟩
    ·exact⟨fun _ q=>by omega,fun _=>by decide⟩
theorem c3Z(r:Ru)(hr:ruOk r):a0f Tryz.prog 75 [.agg (ruF r)] [] (fun x own'=>own'=[]∧x=vcb (!mayR r)):=by
 refine a0e Tryz.func75 rfl ttok ftok rfl rfl rfl (Nat.le_of_ble_eq_true rfl) ?_
 conv=>whnf
 refine a0a (c3M r hr) rfl ?_;rintro _ rfl
 conv=>whnf
 try rfl
def c2a(O:List (Option Ob))(l:List Ru)(p:Ru→Bool)(caps:List (Bool × List IC))(n:Nat)(st:St):Prop:=∃ k:Nat,n=l.length-k∧k≤l.length∧(∀ j,j<k→p (l.getD j ru0)=false) ∧
 st=⟨19,O.length,[(0,.c (.sl 7 l.length fun k=>ruF (l.getD k ru0))),(1,.c (.fn 75 caps)),(7,vci .i64 l.length),(8,vci .i64 (k:Int))],O⟩
theorem c3N(O:List (Option Ob))(l:List Ru)(hl:l.length≤1000000000)(caps:List (Bool × List IC))(p:Ru→Bool)
  (hp:∀ k,k<l.length→a0f Tryz.prog 75 (.agg (ruF (l.getD k ru0))::a2f caps) O (fun r own'=>r=vcb (p (l.getD k ru0))∧own'=O)) :
  a0f Tryz.prog 125 [.c (.sl 7 l.length fun k=>ruF (l.getD k ru0)),.c (.fn 75 caps)] O (fun r own'=>(∃ k:Nat,k<l.length∧p (l.getD k ru0)=true∧(∀ j,j<k→p (l.getD j ru0)=false)∧r=vci .i64 k∧own'=O) ∨
   ((∀ j,j<l.length→p (l.getD j ru0)=false)∧r=vci .i64 (-1)∧own'=O)):=by
 refine a1C Tryz.func125 rfl ttok ftok rfl rfl rfl (Nat.le_of_ble_eq_true rfl) ?_
 conv=>whnf
 refine a0B ttok ftok (c2a O l p caps) (a0F [0,1,7,8] rfl) ⟨0,rfl,Nat.zero_le _,fun j hj=>by omega,rfl⟩ ?_
 rintro n st ⟨k,rfl,hk,hj,rfl⟩
 conv=>whnf
 refine a0d (fun h=>?_) (fun h=>?_)
 ·have h:=of_decide_eq_true h
  have hkl:k<l.length:=by omega
  conv=>whnf
  rw[a0q]
  conv=>whnf
  refine⟨⟨by omega,by omega⟩,?_⟩
  conv=>whnf
  refine(hp k hkl).mono ?_;rintro r own2 ⟨rfl,rfl⟩
  conv=>whnf
  cases hpk:p (l.getD k ru0)with
  | true =>
   conv=>whnf
   refine⟨_,Weak.refl _,?_⟩
   conv=>whnf
   exact .inl ⟨k,hkl,hpk,hj,rfl,rfl⟩
  | false =>
   conv=>whnf
   refine⟨l.length-(k+1),_,by omega,a0F [0,1,7,8] rfl,k+1,rfl,by omega,fun j hj2=>?_,?_⟩
   ·rcases Nat.lt_succ_iff_lt_or_eq.1 hj2 with h2 | rfl
    ·exact hj j h2
    ·exact hpk
   rw[show(((k+1:Nat)):Int)=IntKind.i64.wrap ((k:Int)+1)from by rw[a0s (by omega) (by omega)];omega]
   all_goals rfl
 ·have h:=of_decide_eq_false h
  conv=>whnf
  refine⟨_,Weak.refl _,?_⟩
  conv=>whnf
  exact .inr ⟨fun j hj2=>hj j (by omega),rfl,rfl⟩
theorem c3Y(O:List (Option Ob))(l:List Ru)(hl:l.length≤1000000000)(caps:List (Bool × List IC))(p:Ru→Bool)
  (hp:∀ k,k<l.length→a0f Tryz.prog 75 (.agg (ruF (l.getD k ru0))::a2f caps) O (fun r own'=>r=vcb (p (l.getD k ru0))∧own'=O)) :
  a0f Tryz.prog 74 [.c (.sl 7 l.length fun k=>ruF (l.getD k ru0)),.c (.fn 75 caps)] O (fun r own'=>∃ b:Bool,(b=true↔∃ k,k<l.length∧p (l.getD k ru0)=true)∧r=vcb b∧own'=O):=by
 refine a1C Tryz.func74 rfl ttok ftok rfl rfl rfl (Nat.le_of_ble_eq_true rfl) ?_
 conv=>whnf
 rw[a0q]
 conv=>whnf
 refine(c3N O l hl caps p hp).mono ?_;rintro r own2 (⟨k,hk,h1,h2,rfl,rfl⟩|⟨h1,rfl,rfl⟩)
 ·conv=>whnf
  refine⟨_,Weak.refl _,?_⟩
  conv=>whnf
  refine⟨true,⟨fun _=>⟨k,hk,h1⟩,fun _=>rfl⟩,?_,rfl⟩;show vcb (decide ((k:Int)≥0))=_;rw[decide_eq_true (by omega)]
 ·conv=>whnf
  refine⟨_,Weak.refl _,?_⟩
  conv=>whnf
  refine⟨false,⟨fun e=>(by cases e),fun⟨k,hk,h2⟩=>by rw[h1 k hk]at h2;cases h2⟩,rfl,rfl⟩
theorem b1X{rs:List Ru}(hok:∀ r,r∈rs→ruOk r):∀ x,x∈a0p rs→itOk x:=by
 intro x hx;unfold a0p at hx;obtain⟨r,hr,hx⟩:=List.mem_flatMap.1 hx;unfold itsR at hx;obtain⟨j,hj,rfl⟩:=List.mem_map.1 hx;obtain⟨h1,h2,h3,_⟩:=hok r hr;have hc:∀ i,0≤clk r.id.2 i∧clk r.id.2 i≤4294967295:=fun i=>by unfold clk;omega
 refine⟨⟨h1.1,hc j⟩,?_,h3⟩;show u32P (a7n r j);unfold a7n;split
 ·exact h2
 ·exact⟨h1.1,hc _⟩
def mbI(x:Ba)(l:List It)(n:Nat)(st:St):Prop:=∃ k:Nat,n=l.length-k∧1≤k∧(∀ j,j+1<k→j+1<l.length→a2V (l.getD j it0).id (l.getD (j+1) it0).id) ∧
 st=⟨43,0,[(1,.c (.own 0 0)),(3,itS l),(4,vci .i64 (k:Int))],[some (.cells 51 (baF x))]⟩
theorem b8h(x:Ba)(hx:baOk x):a0f Tryz.prog 49 [.agg (baF x)] [] (fun r own'=>own'=[]∧∃ b:Bool,(b=true↔mayB x)∧r=vcb b):=by
 obtain⟨hr,hrl,hdl,hil⟩:=hx;refine a0e Tryz.func49 rfl ttok ftok rfl rfl rfl (Nat.le_of_ble_eq_true rfl) ?_
 conv=>whnf
 refine a0a (c1A x.dels (by omega)) rfl ?_
 rintro _ ⟨b1,hb1,rfl⟩;cases b1 with
 | false =>
  conv=>whnf
  exact⟨false,⟨fun e=>(nomatch e),fun e=>absurd (hb1.2 e.2.1) (by decide)⟩,rfl⟩
 | true =>
  have hset:=hb1.1 rfl
  conv=>whnf
  have mem_at:∀ k,k<x.runs.length→x.runs.getD k ru0∈x.runs:=fun k hk=>by rw[List.getD_eq_getElem?_getD,List.getElem?_eq_getElem hk];exact List.getElem_mem hk
  refine(c3Y _ x.runs (by omega) [] (fun r=>!mayR r) (fun k hk=>a0a (c3Z _ (hr _ (mem_at k hk))) rfl (fun r h=>⟨h,rfl⟩))).mono ?_
  rintro _ _ ⟨b2,hb2,rfl,rfl⟩;cases b2 with
  | true =>
   obtain⟨k,hk,h2⟩:=hb2.1 rfl
   conv=>whnf
   exact⟨false,⟨fun e=>(nomatch e),fun e=>by rw[e.1 _ (mem_at k hk)]at h2;cases h2⟩,rfl⟩
  | false =>
   have hall:∀ r,r∈x.runs→mayR r=true:=fun r hr2=>by
    obtain⟨j,hj,rfl⟩:=a4D (d:=ru0) hr2;cases hq:mayR (x.runs.getD j ru0)with
    | true=>rfl
    | false=>exact absurd (hb2.2 ⟨j,hj,by rw[hq];rfl⟩) (by decide)
   conv=>whnf
   refine a0a (b4J x.runs (by omega) (fun r h=>⟨hr r h,a4E (hall r h)⟩)) rfl ?_
   rintro _ rfl;obtain⟨l,hl⟩:∃ l,a0p x.runs=l:=⟨_,rfl⟩;have hlok:∀ y,y∈l→itOk y:=hl▸b1X hr;have hmb:mayB x↔((∀ j,j+1<l.length→a2V (l.getD j it0).id (l.getD (j+1) it0).id)∧(ofK l l.length).length=x.runs.length):=by
    unfold mayB;rw[hl];exact⟨fun h=>h.2.2,fun h=>⟨hall,hset,h⟩⟩
   rw[hl]at hil ⊢;have hol:=(b0D l l.length).1
   conv=>whnf
   refine a0B ttok ftok (mbI x l) (a0b [1,3,4] [some 0] rfl rfl) ⟨1,rfl,Nat.le_refl _,fun j h1 _=>by omega,rfl⟩ ?_
   rintro n st ⟨k,rfl,hk,hj,rfl⟩;have e1:IntKind.i64.wrap ((k:Int)-1)=((k-1:Nat):Int)∨1000000<k:=by
    by_cases q:k≤1000000
    ·exact .inl (by rw[a0s (by omega) (by omega)];omega)
    ·exact .inr (by omega)
   conv=>whnf
   refine a0d (fun h=>?_) (fun h=>?_)
   ·have h:=of_decide_eq_true h
    have e1:IntKind.i64.wrap ((k:Int)-1)=((k-1:Nat):Int):=by rw[a0s (by omega) (by omega)];omega
    have e2:IntKind.i64.wrap ((k:Int)+1)=((k+1:Nat):Int):=by rw[a0s (by omega) (by omega)];omega
    conv=>whnf
    refine a0m (.rd 0 (.rd 1 (.rd 2 (.rd 3 (.rd 4 (.rd 5 (.rd 6 (.rd 7 (.rd 8 (.rd 9 (.rd 10 (.ef 11 (.rd 12 (.nil)))))))))))))) [] mixed (by kernel_rfl) ttok ftok ?_
    conv=>whnf
    rw[e1];refine⟨⟨by omega,by omega⟩,?_⟩
    conv=>whnf
    refine⟨⟨by omega,by omega⟩,?_⟩
    conv=>whnf
    simp only[a0k];refine a0a (b4R (l.getD (k-1) it0).id (l.getD k it0).id) rfl ?_;rintro _ rfl
    conv=>whnf
    by_cases hb:a2V (l.getD (k-1) it0).id (l.getD k it0).id
    ·rw[decide_eq_false (fun q=>(a7y _ _).1 q hb)]
     conv=>whnf
     rw[e2];refine⟨l.length-(k+1),_,by omega,a0b [1,3,4] [some 0] rfl rfl,k+1,rfl,by omega,fun j h1 h2=>?_,rfl⟩
     by_cases q:j+1=k
     ·obtain rfl:j=k-1:=by omega
      rw[q];exact hb
     ·exact hj j (by omega) h2
    ·rw[decide_eq_true ((a7y _ _).2 hb)]
     conv=>whnf
     refine⟨false,⟨fun e=>(nomatch e),fun e=>?_⟩,rfl⟩;have:=(hmb.1 e).1 (k-1) (by omega)
     rw[show k-1+1=k from by omega]at this
     exact absurd this hb
   ·have h:=of_decide_eq_false h
    conv=>whnf
    refine a0m (.rd 0 (.rd 3 (.rd 4 (.rd 5 (.ef 1 (.rd 2 (.rd 6 (.rd 7 (.nil))))))))) [] mixed (by kernel_rfl) ttok ftok ?_
    conv=>whnf
    refine a0a (of_c l (by omega) hlok) rfl ?_
    rintro _ rfl
    conv=>whnf
    refine⟨_,⟨fun e=>hmb.2 ⟨fun j h1=>hj j (by omega) h1,?_⟩,fun e=>?_⟩,rfl⟩
    ·have:=eq_of_beq e
     omega
    ·have:=(hmb.1 e).2
     rw[this];exact beq_self_eq_true _
end Go.Eng
namespace Go.Eng
open Go Go.RowKit Go.Proofs
abbrev bS(b:List UInt8):AV:=.c (.sl 1 b.length (a4O b))
abbrev errM:AV:=.c (.v (.iface 69 (.int .i64 2)))
def valN(l:List UInt8):Nat:=l.foldl (fun v c=>v*256+c.toNat) 0
theorem a5Y(l:List UInt8)(c:UInt8):valN (l++[c])=valN l*256+c.toNat:=by unfold valN;rw[List.foldl_append];rfl
theorem b3x(l:List UInt8):valN l<256 ^ l.length:=by
 suffices h:∀ n (l:List UInt8),l.length=n→valN l<256 ^ n from h _ l rfl
 intro n
 induction n with
 | zero=>intro l h;obtain rfl:=List.eq_nil_of_length_eq_zero h;simp[valN]
 | succ n ih =>
  intro l h;obtain⟨m,c,rfl⟩:∃ m c,l=m++[c]:=⟨l.dropLast,l.getLast (by intro e;subst e;cases h),(List.dropLast_concat_getLast _).symm⟩
  have:=ih m (by simpa using h)
  have hc:=c.toNat_lt;rw[a5Y,Nat.pow_succ];omega
theorem b6f{l:List UInt8}(h:l.length≤4):valN l<4294967296:=by
 refine Nat.lt_of_lt_of_le (b3x l) ?_;refine Nat.le_trans (Nat.pow_le_pow_right (by omega) h) (by decide)
theorem b6g{l:List UInt8}(h:l.length≤3):valN l<16777216:=by
 refine Nat.lt_of_lt_of_le (b3x l) ?_;refine Nat.le_trans (Nat.pow_le_pow_right (by omega) h) (by decide)
def getN(b:List UInt8)(at_:Int):Option (Nat × Nat) :=
 if at_<0∨(b.length:Int)≤at_ then none
 else if 4<(b.getD at_.toNat 0).toNat∨b.length<at_.toNat+1+(b.getD at_.toNat 0).toNat∨(0<(b.getD at_.toNat 0).toNat∧b.getD (at_.toNat+1) 0=0)then none
 else some (valN ((b.drop (at_.toNat+1)).take (b.getD at_.toNat 0).toNat),(b.getD at_.toNat 0).toNat+1)
def getV(o:Option (Nat × Nat)):AV:=match o with
 | some (v,n)=>.tup [vci .u32 v,vci .i64 n,.c (.v .nilIface)]
 | none=>.tup [vci .u32 0,vci .i64 0,errM]
theorem b6S(v:Nat)(c:UInt8)(hv:v<16777216):bits .or .u32 (IntKind.u32.wrap ((v:Int)*2 ^ (8:Int).toNat)) (c.toNat:Int)=((v*256+c.toNat:Nat):Int):=by
 have hc:=c.toNat_lt;have e:IntKind.u32.wrap ((v:Int)*2 ^ (8:Int).toNat)=((v*256:Nat):Int):=by
  rw[a4W];show(v:Int)*256%4294967296=_;omega
 rw[e,Go.u32_or_nat _ _ (by omega) (by omega)]
 congr 1
 have:v*256=v <<< 8:=by rw[Nat.shiftLeft_eq]
 rw[this,←Nat.shiftLeft_add_eq_or_of_lt (by omega:c.toNat<2 ^ 8)]
theorem c1w{α:Type}{enc:α→List IC}{d:α}(ys:List α){h lo:Nat}{f:Nat→List IC}{K:Nat→(Nat→List IC)→Prop}(hn:ys.length=h-lo)(hf:∀ k,k<ys.length→enc (ys.getD k d)=f (lo+k))(hK:K ys.length fun k=>enc (ys.getD k d)) :
  ∃(n':Nat) (f':Nat→List IC),n'=h-lo∧(∀ k,k<n'→f' k=f (lo+k))∧K n' f':=⟨_,_,hn,hf,hK⟩
abbrev b1(c:UInt8):List IC:=[.v (.int .u8 (c.toNat:Int))]
theorem c0j(c:UInt8):c.toNat=0↔c=0:=⟨fun h=>UInt8.toNat_inj.1 h,fun h=>by rw[h];rfl⟩
def gtI(b l:List UInt8)(at_ nn:Int)(n:Nat)(st:St):Prop:=∃ k:Nat,n=l.length-k∧k≤l.length ∧
 st=⟨71,0,[(7,vci .i64 nn),(8,vci .u32 (valN (l.take k):Nat)),(56,bS l),(57,vci .i64 l.length),(58,vci .i64 (k:Int))],[]⟩
theorem c2o(b:List UInt8)(hb:b.length≤1000000000)(at_:Int)(ha1:-9223372036854775808≤at_)(ha2:at_≤9223372036854775807):a0f Tryz.prog 126 [bS b,vci .i64 at_] [] (fun r own'=>own'=[]∧r=getV (getN b at_)):=by
 refine a0e Tryz.func126 rfl ttok ftok rfl rfl rfl (Nat.le_of_ble_eq_true rfl) ?_
 conv=>whnf
 refine a0d (fun h=>?_) (fun h=>?_)
 ·simp[a0J,a0O]at h
  conv=>whnf
  rw[show getN b at_=none from by unfold getN;rw[if_pos h]]
  rfl
 ·simp[a0J,a0O]at h
  obtain⟨i,rfl⟩:∃ i:Nat,at_=(i:Int):=⟨at_.toNat,by omega⟩
  have hi:i<b.length:=by omega
  have hg:getN b (i:Int)=if 4<(b.getD i 0).toNat∨b.length<i+1+(b.getD i 0).toNat∨(0<(b.getD i 0).toNat∧b.getD (i+1) 0=0)then none
    else some (valN ((b.drop (i+1)).take (b.getD i 0).toNat),(b.getD i 0).toNat+1):=by unfold getN;rw[if_neg (by omega),a0k]
  conv=>whnf
  refine⟨by omega,?_⟩
  conv=>whnf
  have hc:=(b.getD i 0).toNat_lt;obtain⟨n,hn⟩:∃ n:Nat,(b.getD i 0).toNat=n:=⟨_,rfl⟩;have e1:IntKind.i64.wrap (n:Int)=(n:Int):=a0s (by omega) (by omega)
  have e2:IntKind.i64.wrap (IntKind.i64.wrap ((b.length:Int)-i)-1)=(b.length:Int)-i-1:=by rw[a0s (x:=(b.length:Int)-i) (by omega) (by omega),a0s (by omega) (by omega)]
  have e3:IntKind.i64.wrap ((i:Int)+1)=((i+1:Nat):Int):=by rw[a0s (by omega) (by omega)];omega
  rw[hn]at hc hg;rw[hg];simp only[a0k,hn,e1,e2,e3];refine⟨?_,?_⟩
  ·conv=>whnf
   intro g1
   conv=>whnf
   intro g2;simp[a0J,a0O]at g1 g2
   conv=>whnf
   omega
  conv=>whnf
  refine a0d (fun g=>?_) (fun g=>?_)
  ·have g:4<n∨b.length<i+1+n∨(0<n∧b.getD (i+1) 0=0):=by
    try simp only[a0k,hn,e1,e2,e3]at g
    simp[a0J,a0O]at g;rcases g with(g | g) | g
    ·exact .inl (by omega)
    ·exact .inr (.inl (by omega))
    ·exact .inr (.inr ⟨by omega,(c0j _).1 (by simpa using g.2)⟩)
   rw[if_pos g]
   conv=>whnf
   rfl
  ·have g:¬(4<n∨b.length<i+1+n∨(0<n∧b.getD (i+1) 0=0)):=by
    try simp only[a0k,hn,e1,e2,e3]at g
    simp[a0J,a0O]at g;rintro(q | q|⟨q1,q2⟩)
    ·omega
    ·omega
    ·exact g.2 (by omega) (by rw[(c0j _).2 (by simpa using q2)])
   rw[if_neg g];have e4:IntKind.i64.wrap (((i+1:Nat):Int)+(n:Int))=((i+1+n:Nat):Int):=by rw[a0s (by omega) (by omega)];omega
   obtain⟨l,hl⟩:∃ l,(b.drop (i+1)).take n=l:=⟨_,rfl⟩;have hll:l.length=n:=by rw[←hl];simp;omega
   rw[hl]
   conv=>whnf
   simp only[a0k,hn,e1,e2,e3,e4];refine⟨by omega,?_⟩
   conv=>whnf
   refine c1w (enc:=b1) (d:=0) l (by rw[hll];omega) (fun j hj=>?_) ?_
   ·rw[←hl,a0Q _ _ _ _ (by omega),a1j]
   conv=>whnf
   refine a0B ttok ftok (gtI b l i n) (a0F [7,8,56,57,58] rfl) ⟨0,rfl,Nat.zero_le _,rfl⟩ ?_;rintro m st ⟨k,rfl,hk,rfl⟩
   conv=>whnf
   refine a0d (fun g5=>?_) (fun g5=>?_)
   ·have g5:=of_decide_eq_true g5
    have hkl:k<l.length:=by omega
    conv=>whnf
    refine⟨by omega,?_⟩
    conv=>whnf
    refine⟨by decide,?_⟩
    conv=>whnf
    have hv:=b6g (l:=l.take k) (by simp;omega)
    have hd:=(l.getD k 0).toNat_lt;have e5:IntKind.u32.wrap (((l.getD k 0).toNat:Nat):Int)=((l.getD k 0).toNat:Int):=by rw[a4W];omega
    have e6:l.take (k+1)=l.take k++[l.getD k 0]:=by
     rw[List.take_add_one,List.getD_eq_getElem?_getD,List.getElem?_eq_getElem hkl];rfl
    have e7:IntKind.i64.wrap ((k:Int)+1)=((k+1:Nat):Int):=by rw[a0s (by omega) (by omega)];omega
    simp only[a0k,e5,e7,b6S _ _ hv];rw[←a5Y,←e6];refine⟨l.length-(k+1),_,by omega,a0F [7,8,56,57,58] rfl,k+1,rfl,by omega,rfl⟩
   ·have g5:=of_decide_eq_false g5
    obtain rfl:k=l.length:=by omega
    conv=>whnf
    simp only[List.take_length];rw[show IntKind.i64.wrap ((n:Int)+1)=((n+1:Nat):Int)from by rw[a0s (by omega) (by omega)];omega]
    rfl
end Go.Eng
namespace Go.Eng
open Go Go.RowKit Go.Proofs
def be(v:Nat):List UInt8:=if h:v=0 then[]else be (v/256)++[UInt8.ofNat (v%256)]
termination_by v
decreasing_by omega
theorem be_0:be 0=[]:=by rw[be];rfl
theorem a7C{v:Nat}(h:v≠0):be v=be (v/256)++[UInt8.ofNat (v%256)]:=by rw[be,dif_neg h]
theorem c2z(k:Nat):∀ v,v<256 ^ k→(be v).length≤k:=by
 induction k with
 | zero =>
  intro v h;obtain rfl:v=0:=by simpa using h
  rw[be_0];simp
 | succ k ih =>
  intro v h
  by_cases h0:v=0
  ·subst h0;rw[be_0];simp
  ·rw[a7C h0]
   have:=ih (v/256) (by rw[Nat.pow_succ]at h;omega)
   simp only[List.length_append,List.length_cons,List.length_nil];omega
theorem b5M{v:Nat}:(be v).length=0↔v=0:=by
 refine⟨fun h=>?_,fun h=>by rw[h,be_0];rfl⟩
 false_or_by_contra
 rename_i h0;rw[a7C h0]at h;simp at h
theorem b0a{v:Nat}(h:v<4294967296):(be v).length≤4:=c2z 4 v (by simpa using h)
def putN(v:Nat):List UInt8:=UInt8.ofNat (be v).length::be v
theorem a4v(v:Nat):(putN v).length=(be v).length+1:=rfl
abbrev bRow(b:List UInt8):Option Ob:=some (.row 5 1 b.length (a4O b))
theorem u8N(n:Nat)(h:n<256):((UInt8.ofNat n).toNat:Int)=(n:Int):=by rw[nb h]
def ptI(v:Nat)(n:Nat)(st:St):Prop:=∃ k:Nat,n=4-k∧k≤4 ∧
 st=⟨32,0,[(0,vci .u32 (v:Nat)),(3,.c (.row 0)),(4,vci .i64 (3-(k:Int)))],[bRow (be (v/256 ^ (4-k)))]⟩
theorem a5r(x y:List UInt8){f g:Nat→List IC}{K:Nat→(Nat→List IC)→Prop}{n m:Nat}(hn:n=x.length)(hm:m=y.length)(hf:∀ k,k<x.length→f k=a4O x k)(hg:∀ k,k<y.length→g k=a4O y k)(h:K (x++y).length (a4O (x++y))) :
  ∃(n':Nat) (f':Nat→List IC),n'=n+m∧(∀ k,k<n→f' k=f k)∧(∀ k,k<m→f' (n+k)=g k)∧K n' f':=by
 subst hn hm;refine⟨_,_,by simp,fun k hk=>?_,fun k hk=>?_,h⟩
 ·rw[hf k hk]
  simp[a4O,List.getD_eq_getElem?_getD,List.getElem?_append_left hk]
 ·rw[hg k hk]
  simp only[a4O,List.getD_eq_getElem?_getD];rw[List.getElem?_append_right (by omega),Nat.add_sub_cancel_left]
theorem b1B(c:UInt8):∀ k,k<[c].length→b1 c=a4O [c] k:=fun k hk=>by
 simp only[List.length_cons,List.length_nil]at hk;obtain rfl:k=0:=by omega
 rfl
theorem b9o(v:Nat)(hv:v<4294967296):a0f Tryz.prog 78 [vci .u32 (v:Nat)] [] (fun r own'=>own'=[bRow (putN v)]∧r=.c (.row 0)):=by
 refine a0i Tryz.func78 rfl ttok ftok rfl rfl rfl (Nat.le_of_ble_eq_true rfl) rfl ?_
 conv=>whnf
 refine a0B ttok ftok (ptI v) ((a0M 3 5 1 (a4O []) rfl).trans (a0b [0,3,4] [some 0] rfl rfl)) ⟨0,rfl,by omega,by rw[show v/256 ^ (4-0)=0 from Nat.div_eq_of_lt (by simpa using hv),be_0];rfl⟩ ?_
 rintro m st ⟨k,rfl,hk,rfl⟩
 conv=>whnf
 refine a0d (fun g=>?_) (fun g=>?_)
 ·have g:=of_decide_eq_true g
  have hk4:k<4:=by omega
  conv=>whnf
  obtain⟨u,hu⟩:∃ u,v/256 ^ (4-k)=u:=⟨_,rfl⟩;obtain⟨w,hw⟩:∃ w,v/256 ^ (3-k)=w:=⟨_,rfl⟩;have huw:u=w/256:=by rw[←hu,←hw,Nat.div_div_eq_div_mul,←Nat.pow_succ];congr 2;omega
  have hw4:w<4294967296:=by rw[←hw];exact Nat.lt_of_le_of_lt (Nat.div_le_self _ _) hv
  have hbu:=b0a (v:=u) (by omega)
  have es:IntKind.i64.wrap (8*(3-(k:Int)))=((8*(3-k):Nat):Int):=by rw[a0s (by omega) (by omega)];omega
  have ew:(v:Int)/2 ^ (8*(3-k))=(w:Int):=by
   rw[←hw,show(256:Nat) ^ (3-k)=2 ^ (8*(3-k))from by rw[Nat.pow_mul]]
   norm_cast
  have e4:IntKind.i64.wrap (3-(k:Int)-1)=3-((k+1:Nat):Int):=by rw[a0s (by omega) (by omega)];omega
  have e5:4-(k+1)=3-k:=by omega
  rw[es];refine⟨⟨by omega,by show((8*(3-k):Nat):Int)≤32;omega⟩,?_⟩
  conv=>whnf
  simp only[es,a0k,ew,hu]
  by_cases h0:w=0
  ·have hu0:u=0:=by omega
   subst hu0;rw[be_0];rw[h0]
   conv=>whnf
   rw[e4];exact⟨4-(k+1),_,by omega,a0F [0,3,4] rfl,k+1,rfl,by omega,by rw[e5,hw,h0,be_0]⟩
  ·have hc:a0J (decide (IntKind.u8.wrap (w:Int)>0)) (Operand.const (Value.bool true)) (Operand.tmp 20) true (decide (((be u).length:Int)>0))=true:=by
    simp only[a0J,a0O,w_u8,Bool.or_eq_true,decide_eq_true_eq]
    by_cases hu0:u=0
    ·exact .inl (by omega)
    ·have:=mt b5M.1 hu0
     exact .inr (by omega)
   rw[hc]
   conv=>whnf
   refine⟨fun _=>b1 (UInt8.ofNat (w%256)),fun j hj=>?_,?_⟩
   ·obtain rfl:j=0:=by omega
    show b1 _=[IC.v (Value.int IntKind.u8 (IntKind.u8.wrap (w:Int)))];simp only[b1,w_u8];rw[u8N _ (by omega)]
    congr
   conv=>whnf
   refine⟨⟨by omega,by show((be u).length+1)*1≤_;omega⟩,?_⟩
   conv=>whnf
   refine a5r (be u) [UInt8.ofNat (w%256)] rfl rfl (fun k hk=>rfl) (fun j hj=>b1B _ j hj) ?_;subst huw;rw[←a7C h0]
   conv=>whnf
   rw[e4];exact⟨4-(k+1),_,by omega,a0b [0,3,4] [some 2] rfl rfl,k+1,rfl,by omega,by rw[e5,hw];rfl⟩
 ·have g:=of_decide_eq_false g
  obtain rfl:k=4:=by omega
  have hl:=b0a hv;rw[show v/256 ^ (4-4)=v from by simp]
  conv=>whnf
  refine⟨fun _=>b1 (UInt8.ofNat (be v).length),fun j hj=>?_,?_⟩
  ·obtain rfl:j=0:=by omega
   show b1 _=[IC.v (Value.int IntKind.u8 (IntKind.u8.wrap ((be v).length:Int)))];simp only[b1,w_u8];rw[u8N _ (by omega),Int.emod_eq_of_lt (by omega) (by omega)]
  conv=>whnf
  refine⟨⟨by omega,by show(1+(be v).length)*1≤_;omega⟩,?_⟩
  conv=>whnf
  refine a5r [UInt8.ofNat (be v).length] (be v) rfl rfl (fun j hj=>b1B _ j hj) (fun j hj=>rfl) ?_
  conv=>whnf
  refine⟨_,Weak.refl _,?_⟩
  conv=>whnf
  exact⟨[some 2],rfl,rfl,rfl,rfl⟩
def putT(s:ByteArray):List UInt8:=putN s.size++s.data.toList
theorem b9q(s:ByteArray)(hs:s.size≤1000000000):a0f Tryz.prog 51 [vcs s] [] (fun r own'=>own'=[none,bRow (putT s)]∧r=.c (.row 1)):=by
 have hn:IntKind.u32.wrap (s.size:Int)=(s.size:Int):=by rw[a4W];omega
 have hl:=b0a (v:=s.size) (by omega)
 refine a0i Tryz.func51 rfl ttok ftok rfl rfl rfl (Nat.le_of_ble_eq_true rfl) rfl ?_
 conv=>whnf
 refine⟨by omega,?_⟩
 conv=>whnf
 rw[hn];refine a0c [] rfl rfl rfl rfl (b9o s.size (by omega)) ?_
 rintro r own2 ⟨rfl,rfl⟩;refine⟨.c (.row 0),[bRow (putN s.size)],rfl,rfl,?_⟩
 conv=>whnf
 refine⟨⟨by rw[a4v];omega,by show((putN s.size).length+s.size)*1≤_;rw[a4v];omega⟩,?_⟩
 conv=>whnf
 refine a5r (putN s.size) s.data.toList rfl (a1M s).symm (fun j hj=>rfl) (fun j hj=>rfl) ?_
 conv=>whnf
 refine⟨_,Weak.refl _,?_⟩
 conv=>whnf
 exact⟨[none,some 1],rfl,rfl,rfl,rfl⟩
def getT(b:List UInt8)(at_:Int):Option (ByteArray × Nat):=match getN b at_ with
 | none=>none
 | some (m,n)=>if(b.length:Int)-at_-n<m then none else if(a0E ⟨((b.drop (at_.toNat+n)).take m).toArray⟩).isSome=true then some (⟨((b.drop (at_.toNat+n)).take m).toArray⟩,n+m)else none
def c3X(o:Option (ByteArray × Nat)):AV:=match o with
 | some (s,n)=>.tup [vcs s,vci .i64 n,.c (.v .nilIface)]
 | none=>.tup [vcs ⟨#[]⟩,vci .i64 0,errM]
theorem a4H{b:List UInt8}{at_:Int}{v n:Nat}(h:getN b at_=some (v,n)):∃ i:Nat,at_=i∧i<b.length∧1≤n∧n≤5∧i+n≤b.length∧v<4294967296∧(b.getD i 0).toNat+1=n∧v=valN ((b.drop (i+1)).take (n-1))∧(1<n→b.getD (i+1) 0≠0):=by
 unfold getN at h;split at h
 ·cases h
 ·split at h
  ·cases h
  ·rename_i h1 h2
   cases h;obtain⟨i,rfl⟩:∃ i:Nat,at_=(i:Int):=⟨at_.toNat,by omega⟩
   rw[a0k]at h2 ⊢;refine⟨i,rfl,by omega,by omega,by omega,by omega,b6f (by rw[List.length_take];omega),rfl,rfl,fun h e=>h2 (.inr (.inr ⟨by omega,e⟩))⟩
theorem b9S(b:List UInt8)(hb:b.length≤100000000)(at_:Int)(ha1:-9223372036854775808≤at_)(ha2:at_≤9223372036854775807):a0f Tryz.prog 162 [bS b,vci .i64 at_] [] (fun r own'=>own'=[]∧r=c3X (getT b at_)):=by
 unfold getT;refine a0e Tryz.func162 rfl ttok ftok rfl rfl rfl (Nat.le_of_ble_eq_true rfl) ?_
 conv=>whnf
 refine a0a (c2o b (by omega) at_ ha1 ha2) rfl ?_
 rintro _ rfl;cases hg:getN b at_ with
 | none =>
  conv=>whnf
  try rfl
 | some x =>
  obtain⟨v,n⟩:=x;obtain⟨i,rfl,hi,hn1,hn5,hin,hv,_⟩:=a4H hg;have e1:IntKind.u64.wrap (v:Int)=(v:Int):=by rw[a5H];omega
  have e2:IntKind.u64.wrap (IntKind.i64.wrap (IntKind.i64.wrap ((b.length:Int)-i)-n))=(b.length:Int)-i-n:=by
   rw[a0s (x:=(b.length:Int)-i) (by omega) (by omega),a0s (by omega) (by omega),a5H];omega
  conv=>whnf
  simp only[e1,e2,a0k];refine a0d (fun h=>?_) (fun h=>?_)
  ·have h:=of_decide_eq_true h
   rw[if_pos (by omega)]
   conv=>whnf
   try rfl
  ·have h:=of_decide_eq_false h
   rw[if_neg (by omega)]
   have e3:IntKind.i64.wrap ((i:Int)+n)=((i+n:Nat):Int):=by rw[a0s (by omega) (by omega)];omega
   have e4:IntKind.i64.wrap (v:Int)=(v:Int):=a0s (by omega) (by omega)
   have e5:IntKind.i64.wrap (((i+n:Nat):Int)+(v:Int))=((i+n+v:Nat):Int):=by rw[a0s (by omega) (by omega)];omega
   have e6:IntKind.i64.wrap ((n:Int)+(v:Int))=((n+v:Nat):Int):=by rw[a0s (by omega) (by omega)];omega
   obtain⟨l,hl⟩:∃ l,(b.drop (i+n)).take v=l:=⟨_,rfl⟩;have hll:l.length=v:=by rw[←hl];simp;omega
   have hsz:(⟨l.toArray⟩:ByteArray).size=l.length:=by show l.toArray.size=_;simp
   rw[hl]
   conv=>whnf
   simp only[e3,e4,e5,a0k];refine⟨by omega,?_⟩
   conv=>whnf
   refine c1w (enc:=b1) (d:=0) l (by rw[hll];omega) (fun j hj=>?_) ?_
   ·rw[←hl,a0Q _ _ _ _ (by omega),a1j]
   conv=>whnf
   refine⟨l,rfl,fun _ _=>rfl,?_⟩
   conv=>whnf
   refine a0a (a7J ⟨l.toArray⟩ (by rw[hsz];omega)) rfl ?_
   rintro _ rfl;cases hc:(a0E ⟨l.toArray⟩).isSome with
   | true =>
    conv=>whnf
    rw[e4,e6];rfl
   | false =>
    conv=>whnf
    try rfl
end Go.Eng
namespace Go.Eng
open Go Go.RowKit
end Go.Eng
namespace Go.Eng
open Go Go.RowKit Go.Proofs
abbrev uF(v:Int):List IC:=[vu v]
abbrev uRow(l:List Int):Option Ob:=some (.row 22 1 l.length fun k=>uF (l.getD k 0))
def u32L(l:List Int):Prop:=∀ v,v∈l→0≤v∧v≤4294967295
def encN(l:List Int):List UInt8:=l.flatMap fun v=>putN v.toNat
theorem a5f{v:Nat}(h:v<4294967296):(putN v).length≤5:=by rw[a4v];have:=b0a h;omega
theorem a9H(l:List Int)(v:Int):encN (l++[v])=encN l++putN v.toNat:=by unfold encN;rw[List.flatMap_append];simp
theorem a4J:∀(l:List Int),u32L l→(encN l).length≤l.length*5
 | [],_=>by simp[encN]
 | v::l,h=>by
  have h1:=a4J l (fun x hx=>h x (List.mem_cons_of_mem _ hx));have h2:=h v (List.mem_cons_self ..);have h3:=a5f (v:=v.toNat) (by omega)
  unfold encN at h1 ⊢;rw[List.flatMap_cons,List.length_append,List.length_cons,Nat.succ_mul];omega
theorem b7P{l:List Int}(h:u32L l){k:Nat}(hk:k<l.length):0≤l.getD k 0∧l.getD k 0≤4294967295:=by
 rw[List.getD_eq_getElem?_getD,List.getElem?_eq_getElem hk];exact h _ (List.getElem_mem hk)
def nuI(b:List UInt8)(vs:List Int)(i j:Nat)(O:List (Option Ob))(n:Nat)(st:St):Prop:=∃ k:Nat,n=vs.length-k∧k≤vs.length ∧
 st=⟨19,O.length-1,[(0,.c (.row i)),(7,.c (.row j)),(8,vci .i64 vs.length),(9,vci .i64 (k:Int))],O.set i (bRow (b++encN (vs.take k)))⟩
theorem c1N(vs:List Int)(hv:u32L vs)(hl:vs.length≤1000):a0f Tryz.prog 50 [nilS,.c (.row 0)] [uRow vs] (fun r own'=>own'=[uRow vs,bRow (encN vs)]∧r=.c (.row 1)):=by
 refine a0i Tryz.func50 rfl ttok ftok rfl rfl rfl (Nat.le_of_ble_eq_true rfl) rfl ?_
 conv=>whnf
 refine a0B ttok ftok (nuI [] vs 1 0 [uRow vs,none]) ((a0M 0 5 1 (a4O []) rfl).trans (a0b [0,7,8,9] [some 0,some 1] rfl rfl)) ⟨0,rfl,Nat.zero_le _,rfl⟩ ?_;rintro n st ⟨k,rfl,hk,rfl⟩;have e1:IntKind.i64.wrap ((k:Int)+1)=((k+1:Nat):Int):=by rw[a0s (by omega) (by omega)];omega
 have hlen:=a4J (vs.take k) (fun v hv2=>hv v (List.mem_of_mem_take hv2));rw[List.length_take]at hlen
 conv=>whnf
 refine a0d (fun h=>?_) (fun h=>?_)
 ·have h:=of_decide_eq_true h
  have hk2:k<vs.length:=by omega
  have hvk:=b7P hv hk2
  conv=>whnf
  refine⟨by omega,?_⟩
  conv=>whnf
  simp only[a0k];obtain⟨v,hvv⟩:∃ v:Nat,vs.getD k 0=(v:Int):=⟨(vs.getD k 0).toNat,by omega⟩
  rw[hvv];have hv4:v<4294967296:=by omega
  have hpl:=a5f hv4;refine a0c [] rfl rfl rfl rfl (b9o v hv4) ?_;rintro r own2 ⟨rfl,rfl⟩;refine⟨.c (.row 2),_,rfl,rfl,?_⟩
  conv=>whnf
  refine⟨⟨by(try simp only[List.length_append,List.length_nil]);omega,by simp only[List.length_append,List.length_nil,show ti5.bytes=1 from rfl];omega⟩,?_⟩
  conv=>whnf
  refine a5r ([]++encN (vs.take k)) (putN v) rfl rfl (fun j hj=>rfl) (fun j hj=>rfl) ?_
  conv=>whnf
  rw[e1];refine⟨vs.length-(k+1),_,by omega,a0b [0,7,8,9] [some 0,some 3] rfl rfl,k+1,rfl,by omega,?_⟩
  rw[a3f (d:=0) hk2,a9H,hvv,Int.toNat_natCast,←List.append_assoc];rfl
 ·have h:=of_decide_eq_false h
  obtain rfl:k=vs.length:=by omega
  rw[List.take_length]
  conv=>whnf
  refine⟨_,Weak.refl _,?_⟩
  conv=>whnf
  exact⟨[some 0,some 1],rfl,rfl,rfl,rfl⟩
theorem b9x(b:List UInt8)(hb:b.length≤100000000)(vs:List Int)(hv:u32L vs)(hl:vs.length≤1000):a0f Tryz.prog 50 [.c (.row 0),.c (.row 1)] [bRow b,uRow vs] (fun r own'=>own'=[none,uRow vs,bRow (b++encN vs)]∧r=.c (.row 2)):=by
 refine a0i Tryz.func50 rfl ttok ftok rfl rfl rfl (Nat.le_of_ble_eq_true rfl) rfl ?_
 conv=>whnf
 refine a0B ttok ftok (nuI b vs 2 1 [none,uRow vs,none]) ((b6H 0 0 rfl rfl).trans (a0b [0,7,8,9] [none,some 1,some 2] rfl rfl)) ⟨0,rfl,Nat.zero_le _,?_⟩ ?_
 ·rw[List.take_zero,show encN []=[]from rfl,List.append_nil]
  rfl
 rintro n st ⟨k,rfl,hk,rfl⟩;have e1:IntKind.i64.wrap ((k:Int)+1)=((k+1:Nat):Int):=by rw[a0s (by omega) (by omega)];omega
 have hlen:=a4J (vs.take k) (fun v hv2=>hv v (List.mem_of_mem_take hv2));rw[List.length_take]at hlen
 conv=>whnf
 refine a0d (fun h=>?_) (fun h=>?_)
 ·have h:=of_decide_eq_true h
  have hk2:k<vs.length:=by omega
  have hvk:=b7P hv hk2
  conv=>whnf
  refine⟨by omega,?_⟩
  conv=>whnf
  simp only[a0k];obtain⟨v,hvv⟩:∃ v:Nat,vs.getD k 0=(v:Int):=⟨(vs.getD k 0).toNat,by omega⟩
  rw[hvv];have hv4:v<4294967296:=by omega
  have hpl:=a5f hv4;refine a0c [] rfl rfl rfl rfl (b9o v hv4) ?_;rintro r own2 ⟨rfl,rfl⟩;refine⟨.c (.row 3),_,rfl,rfl,?_⟩
  conv=>whnf
  refine⟨⟨by(try simp only[List.length_append,List.length_nil]);omega,by simp only[List.length_append,List.length_nil,show ti5.bytes=1 from rfl];omega⟩,?_⟩
  conv=>whnf
  refine a5r (b++encN (vs.take k)) (putN v) rfl rfl (fun j hj=>rfl) (fun j hj=>rfl) ?_
  conv=>whnf
  rw[e1];refine⟨vs.length-(k+1),_,by omega,a0b [0,7,8,9] [none,some 1,some 4] rfl rfl,k+1,rfl,by omega,?_⟩
  rw[a3f (d:=0) hk2,a9H,hvv,Int.toNat_natCast,←List.append_assoc];rfl
 ·have h:=of_decide_eq_false h
  obtain rfl:k=vs.length:=by omega
  rw[List.take_length]
  conv=>whnf
  refine⟨_,Weak.refl _,?_⟩
  conv=>whnf
  exact⟨[none,some 1,some 2],rfl,rfl,rfl,rfl⟩
end Go.Eng
namespace Go.Eng
open Go Go.RowKit Go.Proofs
end Go.Eng
namespace Go.Eng
open Go Go.RowKit Go.Proofs
def baSm(x:Ba):Prop:=baOk x∧x.runs.length≤3001∧x.dels.length≤3001∧(∀ r,r∈x.runs→r.text.size≤3000)∧∀ s,s∈x.dels→spOk s
def a5j(r:Ru):List Int:=[r.id.1,r.id.2,r.left.1,r.left.2,r.right.1,r.right.2]
def a1x(r:Ru):List UInt8:=encN (a5j r)++putT r.text
def a3K(s:Sp):List UInt8:=encN [s.cl,s.fr,s.tz]
def a3p(x:Ba)(k:Nat):List UInt8:=putN x.runs.length++(x.runs.take k).flatMap a1x
def a3Z(x:Ba)(k:Nat):List UInt8:=a3p x x.runs.length++putN x.dels.length++(x.dels.take k).flatMap a3K
def encB(x:Ba):List UInt8:=a3Z x x.dels.length
theorem b3F{r:Ru}(h:ruOk r):u32L (a5j r):=by
 obtain⟨⟨a1,a2⟩,⟨b1,b2⟩,⟨c1,c2⟩,_⟩:=h;intro v hv;simp only[a5j,List.mem_cons,List.not_mem_nil,or_false]at hv;rcases hv with rfl | rfl | rfl | rfl | rfl | rfl <;> assumption
theorem b7O{s:Sp}(h:spOk s):u32L [s.cl,s.fr,s.tz]:=by
 obtain⟨a,b,c⟩:=h;intro v hv;simp only[List.mem_cons,List.not_mem_nil,or_false]at hv;rcases hv with rfl | rfl | rfl <;> assumption
theorem a7v{r:Ru}(h:ruOk r)(hs:r.text.size≤3000):(a1x r).length≤3035:=by
 have h1:=a4J _ (b3F h);have h2:=a5f (v:=r.text.size) (by omega)
 unfold a1x putT;rw[List.length_append,List.length_append,a1M];simp only[a5j,List.length_cons,List.length_nil]at h1;unfold a5j;omega
theorem a8u{α:Type}(f:α→List UInt8)(B:Nat):∀(l:List α),(∀ x,x∈l→(f x).length≤B)→(l.flatMap f).length≤l.length*B
 | [],_=>by simp
 | x::l,h=>by
  have h1:=a8u f B l (fun y hy=>h y (List.mem_cons_of_mem _ hy));have h2:=h x (List.mem_cons_self ..);rw[List.flatMap_cons,List.length_append,List.length_cons,Nat.succ_mul];omega
theorem a9I{x:Ba}(h:baSm x)(k:Nat):(a3p x k).length≤10000000:=by
 obtain⟨h1,h2,h3,h4,h5⟩:=h;have e1:=a5f (v:=x.runs.length) (by omega)
 have e2:=a8u a1x 3035 (x.runs.take k) (fun r hr=>a7v (h1.1 r (List.mem_of_mem_take hr)) (h4 r (List.mem_of_mem_take hr)));have e3:(x.runs.take k).length≤3001:=by rw[List.length_take];omega
 have e4:(x.runs.take k).length*3035≤3001*3035:=Nat.mul_le_mul_right _ e3;unfold a3p;rw[List.length_append];omega
theorem b5t{x:Ba}(h:baSm x)(k:Nat):(a3Z x k).length≤20000000:=by
 have e0:=a9I h x.runs.length;obtain⟨h1,h2,h3,h4,h5⟩:=h;have e1:=a5f (v:=x.dels.length) (by omega)
 have e2:=a8u a3K 15 (x.dels.take k) (fun s hs=>by
  have:=a4J _ (b7O (h5 s (List.mem_of_mem_take hs)));unfold a3K
  simpa using this)
 have e3:(x.dels.take k).length≤3001:=by rw[List.length_take];omega
 have e4:(x.dels.take k).length*15≤3001*15:=Nat.mul_le_mul_right _ e3;unfold a3Z;rw[List.length_append,List.length_append];omega
theorem b3i{x:Ba}{k:Nat}{r:Ru}(hk:k<x.runs.length)(hr:x.runs.getD k ru0=r):a3p x (k+1)=a3p x k++a1x r:=by
 unfold a3p;rw[a3f (d:=ru0) hk,hr,List.flatMap_append,List.append_assoc];simp
theorem b3h{x:Ba}{k:Nat}{s:Sp}(hk:k<x.dels.length)(hs:x.dels.getD k sp0=s):a3Z x (k+1)=a3Z x k++a3K s:=by
 unfold a3Z;rw[a3f (d:=sp0) hk,hs,List.flatMap_append,←List.append_assoc];simp
theorem b1m(vs:List Int):∀ k,k<vs.length→uF (vs.getD k 0)=(vs.map uF).getD k []:=fun k hk=>by
 rw[List.getD_eq_getElem?_getD,List.getD_eq_getElem?_getD,List.getElem?_map,List.getElem?_eq_getElem hk];rfl
theorem b3E(n:Nat)(h:n≤4294967295):u32L [(n:Int)]:=by
 intro v hv;rw[List.mem_singleton.1 hv];omega
theorem b2q(n:Nat):encN [(n:Int)]=putN n:=by unfold encN;simp
def bpI(x:Ba)(n:Nat)(st:St):Prop:=∃ k:Nat,n=x.runs.length-k∧k≤x.runs.length ∧
 st=⟨82,0,[(1,.c (.own 0 0)),(4,.c (.row 1)),(20,ruS x.runs),(21,vci .i64 x.runs.length),(22,vci .i64 (k:Int))],[some (.cells 51 (baF x)),bRow (a3p x k)]⟩
def bqI(x:Ba)(n:Nat)(st:St):Prop:=∃ k:Nat,n=x.dels.length-k∧k≤x.dels.length ∧
 st=⟨82,0,[(4,.c (.row 1)),(61,spS x.dels),(62,vci .i64 x.dels.length),(63,vci .i64 (k:Int))],[some (.cells 51 (baF x)),bRow (a3Z x k)]⟩
theorem b5K(x:Ba)(hx:baSm x):a0f Tryz.prog 23 [.agg (baF x)] [] (fun r own'=>own'=[]∧((mayB x∧(encB x).length≤20000∧r=.tup [bS (encB x),.c (.v .nilIface)])∨(¬(mayB x∧(encB x).length≤20000)∧r=.tup [nilS,errK 1]))):=by
 have hL1:=a9I hx;have hL2:=b5t hx;obtain⟨hok,hrl,hdl,hts,hsp⟩:=hx;have er:IntKind.u32.wrap (x.runs.length:Int)=(x.runs.length:Int):=by rw[a4W];omega
 have ed:IntKind.u32.wrap (x.dels.length:Int)=(x.dels.length:Int):=by rw[a4W];omega
 refine a0e Tryz.func23 rfl ttok ftok rfl rfl rfl (Nat.le_of_ble_eq_true rfl) ?_
 conv=>whnf
 refine a0a (b8h x hok) rfl ?_;rintro _ ⟨b,hb,rfl⟩;cases b with
 | false =>
  conv=>whnf
  refine .inr ⟨fun e=>absurd (hb.2 e.1) (by decide),?_⟩
  try rfl
 | true =>
  have hmay:=hb.1 rfl
  conv=>whnf
  rw[er];refine⟨fun k=>uF ([(x.runs.length:Int)].getD k 0),b1m [(x.runs.length:Int)],?_⟩
  conv=>whnf
  refine a0c [some 1] rfl rfl rfl rfl (c1N [(x.runs.length:Int)] (b3E _ (by omega)) (by simp)) ?_
  rintro r own2 ⟨rfl,rfl⟩;rw[b2q];refine⟨.c (.row 2),_,rfl,rfl,?_⟩
  conv=>whnf
  refine a0B ttok ftok (bpI x) (a0b [1,4,20,21,22] [some 0,some 2] rfl rfl) ⟨0,rfl,Nat.zero_le _,?_⟩ ?_
  ·rw[show a3p x 0=putN x.runs.length from by unfold a3p;simp]
   rfl
  rintro n st ⟨k,rfl,hk,rfl⟩;have e1:IntKind.i64.wrap ((k:Int)+1)=((k+1:Nat):Int):=by rw[a0s (by omega) (by omega)];omega
  conv=>whnf
  refine a0d (fun h=>?_) (fun h=>?_)
  ·have h:=of_decide_eq_true h
   have hk2:k<x.runs.length:=by omega
   obtain⟨r,hr⟩:∃ r,x.runs.getD k ru0=r:=⟨_,rfl⟩;have hmem:r∈x.runs:=by rw[←hr,List.getD_eq_getElem?_getD,List.getElem?_eq_getElem hk2];exact List.getElem_mem hk2
   have hrok:=hok.1 r hmem;have hrs:=hts r hmem;have hl1:=hL1 k
   conv=>whnf
   refine⟨⟨by omega,by omega⟩,?_⟩
   conv=>whnf
   simp only[a0k,hr];refine⟨fun k=>uF ((a5j r).getD k 0),b1m (a5j r),?_⟩
   conv=>whnf
   refine a0c [some 1,some 3] rfl rfl rfl rfl (b9x (a3p x k) (by omega) (a5j r) (b3F hrok) (by simp[a5j])) ?_
   rintro q own2 ⟨rfl,rfl⟩;refine⟨.c (.row 4),_,rfl,rfl,?_⟩
   conv=>whnf
   refine a0c [] rfl rfl rfl rfl (b9q r.text (by omega)) ?_
   rintro q own2 ⟨rfl,rfl⟩;refine⟨.c (.row 6),_,rfl,rfl,?_⟩;have hru:=a7v hrok hrs;have hre:a3p x k++encN (a5j r)++putT r.text=a3p x (k+1):=by rw[b3i hk2 hr];unfold a1x;rw[List.append_assoc]
   have hl2:(a3p x k++encN (a5j r)).length+(putT r.text).length≤20000000:=by
    have:=congrArg List.length hre;rw[List.length_append]at this;have:=hL1 (k+1);omega
   conv=>whnf
   refine⟨⟨by omega,by simp only[show ti5.bytes=1 from rfl];omega⟩,?_⟩
   conv=>whnf
   refine a5r (a3p x k++encN (a5j r)) (putT r.text) rfl rfl (fun j hj=>rfl) (fun j hj=>rfl) ?_;rw[hre]
   conv=>whnf
   rw[e1];exact⟨x.runs.length-(k+1),_,by omega,a0b [1,4,20,21,22] [some 0,some 7] rfl rfl,k+1,rfl,by omega,rfl⟩
  ·have h:=of_decide_eq_false h
   obtain rfl:k=x.runs.length:=by omega
   have hl1:=hL1 x.runs.length
   conv=>whnf
   rw[ed];refine⟨fun k=>uF ([(x.dels.length:Int)].getD k 0),b1m [(x.dels.length:Int)],?_⟩
   conv=>whnf
   refine a0c [some 1,some 2] rfl rfl rfl rfl (b9x (a3p x x.runs.length) (by omega) [(x.dels.length:Int)] (b3E _ (by omega)) (by simp)) ?_
   rintro r own2 ⟨rfl,rfl⟩;rw[b2q];refine⟨.c (.row 3),_,rfl,rfl,?_⟩
   conv=>whnf
   refine a0B ttok ftok (bqI x) (a0b [4,61,62,63] [some 0,some 3] rfl rfl) ⟨0,rfl,Nat.zero_le _,?_⟩ ?_
   ·rw[show a3Z x 0=a3p x x.runs.length++putN x.dels.length from by unfold a3Z;simp]
    rfl
   rintro n st ⟨k,rfl,hk,rfl⟩;have e1:IntKind.i64.wrap ((k:Int)+1)=((k+1:Nat):Int):=by rw[a0s (by omega) (by omega)];omega
   conv=>whnf
   refine a0d (fun h=>?_) (fun h=>?_)
   ·have h:=of_decide_eq_true h
    have hk2:k<x.dels.length:=by omega
    obtain⟨s,hs⟩:∃ s,x.dels.getD k sp0=s:=⟨_,rfl⟩;have hmem:s∈x.dels:=by rw[←hs,List.getD_eq_getElem?_getD,List.getElem?_eq_getElem hk2];exact List.getElem_mem hk2
    have hl2:=hL2 k
    conv=>whnf
    refine⟨⟨by omega,by omega⟩,?_⟩
    conv=>whnf
    simp only[a0k,hs];refine⟨fun k=>uF ([s.cl,s.fr,s.tz].getD k 0),b1m [s.cl,s.fr,s.tz],?_⟩
    conv=>whnf
    refine a0c [some 1,some 3] rfl rfl rfl rfl (b9x (a3Z x k) (by omega) [s.cl,s.fr,s.tz] (b7O (hsp s hmem)) (by simp)) ?_
    rintro q own2 ⟨rfl,rfl⟩;rw[show a3Z x k++encN [s.cl,s.fr,s.tz]=a3Z x (k+1)from(b3h hk2 hs).symm];refine⟨.c (.row 4),_,rfl,rfl,?_⟩
    conv=>whnf
    rw[e1];exact⟨x.dels.length-(k+1),_,by omega,a0b [4,61,62,63] [some 0,some 4] rfl rfl,k+1,rfl,by omega,rfl⟩
   ·have h:=of_decide_eq_false h
    obtain rfl:k=x.dels.length:=by omega
    conv=>whnf
    by_cases hbig:(encB x).length≤20000
    ·rw[show decide (((a3Z x x.dels.length).length:Int)>20000)=false from decide_eq_false (by unfold encB at hbig;omega)]
     conv=>whnf
     refine⟨fun _ _=>rfl,?_⟩
     conv=>whnf
     exact .inl ⟨hmay,hbig,rfl⟩
    ·rw[show decide (((a3Z x x.dels.length).length:Int)>20000)=true from decide_eq_true (by unfold encB at hbig;omega)]
     conv=>whnf
     exact .inr ⟨fun e=>hbig e.2,rfl⟩
end Go.Eng
namespace Go.Eng
open Go Go.RowKit Go.Proofs
end Go.Eng
namespace Go.Eng
open Go Go.RowKit Go.Proofs
abbrev RS:=Nat × Bool
abbrev badC(bad:Bool):IC:=.v (match bad with | true=>.iface 69 (.int .i64 2) | false=>.nilIface)
abbrev rO(b:List UInt8)(s:RS):Option Ob:=some (.cells 165 [.sl 1 b.length (a4O b),vi s.1,badC s.2])
def numS(b:List UInt8)(s:RS):Nat × RS:=match s.2 with
 | true=>(0,s)
 | false=>match getN b s.1 with
  | some (v,n)=>(v,(s.1+n,false))
  | none=>(0,(s.1,true))
theorem a1z{b:List UInt8}{s:RS}(h:s.1≤b.length):(numS b s).2.1≤b.length∧(numS b s).1<4294967296:=by
 obtain⟨at_,bad⟩:=s;unfold numS;cases bad with
 | true=>exact⟨h,Nat.zero_lt_succ _⟩
 | false =>
  simp only;cases hg:getN b (at_:Nat)with
  | none=>exact⟨h,Nat.zero_lt_succ _⟩
  | some x =>
   obtain⟨v,n⟩:=x;obtain⟨i,hi,h1,h2,h3,h4,h5,_⟩:=a4H hg;obtain rfl:at_=i:=by omega
   exact⟨h4,h5⟩
theorem a2N(b:List UInt8)(hb:b.length≤100000)(s:RS)(hs:s.1≤b.length):a0f Tryz.prog 79 [.c (.own 0 0)] [rO b s] (fun r own'=>r=vci .u32 ((numS b s).1:Nat)∧own'=[rO b (numS b s).2]):=by
 obtain⟨at_,bad⟩:=s;simp only at hs;refine a0i Tryz.func79 rfl ttok ftok rfl rfl rfl (Nat.le_of_ble_eq_true rfl) rfl ?_
 conv=>whnf
 cases bad with
 | true =>
  conv=>whnf
  refine⟨_,Weak.refl _,?_⟩
  conv=>whnf
  exact⟨[some 0],rfl,rfl,rfl,rfl⟩
 | false =>
  conv=>whnf
  refine a0m (.rd 0 (.rd 1 (.rd 2 (.rd 3 (.rd 4 (.rd 5 (.rd 6 (.rd 7 (.ef 8 (.rd 9 (.rd 10 (.rd 11 (.rd 12 (.rd 13 (.rd 14 (.rd 15 (.nil))))))))))))))))) [] mixed (by kernel_rfl) ttok ftok ?_
  conv=>whnf
  refine a0a (c2o b (by omega) (at_:Nat) (by omega) (by omega)) rfl ?_
  rintro _ rfl;have hle:=a1z (b:=b) (s:=(at_,false)) hs;cases hg:getN b (at_:Nat)with
  | none =>
   have he:numS b (at_,false)=(0,(at_,true)):=by unfold numS;simp only[hg]
   rw[he];have e1:IntKind.i64.wrap ((at_:Int)+0)=(at_:Int):=by rw[Int.add_zero];exact a0s (by omega) (by omega)
   conv=>whnf
   simp only[e1];refine⟨_,Weak.refl _,?_⟩
   conv=>whnf
   exact⟨[some 0],rfl,rfl,rfl,rfl⟩
  | some x =>
   obtain⟨v,n⟩:=x;have he:numS b (at_,false)=(v,(at_+n,false)):=by unfold numS;simp only[hg]
   rw[he]at hle ⊢;simp only at hle;have e1:IntKind.i64.wrap ((at_:Int)+(n:Int))=((at_+n:Nat):Int):=by rw[a0s (by omega) (by omega)];omega
   conv=>whnf
   simp only[e1];refine⟨_,Weak.refl _,?_⟩
   conv=>whnf
   exact⟨[some 0],rfl,rfl,rfl,rfl⟩
def idS(b:List UInt8)(s:RS):I2 × RS:=(((numS b s).1,(numS b (numS b s).2).1),(numS b (numS b s).2).2)
theorem b4g(b:List UInt8)(hb:b.length≤100000)(s:RS)(hs:s.1≤b.length):a0f Tryz.prog 127 [.c (.own 0 0)] [rO b s] (fun r own'=>r=idA (idS b s).1∧own'=[rO b (idS b s).2]):=by
 have h1:=a1z hs;refine a0i Tryz.func127 rfl ttok ftok rfl rfl rfl (Nat.le_of_ble_eq_true rfl) rfl ?_
 conv=>whnf
 refine a0c [some 0] rfl rfl rfl rfl (a2N b hb s hs) ?_;rintro r own2 ⟨rfl,rfl⟩;refine⟨_,_,rfl,rfl,?_⟩
 conv=>whnf
 refine a0c [some 0] rfl rfl rfl rfl (a2N b hb (numS b s).2 h1.1) ?_;rintro r own2 ⟨rfl,rfl⟩;refine⟨_,_,rfl,rfl,?_⟩
 conv=>whnf
 refine⟨_,Weak.refl _,?_⟩
 conv=>whnf
 exact⟨[some 0],rfl,rfl,rfl,rfl⟩
theorem a7p{b:List UInt8}{s:RS}(h:s.1≤b.length):(idS b s).2.1≤b.length∧u32P (idS b s).1:=by
 have h1:=a1z h;have h2:=a1z h1.1;refine⟨h2.1,?_⟩;unfold idS u32P;refine⟨⟨by simp only;omega,by simp only;omega⟩,by simp only;omega,by simp only;omega⟩
def txtS(b:List UInt8)(s:RS):ByteArray × RS:=match s.2 with
 | true=>(⟨#[]⟩,s)
 | false=>match getT b s.1 with
  | some (t,n)=>(t,(s.1+n,false))
  | none=>(⟨#[]⟩,(s.1,true))
theorem b4X{b:List UInt8}{i:Nat}{t:ByteArray}{n:Nat}(h:getT b (i:Nat)=some (t,n)):i+n≤b.length∧t.size≤n∧1≤n:=by
 unfold getT at h;split at h
 ·cases h
 ·rename_i m k hg
  obtain⟨i',hi,h1,h2,h3,h4,h5,_⟩:=a4H hg;obtain rfl:i=i':=by omega
  split at h
  ·cases h
  ·split at h
   ·cases h
    refine⟨by omega,?_,by omega⟩
    show((List.take m (List.drop ((i:Int).toNat+k) b)).toArray).size≤_;simp;omega
   ·cases h
theorem b3G{b:List UInt8}{s:RS}(h:s.1≤b.length):(txtS b s).2.1≤b.length∧(txtS b s).1.size≤b.length:=by
 obtain⟨at_,bad⟩:=s;unfold txtS;cases bad with
 | true=>exact⟨h,Nat.zero_le _⟩
 | false =>
  simp only;cases hg:getT b (at_:Nat)with
  | none=>exact⟨h,Nat.zero_le _⟩
  | some x =>
   obtain⟨t,n⟩:=x;have:=b4X hg;exact⟨this.1,by simp only;omega⟩
theorem b6L(b:List UInt8)(hb:b.length≤100000)(s:RS)(hs:s.1≤b.length):a0f Tryz.prog 128 [.c (.own 0 0)] [rO b s] (fun r own'=>r=vcs (txtS b s).1∧own'=[rO b (txtS b s).2]):=by
 obtain⟨at_,bad⟩:=s;simp only at hs;refine a0i Tryz.func128 rfl ttok ftok rfl rfl rfl (Nat.le_of_ble_eq_true rfl) rfl ?_
 conv=>whnf
 cases bad with
 | true =>
  conv=>whnf
  refine⟨_,Weak.refl _,?_⟩
  conv=>whnf
  exact⟨[some 0],rfl,rfl,rfl,rfl⟩
 | false =>
  conv=>whnf
  refine a0m (.rd 0 (.rd 1 (.rd 2 (.rd 3 (.rd 4 (.rd 5 (.rd 6 (.rd 7 (.ef 8 (.rd 9 (.rd 10 (.rd 11 (.rd 12 (.rd 13 (.rd 14 (.rd 15 (.nil))))))))))))))))) [] mixed (by kernel_rfl) ttok ftok ?_
  conv=>whnf
  refine a0a (b9S b (by omega) (at_:Nat) (by omega) (by omega)) rfl ?_
  rintro _ rfl;have hle:=b3G (b:=b) (s:=(at_,false)) hs;cases hg:getT b (at_:Nat)with
  | none =>
   have he:txtS b (at_,false)=(⟨#[]⟩,(at_,true)):=by unfold txtS;simp only[hg]
   rw[he];have e1:IntKind.i64.wrap ((at_:Int)+0)=(at_:Int):=by rw[Int.add_zero];exact a0s (by omega) (by omega)
   conv=>whnf
   simp only[e1];refine⟨_,Weak.refl _,?_⟩
   conv=>whnf
   exact⟨[some 0],rfl,rfl,rfl,rfl⟩
  | some x =>
   obtain⟨v,n⟩:=x;have he:txtS b (at_,false)=(v,(at_+n,false)):=by unfold txtS;simp only[hg]
   rw[he]at hle ⊢;simp only at hle;have e1:IntKind.i64.wrap ((at_:Int)+(n:Int))=((at_+n:Nat):Int):=by rw[a0s (by omega) (by omega)];omega
   conv=>whnf
   simp only[e1];refine⟨_,Weak.refl _,?_⟩
   conv=>whnf
   exact⟨[some 0],rfl,rfl,rfl,rfl⟩
def runS(b:List UInt8)(s:RS):Ru × RS :=
 let a:=idS b s
 let l:=idS b a.2
 let r:=idS b l.2
 let t:=txtS b r.2
 (⟨a.1,l.1,r.1,t.1⟩,t.2)
theorem b9c{b:List UInt8}{s:RS}(h:s.1≤b.length)(hb:b.length≤100000):(runS b s).2.1≤b.length∧ruOk (runS b s).1∧(runS b s).1.text.size≤b.length:=by
 have h1:=a7p h;have h2:=a7p h1.1;have h3:=a7p h2.1;have h4:=b3G h3.1;exact⟨h4.1,⟨h1.2,h2.2,h3.2,Nat.le_trans h4.2 (by omega)⟩,h4.2⟩
theorem b9h(b:List UInt8)(hb:b.length≤100000)(s:RS)(hs:s.1≤b.length):a0f Tryz.prog 80 [.c (.own 0 0)] [rO b s] (fun r own'=>r=.agg (ruF (runS b s).1)∧own'=[rO b (runS b s).2]):=by
 have h1:=a7p hs;have h2:=a7p h1.1;have h3:=a7p h2.1;refine a0i Tryz.func80 rfl ttok ftok rfl rfl rfl (Nat.le_of_ble_eq_true rfl) rfl ?_
 conv=>whnf
 refine a0c [some 0] rfl rfl rfl rfl (b4g b hb s hs) ?_;rintro r own2 ⟨rfl,rfl⟩;refine⟨_,_,rfl,rfl,?_⟩
 conv=>whnf
 refine a0c [some 0] rfl rfl rfl rfl (b4g b hb (idS b s).2 h1.1) ?_;rintro r own2 ⟨rfl,rfl⟩;refine⟨_,_,rfl,rfl,?_⟩
 conv=>whnf
 refine a0c [some 0] rfl rfl rfl rfl (b4g b hb _ h2.1) ?_;rintro r own2 ⟨rfl,rfl⟩;refine⟨_,_,rfl,rfl,?_⟩
 conv=>whnf
 refine a0m (.rd 0 (.rd 1 (.rd 2 (.rd 3 (.ef 4 (.rd 5 (.ef 6 (.nil)))))))) [0,1] mixed (by kernel_rfl) ttok ftok ?_
 conv=>whnf
 refine a0c [some 0] rfl rfl rfl rfl (b6L b hb _ h3.1) ?_;rintro r own2 ⟨rfl,rfl⟩;refine⟨_,_,rfl,rfl,?_⟩
 conv=>whnf
 refine⟨_,Weak.refl _,?_⟩
 conv=>whnf
 exact⟨[some 0],rfl,rfl,rfl,rfl⟩
def a1Z(b:List UInt8)(s:RS):Sp × RS :=
 let c:=numS b s
 let f:=numS b c.2
 let t:=numS b f.2
 (⟨c.1,f.1,t.1⟩,t.2)
theorem b6p{b:List UInt8}{s:RS}(h:s.1≤b.length):(a1Z b s).2.1≤b.length∧spOk (a1Z b s).1:=by
 have h1:=a1z h;have h2:=a1z h1.1;have h3:=a1z h2.1;refine⟨h3.1,⟨?_,?_⟩,⟨?_,?_⟩,?_,?_⟩ <;> (unfold a1Z;simp only;omega)
theorem b6M(b:List UInt8)(hb:b.length≤100000)(s:RS)(hs:s.1≤b.length):a0f Tryz.prog 81 [.c (.own 0 0)] [rO b s] (fun r own'=>r=.agg (spF (a1Z b s).1)∧own'=[rO b (a1Z b s).2]):=by
 have h1:=a1z hs;have h2:=a1z h1.1;refine a0i Tryz.func81 rfl ttok ftok rfl rfl rfl (Nat.le_of_ble_eq_true rfl) rfl ?_
 conv=>whnf
 refine a0c [some 0] rfl rfl rfl rfl (a2N b hb s hs) ?_;rintro r own2 ⟨rfl,rfl⟩;refine⟨_,_,rfl,rfl,?_⟩
 conv=>whnf
 refine a0c [some 0] rfl rfl rfl rfl (a2N b hb _ h1.1) ?_;rintro r own2 ⟨rfl,rfl⟩;refine⟨_,_,rfl,rfl,?_⟩
 conv=>whnf
 refine a0c [some 0] rfl rfl rfl rfl (a2N b hb _ h2.1) ?_;rintro r own2 ⟨rfl,rfl⟩;refine⟨_,_,rfl,rfl,?_⟩
 conv=>whnf
 refine⟨_,Weak.refl _,?_⟩
 conv=>whnf
 exact⟨[some 0],rfl,rfl,rfl,rfl⟩
end Go.Eng
namespace Go.Eng
open Go Go.RowKit Go.Proofs
abbrev b3N(l:List Sp):Option Ob:=some (.row 105 3 l.length fun k=>spF (l.getD k sp0))
def a3I(b:List UInt8):Nat→List Ru→RS→List Ru × RS
 | 0,acc,s=>(acc,s)
 | n+1,acc,s=>match s.2 with
  | true=>(acc,s)
  | false=>a3I b n (acc++[(runS b s).1]) (runS b s).2
def a1p(b:List UInt8):Nat→List Sp→RS→List Sp × RS
 | 0,acc,s=>(acc,s)
 | n+1,acc,s=>match s.2 with
  | true=>(acc,s)
  | false=>a1p b n (acc++[(a1Z b s).1]) (a1Z b s).2
def a1Q(l:List Ru):Nat:=(l.map fun r=>r.text.size).sum
theorem a7d(l:List Ru)(r:Ru):a1Q (l++[r])=a1Q l+r.text.size:=by unfold a1Q;rw[List.map_append,List.sum_append];simp
theorem a6s(b:List UInt8)(s:RS):s.1≤(numS b s).2.1∧(s.2=true→(numS b s).2=s)∧((numS b s).2.2=false→s.1+1≤(numS b s).2.1):=by
 obtain⟨at_,bad⟩:=s;unfold numS;cases bad with
 | true=>exact⟨Nat.le_refl _,fun _=>rfl,fun h=>(nomatch h)⟩
 | false =>
  simp only;cases hg:getN b (at_:Nat)with
  | none=>exact⟨Nat.le_refl _,fun h=>(nomatch h),fun h=>(nomatch h)⟩
  | some x =>
   obtain⟨v,n⟩:=x;obtain⟨i,hi,h1,h2,_⟩:=a4H hg;exact⟨by simp only;omega,fun h=>(nomatch h),fun _=>by simp only;omega⟩
theorem b8L(b:List UInt8)(s:RS):s.1+(txtS b s).1.size≤(txtS b s).2.1:=by
 obtain⟨at_,bad⟩:=s;unfold txtS;cases bad with
 | true=>exact Nat.le_refl _
 | false =>
  simp only;cases hg:getT b (at_:Nat)with
  | none=>exact Nat.le_refl _
  | some x =>
   obtain⟨t,n⟩:=x;have:=b4X hg;simp only;omega
theorem b6k(b:List UInt8)(s:RS)(h:s.2=true):(txtS b s).2.2=true:=by
 unfold txtS;rw[h];simp only;exact h
theorem b4S(b:List UInt8)(s:RS):s.1≤(idS b s).2.1∧((idS b s).2.2=false→s.1+1≤(idS b s).2.1):=by
 have h1:=a6s b s;have h2:=a6s b (numS b s).2;unfold idS;simp only;refine⟨by omega,fun h=>?_⟩
 have:=h2.2.2 h;omega
theorem b9d(b:List UInt8)(s:RS):s.1+(runS b s).1.text.size≤(runS b s).2.1∧((runS b s).2.2=false→s.1+1≤(runS b s).2.1):=by
 have h1:=b4S b s;have h2:=b4S b (idS b s).2;have h3:=b4S b (idS b (idS b s).2).2;have h4:=b8L b (idS b (idS b (idS b s).2).2).2;unfold runS;simp only;refine⟨by omega,fun h=>?_⟩
 have h5:(idS b (idS b (idS b s).2).2).2.2=false:=by
  cases hq:(idS b (idS b (idS b s).2).2).2.2 with
  | false=>rfl
  | true=>rw[b6k b _ hq]at h;cases h
 have:=h3.2 h5;omega
theorem b6q(b:List UInt8)(s:RS):s.1≤(a1Z b s).2.1∧((a1Z b s).2.2=false→s.1+1≤(a1Z b s).2.1):=by
 have h1:=a6s b s;have h2:=a6s b (numS b s).2;have h3:=a6s b (numS b (numS b s).2).2;unfold a1Z;simp only;refine⟨by omega,fun h=>?_⟩
 have:=h3.2.2 h;omega
def b3c(b:List UInt8)(acc:List Ru)(s:RS):Prop:=s.1≤b.length∧acc.length≤s.1+(match s.2 with | true=>1 | false=>0)∧a1Q acc≤s.1∧∀ r,r∈acc→ruOk r∧r.text.size≤b.length
theorem b2f{b:List UInt8}{acc:List Ru}{s:RS}(h:b3c b acc s)(hs:s.2=false)(hb:b.length≤100000):b3c b (acc++[(runS b s).1]) (runS b s).2:=by
 obtain⟨h1,h2,h3,h4⟩:=h;have g1:=b9c h1 hb;have g2:=b9d b s;rw[hs]at h2;refine⟨g1.1,?_,?_,fun r hr=>?_⟩
 ·rw[List.length_append,List.length_singleton]
  cases hq:(runS b s).2.2 with
  | true=>simp only at h2 ⊢;omega
  | false=>have:=g2.2 hq;simp only at h2 ⊢;omega
 ·rw[a7d];omega
 ·rcases List.mem_append.1 hr with hr | hr
  ·exact h4 r hr
  ·rw[List.mem_singleton.1 hr];exact⟨g1.2.1,g1.2.2⟩
def b3d(b:List UInt8)(acc:List Sp)(s:RS):Prop:=s.1≤b.length∧acc.length≤s.1+(match s.2 with | true=>1 | false=>0)∧∀ r,r∈acc→spOk r
theorem b2g{b:List UInt8}{acc:List Sp}{s:RS}(h:b3d b acc s)(hs:s.2=false):b3d b (acc++[(a1Z b s).1]) (a1Z b s).2:=by
 obtain⟨h1,h2,h4⟩:=h;have g1:=b6p h1;have g2:=b6q b s;rw[hs]at h2;refine⟨g1.1,?_,fun r hr=>?_⟩
 ·rw[List.length_append,List.length_singleton]
  cases hq:(a1Z b s).2.2 with
  | true=>simp only at h2 ⊢;omega
  | false=>have:=g2.2 hq;simp only at h2 ⊢;omega
 ·rcases List.mem_append.1 hr with hr | hr
  ·exact h4 r hr
  ·rw[List.mem_singleton.1 hr];exact g1.2
theorem a1I:∀ rs:List Ru,(a0p rs).length≤a1Q rs
 | []=>by simp[a0p]
 | r::rs=>by
  have h1:=a1I rs;have h3:=a8E r;have e:a0p (r::rs)=itsR r++a0p rs:=by unfold a0p;rw[List.flatMap_cons]
  rw[e,List.length_append,b1U];unfold a1Q at h1 ⊢;rw[List.map_cons,List.sum_cons];omega
def getS(b:List UInt8):Ba × RS :=
 let n:=numS b (0,false)
 let R:=a3I b n.1 [] n.2
 let m:=numS b R.2
 let D:=a1p b m.1 [] m.2
 (⟨R.1,D.1⟩,D.2)
def isB(b:List UInt8):Prop:=b.length≤20000∧(getS b).2=(b.length,false)∧mayB (getS b).1
def bgI(b:List UInt8)(T:List Ru × RS)(n:Nat)(st:St):Prop:=∃(acc:List Ru) (s:RS),a3I b n acc s=T∧b3c b acc s∧n<4294967296 ∧
 st=⟨78,0,[(0,bS b),(2,.c (.own 0 0)),(4,.c (.own 1 0)),(5,.c (.own 2 0)),(6,vci .u32 (n:Nat))],[some (.cells 51 [.v (.slice none 0 0),.v (.slice none 0 0)]),rO b s,some (.cells 51 [.row 3,.row 4]),b0v acc,b3N []]⟩
def bhI(b:List UInt8)(R:List Ru)(T:List Sp × RS)(n:Nat)(st:St):Prop:=∃(acc:List Sp) (s:RS),a1p b n acc s=T∧b3d b acc s∧n<4294967296 ∧
 st=⟨78,0,[(0,bS b),(2,.c (.own 0 0)),(4,.c (.own 1 0)),(5,.c (.own 2 0)),(7,vci .u32 (n:Nat))],[some (.cells 51 [.v (.slice none 0 0),.v (.slice none 0 0)]),rO b s,some (.cells 51 [.row 3,.row 4]),b0v R,b3N acc]⟩
theorem c2y(b:List UInt8)(hb:b.length≤1048576):a0f Tryz.prog 52 [bS b] [] (fun r own'=>own'=[]∧((isB b∧r=.tup [.agg (baF (getS b).1),.c (.v .nilIface)])∨(¬isB b∧r=.tup [.agg [.v (.slice none 0 0),.v (.slice none 0 0)],errM]))):=by
 refine a0e Tryz.func52 rfl ttok ftok rfl rfl rfl (Nat.le_of_ble_eq_true rfl) ?_
 conv=>whnf
 by_cases hbig:b.length≤20000
 ·rw[show decide (((b.length:Nat):Int)>20000)=false from decide_eq_false (by omega)]
  conv=>whnf
  refine a0c [some 1] rfl rfl rfl rfl (a2N b (by omega) (0,false) (Nat.zero_le _)) ?_
  rintro r own2 ⟨rfl,rfl⟩;refine⟨_,_,rfl,rfl,?_⟩;have hn1:=a1z (b:=b) (s:=(0,false)) (Nat.zero_le _)
  conv=>whnf
  have hT:∃ T,a3I b (numS b (0,false)).1 [] (numS b (0,false)).2=T:=⟨_,rfl⟩;obtain⟨T,hT⟩:=hT;refine a2y 0 (fun st=>b3c b T.1 T.2∧st=⟨78,0,[(0,bS b),(2,.c (.own 0 0)),(4,.c (.own 1 0)),(5,.c (.own 2 0))],[some (.cells 51 [.v (.slice none 0 0),.v (.slice none 0 0)]),rO b T.2,some (.cells 51 [.row 3,.row 4]),b0v T.1,b3N []]⟩) ?_ ?_
  ·refine a0B ttok ftok (bgI b T) (((a7Y 2 0 90 7 (fun k=>ruF (([]:List Ru).getD k ru0)) rfl rfl).trans (a7Y 2 1 105 3 (fun k=>spF (([]:List Sp).getD k sp0)) rfl rfl)).trans (a0b [0,2,4,5,6] [some 0,some 1,some 2,some 3,some 4] rfl rfl))
    ⟨[],(numS b (0,false)).2,hT,⟨hn1.1,by simp,by simp[a1Q],fun r hr=>by simp at hr⟩,hn1.2,rfl⟩ ?_
   rintro n st ⟨acc,⟨at_,bad⟩,hrun,hgood,hn,rfl⟩;have hgood0:=hgood;obtain⟨h1,h2,h3,h4⟩:=hgood;simp only at h1 h2;cases bad with
   | true =>
    have hT2:T=(acc,(at_,true)):=by rw[←hrun];cases n <;> rfl
    conv=>whnf
    refine a0d (fun h=>absurd h (by simp[a0J,a0O])) (fun _=>?_)
    conv=>whnf
    exact⟨rfl,_,a0b [0,2,4,5] [some 0,some 1,some 2,some 3,some 4] rfl rfl,by rw[hT2];exact hgood0,by rw[hT2];rfl⟩
   | false =>
    simp only at h2;cases n with
    | zero =>
     have hT2:T=(acc,(at_,false)):=hrun.symm
     conv=>whnf
     exact⟨rfl,_,a0b [0,2,4,5] [some 0,some 1,some 2,some 3,some 4] rfl rfl,by rw[hT2];exact hgood0,by rw[hT2];rfl⟩
    | succ n =>
     have hrun:a3I b n (acc++[(runS b (at_,false)).1]) (runS b (at_,false)).2=T:=hrun;have hgn:=b2f hgood0 rfl (by omega)
     conv=>whnf
     refine a0d (fun _=>?_) (fun h=>absurd h (by simp[a0J,a0O]))
     conv=>whnf
     refine a7x 5 [0,1,2] [3,4] [1,3] mixed (by kernel_rfl) ttok ftok ?_
     conv=>whnf
     refine a0c [some 1] rfl rfl rfl rfl (b9h b (by omega) (at_,false) h1) ?_
     rintro r own2 ⟨rfl,rfl⟩;refine⟨.agg (ruF (runS b (at_,false)).1),[none,rO b (runS b (at_,false)).2,none,b0v acc,none],rfl,rfl,?_⟩;generalize runS b (at_,false)=q at hrun hgn
     conv=>whnf
     refine⟨fun _=>ruF q.1,b1C _,?_⟩
     conv=>whnf
     refine⟨rfl,?_⟩
     conv=>whnf
     refine⟨⟨by omega,by simp only[show ti90.bytes=40 from rfl];omega⟩,?_⟩
     conv=>whnf
     refine app1 (enc:=ruF) (d:=ru0) q.1 (fun k hk=>rfl) rfl ?_
     conv=>whnf
     rw[show IntKind.u32.wrap (((n+1:Nat):Int)-1)=(n:Int)from by rw[a4W];omega]
     exact⟨n,_,by omega,a0b [0,2,4,5,6] [some 0,some 1,some 2,some 6,some 4] rfl rfl,acc++[q.1],q.2,hrun,hgn,by omega,rfl⟩
  rintro st ⟨hgood,rfl⟩;have hgs:getS b=(⟨T.1,(a1p b (numS b T.2).1 [] (numS b T.2).2).1⟩,(a1p b (numS b T.2).1 [] (numS b T.2).2).2):=by unfold getS;simp only[hT]
  obtain⟨R,s1⟩:=T;simp only at hgood hgs ⊢;have hn3:=a1z (b:=b) (s:=s1) hgood.1
  conv=>whnf
  refine a0c [some 1] rfl rfl rfl rfl (a2N b (by omega) s1 hgood.1) ?_
  rintro r own2 ⟨rfl,rfl⟩;refine⟨_,_,rfl,rfl,?_⟩
  conv=>whnf
  obtain⟨T2,hT2⟩:∃ T2,a1p b (numS b s1).1 [] (numS b s1).2=T2:=⟨_,rfl⟩;rw[hT2]at hgs;refine a2y 2 (fun st=>b3d b T2.1 T2.2∧st=⟨78,0,[(0,bS b),(2,.c (.own 0 0)),(4,.c (.own 1 0)),(5,.c (.own 2 0))],[some (.cells 51 [.v (.slice none 0 0),.v (.slice none 0 0)]),rO b T2.2,some (.cells 51 [.row 3,.row 4]),b0v R,b3N T2.1]⟩) ?_ ?_
  ·refine a0B ttok ftok (bhI b R T2) (a0b [0,2,4,5,7] [some 0,some 1,some 2,some 3,some 4] rfl rfl)
    ⟨[],(numS b s1).2,hT2,⟨hn3.1,by simp,fun r hr=>by simp at hr⟩,hn3.2,rfl⟩ ?_
   rintro n st ⟨acc,⟨at_,bad⟩,hrun,hgood2,hn,rfl⟩;have hgood0:=hgood2;obtain⟨h1,h2,h4⟩:=hgood2;simp only at h1 h2;cases bad with
   | true =>
    have hT3:T2=(acc,(at_,true)):=by rw[←hrun];cases n <;> rfl
    conv=>whnf
    refine a0d (fun h=>absurd h (by simp[a0J,a0O])) (fun _=>?_)
    conv=>whnf
    exact⟨rfl,_,a0b [0,2,4,5] [some 0,some 1,some 2,some 3,some 4] rfl rfl,by rw[hT3];exact hgood0,by rw[hT3];rfl⟩
   | false =>
    simp only at h2;cases n with
    | zero =>
     have hT3:T2=(acc,(at_,false)):=hrun.symm
     conv=>whnf
     exact⟨rfl,_,a0b [0,2,4,5] [some 0,some 1,some 2,some 3,some 4] rfl rfl,by rw[hT3];exact hgood0,by rw[hT3];rfl⟩
    | succ n =>
     have hrun:a1p b n (acc++[(a1Z b (at_,false)).1]) (a1Z b (at_,false)).2=T2:=hrun;have hgn:=b2g hgood0 rfl
     conv=>whnf
     refine a0d (fun _=>?_) (fun h=>absurd h (by simp[a0J,a0O]))
     conv=>whnf
     refine a7x 5 [0,1,2] [3,4] [1,4] mixed (by kernel_rfl) ttok ftok ?_
     conv=>whnf
     refine a0c [some 1] rfl rfl rfl rfl (b6M b (by omega) (at_,false) h1) ?_
     rintro r own2 ⟨rfl,rfl⟩;refine⟨.agg (spF (a1Z b (at_,false)).1),[none,rO b (a1Z b (at_,false)).2,none,none,b3N acc],rfl,rfl,?_⟩;generalize a1Z b (at_,false)=q at hrun hgn
     conv=>whnf
     refine⟨fun _=>spF q.1,b1C _,?_⟩
     conv=>whnf
     refine⟨rfl,?_⟩
     conv=>whnf
     refine⟨⟨by omega,by simp only[show c1n.bytes=12 from rfl];omega⟩,?_⟩
     conv=>whnf
     refine app1 (enc:=spF) (d:=sp0) q.1 (fun k hk=>rfl) rfl ?_
     conv=>whnf
     rw[show IntKind.u32.wrap (((n+1:Nat):Int)-1)=(n:Int)from by rw[a4W];omega]
     exact⟨n,_,by omega,a0b [0,2,4,5,7] [some 0,some 1,some 2,some 3,some 6] rfl rfl,acc++[q.1],q.2,hrun,hgn,by omega,rfl⟩
  rintro st ⟨hgood2,rfl⟩;obtain⟨D,at_,bad⟩:=T2;simp only at hgood2 hgs ⊢;have his:isB b↔(bad=false∧at_=b.length∧mayB ⟨R,D⟩):=by
   unfold isB;rw[hgs];simp only[Prod.mk.injEq];exact⟨fun h=>⟨h.2.1.2,h.2.1.1,h.2.2⟩,fun h=>⟨hbig,⟨h.2.1,h.1⟩,h.2.2⟩⟩
  rw[hgs];cases bad with
  | true =>
   conv=>whnf
   exact .inr ⟨fun e=>(nomatch (his.1 e).1),rfl⟩
  | false =>
   have hRl:R.length≤20001:=by
    have:=hgood.2.1;have:=hgood.1;cases hq:s1.2 with
    | true=>simp only[hq]at *;omega
    | false=>simp only[hq]at *;omega
   have hDl:D.length≤20000:=by
    have:=hgood2.2.1;have:=hgood2.1;simp only at *;omega
   have hbok:baOk ⟨R,D⟩:=⟨fun r hr=>(hgood.2.2.2 r hr).1,by simp only;omega,by simp only;omega,by
    have h1:=a1I R;have h2:=hgood.2.2.1;have h3:=hgood.1;simp only
    omega⟩
   conv=>whnf
   by_cases hat:at_=b.length
   ·rw[show((((at_,false):Nat × Bool).1:Int) != (b.length:Int))=false from by rw[hat];exact bne_self_eq_false _]
    conv=>whnf
    refine⟨fun _ _=>rfl,?_⟩
    conv=>whnf
    refine⟨fun _ _=>rfl,?_⟩
    conv=>whnf
    refine a0a (b8h ⟨R,D⟩ hbok) rfl ?_;rintro _ ⟨c,hc,rfl⟩;cases c with
    | false =>
     conv=>whnf
     exact .inr ⟨fun e=>absurd (hc.2 (his.1 e).2.2) (by decide),rfl⟩
    | true =>
     conv=>whnf
     exact .inl ⟨his.2 ⟨rfl,hat,hc.1 rfl⟩,rfl⟩
   ·rw[show((((at_,false):Nat × Bool).1:Int) != (b.length:Int))=true from bne_iff_ne.2 (fun e=>hat (by simp only at e;omega))]
    conv=>whnf
    exact .inr ⟨fun e=>hat (his.1 e).2.1,rfl⟩
 ·rw[show decide (((b.length:Nat):Int)>20000)=true from decide_eq_true (by omega)]
  conv=>whnf
  exact .inr ⟨fun e=>hbig e.1,rfl⟩
end Go.Eng
