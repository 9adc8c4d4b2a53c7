/- A part of the proof. -/
import Derived.Test.YteglopjljejjkabGreatDoorGBVecTBBat6
set_option linter.unusedVariables false
set_option linter.unusedSimpArgs false
set_option maxRecDepth 100000
namespace Go.Eng
open Go Go.RowKit Go.Proofs
noncomputable def hsB(g:List Sp)(a:I2):Bool:=@decide (hasS g a.1 a.2) (Classical.propDecidable _)
theorem a3X{g:List Sp}{a:I2}:hsB g a=true↔hasS g a.1 a.2:=@decide_eq_true_iff _ (Classical.propDecidable _)
theorem c2j{g:List Sp}{a:I2}{b:Bool}(h:b=true↔hasS g a.1 a.2):b=hsB g a:=by rw[Bool.eq_iff_iff,h,a3X]
structure VH(v:CV)(hs:HS):Prop where
 may:mayV v
 cov:∀ a,hasI hs a↔0≤a.2∧a.2<nxt v a.1
theorem a9q{a:I2}:¬hasI [] a:=fun⟨p,hp,_⟩=>nomatch hp
theorem VH.zero:VH [] []:=by
 refine⟨⟨List.Pairwise.nil,fun x hx=>nomatch hx⟩,fun a=>⟨fun h=>(a9q h).elim,fun h=>?_⟩⟩;have e:nxt [] a.1=0:=rfl;rw[e]at h;omega
structure itG(x:It):Prop where
 ok:itOk x
 nz:0<x.id.1
 hi:x.id.2≤4294967294
 ch:vldR x.ch=true
theorem itG.lo{x:It}(h:itG x):0≤x.id.2:=h.ok.1.2.1
theorem itG.cl{x:It}(h:itG x):0<x.id.1∧0≤x.id.2∧x.id.2≤4294967294:=⟨h.nz,h.lo,h.hi⟩
theorem VH.has{v:CV}{hs:HS}(V:VH v hs){a:I2}(ha:u32P a)(h:hasR v a=true):hasI hs a∨a.1=0:=by
 unfold hasR at h;rw[Bool.or_eq_true,beq_iff_eq,decide_eq_true_iff]at h;rcases h with h | h
 ·exact .inr h
 ·exact .inl ((V.cov a).2 ⟨ha.2.1,h⟩)
theorem VH.okA{v:CV}{hs:HS}(V:VH v hs){x:It}(g:itG x)(h:rdyR v x=true):okA hs x:=by
 have e:=a9i h;unfold rdyR at h;rw[Bool.and_eq_true,Bool.and_eq_true]at h;refine⟨fun hh=>?_,by have:=g.nz;omega,V.has g.ok.2.1 h.2.1,V.has g.ok.2.2 h.2.2,g.ch⟩
 have:=((V.cov x.id).1 hh).2;omega
theorem a1S{x:It}{h:Hg}{hs:HS}{a:I2}:hasI ((x,h)::hs) a↔x.id=a∨hasI hs a:=by
 constructor
 ·rintro⟨p,hp,e⟩
  rcases List.mem_cons.1 hp with rfl | hp
  ·exact .inl e
  ·exact .inr ⟨p,hp,e⟩
 ·rintro(e|⟨p,hp,e⟩)
  ·exact⟨_,List.mem_cons_self ..,e⟩
  ·exact⟨p,List.mem_cons_of_mem _ hp,e⟩
def adH(hs:HS)(x:It):HS:=(x,hgOf hs x)::hs
def adsH(hs:HS)(l:List It):HS:=l.foldl adH hs
theorem a4U(hs:HS)(l:List It){j:Nat}(hj:j<l.length):adsH hs (l.take (j+1))=adH (adsH hs (l.take j)) (l.getD j it0):=by
 have e:l.take (j+1)=l.take j++[l.getD j it0]:=by
  rw[List.getD_eq_getElem?_getD,List.getElem?_eq_getElem hj];exact(List.take_append_getElem hj).symm
 unfold adsH;rw[e,List.foldl_append];rfl
theorem c4n:∀(l:List It) (hs:HS) (p:It × Hg),p∈adsH hs l→p∈hs∨p.1∈l
 | [],hs,p,h=>.inl h
 | x::l,hs,p,h=>by
  rcases c4n l (adH hs x) p h with h | h
  ·rcases List.mem_cons.1 h with rfl | h
   ·exact .inr (List.mem_cons_self ..)
   ·exact .inl h
  ·exact .inr (List.mem_cons_of_mem _ h)
theorem b8i:∀(l:List It) (hs:HS),bldH hs→bldH (adsH hs l)
 | [],hs,h=>h
 | x::l,hs,h=>b8i l (adH hs x) ⟨h,rfl⟩
theorem VH.put{v:CV}{hs:HS}(V:VH v hs){x:It}(g:0<x.id.1∧0≤x.id.2∧x.id.2≤4294967294)(e:x.id.2=nxt v x.id.1):VH (putR v x) (adH hs x):=by
 refine⟨a5N V.may g,fun a=>?_⟩;have hn:=b0E V.may (x:=x) g.1 a.1;unfold adH;rw[a1S,hn,V.cov a];obtain⟨a1,a2⟩:=a;show x.id=(a1,a2)∨(0≤a2∧a2<nxt v a1)↔0≤a2∧a2<if a1=x.id.1 then x.id.2+1 else nxt v a1
 by_cases h:a1=x.id.1
 ·subst h
  rw[if_pos rfl];constructor
  ·rintro(h | h)
   ·have:x.id.2=a2:=by rw[h]
    omega
   ·omega
  ·rintro⟨h1,h2⟩
   by_cases h3:a2=x.id.2
   ·exact .inl (by rw[h3])
   ·exact .inr ⟨h1,by omega⟩
 ·rw[if_neg h]
  constructor
  ·rintro(h1 | h1)
   ·exact absurd (by rw[h1]) h
   ·exact h1
  ·exact .inr
theorem b0f:∀(l:List It) (v w:CV) (hs:HS),VH v hs→Tk v l w→(∀ x,x∈l→itG x)→VH w (adsH hs l)∧∀ j,j<l.length→okA (adsH hs (l.take j)) (l.getD j it0)
 | [],v,w,hs,V,h,_=>by
  have h:w=v:=h;subst h;exact⟨V,fun j hj=>by cases hj⟩
 | x::l,v,w,hs,V,h,hg=>by
  have gx:=hg x (List.mem_cons_self ..);obtain⟨h1,h2⟩:=b0f l (putR v x) w (adH hs x) (V.put gx.cl (a9i h.1)) h.2 (fun y hy=>hg y (List.mem_cons_of_mem _ hy));refine⟨h1,fun j hj=>?_⟩;cases j with
  | zero=>exact V.okA gx h.1
  | succ j=>exact h2 j (by simpa using hj)
def insL(c n:Int)(left right:I2):List Int→List It
 | []=>[]
 | ch::r=>⟨(c,n),left,right,ch⟩::insL c (n+1) (c,n) right r
theorem b1Y(c:Int)(right:I2):∀(l:List Int) (n:Int) (left:I2),(insL c n left right l).length=l.length
 | [],n,left=>rfl
 | ch::r,n,left=>by
  show(insL c (n+1) (c,n) right r).length+1=r.length+1;rw[b1Y c right r (n+1) (c,n)]
def b4M(c n:Int)(left:I2):Nat→I2
 | 0=>left
 | j+1=>(c,n+j)
theorem b1Z(c:Int)(right:I2):∀(l:List Int) (n:Int) (left:I2) (j:Nat),j<l.length→(insL c n left right l).getD j it0=⟨(c,n+j),b4M c n left j,right,l.getD j 0⟩
 | [],n,left,j,h=>by cases h
 | ch::r,n,left,0,h=>by
  show(⟨(c,n),left,right,ch⟩:It)=⟨(c,n+(0:Nat)),left,right,ch⟩;rw[show n+((0:Nat):Int)=n by omega]
 | ch::r,n,left,j+1,h=>by
  show(insL c (n+1) (c,n) right r).getD j it0=⟨(c,n+((j+1:Nat):Int)),(c,n+j),right,r.getD j 0⟩;rw[b1Z c right r (n+1) (c,n) j (by simpa using h)]
  have e1:n+1+(j:Int)=n+((j+1:Nat):Int):=by omega
  have e2:b4M c (n+1) (c,n) j=(c,n+j):=by
   cases j with
   | zero=>show(c,n)=(c,n+((0:Nat):Int));rw[show n+((0:Nat):Int)=n by omega]
   | succ j=>show(c,n+1+(j:Int))=(c,n+((j+1:Nat):Int));rw[show n+1+(j:Int)=n+((j+1:Nat):Int) by omega]
  rw[e1,e2]
theorem b8V{v:CV}(hv:mayV v){c n m:Int}(hc:0<c)(hn:0≤n)(hm:0≤m):setR (setR v c n) c m=setR v c m:=by
 have h1:=a4o hv (c:=c) (n:=n) (by omega) hn
 refine b0G (a4o h1 (by omega) hm) (a4o hv (by omega) hm) (fun d=>?_)
 rw[a5i h1 (by omega),a5i hv (by omega),a5i hv (by omega)]
 split <;> rfl
theorem a8m(c:Int)(right:I2)(hc:0<c):∀(l:List Int) (n:Int) (left:I2) (v:CV) (hs:HS),VH v hs→nxt v c=n→(hasI hs left∨left.1=0)→(hasI hs right∨right.1=0)→(∀ ch,ch∈l→vldR ch=true)→n+l.length≤4294967295 →
  VH (setR v c (n+l.length)) (adsH hs (insL c n left right l))∧∀ j,j<l.length→okA (adsH hs ((insL c n left right l).take j)) ((insL c n left right l).getD j it0)
 | [],n,left,v,hs,V,hn,_,_,_,_=>by
  subst hn;refine⟨?_,fun j hj=>by cases hj⟩
  rw[show nxt v c+(([]:List Int).length:Int)=nxt v c by simp,b3V V.may (by omega) (by omega)]
  exact V
 | ch::r,n,left,v,hs,V,hn,hl,hr,hch,hle=>by
  have h0:=b0F V.may c;have hlen:((ch::r).length:Int)=r.length+1:=by simp
  rw[hlen]at hle;have V2:VH (setR v c (n+1)) (adH hs ⟨(c,n),left,right,ch⟩):=V.put (x:=⟨(c,n),left,right,ch⟩) ⟨hc,by show 0≤n;omega,by show n≤_;omega⟩ hn.symm
  have hh:∀ a,hasI hs a→hasI (adH hs ⟨(c,n),left,right,ch⟩) a:=fun a h=>a1S.2 (.inr h);have hn2:nxt (setR v c (n+1)) c=n+1:=by rw[a5i V.may (by omega),if_pos rfl]
  obtain⟨h1,h2⟩:=a8m c right hc r (n+1) (c,n) _ _ V2 hn2 (.inl (a1S.2 (.inl rfl))) (hr.imp (hh _) id) (fun x hx=>hch x (List.mem_cons_of_mem _ hx)) (by omega)
  rw[b8V V.may hc (by omega) (by omega)]at h1
  refine⟨?_,fun j hj=>?_⟩
  ·rw[hlen,show n+((r.length:Int)+1)=n+1+r.length by omega]
   exact h1
  ·cases j with
   | zero =>
    refine⟨fun hh=>?_,by show c≠0;omega,hl,hr,hch ch (List.mem_cons_self ..)⟩
    have:=((V.cov (c,n)).1 hh).2
    have:n<nxt v c:=this
    omega
   | succ j=>exact h2 j (by simpa using hj)
theorem b8q:∀(l:List It) (v w:CV),Tk v l w→w.length≤v.length+l.length
 | [],v,w,h=>by
  have h:w=v:=h;rw[h];simp
 | x::l,v,w,h=>by
  have h1:=b8q l _ _ h.2;have h2:=b1q v x.id.1 (x.id.2+1);have h3:(putR v x).length≤v.length+1:=h2;simp only[List.length_cons];omega
structure GI(hs:HS)(G:I2→Bool)(gs:List I2):Prop where
 sub:∀ a,a∈gs→hasI hs a
 iff:∀ a,hasI hs a→(a∈gs↔G a=true)
theorem GI.zero(G:I2→Bool):GI [] G []:=⟨fun a h=>(List.not_mem_nil h).elim,fun a h=>(a9q h).elim⟩
theorem LV.congr{hs:HS}{G G2:I2→Bool}{cs:Ck}{l:List Nd}{N:Nat}(V:LV hs G cs l N)(h:∀ a,hasI hs a→G a=G2 a):LV hs G2 cs l N:=by
 obtain⟨o,hO,hf⟩:=V.ord;refine⟨V.L,⟨o,hO,?_⟩,V.len,V.ck⟩;rw[hf];exact List.map_congr_left (fun a ha=>by unfold enOf;rw[h a (hO.has.1 ha)])
theorem LV.zero(G:I2→Bool):LV [] G [] [] 0:=⟨⟨trivial,List.Perm.refl _,List.Pairwise.nil,by decide⟩,⟨[],⟨List.Perm.refl _,List.Pairwise.nil⟩,rfl⟩,Nat.le_refl _,Nat.le_refl _⟩
theorem b3y{G:I2→Bool}{a:I2}(b:I2):updG G a (G a) b=G b:=by
 unfold updG;split
 ·rename_i e;rw[e]
 ·rfl
theorem b6V{hs:HS}(ho:okH hs){p q:It × Hg}(hp:p∈hs)(hq:q∈hs)(e:p.1.id=q.1.id):p=q:=by
 induction hs with
 | nil=>cases hp
 | cons z r ih =>
  obtain⟨y,g⟩:=z;rcases List.mem_cons.1 hp with h1 | h1
  ·rcases List.mem_cons.1 hq with h2 | h2
   ·rw[h1,h2]
   ·exact absurd (show q.1.id=y.id by rw[←e,h1]) (ho.2.2.1 q h2)
  ·rcases List.mem_cons.1 hq with h2 | h2
   ·exact absurd (show p.1.id=y.id by rw[e,h2]) (ho.2.2.1 p h1)
   ·exact ih ho.1 h1 h2
def itOf(hs:HS)(a:I2):Option It:=(itsH hs).find? (fun x=>x.id==a)
theorem a2z{hs:HS}{a:I2}{x:It}(h:itOf hs a=some x):x.id=a∧∃ g,(x,g)∈hs:=by
 unfold itOf at h;have h1:=List.find?_some h;have h2:=List.mem_of_find?_eq_some h;unfold itsH at h2;rw[List.mem_reverse,List.mem_map]at h2;obtain⟨⟨y,g⟩,hm,rfl⟩:=h2;exact⟨by simpa using h1,g,hm⟩
theorem a9w{hs:HS}{a:I2}(h:itOf hs a=none):¬hasI hs a:=by
 rintro⟨p,hp,e⟩;unfold itOf at h;rw[List.find?_eq_none]at h;have:=h p.1 (by unfold itsH;rw[List.mem_reverse,List.mem_map];exact⟨p,hp,rfl⟩)
 rw[e]at this;simp at this
theorem b9I{hs:HS}(ho:okH hs){x:It}{g:Hg}(hm:(x,g)∈hs):itOf hs x.id=some x:=by
 cases h:itOf hs x.id with
 | none=>exact absurd ⟨_,hm,rfl⟩ (a9w h)
 | some y =>
  obtain⟨h1,g2,h2⟩:=a2z h;have:=b6V ho h2 hm h1;cases this;rfl
deriving instance DecidableEq for It
def knO(hs:HS)(w:List It)(a:I2):Option It:=match itOf hs a with
 | some x=>some x
 | none=>w.find? (fun x=>x.id==a)
theorem b1R{hs:HS}{w:List It}{a:I2}(h:knO hs w a=none):¬hasI hs a∧∀ x,x∈w→x.id≠a:=by
 unfold knO at h;split at h
 ·cases h
 ·rename_i h1
  refine⟨a9w h1,fun x hx e=>?_⟩;rw[List.find?_eq_none]at h;have:=h x hx;rw[e]at this;simp at this
def freG(kn:I2→Option It)(c:Int):List It→List It→Option (List It)
 | [],acc=>some acc
 | i::r,acc=>match kn i.id with
  | some w=>if w=i then freG kn c r acc else none
  | none=>if i.id.1=c then none else freG kn c r (acc++[i])
theorem a8t(kn:I2→Option It)(c:Int):∀(l acc out:List It),freG kn c l acc=some out→∃ m,out=acc++m∧m.Sublist l∧∀ x,x∈m→kn x.id=none
 | [],acc,out,h=>by
  cases h;exact⟨[],by simp,List.Sublist.refl _,fun x hx=>by cases hx⟩
 | i::r,acc,out,h=>by
  unfold freG at h;split at h
  ·split at h
   ·obtain⟨m,h1,h2,h3⟩:=a8t kn c r acc out h
    exact⟨m,h1,h2.cons _,h3⟩
   ·cases h
  ·rename_i hk
   split at h
   ·cases h
   ·obtain⟨m,h1,h2,h3⟩:=a8t kn c r (acc++[i]) out h
    refine⟨i::m,by rw[h1,List.append_assoc];rfl,h2.cons_cons _,fun x hx=>?_⟩
    rcases List.mem_cons.1 hx with rfl | hx
    ·exact hk
    ·exact h3 x hx
theorem b9e{l:List It}(h:∀ j,j+1<l.length→a2V (l.getD j it0).id (l.getD (j+1) it0).id):l.Pairwise fun x y=>ltI x.id y.id:=by
 have key:∀ d i,i+d+1<l.length→ltI (l.getD i it0).id (l.getD (i+d+1) it0).id:=by
  intro d
  induction d with
  | zero=>intro i hi;exact h i hi
  | succ d ih =>
   intro i hi;have h1:=ih i (by omega)
   have h2:ltI _ _:=h (i+d+1) (by omega)
   rw[show i+(d+1)+1=i+d+1+1 by omega]
   revert h1 h2
   generalize (l.getD i it0).id=a;generalize (l.getD (i+d+1) it0).id=b;generalize (l.getD (i+d+1+1) it0).id=c;unfold ltI;omega
 rw[List.pairwise_iff_getElem];intro i j hi hj hij;have:=key (j-i-1) i (by omega)
 rw[show i+(j-i-1)+1=j by omega]at this
 rw[List.getD_eq_getElem?_getD,List.getD_eq_getElem?_getD,List.getElem?_eq_getElem hi,List.getElem?_eq_getElem hj]at this;exact this
theorem b4z{a b:I2}(h:ltI a b):a≠b:=fun e=>by subst e;unfold ltI at h;omega
theorem c4B{l m:List It}(hp:m.Perm l)(h:l.Pairwise fun x y=>x.id≠y.id):m.Pairwise fun x y=>x.id≠y.id:=hp.symm.pairwise h (fun{a b} h e=>h e.symm)
theorem b7N{v:Int}(h:Utf8.valid v=true):vldR v=true:=by
 obtain⟨h1,h2,h3⟩:=a4j h;unfold vldR;rw[Bool.or_eq_true,Bool.and_eq_true,Bool.and_eq_true,decide_eq_true_iff,decide_eq_true_iff,decide_eq_true_iff,decide_eq_true_iff];omega
theorem a6O{x:Ba}(h:mayB x)(hok:∀ r,r∈x.runs→ruOk r):∀ i,i∈a0p x.runs→itG i:=by
 intro i hi;have hio:=b1X hok i hi;unfold a0p at hi;rw[List.mem_flatMap]at hi;obtain⟨r,hr,hi⟩:=hi;have hm:=h.1 r hr;have ho:=hok r hr;unfold itsR at hi;rw[List.mem_map]at hi;obtain⟨j,hj,rfl⟩:=hi;rw[List.mem_range]at hj;have hc:=a4E hm;obtain⟨l,hl⟩:=Option.isSome_iff_exists.1 hc;have hch:chOf r=l:=by unfold chOf;rw[hl];rfl
 rw[a9v hl,decide_eq_true_iff]at hm;obtain⟨m1,m2,m3⟩:=hm;rw[hch]at hj;have hv:=(a3r hl).2;obtain⟨⟨o1,o2⟩,o3,o4⟩:=ho.1;unfold a8i at m3;have hck:clk r.id.2 j=r.id.2+j:=by unfold clk;exact Int.emod_eq_of_lt (by omega) (by omega)
 refine⟨hio,by show 0<r.id.1;omega,by show clk r.id.2 j≤_;omega,?_⟩
 show vldR ((chOf r).getD j 0)=true;rw[hch];exact b7N (hv _ (a1a hj))
theorem a6N{x:Ba}(h:mayB x):risI (a0p x.runs):=b9e h.2.2.1
theorem b0Q{hs:HS}{w l out:List It}{c:Int}(hw:w.Pairwise fun x y=>x.id≠y.id)(hl:risI l)(h:freG (knO hs w) c l []=some out):(w++out).Pairwise (fun x y=>x.id≠y.id)∧out.Sublist l:=by
 obtain⟨m,h1,h2,h3⟩:=a8t _ c l [] out h;rw[List.nil_append]at h1;subst h1;refine⟨List.pairwise_append.2 ⟨hw,(List.Pairwise.sublist h2 hl).imp (fun h=>b4z h),fun x hx y hy=>?_⟩,h2⟩;exact(b1R (h3 y hy)).2 x hx
theorem b3U(l:List Sp):(setL l).length≤l.length:=by
 have key:∀(l:List Sp) (o:List Sp),(l.foldl (fun o s=>if valS s then layL o s else o) o).length≤o.length+l.length:=by
  intro l
  induction l with
  | nil=>intro o;simp
  | cons s l ih =>
   intro o;rw[List.foldl_cons];have h1:=ih (if valS s then layL o s else o)
   have h2:(if valS s then layL o s else o).length≤o.length+1:=by
    split
    ·have key2:∀(l a b:List Sp) (t:Sp),(layG l (a,b,t)).1.length+(layG l (a,b,t)).2.1.length≤a.length+b.length+l.length:=by
      intro l
      induction l with
      | nil=>intro a b t;simp[layG]
      | cons x l ih =>
       intro a b t;unfold layG;split
       ·have:=ih (a++[x]) b t
        simp only[List.length_append,List.length_cons,List.length_nil]at this ⊢;omega
       ·split
        ·have:=ih a (b++[x]) t
         simp only[List.length_append,List.length_cons,List.length_nil]at this ⊢;omega
        ·have:=ih a b ⟨t.cl,min t.fr x.fr,max t.tz x.tz⟩
         simp only[List.length_cons];omega
     have:=key2 o [] [] s;unfold layL;simp only[List.length_append,List.length_cons,List.length_nil]at this ⊢;omega
    ·omega
   simp only[List.length_cons];omega
 have:=key l [];rw[List.length_nil,Nat.zero_add]at this;exact this
theorem a8o(g d:List Sp)(hg:a1c g)(hd:a1c d)(a:I2):hsB (setL (g++d)) a=(hsB g a||hsB d a):=by
 rw[Bool.eq_iff_iff,Bool.or_eq_true,a3X,a3X,a3X,(a0U _).2,a1o,a1X hg,a1X hd,a0K]
end Go.Eng
set_option maxHeartbeats 4000000
namespace Go.Eng
open Go Go.RowKit Go.Proofs
abbrev spR2(l:List Sp):Nat→List IC:=fun k=>spF (l.getD k sp0)
end Go.Eng
namespace Go.Eng
open Go Go.RowKit Go.Proofs
end Go.Eng
namespace Go.Eng
open Go Go.RowKit Go.Proofs
theorem a3l(i j:Nat)(sz:Nat)(f:Nat→List IC){st:St}{t:TypeId}{cs:List IC}(hi:st.own[i]?=some (some (.cells t cs)))(hj:cs[j]?=some (.v (.slice none 0 0))) :
  Weak st ⟨st.n,st.k,st.env,st.own.set i (some (.cells t (cs.set j (.sl sz 0 f))))⟩:=by
 refine⟨fun may w0 h0 a w hs=>?_⟩;obtain⟨⟨L,F,h,hm,ha,hsub,hnew⟩,hk⟩:=hs;refine⟨⟨L,F,h,a3V hm hi rfl (fun _ _=>rfl) ?_,⟨ha.size,ha.env,ha.defers⟩,hsub,hnew⟩,hk⟩;obtain⟨b,vs,h1,h2,h3,h4,h5⟩:=hm.obs i _ hi;refine⟨b,vs,h1,h2,h3,by simpa using h4,fun q c u hc hu=>?_⟩
 rw[List.getElem?_set]at hc;split at hc
 ·rename_i e
  subst e;split at hc
  ·cases hc
   have:=a0u (h5 j _ u hj hu);rw[this];exact .sl sz 0 f none 0 ⟨0,0,none⟩ (fun _ _=>undef) (Nat.le_refl _) (by decide) (fun h=>by omega) (fun k hk=>by omega) (fun k hk=>by omega) (fun k hk=>by omega) (fun k hk=>by omega)
  ·cases hc
 ·exact h5 q c u hc hu
abbrev fltA(op:ByteArray)(c:Int):AV:=.c (.ifc 129 (.fp [.v (.string op),vi c]))
theorem as_c(e old:Int):a0f Tryz.prog 54 [.c (.v (.iface 69 (.int .i64 e))),.c (.ifc 128 (.own 0 0))] [some (.cells 69 [.v (.int .i64 old)])] (fun r own'=>own'=[some (.cells 69 [.v (.int .i64 e)])]∧r=.c (.v (.bool true))):=by
 refine b7G rfl rfl (fun m w b hg hm hb=>?_);have hg0:=c3W hg w hm;have hbl:b<w.heap.size:=(Array.getElem?_eq_some_iff.1 hb).1;refine(c2F e ⟨b,0,none⟩ (.int .i64 old) w hg0 (by simp[World.cell?,hb]) (by simp[World.frozen?,hb])).mono ?_
 rintro ev w' ⟨rfl,rfl⟩;have key:∀ o1 o2 o3 o4,Below w.heap.size w ((((w.alloc o1).alloc o2).alloc o3).alloc o4):=fun o1 o2 o3 o4=>by
  have b1:=(Below.refl w.heap.size w).alloc (Nat.le_refl _) o1;have b2:=b1.alloc b1.size o2;have b3:=b2.alloc b2.size o3;exact b3.alloc b3.size o4
 exact⟨rfl,_,key _ _ _ _,rfl⟩
theorem b5o(op:ByteArray)(c:Int):a0f Tryz.prog 25 [vcs op,erC c] [] (fun r own'=>own'=[]∧r=fltA op c):=by
 refine a0e Tryz.func25 rfl ttok ftok rfl rfl rfl (Nat.le_of_ble_eq_true rfl) ?_
 conv=>whnf
 refine a0c [some 0] rfl rfl rfl rfl (as_c c 0) ?_;rintro r own2 ⟨rfl,rfl⟩;refine⟨_,_,rfl,rfl,?_⟩
 conv=>whnf
 all_goals first | rfl | exact⟨rfl,rfl⟩
abbrev b0u:ByteArray:=⟨#[73,110,115,101,114,116]⟩
abbrev c4i:ByteArray:=⟨#[68,101,108,101,116,101]⟩
abbrev a1N:ByteArray:=⟨#[65,112,112,108,121]⟩
abbrev c4F:ByteArray:=⟨#[67,108,111,115,101]⟩
abbrev stF(cs:Ck)(l:List Nd)(v:CV)(w:List It)(g:List Sp):List IC:=[.sl 2 cs.length (chR cs),vi (sumL cs:Int),vi (shnC cs:Int),.sl 10 l.length (ndR l),.sl 2 v.length (ckR v),.sl 7 w.length (itR w),.sl 3 g.length (spR2 g)]
abbrev dcF(cl lim:Int)(cs:Ck)(l:List Nd)(v:CV)(w:List It)(g:List Sp)(ver:Int)(cd:Bool):List IC:=[vu cl,vu lim,.sl 2 cs.length (chR cs),vi (sumL cs:Int),vi (shnC cs:Int),.sl 10 l.length (ndR l),.sl 2 v.length (ckR v),.sl 7 w.length (itR w),.sl 3 g.length (spR2 g),vi ver,.v (.bool cd)]
theorem c4m:a0f Tryz.prog 27 [.c (.v .nilIface)] [] (fun r own'=>own'=[]∧r=.tup [vcs ⟨#[]⟩,vci .i64 0]):=by
 refine a0e Tryz.func27 rfl ttok ftok rfl rfl rfl (Nat.le_of_ble_eq_true rfl) ?_
 conv=>whnf
 all_goals first | rfl | exact⟨rfl,rfl⟩
theorem c4k(op:ByteArray)(c:Int):a0f Tryz.prog 27 [fltA op c] [] (fun r own'=>own'=[]∧r=.tup [vcs op,vci .i64 c]):=by
 refine a0e Tryz.func27 rfl ttok ftok rfl rfl rfl (Nat.le_of_ble_eq_true rfl) ?_
 conv=>whnf
 refine a0w mixed (by kernel_rfl) ttok ftok ?_
 conv=>whnf
 all_goals first | rfl | exact⟨rfl,rfl⟩
theorem b1H(cl lim:Int)(h:cl≠0)(h2:lim≤4294967294):a0f Tryz.prog 7 [vci .u32 cl,vci .u32 lim] [] (fun r own'=>own'=[some (.cells 79 (dcF cl lim [] [] [] [] [] 0 false))]∧r=.tup [.c (.own 0 0),.c (.v .nilIface)]):=by
 refine a0i Tryz.func7 rfl ttok ftok rfl rfl rfl (Nat.le_of_ble_eq_true rfl) rfl ?_
 conv=>whnf
 rw[beq_eq_false_iff_ne.2 h,decide_eq_false (by omega:¬lim>4294967294)]
 conv=>whnf
 refine⟨_,(a3l 0 2 2 (chR []) rfl rfl).trans ((a3l 0 5 10 (ndR []) rfl rfl).trans ((a3l 0 6 2 (ckR []) rfl rfl).trans ((a3l 0 7 7 (itR []) rfl rfl).trans (a3l 0 8 3 (spR2 []) rfl rfl)))),?_⟩
 conv=>whnf
 exact⟨[some 0],rfl,rfl,rfl,rfl⟩
theorem c4L(cl lim:Int)(cs:Ck)(l:List Nd)(v:CV)(w:List It)(g:List Sp)(ver:Int)(cd:Bool):a0f Tryz.prog 9 [.c (.own 0 0)] [some (.cells 79 (dcF cl lim cs l v w g ver cd))] (fun r own'=>own'=[some (.cells 79 (dcF cl lim cs l v w g ver true))]∧r=if cd=true then fltA c4F 6 else .c (.v .nilIface)):=by
 refine a0i Tryz.func9 rfl ttok ftok rfl rfl rfl (Nat.le_of_ble_eq_true rfl) rfl ?_
 conv=>whnf
 cases cd with
 | true =>
  conv=>whnf
  refine a0a (b5o c4F 6) rfl ?_;rintro _ rfl
  conv=>whnf
  refine⟨_,Weak.refl _,?_⟩
  conv=>whnf
  exact⟨[some 0],rfl,rfl,rfl,rfl⟩
 | false =>
  conv=>whnf
  refine⟨_,Weak.refl _,?_⟩
  conv=>whnf
  exact⟨[some 0],rfl,rfl,rfl,rfl⟩
theorem c4l(cl lim:Int)(cs:Ck)(l:List Nd)(v:CV)(w:List It)(g:List Sp)(ver:Int)(cd:Bool):a0f Tryz.prog 12 [.c (.own 0 0)] [some (.cells 79 (dcF cl lim cs l v w g ver cd))] (fun r own'=>own'=[some (.cells 79 (dcF cl lim cs l v w g ver cd))]∧r=vci .i64 ver):=by
 refine a0i Tryz.func12 rfl ttok ftok rfl rfl rfl (Nat.le_of_ble_eq_true rfl) rfl ?_
 conv=>whnf
 refine⟨_,Weak.refl _,?_⟩
 conv=>whnf
 exact⟨[some 0],rfl,rfl,rfl,rfl⟩
theorem a8N(cl lim:Int)(cs:Ck)(l:List Nd)(v:CV)(w:List It)(g:List Sp)(ver:Int)(cd:Bool):a0f Tryz.prog 13 [.c (.own 0 0)] [some (.cells 79 (dcF cl lim cs l v w g ver cd))] (fun r own'=>own'=[some (.cells 79 (dcF cl lim cs l v w g ver cd))]∧r=vci .i64 w.length):=by
 refine a0i Tryz.func13 rfl ttok ftok rfl rfl rfl (Nat.le_of_ble_eq_true rfl) rfl ?_
 conv=>whnf
 refine⟨_,Weak.refl _,?_⟩
 conv=>whnf
 exact⟨[some 0],rfl,rfl,rfl,rfl⟩
theorem a8z(cl lim:Int)(cs:Ck)(l:List Nd)(v:CV)(w:List It)(g:List Sp)(ver:Int)(cd:Bool)(hl:cs.length≤100000)(hs:sumL cs≤100000):a0f Tryz.prog 10 [.c (.own 0 0)] [some (.cells 79 (dcF cl lim cs l v w g ver cd))] (fun r own'=>own'=[some (.cells 79 (dcF cl lim cs l v w g ver cd))]∧r=vcs (txS cs.flatten)):=by
 refine a0i Tryz.func10 rfl ttok ftok rfl rfl rfl (Nat.le_of_ble_eq_true rfl) rfl ?_
 conv=>whnf
 refine a0a (c1t cs l hl hs) rfl ?_;rintro _ rfl
 conv=>whnf
 refine⟨_,Weak.refl _,?_⟩
 conv=>whnf
 exact⟨[some 0],rfl,rfl,rfl,rfl⟩
theorem a4K(cl lim:Int)(cs:Ck)(l:List Nd)(v:CV)(w:List It)(g:List Sp)(ver:Int)(cd:Bool)(hv:v.length≤1000000):a0f Tryz.prog 11 [.c (.own 0 0)] [some (.cells 79 (dcF cl lim cs l v w g ver cd))] (fun r own'=>own'=[some (.cells 79 (dcF cl lim cs l v w g ver cd)),some (.row 85 2 v.length (ckR v))]∧r=.c (.row 1)):=by
 refine a0i Tryz.func11 rfl ttok ftok rfl rfl rfl (Nat.le_of_ble_eq_true rfl) rfl ?_
 conv=>whnf
 refine a0c [] rfl rfl rfl rfl (b0X v (by omega)) ?_
 rintro r own2 ⟨rfl,rfl⟩;refine⟨_,_,rfl,rfl,?_⟩
 conv=>whnf
 refine⟨_,Weak.refl _,?_⟩
 conv=>whnf
 exact⟨[some 0,some 1],rfl,rfl,rfl,rfl⟩
end Go.Eng
namespace Go.Eng
open Go Go.RowKit Go.Proofs
abbrev spR(l:List Sp):Nat→List IC:=fun k=>spF (l.getD k sp0)
theorem appL{α:Type}{enc:α→List IC}{d:α}{l b:List α}{f g:Nat→List IC}{K:Nat→(Nat→List IC)→Prop}(hf:∀ k,k<l.length→f k=enc (l.getD k d))(hg:∀ k,k<b.length→g k=enc (b.getD k d))(h:K (l++b).length fun k=>enc ((l++b).getD k d)) :
  ∃(n':Nat) (f':Nat→List IC),n'=l.length+b.length∧(∀ k,k<l.length→f' k=f k)∧(∀ k,k<b.length→f' (l.length+k)=g k)∧K n' f':=by
 refine⟨_,_,List.length_append,fun k hk=>?_,fun k hk=>?_,h⟩
 ·rw[hf k hk]
  simp[List.getD_eq_getElem?_getD,List.getElem?_append_left hk]
 ·rw[hg k hk,List.getD_eq_getElem?_getD,List.getElem?_append_right (by omega),Nat.add_sub_cancel_left,List.getD_eq_getElem?_getD]
theorem b9A(a b:Int):maxI a b=max a b:=by unfold maxI;omega
end Go.Eng
namespace Go.Eng
open Go Go.RowKit Go.Proofs
theorem a3P{l:List Sp}{k:Nat}(h:k<l.length):l.take (k+1)=l.take k++[l.getD k sp0]:=by
 rw[List.take_add_one,List.getD_eq_getElem?_getD,List.getElem?_eq_getElem h];rfl
theorem b9R{l:List Sp}{c x:Int}:hasS l c x↔∃ k,k<l.length∧a2P (l.getD k sp0) c x:=by
 have hg:∀ j (hj:j<l.length),l.getD j sp0=l[j]:=fun j hj=>by rw[List.getD_eq_getElem?_getD,List.getElem?_eq_getElem hj];rfl
 constructor
 ·rintro⟨s,hs,h⟩
  obtain⟨k,hk,rfl⟩:=List.getElem_of_mem hs;exact⟨k,hk,by rw[hg k hk];exact h⟩
 ·rintro⟨k,hk,h⟩
  rw[hg k hk]at h;exact⟨_,List.getElem_mem hk,h⟩
end Go.Eng
namespace Go.Eng
open Go Go.RowKit Go.Proofs
theorem c1M(s:Sp):a0f Tryz.prog 164 [.agg (spF s)] [] (fun r own'=>own'=[]∧r=vcb (!decide (valS s))):=by
 refine a0e Tryz.func164 rfl ttok ftok rfl rfl rfl (Nat.le_of_ble_eq_true rfl) ?_
 conv=>whnf
 have e:a0J (s.cl==0) (Operand.const (Value.bool true)) (Operand.tmp 11) true (decide (s.fr≥s.tz))=!decide (valS s):=by
  unfold valS;simp only[a0J,a0O]
  by_cases h:s.cl=0
  ·simp[h]
  ·by_cases h2:s.fr<s.tz
   ·simp[h,h2]
   ·simp[h,h2];omega
 rw[e]
def ixI(l:List Sp)(c n:Nat)(st:St):Prop:=∃ k:Nat,n=l.length-k∧k≤l.length∧(∀ j,j<k→valS (l.getD j sp0)) ∧
 st=⟨19,2,[(0,.c (.view 1 3 0 l.length c)),(1,.c (.fn 164 [])),(7,vci .i64 l.length),(8,vci .i64 (k:Int))],[none,some (.arr 105 3 c l.length (spR l))]⟩
theorem c3P(l:List Sp)(c:Nat)(hc:l.length≤c)(hl:l.length≤1000000):a0f Tryz.prog 169 [.c (.view 1 3 0 l.length c),.c (.fn 164 [])] [none,some (.arr 105 3 c l.length (spR l))]
  (fun r own'=>((∃ k:Nat,k<l.length∧¬valS (l.getD k sp0)∧(∀ j,j<k→valS (l.getD j sp0))∧r=vci .i64 k)∨((∀ j,j<l.length→valS (l.getD j sp0))∧r=vci .i64 (-1)))∧own'=[none,some (.arr 105 3 c l.length (spR l))]):=by
 refine a0i Tryz.func169 rfl ttok ftok rfl rfl rfl (Nat.le_of_ble_eq_true rfl) rfl ?_
 conv=>whnf
 refine a0B ttok ftok (ixI l c) (a0F [0,1,7,8] rfl) ⟨0,rfl,Nat.zero_le _,fun j hj=>by omega,rfl⟩ ?_
 rintro n st ⟨k,rfl,hk,hj,rfl⟩;have e1:=b0N (k:=k) (by omega)
 conv=>whnf
 refine a0d (fun h=>?_) (fun h=>?_)
 ·have h:=of_decide_eq_true h
  have hkl:k<l.length:=by omega
  conv=>whnf
  refine⟨⟨by omega,by omega⟩,?_⟩
  conv=>whnf
  rw[a0k];refine⟨by omega,?_⟩
  conv=>whnf
  rw[show 0+k=k from Nat.zero_add k];refine a0a (c1M (l.getD k sp0)) rfl ?_;rintro _ rfl
  conv=>whnf
  by_cases hv:valS (l.getD k sp0)
  ·rw[show(!decide (valS (l.getD k sp0)))=false from by rw[decide_eq_true hv];rfl]
   conv=>whnf
   rw[e1];refine⟨l.length-(k+1),_,by omega,a0F [0,1,7,8] rfl,k+1,rfl,by omega,fun j h2=>?_,rfl⟩
   rcases Nat.lt_succ_iff_lt_or_eq.1 h2 with h3 | rfl
   ·exact hj j h3
   ·exact hv
  ·rw[show(!decide (valS (l.getD k sp0)))=true from by rw[decide_eq_false hv];rfl]
   conv=>whnf
   refine⟨_,Weak.refl _,?_⟩
   conv=>whnf
   exact⟨[none,some 1],rfl,rfl,.inl ⟨k,hkl,hv,hj,rfl⟩,rfl⟩
 ·have h:=of_decide_eq_false h
  conv=>whnf
  refine⟨_,Weak.refl _,?_⟩
  conv=>whnf
  exact⟨[none,some 1],rfl,rfl,.inr ⟨fun j hj2=>hj j (by omega),rfl⟩,rfl⟩
theorem c3Q:a0f Tryz.prog 169 [.c (.v (.slice none 0 0)),.c (.fn 164 [])] [] (fun r own'=>own'=[]∧r=vci .i64 (-1)):=by
 refine a0e Tryz.func169 rfl ttok ftok rfl rfl rfl (Nat.le_of_ble_eq_true rfl) ?_
 conv=>whnf
 refine⟨by omega,?_⟩
 conv=>whnf
 refine a0N 1 ttok ftok ?_
 conv=>whnf
 all_goals first | rfl | exact⟨rfl,rfl⟩
theorem a8O{l:List Sp}(h:∀ j,j<l.length→valS (l.getD j sp0)):valid l=l:=by
 refine List.filter_eq_self.2 fun s hs=>?_;obtain⟨k,hk,rfl⟩:=List.getElem_of_mem hs;have:=h k hk;rw[List.getD_eq_getElem?_getD,List.getElem?_eq_getElem hk]at this;exact decide_eq_true this
def deI(l:List Sp)(c n:Nat)(st:St):Prop:=∃(j i:Nat) (f:Nat→Sp),n=l.length-j∧j≤l.length∧i<j∧(valid (l.take j)).length=i∧(∀ q,q<i→f q=(valid (l.take j)).getD q sp0)∧(∀ q,j≤q→q<l.length→f q=l.getD q sp0) ∧
 st=⟨42,2,[(0,.c (.view 1 3 0 l.length c)),(1,.c (.fn 164 [])),(5,vci .i64 (i:Int)),(6,vci .i64 (j:Int))],[none,some (.arr 105 3 c l.length fun q=>spF (f q))]⟩
theorem c2v(l:List Sp)(hl:l.length≤1000000):a0f Tryz.prog 163 [.c (.row 0),.c (.fn 164 [])] [some (.row 105 3 l.length (spR l))]
  (fun r own'=>r=.c (.row 2)∧own'=[none,none,some (.row 105 3 (valid l).length (spR (valid l)))]):=by
 refine a1B 0 rfl (fun h0=>?_) (fun c hc hc2=>?_)
 ·obtain rfl:l=[]:=List.eq_nil_of_length_eq_zero h0
  show a0f Tryz.prog 163 [.c (.v (.slice none 0 0)),.c (.fn 164 [])] [none] _;refine a0i Tryz.func163 rfl ttok ftok rfl rfl rfl (Nat.le_of_ble_eq_true rfl) rfl ?_
  conv=>whnf
  refine a0a c3Q rfl ?_;rintro _ rfl
  conv=>whnf
  refine⟨_,a0M 4 105 3 (spR []) rfl,?_⟩
  conv=>whnf
  exact⟨[none,none,some 1],rfl,rfl,rfl,rfl⟩
 show a0f Tryz.prog 163 [.c (.view 1 3 0 l.length c),.c (.fn 164 [])] [none,some (.arr 105 3 c l.length (spR l))] _;refine a0i Tryz.func163 rfl ttok ftok rfl rfl rfl (Nat.le_of_ble_eq_true rfl) rfl ?_
 conv=>whnf
 refine(c3P l c hc hl).mono ?_;rintro r own' ⟨h,rfl⟩;rcases h with⟨i,hi,hv,hj,rfl⟩|⟨hj,rfl⟩;rotate_left
 ·conv=>whnf
  refine⟨_,a0y 4 1 (n:=l.length) rfl rfl rfl rfl (Nat.le_refl _) rfl,?_⟩
  conv=>whnf
  rw[a8O hj];exact⟨[none,none,some 2],rfl,rfl,rfl,rfl⟩
 conv=>whnf
 rw[show((i:Int)==-1)=false from beq_eq_false_iff_ne.2 (by omega)]
 conv=>whnf
 have hvi:valid (l.take (i+1))=l.take i:=by
  rw[a3P hi,a1o,a8O (l:=l.take i) (fun j hj2=>by rw[List.length_take]at hj2;rw[a0Q _ _ _ _ (by omega)];exact hj j (by omega))]
  simp[valid,hv,- List.getD_eq_getElem?_getD]
 rw[b0N (by omega)]
 refine a0B ttok ftok (deI l c) (a0F [0,1,5,6] rfl) ⟨i+1,i,fun q=>l.getD q sp0,rfl,by omega,by omega,by rw[hvi,List.length_take];omega,fun q hq=>by rw[hvi];exact(a0Q _ _ _ _ hq).symm,fun q hq _=>rfl,rfl⟩ ?_
 rintro n st ⟨j,i,f,rfl,hjl,hij,hi,hf1,hf2,rfl⟩;have e1:=b0N (k:=j) (by omega)
 have e2:=b0N (k:=i) (by omega)
 conv=>whnf
 refine a0d (fun h=>?_) (fun h=>?_)
 ·have h:=of_decide_eq_true h
  have hkl:j<l.length:=by omega
  conv=>whnf
  refine⟨⟨by omega,by omega⟩,?_⟩
  conv=>whnf
  rw[a0k];refine⟨by omega,?_⟩
  rw[show 0+j=j from Nat.zero_add j];have hfj:=hf2 j (Nat.le_refl _) hkl
  conv=>whnf
  refine a0a (c1M (f j)) rfl ?_;rintro _ rfl;have ht:=a3P hkl;rw[←hfj]at ht
  by_cases hv:valS (f j)
  ·rw[show(!decide (valS (f j)))=false from by rw[decide_eq_true hv];rfl]
   have hva:valid (l.take (j+1))=valid (l.take j)++[f j]:=by rw[ht,a1o,show valid [f j]=[f j]from by simp[valid,hv,- List.getD_eq_getElem?_getD]]
   conv=>whnf
   refine⟨⟨by omega,by omega⟩,?_⟩
   conv=>whnf
   rw[a0k];refine⟨by omega,?_⟩
   conv=>whnf
   refine⟨fun q=>spF (if q=i then f j else f q),fun q _=>?_,?_⟩
   ·show spF (if q=i then f j else f q)=_
    by_cases hq:q=i
    ·rw[if_pos hq,if_pos (by omega)]
    ·rw[if_neg hq,if_neg (by omega)]
   conv=>whnf
   rw[e1,e2];exact⟨l.length-(j+1),_,by omega,a0b [0,1,5,6] [none,some 1] rfl rfl,j+1,i+1,fun q=>if q=i then f j else f q,rfl,by omega,by omega,by rw[hva,List.length_append,hi];rfl,fun q hq=>by
    rw[hva];show(if q=i then f j else f q)=_
    by_cases hqi:q=i
    ·rw[if_pos hqi,List.getD_eq_getElem?_getD,List.getElem?_append_right (by omega),hqi,hi,Nat.sub_self];rfl
    ·rw[if_neg hqi,List.getD_eq_getElem?_getD,List.getElem?_append_left (by omega),←List.getD_eq_getElem?_getD];exact hf1 q (by omega),fun q hq hq2=>by
    show(if q=i then f j else f q)=_
    rw[if_neg (by omega)];exact hf2 q (by omega) hq2,rfl⟩
  ·rw[show(!decide (valS (f j)))=true from by rw[decide_eq_false hv];rfl]
   have hva:valid (l.take (j+1))=valid (l.take j):=by rw[ht,a1o,show valid [f j]=[]from by simp[valid,hv,- List.getD_eq_getElem?_getD],List.append_nil]
   conv=>whnf
   rw[e1];exact⟨l.length-(j+1),_,by omega,a0b [0,1,5,6] [none,some 1] rfl rfl,j+1,i,f,rfl,by omega,by omega,by rw[hva];exact hi,fun q hq=>by rw[hva];exact hf1 q hq,fun q hq hq2=>hf2 q (by omega) hq2,rfl⟩
 ·have h:=of_decide_eq_false h
  have hjl2:j=l.length:=by omega
  subst hjl2;rw[List.take_length]at hi hf1
  conv=>whnf
  refine⟨⟨by omega,by omega,by omega,by omega⟩,?_⟩
  conv=>whnf
  simp only[a0k];refine⟨by omega,(valid l).length,spR (valid l),fun q hq=>.inr ⟨.inl (by omega),by omega,?_⟩,?_⟩
  ·show spF _=spF (f q)
   rw[hf1 q (by omega)]
  conv=>whnf
  refine⟨⟨by omega,by omega,by omega,by omega⟩,?_⟩
  conv=>whnf
  refine⟨_,a0y 4 1 (n:=(valid l).length) rfl rfl (by rfl) (by omega) (by omega) (by omega),?_⟩
  conv=>whnf
  exact⟨[none,none,some 2],rfl,rfl,rfl,rfl⟩
end Go.Eng
namespace Go.Eng
open Go Go.RowKit Go.Proofs Go.Sort
instance:Inhabited Sp:=⟨sp0⟩
def b5s(s:Sp):List Value:=[.int .u32 s.cl,.int .u32 s.fr,.int .u32 s.tz]
theorem b3M(l:List Sp)(hl:l.length≤1000000):a0f Tryz.prog 165 [.c (.row 0),.c (.fn 166 [])] [some (.row 105 3 l.length (spR l))]
  (fun r own'=>∃ ys:List Sp,ys.Perm l∧ys.Pairwise lexS∧r=.tup []∧own'=[some (.row 105 3 ys.length (spR ys))]):=by
 have h:=a5q (α:=Sp) Tryz.sortSpan 3 (fun _=>by kernel_rfl) (fun _=>by kernel_rfl) b5s (fun _=>rfl) (fun x v hv=>by
   simp only[b5s,List.mem_cons,List.not_mem_nil,or_false]at hv
   rcases hv with rfl | rfl | rfl <;> rfl) _ (b0k Sp.cl Sp.fr) 166 (enters_of Tryz.func166 (by kernel_rfl) rfl) (fun x y W=>c3K (x.cl,x.fr,x.tz) (y.cl,y.fr,y.tz) W) 105 l (by omega)
 refine a0f.mono h ?_;rintro r own' ⟨ys,h1,h2,h3,h4⟩;refine⟨ys,h1,List.pairwise_iff_getElem.2 fun i j hi hj hij=>?_,h3,h4⟩;have:=h2 i j hij hj;rw[a7l,List.getD_eq_getElem?_getD,List.getD_eq_getElem?_getD,List.getElem?_eq_getElem hi,List.getElem?_eq_getElem hj]at this;simp only[Option.getD_some,decide_eq_false_iff_not]at this;unfold lexS;omega
end Go.Eng
namespace Go.Eng
open Go Go.RowKit Go.Proofs
theorem b3P(l:List Sp)(hl:l.length≤1000000000):a0f Tryz.prog 39 [.c (.sl 3 l.length fun k=>spF (l.getD k sp0))] []
  (fun r own'=>r=.c (.row 0)∧own'=[some (.row 105 3 l.length fun k=>spF (l.getD k sp0))]):=by
 refine a0i Tryz.func39 rfl ttok ftok rfl rfl rfl (Nat.le_of_ble_eq_true rfl) rfl ?_
 conv=>whnf
 intro b hb;cases b with
 | true =>
  have h0:=hb rfl;obtain rfl:l=[]:=List.eq_nil_of_length_eq_zero h0
  conv=>whnf
  refine⟨_,a0M 2 105 3 (fun k=>spF (([]:List Sp).getD k sp0)) rfl,?_⟩
  conv=>whnf
  exact⟨[some 0],rfl,rfl,rfl,rfl⟩
 | false =>
  clear hb
  conv=>whnf
  refine⟨⟨by omega,by show(0+l.length)*12≤_;omega⟩,?_⟩
  conv=>whnf
  refine⟨l.length,fun k=>spF (l.getD k sp0),by omega,fun k hk=>by omega,fun k hk=>by rw[Nat.zero_add],?_⟩
  conv=>whnf
  refine⟨_,Weak.refl _,?_⟩
  conv=>whnf
  exact⟨[some 1],rfl,rfl,rfl,rfl⟩
def c3L(ys:List Sp)(m:Nat)(st:St):Prop:=∃(k:Nat) (o:List Sp),m=ys.length-k∧k≤ys.length∧o=mrgL (ys.take k)∧o.length≤k ∧
 st=⟨64,0,[(3,.c (.row 1)),(12,.c (.row 0)),(13,vci .i64 (ys.length:Int)),(14,vci .i64 (k:Int))],[some (.row 105 3 ys.length (spR ys)),some (.row 105 3 o.length (spR o))]⟩
theorem c1K(l:List Sp)(hl:l.length≤1000000):a0f Tryz.prog 131 [spS l] [] (fun r own'=>own'=[]∧∃ o:List Sp,ofS l o∧r=spS o):=by
 refine a0e Tryz.func131 rfl ttok ftok rfl rfl rfl (Nat.le_of_ble_eq_true rfl) ?_
 conv=>whnf
 refine a0c [] rfl rfl rfl rfl (b3P l (by omega)) ?_
 rintro r own2 ⟨rfl,rfl⟩;refine⟨.c (.row 0),[some (.row 105 3 l.length (spR l))],rfl,rfl,?_⟩
 conv=>whnf
 refine a0c [some 0] rfl rfl rfl rfl (c2v l (by omega)) ?_
 rintro r own2 ⟨rfl,rfl⟩;refine⟨.c (.row 2),[none,none,some (.row 105 3 (valid l).length (spR (valid l)))],rfl,rfl,?_⟩
 conv=>whnf
 have hvl:(valid l).length≤l.length:=List.length_filter_le _ _;refine a0c [some 2] rfl rfl rfl rfl (b3M (valid l) (by omega)) ?_
 rintro r own2 ⟨ys,hp,hs,rfl,rfl⟩;have hlen:=hp.length_eq;refine⟨.tup [],[none,none,some (.row 105 3 ys.length (spR ys))],rfl,rfl,?_⟩
 conv=>whnf
 refine a0B ttok ftok (c3L ys) ((a0M 3 105 3 (spR []) rfl).trans (a0b [3,12,13,14] [some 2,some 3] rfl rfl)) ⟨0,[],rfl,Nat.zero_le _,rfl,Nat.le_refl _,rfl⟩ ?_;rintro m st ⟨k,o,rfl,hk,ho,hol,rfl⟩;have e1:=b0N (k:=k) (by omega)
 conv=>whnf
 refine a0d (fun h=>?_) (fun h=>?_)
 ·have h:=of_decide_eq_true h
  have hkl:k<ys.length:=by omega
  have hnx:=a9u (ys.take k) (ys.getD k sp0);rw[←a3P hkl,←ho]at hnx;rcases a5c o with rfl|⟨o,t,rfl⟩
  ·conv=>whnf
   refine⟨by omega,?_⟩
   conv=>whnf
   refine a2C mixed (by kernel_rfl) ttok ?_
   conv=>whnf
   refine⟨?_,?_⟩
   ·conv=>whnf
    intro g1;exact absurd (of_decide_eq_true g1) (by decide)
   conv=>whnf
   refine⟨?_,?_⟩
   ·conv=>whnf
    intro g1;simp[a0J,a0O]at g1
   conv=>whnf
   rw[a0k];refine⟨fun _=>spF (ys.getD k sp0),fun j hj2=>?_,?_⟩
   ·obtain rfl:j=0:=by omega
    rfl
   conv=>whnf
   refine⟨⟨by(try simp only[List.length_append,List.length_singleton]);omega,by show(List.length ([]:List Sp)+1)*12≤_;(try simp only[List.length_append,List.length_singleton]);omega⟩,?_⟩
   conv=>whnf
   refine app1 (enc:=spF) (d:=sp0) (l:=([]:List Sp)) (ys.getD k sp0) (fun k hk=>rfl) rfl ?_
   conv=>whnf
   rw[e1];exact⟨ys.length-(k+1),_,by omega,a0b [3,12,13,14] [some 0,some 4] rfl rfl,k+1,[]++[ys.getD k sp0],rfl,by omega,hnx.symm,by simp,rfl⟩
  have hlt:(o++[t]).length=o.length+1:=by simp
  rw[b1J]at hnx
  conv=>whnf
  refine⟨by omega,?_⟩
  conv=>whnf
  refine a2C mixed (by kernel_rfl) ttok ?_
  conv=>whnf
  have e0:IntKind.i64.wrap (((o++[t]).length:Int)-1)=(o.length:Int):=by rw[a0s (by omega) (by omega),hlt];omega
  have et:(o++[t]).getD o.length sp0=t:=by rw[List.getD_eq_getElem?_getD,List.getElem?_append_right (Nat.le_refl _),Nat.sub_self];rfl
  rw[e0];refine⟨?_,?_⟩
  ·conv=>whnf
   intro g1
   conv=>whnf
   omega
  conv=>whnf
  refine⟨?_,?_⟩
  ·conv=>whnf
   intro g1
   conv=>whnf
   omega
  conv=>whnf
  rw[e0,a0k,a0k,et];refine a0d (fun g=>?_) (fun g=>?_)
  ·have g:t.cl=(ys.getD k sp0).cl∧(ys.getD k sp0).fr≤t.tz:=by
    simp[a0J,a0O,- List.getD_eq_getElem?_getD]at g;omega
   rw[if_pos g]at hnx
   conv=>whnf
   refine a0I 12 mixed (by kernel_rfl) ttok ftok ?_
   conv=>whnf
   rw[e0];refine⟨by omega,?_⟩
   conv=>whnf
   rw[a0k,et];refine⟨by omega,?_⟩
   conv=>whnf
   rw[←b9A]at hnx;generalize hu:maxI t.tz (ys.getD k sp0).tz=u at hnx;have hl2:(o++[t]).length=(o++[(⟨t.cl,t.fr,u⟩:Sp)]).length:=by simp
   refine⟨spR (o++[(⟨t.cl,t.fr,u⟩:Sp)]),fun j hj=>?_,?_⟩
   ·by_cases hjo:j=o.length
    ·rw[if_pos hjo,hjo]
     show spF ((o++[(⟨t.cl,t.fr,u⟩:Sp)]).getD o.length sp0)=_;rw[List.getD_eq_getElem?_getD,List.getElem?_append_right (Nat.le_refl _),Nat.sub_self];show _=List.take 2 (spF ((o++[t]).getD o.length sp0))++_++List.drop 3 (spF ((o++[t]).getD o.length sp0));rw[et];rfl
    ·rw[if_neg hjo]
     show spF ((o++[(⟨t.cl,t.fr,u⟩:Sp)]).getD j sp0)=spF ((o++[t]).getD j sp0);rw[List.getD_eq_getElem?_getD,List.getD_eq_getElem?_getD,List.getElem?_append_left (by omega),List.getElem?_append_left (by omega)]
   conv=>whnf
   rw[e1];rw[hl2];exact⟨ys.length-(k+1),_,by omega,a0b [3,12,13,14] [some 0,some 1] rfl rfl,k+1,o++[(⟨t.cl,t.fr,u⟩:Sp)],rfl,by omega,hnx.symm,by simp at hol ⊢;omega,rfl⟩
  ·have g:¬(t.cl=(ys.getD k sp0).cl∧(ys.getD k sp0).fr≤t.tz):=fun e=>by
    simp[a0J,a0O,- List.getD_eq_getElem?_getD]at g;omega
   rw[if_neg g]at hnx
   conv=>whnf
   refine⟨fun _=>spF (ys.getD k sp0),fun j hj2=>?_,?_⟩
   ·obtain rfl:j=0:=by omega
    rfl
   conv=>whnf
   refine⟨⟨by(try simp only[List.length_append,List.length_singleton]);omega,by show(List.length (o++[t])+1)*12≤_;(try simp only[List.length_append,List.length_singleton]);omega⟩,?_⟩
   conv=>whnf
   refine app1 (enc:=spF) (d:=sp0) (l:=(o++[t])) (ys.getD k sp0) (fun k hk=>rfl) rfl ?_
   conv=>whnf
   rw[e1];exact⟨ys.length-(k+1),_,by omega,a0b [3,12,13,14] [some 0,some 4] rfl rfl,k+1,(o++[t])++[ys.getD k sp0],rfl,by omega,hnx.symm,by simp at hol ⊢;omega,rfl⟩
 ·have h:=of_decide_eq_false h
  have hk2:k=ys.length:=by omega
  subst hk2;rw[List.take_length]at ho
  conv=>whnf
  refine⟨fun _ _=>rfl,?_⟩
  conv=>whnf
  rw[ho];exact⟨mrgL ys,c1L hp hs,rfl⟩
end Go.Eng
namespace Go.Eng
open Go Go.RowKit Go.Proofs
theorem c2m(n:Nat)(hn:n≤1000000):a0f Tryz.prog 167 [nilS,vci .i64 (n:Int)] [] (fun r own'=>r=.c (.row 0)∧own'=[some (.row 105 3 0 (spR []))]):=by
 have h1:(Tryz.prog.info? 105).map (fun i=>(i.size,i.bytes,i.zero))=some (3,12,some (.agg #[.int .u32 0,.int .u32 0,.int .u32 0])):=by kernel_rfl
 obtain⟨i0,h2,h3⟩:=Option.map_eq_some_iff.1 h1;have e1:i0.size=3:=(Prod.mk.inj h3).1;have e2:i0.bytes=12:=(Prod.mk.inj (Prod.mk.inj h3).2).1;have e3:i0.zero=some (.agg #[.int .u32 0,.int .u32 0,.int .u32 0]):=(Prod.mk.inj (Prod.mk.inj h3).2).2;have h:=a4N Tryz.growSpan i0 _ h2 e3 (by omega) (by rw[e1];rfl) n (by rw[e2];omega) (by omega) (spR [])
 rw[e1]at h;exact h
abbrev twoF(a b:List Sp):Nat→List IC:=fun k=>[[IC.sl 3 a.length (spR a)],[IC.sl 3 b.length (spR b)]].getD k []
theorem b7y(a b:List Sp)(ha:a.length≤500000)(hb:b.length≤500000):a0f Tryz.prog 132 [.c (.sl 1 2 (twoF a b))] [] (fun r own'=>own'=[]∧r=spS (a++b)):=by
 refine a0e Tryz.func132 rfl ttok ftok rfl rfl rfl (Nat.le_of_ble_eq_true rfl) ?_
 conv=>whnf
 refine a0N 3 ttok ftok ?_
 conv=>whnf
 refine⟨⟨by omega,by omega⟩,?_⟩
 conv=>whnf
 rw[show IntKind.i64.wrap (0+(a.length:Int))=((a.length:Nat):Int)from by rw[a0s (by omega) (by omega)];omega]
 conv=>whnf
 rw[show IntKind.i64.wrap (0+1)=(1:Int)from rfl];refine⟨⟨by omega,by omega⟩,?_⟩
 conv=>whnf
 rw[show IntKind.i64.wrap ((a.length:Int)+(b.length:Int))=((a.length+b.length:Nat):Int)from by rw[a0s (by omega) (by omega)];omega]
 conv=>whnf
 refine a0c [] rfl rfl rfl rfl (c2m (a.length+b.length) (by omega)) ?_
 rintro r own2 ⟨rfl,rfl⟩;refine⟨.c (.row 0),[some (.row 105 3 0 (spR []))],rfl,rfl,?_⟩
 conv=>whnf
 refine a0N 3 ttok ftok ?_
 conv=>whnf
 refine⟨⟨by omega,by omega⟩,?_⟩
 conv=>whnf
 refine⟨⟨by omega,by show(0+a.length)*12≤_;omega⟩,?_⟩
 conv=>whnf
 refine⟨a.length,spR a,by omega,fun k hk=>by omega,fun k hk=>by rw[Nat.zero_add],?_⟩
 conv=>whnf
 rw[show IntKind.i64.wrap (0+1)=(1:Int)from rfl];refine⟨⟨by omega,by omega⟩,?_⟩
 conv=>whnf
 refine⟨⟨by omega,by show(a.length+b.length)*12≤_;omega⟩,?_⟩
 conv=>whnf
 refine appL (enc:=spF) (d:=sp0) (l:=a) (b:=b) (fun k hk=>rfl) (fun k hk=>rfl) ?_
 conv=>whnf
 refine⟨fun _ _=>rfl,?_⟩
 conv=>whnf
 all_goals first | rfl | exact⟨rfl,rfl⟩
theorem c1Y(a b:List Sp)(ha:a.length≤500000)(hb:b.length≤500000):a0f Tryz.prog 83 [spS a,spS b] [] (fun r own'=>own'=[]∧∃ o:List Sp,ofS (a++b) o∧r=spS o):=by
 refine a0e Tryz.func83 rfl ttok ftok rfl rfl rfl (Nat.le_of_ble_eq_true rfl) ?_
 conv=>whnf
 refine⟨twoF a b,fun k hk=>rfl,?_⟩
 conv=>whnf
 refine⟨fun j hj=>?_,?_⟩
 ·match j,hj with
  | 0,_=>rfl
  | 1,_=>rfl
 conv=>whnf
 refine a0a (b7y a b (by omega) (by omega)) rfl ?_
 rintro _ rfl
 conv=>whnf
 refine a0a (c1K (a++b) (by rw[List.length_append];omega)) rfl ?_
 rintro _ ⟨o,ho,rfl⟩
 conv=>whnf
 exact⟨o,ho,rfl⟩
end Go.Eng
namespace Go.Eng
open Go Go.RowKit Go.Proofs
def b3O(O:List (Option Ob))(l:List Sp)(p:Sp→Bool)(caps:List (Bool × List IC))(n:Nat)(st:St):Prop:=∃ k:Nat,n=l.length-k∧k≤l.length∧(∀ j,j<k→p (l.getD j sp0)=false) ∧
 st=⟨19,O.length,[(0,.c (.sl 3 l.length fun k=>spF (l.getD k sp0))),(1,.c (.fn 140 caps)),(7,vci .i64 l.length),(8,vci .i64 (k:Int))],O⟩
theorem b6r(O:List (Option Ob))(l:List Sp)(hl:l.length≤1000000000)(caps:List (Bool × List IC))(p:Sp→Bool)
  (hp:∀ k,k<l.length→a0f Tryz.prog 140 (.agg (spF (l.getD k sp0))::a2f caps) O (fun r own'=>r=vcb (p (l.getD k sp0))∧own'=O)) :
  a0f Tryz.prog 169 [.c (.sl 3 l.length fun k=>spF (l.getD k sp0)),.c (.fn 140 caps)] O (fun r own'=>(∃ k:Nat,k<l.length∧p (l.getD k sp0)=true∧(∀ j,j<k→p (l.getD j sp0)=false)∧r=vci .i64 k∧own'=O) ∨
   ((∀ j,j<l.length→p (l.getD j sp0)=false)∧r=vci .i64 (-1)∧own'=O)):=by
 refine a1C Tryz.func169 rfl ttok ftok rfl rfl rfl (Nat.le_of_ble_eq_true rfl) ?_
 conv=>whnf
 refine a0B ttok ftok (b3O O l p caps) (a0F [0,1,7,8] rfl) ⟨0,rfl,Nat.zero_le _,fun j hj=>by omega,rfl⟩ ?_
 rintro n st ⟨k,rfl,hk,hj,rfl⟩
 conv=>whnf
 refine a0d (fun h=>?_) (fun h=>?_)
 ·have h:=of_decide_eq_true h
  have hkl:k<l.length:=by omega
  conv=>whnf
  rw[a0q]
  conv=>whnf
  refine⟨⟨by omega,by omega⟩,?_⟩
  conv=>whnf
  refine(hp k hkl).mono ?_;rintro r own2 ⟨rfl,rfl⟩
  conv=>whnf
  cases hpk:p (l.getD k sp0)with
  | true =>
   conv=>whnf
   refine⟨_,Weak.refl _,?_⟩
   conv=>whnf
   exact .inl ⟨k,hkl,hpk,hj,rfl,rfl⟩
  | false =>
   conv=>whnf
   refine⟨l.length-(k+1),_,by omega,a0F [0,1,7,8] rfl,k+1,rfl,by omega,fun j hj2=>?_,?_⟩
   ·rcases Nat.lt_succ_iff_lt_or_eq.1 hj2 with h2 | rfl
    ·exact hj j h2
    ·exact hpk
   rw[show(((k+1:Nat)):Int)=IntKind.i64.wrap ((k:Int)+1)from by rw[a0s (by omega) (by omega)];omega]
   all_goals rfl
 ·have h:=of_decide_eq_false h
  conv=>whnf
  refine⟨_,Weak.refl _,?_⟩
  conv=>whnf
  exact .inr ⟨fun j hj2=>hj j (by omega),rfl,rfl⟩
theorem b0n(O:List (Option Ob))(l:List Sp)(hl:l.length≤1000000000)(caps:List (Bool × List IC))(p:Sp→Bool)
  (hp:∀ k,k<l.length→a0f Tryz.prog 140 (.agg (spF (l.getD k sp0))::a2f caps) O (fun r own'=>r=vcb (p (l.getD k sp0))∧own'=O)) :
  a0f Tryz.prog 139 [.c (.sl 3 l.length fun k=>spF (l.getD k sp0)),.c (.fn 140 caps)] O (fun r own'=>∃ b:Bool,(b=true↔∃ k,k<l.length∧p (l.getD k sp0)=true)∧r=vcb b∧own'=O):=by
 refine a1C Tryz.func139 rfl ttok ftok rfl rfl rfl (Nat.le_of_ble_eq_true rfl) ?_
 conv=>whnf
 rw[a0q]
 conv=>whnf
 refine(b6r O l hl caps p hp).mono ?_;rintro r own2 (⟨k,hk,h1,h2,rfl,rfl⟩|⟨h1,rfl,rfl⟩)
 ·conv=>whnf
  refine⟨_,Weak.refl _,?_⟩
  conv=>whnf
  refine⟨true,⟨fun _=>⟨k,hk,h1⟩,fun _=>rfl⟩,?_,rfl⟩;show vcb (decide ((k:Int)≥0))=_;rw[decide_eq_true (by omega)]
 ·conv=>whnf
  refine⟨_,Weak.refl _,?_⟩
  conv=>whnf
  refine⟨false,⟨fun e=>(by cases e),fun⟨k,hk,h2⟩=>by rw[h1 k hk]at h2;cases h2⟩,rfl,rfl⟩
instance (s:Sp) (c x:Int):Decidable (a2P s c x):=inferInstanceAs (Decidable (s.cl=c∧s.fr≤x∧x<s.tz))
theorem b7k(a:I2)(s:Sp):a0f Tryz.prog 140 [.agg (spF s),.c (.own 0 0)] [some (.cells 59 (idF a))] (fun r own'=>r=vcb (decide (a2P s a.1 a.2))∧own'=[some (.cells 59 (idF a))]):=by
 refine a0i Tryz.func140 rfl ttok ftok rfl rfl rfl (Nat.le_of_ble_eq_true rfl) rfl ?_
 conv=>whnf
 refine⟨_,Weak.refl _,?_⟩
 conv=>whnf
 refine⟨[some 0],rfl,rfl,?_,rfl⟩;show vcb _=_
 congr 3
 unfold a2P;simp only[a0J,a0O]
 by_cases h1:s.cl=a.1
 ·by_cases h2:s.fr≤a.2
  ·by_cases h3:a.2<s.tz
   ·simp[h1,h2,h3]
   ·simp[h1,h2,h3]
  ·simp[h1,h2]
 ·simp[h1]
theorem c3V(l:List Sp)(hl:l.length≤1000000)(a:I2):a0f Tryz.prog 87 [spS l,idA a] [] (fun r own'=>own'=[]∧∃ b:Bool,(b=true↔hasS l a.1 a.2)∧r=vcb b):=by
 refine a0e Tryz.func87 rfl ttok ftok rfl rfl rfl (Nat.le_of_ble_eq_true rfl) ?_
 conv=>whnf
 refine(b0n _ l (by omega) [(false,[.own 0 0])] (fun x=>decide (a2P x a.1 a.2)) (fun k hk=>b7k a _)).mono ?_
 rintro r own2 ⟨c,hc,rfl,rfl⟩
 conv=>whnf
 refine⟨c,?_,rfl⟩;rw[hc,b9R];simp only[decide_eq_true_eq]
end Go.Eng
namespace Go.Eng
open Go Go.RowKit Go.Proofs
theorem a9C(l:List Sp)(hl:l.length≤1000000)(a:I2):a0f Tryz.prog 87 [spS l,idA a] [] (fun r own'=>own'=[]∧r=vcb (hsB l a)) :=
 (c3V l hl a).mono (fun r own' ⟨h1,b,h2,h3⟩=>⟨h1,by rw[h3,c2j h2]⟩)
theorem b1s{hs:HS}{G:I2→Bool}{cs:Ck}{l:List Nd}{N:Nat}(V:LV hs G cs l N)(hN:N≤20000)(v:CV)(w:List It)(g:List Sp)(hg:g.length≤1000000)(x:It)(hok:okA hs x) :
  a0f Tryz.prog 71 [.c (.own 0 0),.agg (itF x)] [some (.cells 77 (stF cs l v w g))] (fun r own'=>r=.c (.v .nilIface)∧∃ cs2 l2,LV (adH hs x) (updG G x.id (hsB g x.id)) cs2 l2 (N+1)∧own'=[some (.cells 77 (stF cs2 l2 v w g))]):=by
 refine a0i Tryz.func71 rfl ttok ftok rfl rfl rfl (Nat.le_of_ble_eq_true rfl) rfl ?_
 conv=>whnf
 refine a0m (.rd 0 (.rd 1 (.rd 2 (.rd 3 (.rd 4 (.rd 5 (.rd 6 (.rd 7 (.rd 8 (.rd 9 (.rd 10 (.alt (.ef 11 (.alt (.ef 12 (.rd 13 (.rd 14 (.rd 15 (.ef 16 (.ef 17 (.rd 18 (.nil)))))))) (.ef 16 (.ef 12 (.rd 13 (.rd 14 (.rd 15 (.ef 17 (.rd 18 (.nil)))))))))) (.ef 16 (.ef 11 (.ef 12 (.rd 13 (.rd 14 (.rd 15 (.ef 17 (.rd 18 (.nil))))))))))))))))))))) [2] mixed (by kernel_rfl) ttok ftok ?_
 conv=>whnf
 refine⟨?_,?_⟩
 ·refine a0a (a9C g hg x.id) rfl ?_
  rintro _ rfl
  conv=>whnf
  refine⟨?_,?_⟩
  ·conv=>whnf
   refine a0a (b4G V hN x (hsB g x.id)) rfl ?_;rintro _ (⟨_,cs2,l2,V2,rfl⟩|⟨hno,_⟩);rotate_left
   ·exact absurd hok hno
   conv=>whnf
   refine⟨_,Weak.refl _,?_⟩
   conv=>whnf
   exact⟨[some 0],rfl,rfl,rfl,cs2,l2,V2,rfl⟩
  ·conv=>whnf
   refine a0a (b4G V hN x (hsB g x.id)) rfl ?_;rintro _ (⟨_,cs2,l2,V2,rfl⟩|⟨hno,_⟩);rotate_left
   ·exact absurd hok hno
   conv=>whnf
   refine⟨_,Weak.refl _,?_⟩
   conv=>whnf
   exact⟨[some 0],rfl,rfl,rfl,cs2,l2,V2,rfl⟩
 ·conv=>whnf
  refine a0a (a9C g hg x.id) rfl ?_;rintro _ rfl
  conv=>whnf
  refine a0a (b4G V hN x (hsB g x.id)) rfl ?_;rintro _ (⟨_,cs2,l2,V2,rfl⟩|⟨hno,_⟩);rotate_left
  ·exact absurd hok hno
  conv=>whnf
  refine⟨_,Weak.refl _,?_⟩
  conv=>whnf
  exact⟨[some 0],rfl,rfl,rfl,cs2,l2,V2,rfl⟩
theorem a8A(cl lim:Int)(cs:Ck)(l:List Nd)(v:CV)(w:List It)(g:List Sp)(ver:Int)(cd:Bool)(op:ByteArray)(ch:Bool)(e:Int)(cs2:Ck)(l2:List Nd)(v2:CV)(w2:List It)(g2:List Sp) :
  a0f Tryz.prog 48 [.c (.own 0 0),vcs op,.agg (stF cs2 l2 v2 w2 g2),vcb ch,erC e] [some (.cells 79 (dcF cl lim cs l v w g ver cd))] (fun r own'=>own'=[some (.cells 79 (dcF cl lim cs l v w g ver cd))]∧r=.tup [vci .i64 0,fltA op e]):=by
 refine a0i Tryz.func48 rfl ttok ftok rfl rfl rfl (Nat.le_of_ble_eq_true rfl) rfl ?_
 conv=>whnf
 refine a0a (b5o op e) rfl ?_;rintro _ rfl
 conv=>whnf
 refine⟨_,Weak.refl _,?_⟩
 conv=>whnf
 exact⟨[some 0],rfl,rfl,rfl,rfl⟩
theorem b5y(cl lim:Int)(cs:Ck)(l:List Nd)(v:CV)(w:List It)(g:List Sp)(n:Nat)(hn:n≤1000)(cd:Bool)(op:ByteArray)(ch:Bool)(cs2:Ck)(l2:List Nd)(v2:CV)(w2:List It)(g2:List Sp) :
  a0f Tryz.prog 48 [.c (.own 0 0),vcs op,.agg (stF cs2 l2 v2 w2 g2),vcb ch,.c (.v .nilIface)] [some (.cells 79 (dcF cl lim cs l v w g (n:Int) cd))] (fun r own'=>own'=[some (.cells 79 (dcF cl lim cs2 l2 v2 w2 g2 ((if ch=true then n+1 else n:Nat):Int) cd))]∧r=.tup [vci .i64 ((if ch=true then n+1 else n:Nat):Int),.c (.v .nilIface)]):=by
 have e1:=e64 (k:=n) (by omega)
 refine a0i Tryz.func48 rfl ttok ftok rfl rfl rfl (Nat.le_of_ble_eq_true rfl) rfl ?_
 conv=>whnf
 cases ch with
 | true =>
  conv=>whnf
  rw[e1]
  conv=>whnf
  refine⟨_,Weak.refl _,?_⟩
  conv=>whnf
  exact⟨[some 0],rfl,rfl,rfl,rfl⟩
 | false =>
  conv=>whnf
  refine⟨_,Weak.refl _,?_⟩
  conv=>whnf
  exact⟨[some 0],rfl,rfl,rfl,rfl⟩
def insE(c lim:Int)(v:CV)(es:List En)(k:Int)(text:ByteArray):Int:=match a0E text with
 | none=>1
 | some L=>if k<0∨(shn es:Int)<k then 3 else if lim+1<nxt v c+L.length then 4 else 0
theorem c2f{c lim:Int}{v:CV}{es:List En}{k:Int}{text:ByteArray}(h:a0E text=none):insE c lim v es k text=1:=by unfold insE;rw[h]
theorem c2e{c lim:Int}{v:CV}{es:List En}{k:Int}{text:ByteArray}{L:List Int}(h:a0E text=some L)(hk:k<0∨(shn es:Int)<k):insE c lim v es k text=3:=by unfold insE;rw[h];exact if_pos hk
theorem c2d{c lim:Int}{v:CV}{es:List En}{k:Int}{text:ByteArray}{L:List Int}(h:a0E text=some L)(hk:¬(k<0∨(shn es:Int)<k))(h2:lim+1<nxt v c+L.length):insE c lim v es k text=4:=by unfold insE;rw[h];exact(if_neg hk).trans (if_pos h2)
theorem b4N{c lim:Int}{v:CV}{es:List En}{k:Int}{text:ByteArray}{L:List Int}(h:a0E text=some L)(hk:¬(k<0∨(shn es:Int)<k))(h2:¬lim+1<nxt v c+L.length):insE c lim v es k text=0:=by unfold insE;rw[h];exact(if_neg hk).trans (if_neg h2)
def insT(c:Int)(v:CV)(es:List En)(k:Int)(L:List Int):List It:=insL c (nxt v c) (btL es k.toNat) (btR es k.toNat) L
theorem a7w{hs:HS}{G:I2→Bool}{cs:Ck}{l:List Nd}{N:Nat}(V:LV hs G cs l N){i:Nat}(hi:i<cs.flatten.length):hasI hs (cs.flatten.getD i en0).id:=by
 obtain⟨o,hO,hf⟩:=V.ord;rw[hf]at hi ⊢;rw[List.length_map]at hi;rw[List.getD_eq_getElem?_getD,List.getElem?_map,List.getElem?_eq_getElem hi];exact hO.has.1 (List.getElem_mem hi)
theorem c2x{hs:HS}{G:I2→Bool}{cs:Ck}{l:List Nd}{N:Nat}(V:LV hs G cs l N){k:Int}(h0:0≤k)(h1:k≤(shn cs.flatten:Int)):(hasI hs (btL cs.flatten k.toNat)∨(btL cs.flatten k.toNat).1=0)∧(hasI hs (btR cs.flatten k.toNat)∨(btR cs.flatten k.toNat).1=0):=by
 constructor
 ·unfold btL
  split
  ·exact .inr rfl
  ·rename_i hk
   refine .inl (a7w V ?_);unfold btA;rw[if_neg hk,Nat.add_sub_cancel];have hm:(shp cs.flatten 0).getD (k.toNat-1) 0∈shp cs.flatten 0:=a1a (by rw[a6e];omega)
   have:=(a7O _ _ _ hm).2;omega
 ·unfold btR
  split
  ·rename_i h
   exact .inl (a7w V h)
  ·exact .inr rfl
def inI(c:Int)(v:CV)(g:List Sp)(w:List It)(hs:HS)(N:Nat)(text:ByteArray)(T:List It)(L:List Int)(left right:I2)(D:List IC)(n:Nat)(st:St):Prop:=∃(j pos f:Nat) (cs2:Ck) (l2:List Nd),n=text.size-pos∧j≤L.length∧pos≤text.size∧text.size-pos≤f∧a0W text f pos=some (L.drop j)∧LV (adsH hs (T.take j)) (hsB g) cs2 l2 (N+j) ∧
 st=⟨97,1,[(0,.c (.own 0 0)),(6,.c (.own 1 0)),(8,.c (.own 2 0)),(9,.c (.own 3 0)),(10,.c (.own 4 0)),(12,vci .u32 (nxt v c+j)),(63,.c (.own 5 0))],
  [some (.cells 79 D),some (.cells 77 [.v (.slice none 0 0),vi 0,vi 0,.v (.slice none 0 0),.v (.slice none 0 0),.v (.slice none 0 0),.v (.slice none 0 0)]),some (.cells 77 (stF cs2 l2 v w g)),some (.cells 59 (idF (b4M c (nxt v c) left j))),some (.cells 59 (idF right)),some (.iter text pos)]⟩
theorem b7f{hs:HS}{cs:Ck}{l:List Nd}{N:Nat}{v:CV}{w:List It}{g:List Sp}(V:LV hs (hsB g) cs l N)(hN:N≤15000)(W:VH v hs)(hv:v.length≤100000)(hg:g.length≤1000000)(c lim:Int)(hc:0<c)(hc2:c≤4294967295)(hl0:0≤lim)(hl:lim≤4294967294)(hnx:nxt v c≤4294967295)(ver:Int)(cd:Bool)(k:Int)(text:ByteArray)(ht:text.size≤1000) :
  a0f Tryz.prog 47 [.c (.own 0 0),vci .i64 k,vcs text] [some (.cells 79 (dcF c lim cs l v w g ver cd))] (fun r own'=>own'=[some (.cells 79 (dcF c lim cs l v w g ver cd))] ∧
   ((insE c lim v cs.flatten k text≠0∧r=.tup [.agg (stF cs l v w g),erC (insE c lim v cs.flatten k text)]) ∨
   (insE c lim v cs.flatten k text=0∧∃ L cs2 l2,a0E text=some L∧LV (adsH hs (insT c v cs.flatten k L)) (hsB g) cs2 l2 (N+L.length)∧r=.tup [.agg (stF cs2 l2 (setR v c (nxt v c+L.length)) w g),.c (.v .nilIface)]))):=by
 refine a0i Tryz.func47 rfl ttok ftok rfl rfl rfl (Nat.le_of_ble_eq_true rfl) rfl ?_
 conv=>whnf
 refine a0a (a7J text (by omega)) rfl ?_
 rintro _ rfl;cases hch:a0E text with
 | none =>
  conv=>whnf
  refine⟨_,Weak.refl _,?_⟩
  conv=>whnf
  refine⟨[some 0],rfl,rfl,rfl,.inl ?_⟩;rw[c2f hch];exact⟨by decide,rfl⟩
 | some L =>
 have hcl:=V.ck;have hsm:=V.sum;have hl2:=V.len;have hLs:=b3k hch
 conv=>whnf
 refine a0a (b5L cs l (by omega) (by omega) k) rfl ?_
 rintro _ rfl;unfold btV
 by_cases hk:k<0∨(shn cs.flatten:Int)<k
 ·rw[if_pos hk]
  conv=>whnf
  refine⟨_,Weak.refl _,?_⟩
  conv=>whnf
  refine⟨[some 0],rfl,rfl,rfl,.inl ?_⟩;rw[c2e hch hk];exact⟨by decide,rfl⟩
 rw[if_neg hk]
 conv=>whnf
 refine a0I 6 mixed (by kernel_rfl) ttok ftok ?_
 conv=>whnf
 refine a0a (a9r v (by omega) W.may.1 c) rfl ?_
 rintro _ rfl
 conv=>whnf
 refine a0a (b5B text (by omega)) rfl ?_
 rintro _ rfl;rw[b2w hch];have h0:=b0F W.may c
 conv=>whnf
 have hcmp:decide (IntKind.u64.wrap (IntKind.u64.wrap (nxt v c)+IntKind.u64.wrap (L.length:Int))>IntKind.u64.wrap (IntKind.u64.wrap lim+1))=decide (lim+1<nxt v c+L.length):=by
  rw[decide_eq_decide,a5H,a5H,a5H,a5H,a5H];omega
 rw[hcmp]
 by_cases h4:lim+1<nxt v c+L.length
 ·rw[decide_eq_true h4]
  conv=>whnf
  refine⟨_,Weak.refl _,?_⟩
  conv=>whnf
  refine⟨[some 0],rfl,rfl,rfl,.inl ?_⟩;rw[c2d hch hk h4];exact⟨by decide,rfl⟩
 rw[decide_eq_false h4];have hbt:=c2x V (k:=k) (by omega) (by omega)
 have hgood:=(a3r hch).2;obtain⟨hVH,hok⟩:=a8m c (btR cs.flatten k.toNat) hc L (nxt v c) (btL cs.flatten k.toNat) v hs W rfl hbt.1 hbt.2 (fun ch hc=>b7N (hgood ch hc)) (by omega)
 have hTl:(insT c v cs.flatten k L).length=L.length:=b1Y ..
 conv=>whnf
 refine a0B ttok ftok (inI c v g w hs N text (insT c v cs.flatten k L) L (btL cs.flatten k.toNat) (btR cs.flatten k.toNat) (dcF c lim cs l v w g ver cd)) (a0b [0,6,8,9,10,12,63] [some 0,some 1,some 2,some 3,some 4,some 5] rfl rfl) ⟨0,0,text.size,cs,l,rfl,Nat.zero_le _,Nat.zero_le _,by omega,by rw[List.drop_zero];exact hch,V,?_⟩ ?_
 ·rw[show nxt v c+((0:Nat):Int)=nxt v c by omega]
  rfl
 rintro n st ⟨j,pos,f,cs2,l2,rfl,hj,hpos,hf,hrest,V2,rfl⟩
 conv=>whnf
 by_cases hlt:pos<text.size
 ·obtain⟨u,nn,l',g2,hd,rfl,hdec,hfit,hn1,hv0,hval,hnext⟩:=a7z hf hrest hlt
  obtain⟨hjl,hgd,hdr⟩:=a9L (d:=0) hd;have hx:=b1Z c (btR cs.flatten k.toNat) L (nxt v c) (btL cs.flatten k.toNat) j hjl;have hokj:=hok j hjl;rw[hx,hgd]at hokj;obtain⟨m,rfl⟩:=Int.eq_ofNat_of_zero_le hv0;have hadd:=b1s V2 (by omega) v w g hg ⟨(c,nxt v c+j),b4M c (nxt v c) (btL cs.flatten k.toNat) j,btR cs.flatten k.toNat,(m:Int)⟩ hokj
  rw[decide_eq_true hlt,hdec]
  conv=>whnf
  refine a0m (.rd 0 (.rd 1 (.rd 2 (.rd 3 (.rd 4 (.rd 5 (.rd 6 (.rd 7 (.rd 8 (.rd 9 (.ef 10 (.ef 11 (.nil))))))))))))) [6] mixed (by kernel_rfl) ttok ftok ?_
  conv=>whnf
  refine a0c [some 2] rfl rfl rfl rfl hadd ?_;rintro r own2 ⟨rfl,cs3,l3,V3,rfl⟩;refine⟨_,_,rfl,rfl,?_⟩
  conv=>whnf
  have hTj:(insT c v cs.flatten k L).getD j it0=⟨(c,nxt v c+j),b4M c (nxt v c) (btL cs.flatten k.toNat) j,btR cs.flatten k.toNat,(m:Int)⟩:=hx.trans (by rw[hgd])
  have V4:LV (adsH hs ((insT c v cs.flatten k L).take (j+1))) (hsB g) cs3 l3 (N+(j+1)):=by
   rw[a4U hs _ (by rw[hTl];exact hjl),hTj]
   exact V3.congr (fun a _=>b3y a)
  have hw:IntKind.u32.wrap (nxt v c+(j:Int)+1)=nxt v c+((j+1:Nat):Int):=by rw[a4W];omega
  rw[hw];exact⟨text.size-(pos+nn),_,by omega,a0b [0,6,8,9,10,12,63] [some 0,some 1,some 2,some 3,some 4,some 5] rfl rfl,j+1,pos+nn,g2,cs3,l3,rfl,by omega,by omega,by omega,by rw[hdr];exact hnext,V4,rfl⟩
 ·have hnil:=a9T hrest hlt
  have hjl:j=L.length:=by
   have:=congrArg List.length hnil;rw[List.length_drop,List.length_nil]at this;omega
  subst hjl;rw[List.take_of_length_le (by omega)]at V2
  rw[decide_eq_false hlt]
  conv=>whnf
  refine a0I 7 mixed (by kernel_rfl) ttok ftok ?_
  conv=>whnf
  refine a0a (c1y v (by omega) W.may.1 c (nxt v c+L.length) (by omega) (by omega)) rfl ?_
  rintro _ rfl
  conv=>whnf
  refine⟨_,Weak.refl _,?_⟩
  conv=>whnf
  refine⟨[some 0],rfl,rfl,rfl,.inr ⟨b4N hch hk h4,L,cs2,l2,rfl,V2,rfl⟩⟩
theorem b2D{hs:HS}{cs:Ck}{l:List Nd}{N:Nat}{v:CV}{w:List It}{g:List Sp}(V:LV hs (hsB g) cs l N)(hN:N≤15000)(W:VH v hs)(hv:v.length≤100000)(hg:g.length≤1000000)(c lim:Int)(hc:0<c)(hc2:c≤4294967295)(hl0:0≤lim)(hl:lim≤4294967294)(hnx:nxt v c≤4294967295)(n:Nat)(hn:n≤1000)(k:Int)(text:ByteArray)(ht:text.size≤1000) :
  a0f Tryz.prog 22 [.c (.own 0 0),vci .i64 k,vcs text] [some (.cells 79 (dcF c lim cs l v w g (n:Int) false))] (fun r own' =>
   ((insE c lim v cs.flatten k text≠0∧own'=[some (.cells 79 (dcF c lim cs l v w g (n:Int) false))]∧r=.tup [vci .i64 0,fltA b0u (insE c lim v cs.flatten k text)]) ∨
   (insE c lim v cs.flatten k text=0∧∃ L cs2 l2,a0E text=some L∧LV (adsH hs (insT c v cs.flatten k L)) (hsB g) cs2 l2 (N+L.length) ∧
    own'=[some (.cells 79 (dcF c lim cs2 l2 (setR v c (nxt v c+L.length)) w g ((if L=[]then n else n+1:Nat):Int) false))]∧r=.tup [vci .i64 ((if L=[]then n else n+1:Nat):Int),.c (.v .nilIface)]))):=by
 refine a0i Tryz.func22 rfl ttok ftok rfl rfl rfl (Nat.le_of_ble_eq_true rfl) rfl ?_
 conv=>whnf
 refine a0c [some 0] rfl rfl rfl rfl (b7f V hN W hv hg c lim hc hc2 hl0 hl hnx (n:Int) false k text ht) ?_;rintro r own2 ⟨rfl,h⟩;generalize insE c lim v cs.flatten k text=e at h;rcases h with⟨he,rfl⟩|⟨he,L,cs2,l2,hch,V2,rfl⟩
 ·refine⟨_,_,rfl,rfl,?_⟩
  conv=>whnf
  refine a0c [some 0] rfl rfl rfl rfl (a8A c lim cs l v w g (n:Int) false b0u _ e cs l v w g) ?_;rintro r own2 ⟨rfl,rfl⟩;refine⟨_,_,rfl,rfl,?_⟩
  conv=>whnf
  refine⟨_,Weak.refl _,?_⟩
  conv=>whnf
  exact⟨[some 0],rfl,rfl,.inl ⟨he,rfl,rfl⟩⟩
 ·have hb:(if(!decide (text=(⟨#[]⟩:ByteArray)))=true then n+1 else n)=(if L=[]then n else n+1):=by
   by_cases h0:text=(⟨#[]⟩:ByteArray)
   ·subst h0
    cases hch;rfl
   ·rw[decide_eq_false h0,if_pos (show(!false)=true from rfl),if_neg (fun e=>h0 ?_)]
    subst e;have:=(a3r hch).1;rw[←this];rfl
  refine⟨_,_,rfl,rfl,?_⟩
  conv=>whnf
  refine a0c [some 0] rfl rfl rfl rfl (b5y c lim cs l v w g n hn false b0u _ cs2 l2 _ w g) ?_;rintro r own2 ⟨rfl,rfl⟩;refine⟨_,_,rfl,rfl,?_⟩
  conv=>whnf
  refine⟨_,Weak.refl _,?_⟩
  conv=>whnf
  refine⟨[some 0],rfl,rfl,.inr ⟨he,L,cs2,l2,hch,V2,?_⟩⟩;rw[←hb];exact⟨rfl,rfl⟩
theorem c4C(c lim:Int)(cs:Ck)(l:List Nd)(v:CV)(w:List It)(g:List Sp)(ver k:Int)(text:ByteArray) :
  a0f Tryz.prog 22 [.c (.own 0 0),vci .i64 k,vcs text] [some (.cells 79 (dcF c lim cs l v w g ver true))] (fun r own'=>own'=[some (.cells 79 (dcF c lim cs l v w g ver true))]∧r=.tup [vci .i64 0,fltA b0u 6]):=by
 refine a0i Tryz.func22 rfl ttok ftok rfl rfl rfl (Nat.le_of_ble_eq_true rfl) rfl ?_
 conv=>whnf
 refine a0a (b5o b0u 6) rfl ?_;rintro _ rfl
 conv=>whnf
 refine⟨_,Weak.refl _,?_⟩
 conv=>whnf
 exact⟨[some 0],rfl,rfl,rfl,rfl⟩
end Go.Eng
namespace Go.Eng
open Go Go.RowKit Go.Proofs
end Go.Eng
namespace Go.Eng
open Go Go.RowKit Go.Proofs
def spI(a:I2):Sp:=⟨a.1,a.2,a.2+1⟩
def spsI(l:List I2):List Sp:=l.map spI
theorem c4A{l:List I2}(h:∀ a,a∈l→a.1≠0)(a:I2):hasS (valid (spsI l)) a.1 a.2↔a∈l:=by
 constructor
 ·rintro⟨s,hs,h1,h2,h3⟩
  unfold valid spsI at hs;rw[List.mem_filter,List.mem_map]at hs;obtain⟨⟨b,hb,rfl⟩,_⟩:=hs;have e:b=a:=Prod.ext h1 (by have h2:b.2≤a.2:=h2;have h3:a.2<b.2+1:=h3;omega)
  rw[←e];exact hb
 ·intro ha
  refine⟨spI a,?_,rfl,Int.le_refl _,by show a.2<a.2+1;omega⟩
  unfold valid spsI;rw[List.mem_filter,List.mem_map,decide_eq_true_iff];exact⟨⟨a,ha,rfl⟩,h a ha,by show a.2<a.2+1;omega⟩
theorem c4J{g:List Sp}(hg:a1c g){l:List I2}(h:∀ a,a∈l→a.1≠0)(a:I2):hsB (setL (g++spsI l)) a=(hsB g a||decide (a∈l)):=by
 rw[Bool.eq_iff_iff,Bool.or_eq_true,a3X,a3X,decide_eq_true_iff,(a0U _).2,a1o,a1X hg,a0K,c4A h]
def hdI(v:CV)(w:List It)(g:List Sp)(hs:HS)(N:Nat)(l:List Nd)(ids:List I2)(n:Nat)(st:St):Prop:=∃(j:Nat) (cs2:Ck),n=ids.length-j∧j≤ids.length∧LV hs (fun a=>hsB g a||decide (a∈ids.take j)) cs2 l N ∧
 st=⟨53,1,[(0,.c (.own 0 0)),(5,.c (.row 1)),(10,c4z ids),(11,vci .i64 ids.length),(12,vci .i64 (j:Int))],[some (.cells 77 (stF cs2 l v w g)),some (.row 105 3 (spsI (ids.take j)).length (spR2 (spsI (ids.take j))))]⟩
theorem c4K{hs:HS}{cs:Ck}{l:List Nd}{N:Nat}{v:CV}{w:List It}{g:List Sp}(V:LV hs (hsB g) cs l N)(hN:N≤15000)(hg:a1c g)(hgl:g.length≤450000)(ids:List I2)(hil:ids.length≤400000)(hin:∀ a,a∈ids→hasI hs a)(hck:∀ a,a∈ids→0≤a.2∧a.2≤4294967294) :
  a0f Tryz.prog 56 [.c (.own 0 0),c4z ids] [some (.cells 77 (stF cs l v w g))] (fun r own'=>r=.c (.v .nilIface)∧∃ cs2,LV hs (hsB (setL (g++spsI ids))) cs2 l N∧own'=[some (.cells 77 (stF cs2 l v w (setL (g++spsI ids))))]):=by
 refine a0i Tryz.func56 rfl ttok ftok rfl rfl rfl (Nat.le_of_ble_eq_true rfl) rfl ?_
 conv=>whnf
 refine a0B ttok ftok (hdI v w g hs N l ids) ((a0M 5 105 3 (spR2 []) rfl).trans (a0b [0,5,10,11,12] [some 0,some 1] rfl rfl)) ⟨0,cs,rfl,Nat.zero_le _,V.congr (fun a _=>by simp),rfl⟩ ?_
 rintro n st ⟨j,cs2,rfl,hj,V2,rfl⟩;have e1:=e64 (k:=j) (by omega)
 conv=>whnf
 refine a0d (fun h=>?_) (fun h=>?_)
 ·have h:=of_decide_eq_true h
  have hjl:j<ids.length:=by omega
  have ham:ids.getD j (0,0)∈ids:=a1a hjl
  conv=>whnf
  refine⟨⟨by omega,by omega⟩,?_⟩
  conv=>whnf
  rw[a0k];have hia:=hin _ ham;have hca:=hck _ ham;generalize hga:ids.getD j (0,0)=a at ham hia hca;have hdl:=b4E V2 (by omega) a
  have hmem:∀ b,b∈ids.take (j+1)↔b∈ids.take j∨b=a:=fun b=>by
   have e:ids.take (j+1)=ids.take j++[a]:=by
    rw[←hga,List.getD_eq_getElem?_getD,List.getElem?_eq_getElem hjl];exact(List.take_append_getElem hjl).symm
   rw[e,List.mem_append,List.mem_singleton]
  have hsp:spsI (ids.take (j+1))=spsI (ids.take j)++[spI a]:=by
   have e:ids.take (j+1)=ids.take j++[a]:=by
    rw[←hga,List.getD_eq_getElem?_getD,List.getElem?_eq_getElem hjl];exact(List.take_append_getElem hjl).symm
   unfold spsI;rw[e,List.map_append,List.map_singleton]
  have hsl:(spsI (ids.take j)).length=j:=by unfold spsI;rw[List.length_map,List.length_take];omega
  have hw:IntKind.u32.wrap (a.2+1)=a.2+1:=by rw[a4W];omega
  refine a0m (.rd 0 (.rd 1 (.rd 2 (.rd 3 (.rd 4 (.alt (.ef 5 (.rd 6 (.rd 7 (.rd 8 (.ef 9 (.ef 10 (.rd 11 (.nil)))))))) (.ef 9 (.ef 5 (.rd 6 (.rd 7 (.rd 8 (.ef 10 (.rd 11 (.nil)))))))))))))) [3] mixed (by kernel_rfl) ttok ftok ?_
  conv=>whnf
  refine⟨?_,?_⟩
  ·conv=>whnf
   refine a0a hdl rfl ?_;rintro _ (⟨_,cs3,V3,rfl⟩|⟨hno,_⟩);rotate_left
   ·exact absurd hia hno
   have V4:LV hs (fun b=>hsB g b||decide (b∈ids.take (j+1))) cs3 l N:=V3.congr (fun b _=>by
    unfold updG;rw[Bool.eq_iff_iff,Bool.or_eq_true,decide_eq_true_iff,hmem b]
    by_cases e:b=a
    ·rw[if_pos e];simp[e]
    ·rw[if_neg e,Bool.or_eq_true,decide_eq_true_iff]
     simp[e])
   conv=>whnf
   rw[hw];refine⟨fun _=>spF (spI a),fun q hq=>?_,?_⟩
   ·obtain rfl:q=0:=by omega
    rfl
   conv=>whnf
   refine⟨⟨by omega,by show((spsI (ids.take j)).length+1)*12≤_;omega⟩,?_⟩
   conv=>whnf
   refine app1 (enc:=spF) (d:=sp0) (l:=spsI (ids.take j)) (spI a) (fun k hk=>rfl) rfl ?_
   conv=>whnf
   rw[e1];refine⟨ids.length-(j+1),_,by omega,a0b [0,5,10,11,12] [some 0,some 5] rfl rfl,j+1,cs3,rfl,by omega,V4,?_⟩
   rw[hsp];rfl
  ·conv=>whnf
   refine a0a hdl rfl ?_;rintro _ (⟨_,cs3,V3,rfl⟩|⟨hno,_⟩);rotate_left
   ·exact absurd hia hno
   have V4:LV hs (fun b=>hsB g b||decide (b∈ids.take (j+1))) cs3 l N:=V3.congr (fun b _=>by
    unfold updG;rw[Bool.eq_iff_iff,Bool.or_eq_true,decide_eq_true_iff,hmem b]
    by_cases e:b=a
    ·rw[if_pos e];simp[e]
    ·rw[if_neg e,Bool.or_eq_true,decide_eq_true_iff]
     simp[e])
   conv=>whnf
   rw[hw];refine⟨fun _=>spF (spI a),fun q hq=>?_,?_⟩
   ·obtain rfl:q=0:=by omega
    rfl
   conv=>whnf
   refine⟨⟨by omega,by show((spsI (ids.take j)).length+1)*12≤_;omega⟩,?_⟩
   conv=>whnf
   refine app1 (enc:=spF) (d:=sp0) (l:=spsI (ids.take j)) (spI a) (fun k hk=>rfl) rfl ?_
   conv=>whnf
   rw[e1];refine⟨ids.length-(j+1),_,by omega,a0b [0,5,10,11,12] [some 0,some 5] rfl rfl,j+1,cs3,rfl,by omega,V4,?_⟩
   rw[hsp];rfl
 ·have h:=of_decide_eq_false h
  obtain rfl:j=ids.length:=by omega
  rw[List.take_length]at V2;rw[List.take_length];have hsl:(spsI ids).length=ids.length:=by unfold spsI;rw[List.length_map]
  have V3:LV hs (hsB (setL (g++spsI ids))) cs2 l N:=V2.congr (fun a _=>by rw[c4J hg (fun b hb=>a1D V.L.ok (hin b hb))])
  conv=>whnf
  refine⟨fun _ _=>rfl,?_⟩
  conv=>whnf
  refine a0a (c1Y g (spsI ids) (by omega) (by omega)) rfl ?_
  rintro _ ⟨o,ho,rfl⟩;have hoe:=b9v ho;subst hoe
  conv=>whnf
  refine⟨_,Weak.refl _,?_⟩
  conv=>whnf
  exact⟨[some 0],rfl,rfl,rfl,cs2,V3,rfl⟩
theorem c4y{hs:HS}{G:I2→Bool}{cs:Ck}{l:List Nd}{N:Nat}(V:LV hs G cs l N){k m:Int}(h:¬c4j cs.flatten k m):∀ a,a∈idsL cs.flatten k.toNat m.toNat→hasI hs a:=by
 intro a ha;unfold idsL at ha;rw[List.mem_map]at ha;obtain⟨i,hi,rfl⟩:=ha;rw[List.mem_range]at hi;refine a7w V ?_;have hm:(shp cs.flatten 0).getD (k.toNat+i) 0∈shp cs.flatten 0:=a1a (by rw[a6e];unfold c4j at h;omega)
 have:=(a7O _ _ _ hm).2;omega
theorem c4r{es:List En}{k m:Int}(h:¬c4j es k m):(idsL es k.toNat m.toNat).length≤es.length:=by
 rw[c4q];have:=b0o es;unfold c4j at h;omega
theorem c4E{hs:HS}{cs:Ck}{l:List Nd}{N:Nat}{v:CV}{w:List It}{g:List Sp}(V:LV hs (hsB g) cs l N)(hN:N≤15000)(W:VH v hs)(hnx:∀ c,nxt v c≤4294967295)(hg:a1c g)(hgl:g.length≤450000)(c lim:Int)(n:Nat)(hn:n≤1000)(k m:Int) :
  a0f Tryz.prog 26 [.c (.own 0 0),vci .i64 k,vci .i64 m] [some (.cells 79 (dcF c lim cs l v w g (n:Int) false))] (fun r own' =>
   ((c4j cs.flatten k m∧own'=[some (.cells 79 (dcF c lim cs l v w g (n:Int) false))]∧r=.tup [vci .i64 0,fltA c4i 3]) ∨
   (¬c4j cs.flatten k m∧∃ cs2,LV hs (hsB (setL (g++spsI (idsL cs.flatten k.toNat m.toNat)))) cs2 l N ∧
    own'=[some (.cells 79 (dcF c lim cs2 l v w (setL (g++spsI (idsL cs.flatten k.toNat m.toNat))) ((if 0<m then n+1 else n:Nat):Int) false))]∧r=.tup [vci .i64 ((if 0<m then n+1 else n:Nat):Int),.c (.v .nilIface)]))):=by
 have hcl:=V.ck;have hsm:=V.sum;have hl2:=V.len;have hfl:cs.flatten.length=sumL cs:=rfl;refine a0i Tryz.func26 rfl ttok ftok rfl rfl rfl (Nat.le_of_ble_eq_true rfl) rfl ?_
 conv=>whnf
 refine a0a (c4x cs l (by omega) (by omega) k m) rfl ?_
 rintro _ rfl
 by_cases hp:c4j cs.flatten k m
 ·rw[if_pos hp]
  conv=>whnf
  refine a0c [some 0] rfl rfl rfl rfl (a8A c lim cs l v w g (n:Int) false c4i _ 3 cs l v w g) ?_;rintro r own2 ⟨rfl,rfl⟩;refine⟨_,_,rfl,rfl,?_⟩
  conv=>whnf
  refine⟨_,Weak.refl _,?_⟩
  conv=>whnf
  exact⟨[some 0],rfl,rfl,.inl ⟨hp,rfl,rfl⟩⟩
 ·rw[if_neg hp]
  have hin:=c4y V hp;have hfew:=c4r hp;have hb:(if(decide (m>0))=true then n+1 else n)=(if 0<m then n+1 else n):=by
   by_cases h0:0<m
   ·rw[decide_eq_true (by omega:m>0),if_pos h0,if_pos rfl]
   ·rw[decide_eq_false (by omega:¬m>0),if_neg h0];rfl
  conv=>whnf
  refine a0c [some 1] rfl rfl rfl rfl (c4K V hN hg hgl (idsL cs.flatten k.toNat m.toNat) (by omega) hin (fun a ha=>by
   have h1:=(W.cov a).1 (hin a ha);have h2:=hnx a.1
   omega)) ?_
  rintro r own2 ⟨rfl,cs2,V2,rfl⟩;refine⟨_,_,rfl,rfl,?_⟩
  conv=>whnf
  refine a0c [some 0] rfl rfl rfl rfl (b5y c lim cs l v w g n hn false c4i _ cs2 l v w (setL (g++spsI (idsL cs.flatten k.toNat m.toNat)))) ?_;rintro r own2 ⟨rfl,rfl⟩;refine⟨_,_,rfl,rfl,?_⟩
  conv=>whnf
  refine⟨_,Weak.refl _,?_⟩
  conv=>whnf
  refine⟨[some 0],rfl,rfl,.inr ⟨hp,cs2,V2,?_⟩⟩;rw[←hb];exact⟨rfl,rfl⟩
end Go.Eng
namespace Go.Eng
open Go Go.RowKit Go.Proofs
end Go.Eng
namespace Go.Eng
open Go Go.RowKit Go.Proofs
theorem b2k(l:List Nat){st:St}{J:St→Prop}(hp:frzL l st fun st1=>∃ st2,Weak st1 st2∧J st2):∃ st2,Weak st st2∧J st2:=by
 obtain⟨st1,h1,st2,h2,h3⟩:=b5c l hp;exact⟨st2,h1.trans h2,h3⟩
theorem b1N{hs:HS}{l:List Nd}(L:LSt hs l)(cs:Ck)(a:I2):a0f Tryz.prog 33 [liA cs l,idA a] [] (fun r own'=>own'=[]∧((∃ x,itOf hs a=some x∧r=.tup [.agg (itF x),vcb true])∨(itOf hs a=none∧r=.tup [.agg (itF it0),vcb false]))):=by
 refine(b9B L cs a).mono ?_;rintro r own2 ⟨h1,⟨⟨x,g⟩,hp,rfl,hr⟩|⟨hno,hr⟩⟩
 ·exact⟨h1,.inl ⟨x,b9I L.ok hp,hr⟩⟩
 ·refine⟨h1,.inr ⟨?_,hr⟩⟩
  cases h:itOf hs a with
  | none=>rfl
  | some y =>
   obtain⟨e,g,hm⟩:=a2z h;exact absurd ⟨_,hm,e⟩ hno
theorem b0S{w:List It}{p:It→Bool}{k:Nat}(hk:k<w.length)(h:p (w.getD k it0)=true)(hj:∀ j,j<k→p (w.getD j it0)=false):w.find? p=some (w.getD k it0):=by
 rw[List.find?_eq_some_iff_getElem];refine⟨h,k,hk,?_,fun j hj2=>?_⟩
 ·rw[List.getD_eq_getElem?_getD,List.getElem?_eq_getElem hk];rfl
 ·have:=hj j hj2
  rw[List.getD_eq_getElem?_getD,List.getElem?_eq_getElem (by omega)]at this
  simpa using this
theorem b7q{w:List It}{p:It→Bool}(hj:∀ j,j<w.length→p (w.getD j it0)=false):w.find? p=none:=by
 rw[List.find?_eq_none];intro x hx;obtain⟨j,h1,rfl⟩:=a2j (d:=it0) hx;rw[hj j h1];decide
theorem b7o(i x:It):a0f Tryz.prog 130 [.agg (itF x),.c (.own 0 0)] [some (.cells 61 (itF i))] (fun r own'=>r=vcb (x.id==i.id)∧own'=[some (.cells 61 (itF i))]):=by
 have e:(x.id==i.id)=(x.id.1==i.id.1&&(x.id.2==i.id.2&&true)):=by
  rw[Bool.and_true,Bool.eq_iff_iff,Bool.and_eq_true,beq_iff_eq,beq_iff_eq,beq_iff_eq];exact⟨fun h=>by rw[h];exact⟨rfl,rfl⟩,fun h=>Prod.ext h.1 h.2⟩
 refine a0i Tryz.func130 rfl ttok ftok rfl rfl rfl (Nat.le_of_ble_eq_true rfl) rfl ?_
 conv=>whnf
 refine⟨_,Weak.refl _,?_⟩
 conv=>whnf
 refine⟨[some 0],rfl,rfl,?_,rfl⟩;rw[e];rfl
def c2c(O:List (Option Ob))(l:List It)(p:It→Bool)(caps:List (Bool × List IC))(n:Nat)(st:St):Prop:=∃ k:Nat,n=l.length-k∧k≤l.length∧(∀ j,j<k→p (l.getD j it0)=false) ∧
 st=⟨19,O.length,[(0,.c (.sl 7 l.length fun k=>itF (l.getD k it0))),(1,.c (.fn 130 caps)),(7,vci .i64 l.length),(8,vci .i64 (k:Int))],O⟩
theorem c3T(O:List (Option Ob))(l:List It)(hl:l.length≤1000000000)(caps:List (Bool × List IC))(p:It→Bool)
  (hp:∀ k,k<l.length→a0f Tryz.prog 130 (.agg (itF (l.getD k it0))::a2f caps) O (fun r own'=>r=vcb (p (l.getD k it0))∧own'=O)) :
  a0f Tryz.prog 129 [.c (.sl 7 l.length fun k=>itF (l.getD k it0)),.c (.fn 130 caps)] O (fun r own'=>(∃ k:Nat,k<l.length∧p (l.getD k it0)=true∧(∀ j,j<k→p (l.getD j it0)=false)∧r=vci .i64 k∧own'=O) ∨
   ((∀ j,j<l.length→p (l.getD j it0)=false)∧r=vci .i64 (-1)∧own'=O)):=by
 refine a1C Tryz.func129 rfl ttok ftok rfl rfl rfl (Nat.le_of_ble_eq_true rfl) ?_
 conv=>whnf
 refine a0B ttok ftok (c2c O l p caps) (a0F [0,1,7,8] rfl) ⟨0,rfl,Nat.zero_le _,fun j hj=>by omega,rfl⟩ ?_
 rintro n st ⟨k,rfl,hk,hj,rfl⟩
 conv=>whnf
 refine a0d (fun h=>?_) (fun h=>?_)
 ·have h:=of_decide_eq_true h
  have hkl:k<l.length:=by omega
  conv=>whnf
  rw[a0q]
  conv=>whnf
  refine⟨⟨by omega,by omega⟩,?_⟩
  conv=>whnf
  refine(hp k hkl).mono ?_;rintro r own2 ⟨rfl,rfl⟩
  conv=>whnf
  cases hpk:p (l.getD k it0)with
  | true =>
   conv=>whnf
   refine⟨_,Weak.refl _,?_⟩
   conv=>whnf
   exact .inl ⟨k,hkl,hpk,hj,rfl,rfl⟩
  | false =>
   conv=>whnf
   refine⟨l.length-(k+1),_,by omega,a0F [0,1,7,8] rfl,k+1,rfl,by omega,fun j hj2=>?_,?_⟩
   ·rcases Nat.lt_succ_iff_lt_or_eq.1 hj2 with h2 | rfl
    ·exact hj j h2
    ·exact hpk
   rw[show(((k+1:Nat)):Int)=IntKind.i64.wrap ((k:Int)+1)from by rw[a0s (by omega) (by omega)];omega]
   all_goals rfl
 ·have h:=of_decide_eq_false h
  conv=>whnf
  refine⟨_,Weak.refl _,?_⟩
  conv=>whnf
  exact .inr ⟨fun j hj2=>hj j (by omega),rfl,rfl⟩
def ixV(w:List It)(a:I2)(r:AV):Prop:=(∃ k:Nat,k<w.length∧w.find? (fun x=>x.id==a)=some (w.getD k it0)∧r=vci .i64 k)∨(w.find? (fun x=>x.id==a)=none∧r=vci .i64 (-1))
theorem c1Z(w:List It)(hw:w.length≤1000000)(i:It):a0f Tryz.prog 129 [itS w,.c (.fn 130 [(false,[.own 0 0])])] [some (.cells 61 (itF i))] (fun r own'=>ixV w i.id r∧own'=[some (.cells 61 (itF i))]):=by
 refine(c3T [some (.cells 61 (itF i))] w (by omega) [(false,[.own 0 0])] (fun x=>x.id==i.id) (fun k hk=>(b7o i (w.getD k it0)).mono (fun r o h=>h))).mono ?_
 rintro r own2 (⟨k,hk,h1,h2,rfl,rfl⟩|⟨h1,rfl,rfl⟩)
 ·exact⟨.inl ⟨k,hk,b0S hk h1 h2,rfl⟩,rfl⟩
 ·exact⟨.inr ⟨b7q h1,rfl⟩,rfl⟩
theorem b1W(x i:It):(x.id.1==i.id.1&&(x.id.2==i.id.2&&true)&&(x.left.1==i.left.1&&(x.left.2==i.left.2&&true)&&(x.right.1==i.right.1&&(x.right.2==i.right.2&&true)&&(x.ch==i.ch&&true))))=decide (x=i):=by
 rw[Bool.eq_iff_iff,decide_eq_true_iff];simp only[Bool.and_true,Bool.and_eq_true,beq_iff_eq];exact⟨fun⟨⟨h1,h2⟩,⟨h3,h4⟩,⟨h5,h6⟩,h7⟩=>c2b h1 h2 h3 h4 h5 h6 h7,fun h=>by rw[h];simp⟩
theorem b2l{kn:I2→Option It}{c:Int}{i y:It}{r acc:List It}(h:kn i.id=some y):freG kn c (i::r) acc=if y=i then freG kn c r acc else none:=by
 conv=>lhs;unfold freG
 rw[h]
theorem b8e{kn:I2→Option It}{c:Int}{i:It}{r acc:List It}(h:kn i.id=none):freG kn c (i::r) acc=if i.id.1=c then none else freG kn c r (acc++[i]):=by
 conv=>lhs;unfold freG
 rw[h]
theorem c1X{hs:HS}{w:List It}{a:I2}{y:It}(h:itOf hs a=some y):knO hs w a=some y:=by unfold knO;rw[h]
theorem c1W{hs:HS}{w:List It}{a:I2}(h:itOf hs a=none):knO hs w a=w.find? (fun x=>x.id==a):=by unfold knO;rw[h]
def frI(D:List IC)(B:List IC)(hs:HS)(w:List It)(c:Int)(L:List It)(T:Option (List It))(n:Nat)(st:St):Prop:=∃(j:Nat) (out:List It),n=L.length-j∧j≤L.length∧out.length≤j∧freG (knO hs w) c (L.drop j) out=T ∧
 st=⟨78,1,[(0,.c (.own 0 0)),(6,.c (.row 2)),(14,itS L),(15,vci .i64 L.length),(16,vci .i64 (j:Int))],[some (.cells 79 D),some (.cells 51 B),some (.row 61 7 out.length (itR out))]⟩
def frV(T:Option (List It)):AV:=match T with
 | some out=>.tup [itS out,vcb true]
 | none=>.tup [.c (.v (.slice none 0 0)),vcb false]
theorem b9W{hs:HS}{l:List Nd}(S:LSt hs l)(cs:Ck)(v:CV)(w:List It)(g:List Sp)(hw:w.length≤1000000)(c lim ver:Int)(cd:Bool)(x:Ba)(hr:x.runs.length≤100000)(hok:∀ r,r∈x.runs→ruOk r∧(a0E r.text).isSome=true)(hlen:(a0p x.runs).length≤1000000) :
  a0f Tryz.prog 82 [.c (.own 0 0),.agg (baF x)] [some (.cells 79 (dcF c lim cs l v w g ver cd))] (fun r own'=>own'=[some (.cells 79 (dcF c lim cs l v w g ver cd))]∧r=frV (freG (knO hs w) c (a0p x.runs) [])):=by
 obtain⟨T,hT⟩:∃ T,freG (knO hs w) c (a0p x.runs) []=T:=⟨_,rfl⟩;rw[hT];refine a0i Tryz.func82 rfl ttok ftok rfl rfl rfl (Nat.le_of_ble_eq_true rfl) rfl ?_
 conv=>whnf
 refine a0a (b4J x.runs hr hok) rfl ?_;rintro _ rfl;obtain⟨L,hL⟩:∃ L,a0p x.runs=L:=⟨_,rfl⟩;rw[hL]at hT hlen ⊢
 conv=>whnf
 refine a0B ttok ftok (frI (dcF c lim cs l v w g ver cd) (baF x) hs w c L T) ((a0M 6 61 7 (itR []) rfl).trans (a0b [0,6,14,15,16] [some 0,some 1,some 2] rfl rfl)) ⟨0,[],rfl,Nat.zero_le _,Nat.le_refl _,hT,rfl⟩ ?_;rintro n st ⟨j,out,rfl,hj,ho,hF,rfl⟩;have e1:=e64 (k:=j) (by omega)
 conv=>whnf
 refine a0d (fun h=>?_) (fun h=>?_)
 ·have h:=of_decide_eq_true h
  have hjl:j<L.length:=by omega
  have hd:=a2B (d:=it0) hjl;rw[hd]at hF
  conv=>whnf
  refine⟨⟨by omega,by omega⟩,?_⟩
  conv=>whnf
  rw[a0k];generalize L.getD j it0=i at hF;have hli:=b1N S cs i.id;refine a0m (.rd 0 (.rd 1 (.rd 2 (.rd 3 (.rd 4 (.rd 5 (.rd 6 (.alt (.ef 7 (.rd 8 (.rd 9 (.rd 10 (.ef 11 (.ef 12 (.rd 13 (.nil)))))))) (.ef 11 (.ef 7 (.rd 8 (.rd 9 (.rd 10 (.ef 12 (.rd 13 (.nil)))))))))))))))) [4] mixed (by kernel_rfl) ttok ftok ?_
  conv=>whnf
  refine⟨?_,?_⟩
  ·conv=>whnf
   refine a0a hli rfl ?_;rintro _ (⟨y,hy,rfl⟩|⟨hy,rfl⟩)
   ·rw[b2l (c1X hy)]at hF
    conv=>whnf
    rw[b1W y i]
    by_cases e:y=i
    ·rw[decide_eq_true e]
     rw[if_pos e]at hF
     conv=>whnf
     refine a0w mixed (by kernel_rfl) ttok ftok ?_
     conv=>whnf
     rw[e1];exact⟨L.length-(j+1),_,by omega,a0b [0,6,14,15,16] [some 0,some 1,some 2] rfl rfl,j+1,out,rfl,by omega,by omega,hF,rfl⟩
    ·rw[decide_eq_false e]
     rw[if_neg e]at hF;subst hF
     conv=>whnf
     refine⟨_,Weak.refl _,?_⟩
     conv=>whnf
     exact⟨[some 0],rfl,rfl,rfl,rfl⟩
   ·have hkn:=c1W (w:=w) hy
    conv=>whnf
    refine a0c [some 3] rfl rfl rfl rfl (c1Z w hw i) ?_;rintro r own2 ⟨⟨k,hk,hf,rfl⟩|⟨hf,rfl⟩,rfl⟩
    ·rw[hf]at hkn
     rw[b2l hkn]at hF;refine⟨_,_,rfl,rfl,?_⟩
     conv=>whnf
     rw[decide_eq_true (by omega:(k:Int)≥0)]
     conv=>whnf
     refine⟨⟨by omega,by omega⟩,?_⟩
     conv=>whnf
     rw[a0k];generalize w.getD k it0=y at hF;rw[b1W y i]
     by_cases e:y=i
     ·rw[decide_eq_true e]
      rw[if_pos e]at hF
      conv=>whnf
      refine a0w mixed (by kernel_rfl) ttok ftok ?_
      conv=>whnf
      rw[e1];exact⟨L.length-(j+1),_,by omega,a0b [0,6,14,15,16] [some 0,some 1,some 2] rfl rfl,j+1,out,rfl,by omega,by omega,hF,rfl⟩
     ·rw[decide_eq_false e]
      rw[if_neg e]at hF;subst hF
      conv=>whnf
      refine⟨_,Weak.refl _,?_⟩
      conv=>whnf
      exact⟨[some 0],rfl,rfl,rfl,rfl⟩
    ·rw[hf]at hkn
     rw[b8e hkn]at hF;refine⟨_,_,rfl,rfl,?_⟩
     conv=>whnf
     refine a0w mixed (by kernel_rfl) ttok ftok ?_
     conv=>whnf
     by_cases e:i.id.1=c
     ·rw[beq_iff_eq.2 e]
      rw[if_pos e]at hF;subst hF
      conv=>whnf
      refine⟨_,Weak.refl _,?_⟩
      conv=>whnf
      exact⟨[some 0],rfl,rfl,rfl,rfl⟩
     ·rw[beq_eq_false_iff_ne.2 e]
      rw[if_neg e]at hF
      conv=>whnf
      refine⟨fun _=>itF i,fun q hq=>?_,?_⟩
      ·obtain rfl:q=0:=by omega
       rfl
      conv=>whnf
      refine⟨⟨by omega,by show(out.length+1)*28≤_;omega⟩,?_⟩
      conv=>whnf
      refine app1 (enc:=itF) (d:=it0) (l:=out) i (fun k hk=>rfl) rfl ?_
      conv=>whnf
      rw[e1];exact⟨L.length-(j+1),_,by omega,a0b [0,6,14,15,16] [some 0,some 1,some 6] rfl rfl,j+1,out++[i],rfl,by omega,by rw[List.length_append,List.length_singleton];omega,hF,rfl⟩
  ·conv=>whnf
   refine a0a hli rfl ?_;rintro _ (⟨y,hy,rfl⟩|⟨hy,rfl⟩)
   ·rw[b2l (c1X hy)]at hF
    conv=>whnf
    rw[b1W y i]
    by_cases e:y=i
    ·rw[decide_eq_true e]
     rw[if_pos e]at hF
     conv=>whnf
     refine a0w mixed (by kernel_rfl) ttok ftok ?_
     conv=>whnf
     rw[e1];exact⟨L.length-(j+1),_,by omega,a0b [0,6,14,15,16] [some 0,some 1,some 2] rfl rfl,j+1,out,rfl,by omega,by omega,hF,rfl⟩
    ·rw[decide_eq_false e]
     rw[if_neg e]at hF;subst hF
     conv=>whnf
     refine⟨_,Weak.refl _,?_⟩
     conv=>whnf
     exact⟨[some 0],rfl,rfl,rfl,rfl⟩
   ·have hkn:=c1W (w:=w) hy
    conv=>whnf
    refine a0c [some 3] rfl rfl rfl rfl (c1Z w hw i) ?_;rintro r own2 ⟨⟨k,hk,hf,rfl⟩|⟨hf,rfl⟩,rfl⟩
    ·rw[hf]at hkn
     rw[b2l hkn]at hF;refine⟨_,_,rfl,rfl,?_⟩
     conv=>whnf
     rw[decide_eq_true (by omega:(k:Int)≥0)]
     conv=>whnf
     refine⟨⟨by omega,by omega⟩,?_⟩
     conv=>whnf
     rw[a0k];generalize w.getD k it0=y at hF;rw[b1W y i]
     by_cases e:y=i
     ·rw[decide_eq_true e]
      rw[if_pos e]at hF
      conv=>whnf
      refine a0w mixed (by kernel_rfl) ttok ftok ?_
      conv=>whnf
      rw[e1];exact⟨L.length-(j+1),_,by omega,a0b [0,6,14,15,16] [some 0,some 1,some 2] rfl rfl,j+1,out,rfl,by omega,by omega,hF,rfl⟩
     ·rw[decide_eq_false e]
      rw[if_neg e]at hF;subst hF
      conv=>whnf
      refine⟨_,Weak.refl _,?_⟩
      conv=>whnf
      exact⟨[some 0],rfl,rfl,rfl,rfl⟩
    ·rw[hf]at hkn
     rw[b8e hkn]at hF;refine⟨_,_,rfl,rfl,?_⟩
     conv=>whnf
     refine a0w mixed (by kernel_rfl) ttok ftok ?_
     conv=>whnf
     by_cases e:i.id.1=c
     ·rw[beq_iff_eq.2 e]
      rw[if_pos e]at hF;subst hF
      conv=>whnf
      refine⟨_,Weak.refl _,?_⟩
      conv=>whnf
      exact⟨[some 0],rfl,rfl,rfl,rfl⟩
     ·rw[beq_eq_false_iff_ne.2 e]
      rw[if_neg e]at hF
      conv=>whnf
      refine⟨fun _=>itF i,fun q hq=>?_,?_⟩
      ·obtain rfl:q=0:=by omega
       rfl
      conv=>whnf
      refine⟨⟨by omega,by show(out.length+1)*28≤_;omega⟩,?_⟩
      conv=>whnf
      refine app1 (enc:=itF) (d:=it0) (l:=out) i (fun k hk=>rfl) rfl ?_
      conv=>whnf
      rw[e1];exact⟨L.length-(j+1),_,by omega,a0b [0,6,14,15,16] [some 0,some 1,some 6] rfl rfl,j+1,out++[i],rfl,by omega,by rw[List.length_append,List.length_singleton];omega,hF,rfl⟩
 ·have h:=of_decide_eq_false h
  obtain rfl:j=L.length:=by omega
  rw[List.drop_length]at hF;have hF:some out=T:=hF;subst hF
  conv=>whnf
  refine b2k [2] ?_;refine⟨fun _ _=>rfl,?_⟩;refine⟨_,Weak.refl _,?_⟩
  conv=>whnf
  exact⟨[some 0],rfl,rfl,rfl,rfl⟩
end Go.Eng
namespace Go.Eng
open Go Go.RowKit Go.Proofs
end Go.Eng
namespace Go.Eng
open Go Go.RowKit Go.Proofs
theorem b9T(n:Nat)(hn:n≤500000):a0f Tryz.prog 138 [nilS,vci .i64 (n:Int)] [] (fun r own'=>r=.c (.row 0)∧own'=[some (.row 61 7 0 (itR []))]):=by
 have h1:(Tryz.prog.info? 61).map (fun i=>(i.size,i.bytes,i.zero))=some (7,28,some (.agg #[.int .u32 0,.int .u32 0,.int .u32 0,.int .u32 0,.int .u32 0,.int .u32 0,.int .i32 0])):=by kernel_rfl
 obtain⟨i0,h2,h3⟩:=Option.map_eq_some_iff.1 h1;have e1:i0.size=7:=(Prod.mk.inj h3).1;have e2:i0.bytes=28:=(Prod.mk.inj (Prod.mk.inj h3).2).1;have e3:i0.zero=some (.agg #[.int .u32 0,.int .u32 0,.int .u32 0,.int .u32 0,.int .u32 0,.int .u32 0,.int .i32 0]):=(Prod.mk.inj (Prod.mk.inj h3).2).2;have h:=a4N Tryz.growItem i0 _ h2 e3 (by omega) (by rw[e1];rfl) n (by rw[e2];omega) (by omega) (itR [])
 rw[e1]at h;exact h
abbrev twoI(a b:List It):Nat→List IC:=fun k=>[[IC.sl 7 a.length (itR a)],[IC.sl 7 b.length (itR b)]].getD k []
theorem a6I(a b:List It)(ha:a.length≤200000)(hb:b.length≤200000):a0f Tryz.prog 86 [.c (.sl 1 2 (twoI a b))] [] (fun r own'=>own'=[]∧r=itS (a++b)):=by
 refine a0e Tryz.func86 rfl ttok ftok rfl rfl rfl (Nat.le_of_ble_eq_true rfl) ?_
 conv=>whnf
 refine a0N 3 ttok ftok ?_
 conv=>whnf
 refine⟨⟨by omega,by omega⟩,?_⟩
 conv=>whnf
 rw[show IntKind.i64.wrap (0+(a.length:Int))=((a.length:Nat):Int)from by rw[a0s (by omega) (by omega)];omega]
 conv=>whnf
 rw[show IntKind.i64.wrap (0+1)=(1:Int)from rfl];refine⟨⟨by omega,by omega⟩,?_⟩
 conv=>whnf
 rw[show IntKind.i64.wrap ((a.length:Int)+(b.length:Int))=((a.length+b.length:Nat):Int)from by rw[a0s (by omega) (by omega)];omega]
 conv=>whnf
 refine a0c [] rfl rfl rfl rfl (b9T (a.length+b.length) (by omega)) ?_
 rintro r own2 ⟨rfl,rfl⟩;refine⟨.c (.row 0),[some (.row 61 7 0 (itR []))],rfl,rfl,?_⟩
 conv=>whnf
 refine a0N 3 ttok ftok ?_
 conv=>whnf
 refine⟨⟨by omega,by omega⟩,?_⟩
 conv=>whnf
 refine⟨⟨by omega,by show(0+a.length)*28≤_;omega⟩,?_⟩
 conv=>whnf
 refine⟨a.length,itR a,by omega,fun k hk=>by omega,fun k hk=>by rw[Nat.zero_add],?_⟩
 conv=>whnf
 rw[show IntKind.i64.wrap (0+1)=(1:Int)from rfl];refine⟨⟨by omega,by omega⟩,?_⟩
 conv=>whnf
 refine⟨⟨by omega,by show(a.length+b.length)*28≤_;omega⟩,?_⟩
 conv=>whnf
 refine appL (enc:=itF) (d:=it0) (l:=a) (b:=b) (fun k hk=>rfl) (fun k hk=>rfl) ?_
 conv=>whnf
 refine⟨fun _ _=>rfl,?_⟩
 conv=>whnf
 all_goals first | rfl | exact⟨rfl,rfl⟩
def eqI(a b:List Sp)(n:Nat)(st:St):Prop:=∃ k:Nat,n=a.length-k∧k≤a.length∧(∀ j,j<k→a.getD j sp0=b.getD j sp0)∧st=⟨26,0,[(0,spS a),(1,spS b),(12,vci .i64 a.length),(13,vci .i64 (k:Int))],[]⟩
theorem c1v(x y:Sp):(x.cl==y.cl&&(x.fr==y.fr&&(x.tz==y.tz&&true)))=decide (x.cl=y.cl∧x.fr=y.fr∧x.tz=y.tz):=by
 rw[Bool.eq_iff_iff,decide_eq_true_iff];simp only[Bool.and_true,Bool.and_eq_true,beq_iff_eq]
theorem b9Y(a b:List Sp)(ha:a.length≤1000000)(hb:b.length≤1000000):a0f Tryz.prog 84 [spS a,spS b] [] (fun r own'=>own'=[]∧∃ q:Bool,(q=true↔a=b)∧r=vcb q):=by
 refine a0e Tryz.func84 rfl ttok ftok rfl rfl rfl (Nat.le_of_ble_eq_true rfl) ?_
 conv=>whnf
 by_cases hl:(a.length:Int)=b.length
 rotate_left
 ·rw[show((a.length:Int) != (b.length:Int))=true from bne_iff_ne.2 hl]
  conv=>whnf
  exact⟨false,⟨fun h=>(nomatch h),fun h=>absurd (by rw[h]) hl⟩,rfl⟩
 rw[show((a.length:Int) != (b.length:Int))=false from by rw[hl];exact bne_self_eq_false _]
 conv=>whnf
 refine a0B ttok ftok (eqI a b) (a0F [0,1,12,13] rfl) ⟨0,rfl,Nat.zero_le _,fun j hj=>by omega,rfl⟩ ?_
 rintro n st ⟨k,rfl,hk,hj,rfl⟩;have e1:=e64 (k:=k) (by omega)
 conv=>whnf
 refine a0d (fun h=>?_) (fun h=>?_)
 ·have h:=of_decide_eq_true h
  have hkl:k<a.length:=by omega
  conv=>whnf
  refine a0w mixed (by kernel_rfl) ttok ftok ?_
  conv=>whnf
  refine⟨by omega,?_⟩
  conv=>whnf
  refine⟨by omega,?_⟩
  conv=>whnf
  rw[a0k];rw[c1v]
  by_cases e:(a.getD k sp0).cl=(b.getD k sp0).cl∧(a.getD k sp0).fr=(b.getD k sp0).fr∧(a.getD k sp0).tz=(b.getD k sp0).tz
  ·rw[decide_eq_true e]
   conv=>whnf
   rw[e1];refine⟨a.length-(k+1),_,by omega,a0F [0,1,12,13] rfl,k+1,rfl,by omega,fun j h2=>?_,rfl⟩
   rcases Nat.lt_succ_iff_lt_or_eq.1 h2 with h3 | rfl
   ·exact hj j h3
   ·exact b7S e.1 e.2.1 e.2.2
  ·rw[decide_eq_false e]
   conv=>whnf
   exact⟨false,⟨fun h=>(nomatch h),fun h=>absurd (by rw[h];exact⟨rfl,rfl,rfl⟩) e⟩,rfl⟩
 ·have h:=of_decide_eq_false h
  conv=>whnf
  exact⟨true,⟨fun _=>b6v sp0 (by omega) (fun j h2=>hj j (by omega)),fun _=>rfl⟩,rfl⟩
end Go.Eng
namespace Go.Eng
open Go Go.RowKit Go.Proofs
def GP(hs:HS)(G:I2→Bool)(gn d:List Sp):Prop:=∀ a,hasI hs a→(G a=true→hsB gn a=true)∧(hsB gn a=true→G a=true∨hsB d a=true)
theorem GP.start{hs:HS}{g d:List Sp}(hg:a1c g)(hd:a1c d):GP hs (hsB g) (setL (g++d)) d:=fun a _=>by
 rw[a8o g d hg hd,Bool.or_eq_true];exact⟨.inl,id⟩
theorem GP.add{hs:HS}{G:I2→Bool}{gn d:List Sp}(h:GP hs G gn d)(x:It):GP (adH hs x) (updG G x.id (hsB gn x.id)) gn d:=fun a ha=>by
 unfold updG
 by_cases e:a=x.id
 ·rw[if_pos e,e];exact⟨id,.inl⟩
 ·rw[if_neg e]
  exact h a ((a1S.1 ha).resolve_left (fun g=>e g.symm))
def apI(hs:HS)(l0:List It)(gn d:List Sp)(N:Nat)(ch:Bool)(v:CV)(w:List It)(D B:List IC)(n:Nat)(st:St):Prop:=∃(j:Nat) (G:I2→Bool) (cs:Ck) (l:List Nd),n=l0.length-j∧j≤l0.length∧LV (adsH hs (l0.take j)) G cs l (N+j)∧GP (adsH hs (l0.take j)) G gn d ∧
 st=⟨129,1,[(3,.c (.own 1 0)),(4,.c (.own 2 0)),(7,.c (.own 3 0)),(11,vcb ch),(80,itS l0),(81,vci .i64 l0.length),(82,vci .i64 (j:Int))],
  [some (.cells 79 D),some (.cells 51 B),some (.cells 77 [.v (.slice none 0 0),vi 0,vi 0,.v (.slice none 0 0),.v (.slice none 0 0),.v (.slice none 0 0),.v (.slice none 0 0)]),some (.cells 77 (stF cs l v w gn))]⟩
theorem b0T{hs:HS}{G:I2→Bool}{cs:Ck}{l:List Nd}{N:Nat}(V:LV hs G cs l N){i:Nat}(hi:i<cs.flatten.length):(cs.flatten.getD i en0).gone=G (cs.flatten.getD i en0).id:=by
 obtain⟨o,hO,hf⟩:=V.ord;rw[hf]at hi ⊢;rw[List.length_map]at hi;rw[List.getD_eq_getElem?_getD,List.getElem?_map,List.getElem?_eq_getElem hi];rfl
theorem b5u{hs:HS}{G:I2→Bool}{cs:Ck}{l:List Nd}{N:Nat}(V:LV hs G cs l N){a:I2}(ha:hasI hs a):∃ i,i<cs.flatten.length∧(cs.flatten.getD i en0).id=a:=by
 obtain⟨o,hO,hf⟩:=V.ord;obtain⟨i,hi,e⟩:=a2j (d:=(0,0)) (hO.has.2 ha);refine⟨i,by rw[hf,List.length_map];exact hi,?_⟩
 rw[hf,List.getD_eq_getElem?_getD,List.getElem?_map,List.getElem?_eq_getElem hi];rw[List.getD_eq_getElem?_getD,List.getElem?_eq_getElem hi]at e;exact e
def apJ(hs:HS)(es:List En)(G0:I2→Bool)(gn d:List Sp)(M:Nat)(ch:Bool)(v:CV)(w:List It)(l:List Nd)(D B:List IC)(n:Nat)(st:St):Prop:=∃(k:Nat) (G:I2→Bool) (cs:Ck),n=es.length-k∧k≤es.length∧LV hs G cs l M∧(∀ a,hasI hs a→G0 a=true→G a=true)∧(∀ a,hasI hs a→G a=true→hsB gn a=true)∧(∀ i,i<k→hsB d (es.getD i en0).id=true→G (es.getD i en0).id=true) ∧
 st=⟨129,1,[(3,.c (.own 1 0)),(4,.c (.own 2 0)),(7,.c (.own 3 0)),(11,vcb ch),(96,enS es),(97,vci .i64 es.length),(98,vci .i64 (k:Int))],
  [some (.cells 79 D),some (.cells 51 B),some (.cells 77 [.v (.slice none 0 0),vi 0,vi 0,.v (.slice none 0 0),.v (.slice none 0 0),.v (.slice none 0 0),.v (.slice none 0 0)]),some (.cells 77 (stF cs l v w gn))]⟩
deriving instance DecidableEq for Sp
theorem b1j{m:List It}{gn g:List Sp}{T1:List It}(hPQ:¬(0<m.length∨gn≠g)):decide ((T1.length:Int)>0)=decide (0<m.length∨gn≠g∨0<T1.length):=by
 rw[Bool.eq_iff_iff,decide_eq_true_iff,decide_eq_true_iff];refine⟨fun h=>.inr (.inr (show 0<T1.length by omega)),fun h=>?_⟩
 rcases h with h | h | h
 ·exact absurd (.inl h) hPQ
 ·exact absurd (.inr h) hPQ
 ·have h:0<T1.length:=h
  omega
def apC(l:List It)(g gn:List Sp)(T:List It × List It × CV):Bool:=decide (0<l.length∨gn≠g∨0<T.1.length)
def c2G(cs:Ck)(l:List Nd)(v:CV)(w:List It)(g:List Sp)(hs:HS)(N:Nat)(gn:List Sp)(F:Option (List It))(T:List It × List It × CV)(r:AV):Prop:=match F with
 | none=>r=.tup [.agg (stF cs l v w g),vcb false,erC 2]
 | some m=>(1000<T.2.1.length∧r=.tup [.agg (stF cs l v w gn),vcb false,erC 5]) ∨
  (¬1000<T.2.1.length∧∃ cs2 l2,LV (adsH hs T.1) (hsB gn) cs2 l2 (N+T.1.length)∧r=.tup [.agg (stF cs2 l2 T.2.2 T.2.1 gn),vcb (apC m g gn T),.c (.v .nilIface)])
theorem c0s{hs:HS}{cs:Ck}{l:List Nd}{N:Nat}{v:CV}{w:List It}{g:List Sp}(V:LV hs (hsB g) cs l N)(hN:N≤13000)(W:VH v hs)(hv:v.length≤50000)(hg:a1c g)(hgl:g.length≤450000)(hw:w.length≤1000)(hwg:∀ x,x∈w→itG x)(hwd:w.Pairwise fun x y=>x.id≠y.id)(c lim ver:Int)(cd:Bool)(x:Ba)(hx:mayB x)(hok:∀ r,r∈x.runs→ruOk r)(hr:x.runs.length≤2000)(hdl:x.dels.length≤2000)(hil:(a0p x.runs).length≤2000) :
  a0f Tryz.prog 53 [.c (.own 0 0),.agg (baF x)] [some (.cells 79 (dcF c lim cs l v w g ver cd))] (fun r own'=>own'=[some (.cells 79 (dcF c lim cs l v w g ver cd))] ∧
   ∃ T:List It × List It × CV,(∀ m,freG (knO hs w) c (a0p x.runs) []=some m→∃ ys:List It,ys.Perm (w++m)∧nsI ys∧T=a1r ys.length v ys) ∧
    c2G cs l v w g hs N (setL (g++x.dels)) (freG (knO hs w) c (a0p x.runs) []) T r):=by
 have hcd:a1c x.dels:=b2X.1 hx.2.1;have hfr:=b9W V.L cs v w g (by omega) c lim ver cd x (by omega) (fun r h=>⟨hok r h,a4E (hx.1 r h)⟩) (by omega)
 have hit:=a6O hx hok;have hris:=a6N hx;obtain⟨L,hL⟩:∃ L,a0p x.runs=L:=⟨_,rfl⟩;rw[hL]at hfr hit hris hil ⊢;refine a0i Tryz.func53 rfl ttok ftok rfl rfl rfl (Nat.le_of_ble_eq_true rfl) rfl ?_
 conv=>whnf
 refine a0c [some 0] rfl rfl rfl rfl hfr ?_;rintro r own2 ⟨rfl,rfl⟩;cases hF:freG (knO hs w) c L []with
 | none =>
  refine⟨_,_,rfl,rfl,?_⟩
  conv=>whnf
  refine⟨_,Weak.refl _,?_⟩
  conv=>whnf
  exact⟨[some 0],rfl,rfl,rfl,([],[],[]),fun m h=>(by cases h),rfl⟩
 | some m =>
  obtain⟨hdis,hsub⟩:=b0Q hwd hris hF;have hml:=hsub.length_le;have hmg:∀ y,y∈m→itG y:=fun y hy=>hit y (hsub.subset hy);have hwm:∀ y,y∈w++m→itG y:=fun y hy=>(List.mem_append.1 hy).elim (hwg y) (hmg y);refine⟨_,_,rfl,rfl,?_⟩
  conv=>whnf
  refine a0a (c1Y g x.dels (by omega) (by omega)) rfl ?_
  rintro _ ⟨o,ho,rfl⟩;obtain rfl:=b9v ho;have hgnl:=b3U (g++x.dels);rw[List.length_append]at hgnl;have hP0:GP hs (hsB g) (setL (g++x.dels)) x.dels:=GP.start hg hcd;have hcan:=(a0U (g++x.dels)).1;generalize hgn:setL (g++x.dels)=gn at hgnl hP0 hcan
  conv=>whnf
  cases h0:decide ((m.length:Int)>0)with
  | true =>
   have h0:=of_decide_eq_true h0;have hb:true=decide (0<m.length∨gn≠g):=(decide_eq_true (.inl (by omega))).symm
   conv=>whnf
   refine a0m (.rd 0 (.rd 1 (.rd 2 (.rd 3 (.rd 4 (.ef 5 (.ef 6 (.ef 7 (.rd 8 (.rd 9 (.rd 10 (.rd 11 (.rd 12 (.rd 13 (.rd 14 (.nil)))))))))))))))) [4] mixed (by kernel_rfl) ttok ftok ?_
   conv=>whnf
   refine⟨twoI w m,fun k hk=>rfl,?_⟩
   conv=>whnf
   refine⟨fun j hj=>?_,?_⟩
   ·match j,hj with
    | 0,_=>rfl
    | 1,_=>rfl
   conv=>whnf
   refine a0a (a6I w m (by omega) (by omega)) rfl ?_
   rintro _ rfl
   conv=>whnf
   refine a0a (b3I v (w++m) (by omega) (by rw[List.length_append];omega) W.may (fun y hy=>(hwm y hy).cl)) rfl ?_
   rintro _ ⟨ys,hys,hns,rfl⟩;have hgy:∀ y,y∈ys→itG y:=fun y hy=>hwm y (hys.subset hy);have hyl:ys.length=w.length+m.length:=by rw[hys.length_eq,List.length_append]
   have hS:=a4k ys.length v ys (Nat.le_refl _);obtain⟨T,hT⟩:∃ T,a1r ys.length v ys=T:=⟨_,rfl⟩;rw[hT]at hS ⊢;obtain⟨T1,T2,T3⟩:=T;have hTl:T1.length+T2.length=ys.length:=by rw[←hS.perm.length_eq,List.length_append]
   have hT1g:∀ y,y∈T1→itG y:=fun y hy=>hgy y (hS.perm.subset (List.mem_append_left _ hy));obtain⟨hVH,hoks⟩:=b0f T1 v T3 hs W hS.run hT1g;have hcb:true=apC m g gn (T1,T2,T3):=by
    unfold apC
    by_cases hPQ:0<m.length∨gn≠g
    ·rw[decide_eq_true hPQ]at hb
     first | (cases hb;done) | (exact(decide_eq_true (hPQ.imp id .inl)).symm)
    ·rw[decide_eq_false hPQ]at hb
     first | (cases hb;done) | (exact b1j hPQ)
   conv=>whnf
   by_cases hbig:1000<T2.length
   ·rw[decide_eq_true (by omega:(T2.length:Int)>1000)]
    conv=>whnf
    refine⟨_,Weak.refl _,?_⟩
    conv=>whnf
    exact⟨[some 0],rfl,rfl,rfl,(T1,T2,T3),fun m2 h=>(by cases h;exact⟨ys,hys,hns,hT.symm⟩),.inl ⟨hbig,rfl⟩⟩
   rw[decide_eq_false (by omega:¬(T2.length:Int)>1000)]
   conv=>whnf
   refine a0B ttok ftok (apI hs T1 gn x.dels N true T3 T2 (dcF c lim cs l v w g ver cd) (baF x)) (a0b [3,4,7,11,80,81,82] [some 0,some 1,some 2,some 3] rfl rfl) ⟨0,hsB g,cs,l,rfl,Nat.zero_le _,V,hP0,rfl⟩ ?_;rintro q st ⟨j,G,cs2,l2,rfl,hj,V2,P2,rfl⟩;have e1:=e64 (k:=j) (by omega)
   conv=>whnf
   refine a0d (fun h=>?_) (fun h=>?_)
   ·have h:=of_decide_eq_true h
    have hjl:j<T1.length:=by omega
    have hokj:=hoks j hjl;have hsn:=a4U hs T1 (j:=j) hjl
    conv=>whnf
    refine⟨⟨by omega,by omega⟩,?_⟩
    conv=>whnf
    rw[a0k];generalize T1.getD j it0=y at hokj hsn;refine a0c [some 3] rfl rfl rfl rfl (b1s V2 (by omega) T3 T2 gn (by omega) y hokj) ?_
    rintro r own2 ⟨rfl,cs3,l3,V3,rfl⟩;refine⟨_,_,rfl,rfl,?_⟩;have P3:=P2.add y;rw[←hsn]at V3 P3
    conv=>whnf
    rw[e1];exact⟨T1.length-(j+1),_,by omega,a0b [3,4,7,11,80,81,82] [some 0,some 1,some 2,some 3] rfl rfl,j+1,_,cs3,l3,rfl,by omega,V3,P3,rfl⟩
   have h:=of_decide_eq_false h;obtain rfl:j=T1.length:=by omega
   rw[List.take_length]at V2 P2;generalize hhs2:adsH hs T1=hs2 at V2 P2;have hck2:=V2.ck;have hsm2:=V2.sum;have hln2:=V2.len
   conv=>whnf
   refine a0a (a5O cs2 l2) rfl ?_;rintro _ rfl
   conv=>whnf
   refine a0a (b5X cs2 (by omega) (by omega)) rfl ?_
   rintro _ rfl;have hfl:cs2.flatten.length=sumL cs2:=rfl;have hhas:=fun i (hi:i<cs2.flatten.length)=>a7w V2 hi;have hgone:=fun i (hi:i<cs2.flatten.length)=>b0T V2 hi;have hall:=fun a (ha:hasI hs2 a)=>b5u V2 ha;obtain⟨es,hes⟩:∃ es,cs2.flatten=es:=⟨_,rfl⟩;rw[hes]at hhas hgone hall hfl ⊢
   conv=>whnf
   refine a0B ttok ftok (apJ hs2 es G gn x.dels (N+T1.length) true T3 T2 l2 (dcF c lim cs l v w g ver cd) (baF x)) (a0b [3,4,7,11,96,97,98] [some 0,some 1,some 2,some 3] rfl rfl) ⟨0,G,cs2,rfl,Nat.zero_le _,V2,fun a _ h=>h,fun a ha h=>(P2 a ha).1 h,fun i hi=>by omega,rfl⟩ ?_
   rintro q st ⟨k,Gk,cs3,rfl,hk,V3,hA,hB,hC,rfl⟩;have e2:=e64 (k:=k) (by omega)
   conv=>whnf
   refine a0d (fun h=>?_) (fun h=>?_)
   ·have h:=of_decide_eq_true h
    have hkl:k<es.length:=by omega
    have hek:=hhas k hkl;have hgk:=hgone k hkl
    conv=>whnf
    refine⟨⟨by omega,by omega⟩,?_⟩
    conv=>whnf
    rw[a0k];obtain⟨e,he⟩:∃ e,es.getD k en0=e:=⟨_,rfl⟩;rw[he]at hek hgk ⊢;obtain⟨ea,ec,eg⟩:=e;have hek:hasI hs2 ea:=hek;have hgk:eg=G ea:=hgk;cases eg with
    | true =>
     conv=>whnf
     rw[e2];refine⟨es.length-(k+1),_,by omega,a0b [3,4,7,11,96,97,98] [some 0,some 1,some 2,some 3] rfl rfl,k+1,Gk,cs3,rfl,by omega,V3,hA,hB,fun i hi hd=>?_,rfl⟩
     rcases Nat.lt_succ_iff_lt_or_eq.1 hi with h3 | rfl
     ·exact hC i h3 hd
     ·rw[he];exact hA ea hek hgk.symm
    | false =>
     conv=>whnf
     refine a0a ((a9C x.dels (by omega) ea).mono (fun r o h=>(⟨h.1,_,rfl,h.2⟩:o=[]∧∃ b,hsB x.dels ea=b∧r=vcb b))) rfl ?_
     rintro _ ⟨b,hbd,rfl⟩;cases b with
     | false =>
      conv=>whnf
      rw[e2];refine⟨es.length-(k+1),_,by omega,a0b [3,4,7,11,96,97,98] [some 0,some 1,some 2,some 3] rfl rfl,k+1,Gk,cs3,rfl,by omega,V3,hA,hB,fun i hi hd=>?_,rfl⟩
      rcases Nat.lt_succ_iff_lt_or_eq.1 hi with h3 | rfl
      ·exact hC i h3 hd
      ·rw[he]at hd;rw[show hsB x.dels ea=true from hd]at hbd;cases hbd
     | true =>
      conv=>whnf
      refine a0a (b4E V3 (by omega) ea) rfl ?_
      rintro _ (⟨_,cs4,V4,rfl⟩|⟨hno,_⟩);rotate_left
      ·exact absurd hek hno
      conv=>whnf
      rw[e2];refine⟨es.length-(k+1),_,by omega,a0b [3,4,7,11,96,97,98] [some 0,some 1,some 2,some 3] rfl rfl,k+1,updG Gk ea true,cs4,rfl,by omega,V4,fun a ha h=>?_,fun a ha h=>?_,fun i hi hd=>?_,rfl⟩
      ·unfold updG;split
       ·rfl
       ·exact hA a ha h
      ·unfold updG at h;split at h
       ·rename_i e;rw[e,←hgn,a8o g x.dels hg hcd,hbd,Bool.or_true]
       ·exact hB a ha h
      ·rcases Nat.lt_succ_iff_lt_or_eq.1 hi with h3 | rfl
       ·have:=hC i h3 hd
        unfold updG;split
        ·rfl
        ·exact this
       ·rw[he];unfold updG;exact if_pos rfl
   have h:=of_decide_eq_false h;obtain rfl:k=es.length:=by omega
   have V5:LV hs2 (hsB gn) cs3 l2 (N+T1.length):=V3.congr (fun a ha=>by
    rw[Bool.eq_iff_iff];refine⟨hB a ha,fun h=>?_⟩;rcases(P2 a ha).2 h with h | h
    ·exact hA a ha h
    ·obtain⟨i,hi,rfl⟩:=hall a ha
     exact hC i hi h)
   conv=>whnf
   refine⟨_,Weak.refl _,?_⟩
   conv=>whnf
   refine⟨[some 0],rfl,rfl,rfl,(T1,T2,T3),fun m2 h=>(by cases h;exact⟨ys,hys,hns,hT.symm⟩),.inr ⟨hbig,cs3,l2,?_,?_⟩⟩
   ·show LV (adsH hs T1) (hsB gn) cs3 l2 (N+T1.length)
    rw[hhs2];exact V5
   ·rw[←hcb]
    rfl
  | false =>
   have h0:=of_decide_eq_false h0
   conv=>whnf
   refine a0a (b9Y gn g (by omega) (by omega)) rfl ?_
   rintro _ ⟨q,hq,rfl⟩;cases q with
   | true =>
    have hb:false=decide (0<m.length∨gn≠g):=(decide_eq_false (fun h=>h.elim (fun h=>by omega) (fun h=>h (hq.1 rfl)))).symm
    conv=>whnf
    refine a0m (.rd 0 (.rd 1 (.rd 2 (.rd 3 (.rd 4 (.ef 5 (.ef 6 (.ef 7 (.rd 8 (.rd 9 (.rd 10 (.rd 11 (.rd 12 (.rd 13 (.rd 14 (.nil)))))))))))))))) [4] mixed (by kernel_rfl) ttok ftok ?_
    conv=>whnf
    refine⟨twoI w m,fun k hk=>rfl,?_⟩
    conv=>whnf
    refine⟨fun j hj=>?_,?_⟩
    ·match j,hj with
     | 0,_=>rfl
     | 1,_=>rfl
    conv=>whnf
    refine a0a (a6I w m (by omega) (by omega)) rfl ?_
    rintro _ rfl
    conv=>whnf
    refine a0a (b3I v (w++m) (by omega) (by rw[List.length_append];omega) W.may (fun y hy=>(hwm y hy).cl)) rfl ?_
    rintro _ ⟨ys,hys,hns,rfl⟩;have hgy:∀ y,y∈ys→itG y:=fun y hy=>hwm y (hys.subset hy);have hyl:ys.length=w.length+m.length:=by rw[hys.length_eq,List.length_append]
    have hS:=a4k ys.length v ys (Nat.le_refl _);obtain⟨T,hT⟩:∃ T,a1r ys.length v ys=T:=⟨_,rfl⟩;rw[hT]at hS ⊢;obtain⟨T1,T2,T3⟩:=T;have hTl:T1.length+T2.length=ys.length:=by rw[←hS.perm.length_eq,List.length_append]
    have hT1g:∀ y,y∈T1→itG y:=fun y hy=>hgy y (hS.perm.subset (List.mem_append_left _ hy));obtain⟨hVH,hoks⟩:=b0f T1 v T3 hs W hS.run hT1g;have hcb:(decide ((T1.length:Int)>0))=apC m g gn (T1,T2,T3):=by
     unfold apC
     by_cases hPQ:0<m.length∨gn≠g
     ·rw[decide_eq_true hPQ]at hb
      first | (cases hb;done) | (exact(decide_eq_true (hPQ.imp id .inl)).symm)
     ·rw[decide_eq_false hPQ]at hb
      first | (cases hb;done) | (exact b1j hPQ)
    conv=>whnf
    by_cases hbig:1000<T2.length
    ·rw[decide_eq_true (by omega:(T2.length:Int)>1000)]
     conv=>whnf
     refine⟨_,Weak.refl _,?_⟩
     conv=>whnf
     exact⟨[some 0],rfl,rfl,rfl,(T1,T2,T3),fun m2 h=>(by cases h;exact⟨ys,hys,hns,hT.symm⟩),.inl ⟨hbig,rfl⟩⟩
    rw[decide_eq_false (by omega:¬(T2.length:Int)>1000)]
    conv=>whnf
    refine a0B ttok ftok (apI hs T1 gn x.dels N (decide ((T1.length:Int)>0)) T3 T2 (dcF c lim cs l v w g ver cd) (baF x)) (a0b [3,4,7,11,80,81,82] [some 0,some 1,some 2,some 3] rfl rfl) ⟨0,hsB g,cs,l,rfl,Nat.zero_le _,V,hP0,rfl⟩ ?_;rintro q st ⟨j,G,cs2,l2,rfl,hj,V2,P2,rfl⟩;have e1:=e64 (k:=j) (by omega)
    conv=>whnf
    refine a0d (fun h=>?_) (fun h=>?_)
    ·have h:=of_decide_eq_true h
     have hjl:j<T1.length:=by omega
     have hokj:=hoks j hjl;have hsn:=a4U hs T1 (j:=j) hjl
     conv=>whnf
     refine⟨⟨by omega,by omega⟩,?_⟩
     conv=>whnf
     rw[a0k];generalize T1.getD j it0=y at hokj hsn;refine a0c [some 3] rfl rfl rfl rfl (b1s V2 (by omega) T3 T2 gn (by omega) y hokj) ?_
     rintro r own2 ⟨rfl,cs3,l3,V3,rfl⟩;refine⟨_,_,rfl,rfl,?_⟩;have P3:=P2.add y;rw[←hsn]at V3 P3
     conv=>whnf
     rw[e1];exact⟨T1.length-(j+1),_,by omega,a0b [3,4,7,11,80,81,82] [some 0,some 1,some 2,some 3] rfl rfl,j+1,_,cs3,l3,rfl,by omega,V3,P3,rfl⟩
    have h:=of_decide_eq_false h;obtain rfl:j=T1.length:=by omega
    rw[List.take_length]at V2 P2;generalize hhs2:adsH hs T1=hs2 at V2 P2;have hck2:=V2.ck;have hsm2:=V2.sum;have hln2:=V2.len
    conv=>whnf
    refine a0a (a5O cs2 l2) rfl ?_;rintro _ rfl
    conv=>whnf
    refine a0a (b5X cs2 (by omega) (by omega)) rfl ?_
    rintro _ rfl;have hfl:cs2.flatten.length=sumL cs2:=rfl;have hhas:=fun i (hi:i<cs2.flatten.length)=>a7w V2 hi;have hgone:=fun i (hi:i<cs2.flatten.length)=>b0T V2 hi;have hall:=fun a (ha:hasI hs2 a)=>b5u V2 ha;obtain⟨es,hes⟩:∃ es,cs2.flatten=es:=⟨_,rfl⟩;rw[hes]at hhas hgone hall hfl ⊢
    conv=>whnf
    refine a0B ttok ftok (apJ hs2 es G gn x.dels (N+T1.length) (decide ((T1.length:Int)>0)) T3 T2 l2 (dcF c lim cs l v w g ver cd) (baF x)) (a0b [3,4,7,11,96,97,98] [some 0,some 1,some 2,some 3] rfl rfl) ⟨0,G,cs2,rfl,Nat.zero_le _,V2,fun a _ h=>h,fun a ha h=>(P2 a ha).1 h,fun i hi=>by omega,rfl⟩ ?_
    rintro q st ⟨k,Gk,cs3,rfl,hk,V3,hA,hB,hC,rfl⟩;have e2:=e64 (k:=k) (by omega)
    conv=>whnf
    refine a0d (fun h=>?_) (fun h=>?_)
    ·have h:=of_decide_eq_true h
     have hkl:k<es.length:=by omega
     have hek:=hhas k hkl;have hgk:=hgone k hkl
     conv=>whnf
     refine⟨⟨by omega,by omega⟩,?_⟩
     conv=>whnf
     rw[a0k];obtain⟨e,he⟩:∃ e,es.getD k en0=e:=⟨_,rfl⟩;rw[he]at hek hgk ⊢;obtain⟨ea,ec,eg⟩:=e;have hek:hasI hs2 ea:=hek;have hgk:eg=G ea:=hgk;cases eg with
     | true =>
      conv=>whnf
      rw[e2];refine⟨es.length-(k+1),_,by omega,a0b [3,4,7,11,96,97,98] [some 0,some 1,some 2,some 3] rfl rfl,k+1,Gk,cs3,rfl,by omega,V3,hA,hB,fun i hi hd=>?_,rfl⟩
      rcases Nat.lt_succ_iff_lt_or_eq.1 hi with h3 | rfl
      ·exact hC i h3 hd
      ·rw[he];exact hA ea hek hgk.symm
     | false =>
      conv=>whnf
      refine a0a ((a9C x.dels (by omega) ea).mono (fun r o h=>(⟨h.1,_,rfl,h.2⟩:o=[]∧∃ b,hsB x.dels ea=b∧r=vcb b))) rfl ?_
      rintro _ ⟨b,hbd,rfl⟩;cases b with
      | false =>
       conv=>whnf
       rw[e2];refine⟨es.length-(k+1),_,by omega,a0b [3,4,7,11,96,97,98] [some 0,some 1,some 2,some 3] rfl rfl,k+1,Gk,cs3,rfl,by omega,V3,hA,hB,fun i hi hd=>?_,rfl⟩
       rcases Nat.lt_succ_iff_lt_or_eq.1 hi with h3 | rfl
       ·exact hC i h3 hd
       ·rw[he]at hd;rw[show hsB x.dels ea=true from hd]at hbd;cases hbd
      | true =>
       conv=>whnf
       refine a0a (b4E V3 (by omega) ea) rfl ?_
       rintro _ (⟨_,cs4,V4,rfl⟩|⟨hno,_⟩);rotate_left
       ·exact absurd hek hno
       conv=>whnf
       rw[e2];refine⟨es.length-(k+1),_,by omega,a0b [3,4,7,11,96,97,98] [some 0,some 1,some 2,some 3] rfl rfl,k+1,updG Gk ea true,cs4,rfl,by omega,V4,fun a ha h=>?_,fun a ha h=>?_,fun i hi hd=>?_,rfl⟩
       ·unfold updG;split
        ·rfl
        ·exact hA a ha h
       ·unfold updG at h;split at h
        ·rename_i e;rw[e,←hgn,a8o g x.dels hg hcd,hbd,Bool.or_true]
        ·exact hB a ha h
       ·rcases Nat.lt_succ_iff_lt_or_eq.1 hi with h3 | rfl
        ·have:=hC i h3 hd
         unfold updG;split
         ·rfl
         ·exact this
        ·rw[he];unfold updG;exact if_pos rfl
    have h:=of_decide_eq_false h;obtain rfl:k=es.length:=by omega
    have V5:LV hs2 (hsB gn) cs3 l2 (N+T1.length):=V3.congr (fun a ha=>by
     rw[Bool.eq_iff_iff];refine⟨hB a ha,fun h=>?_⟩;rcases(P2 a ha).2 h with h | h
     ·exact hA a ha h
     ·obtain⟨i,hi,rfl⟩:=hall a ha
      exact hC i hi h)
    conv=>whnf
    refine⟨_,Weak.refl _,?_⟩
    conv=>whnf
    refine⟨[some 0],rfl,rfl,rfl,(T1,T2,T3),fun m2 h=>(by cases h;exact⟨ys,hys,hns,hT.symm⟩),.inr ⟨hbig,cs3,l2,?_,?_⟩⟩
    ·show LV (adsH hs T1) (hsB gn) cs3 l2 (N+T1.length)
     rw[hhs2];exact V5
    ·rw[←hcb]
     rfl
   | false =>
    have hb:true=decide (0<m.length∨gn≠g):=(decide_eq_true (.inr (fun e=>(by have:=hq.2 e;cases this)))).symm
    conv=>whnf
    refine a0m (.rd 0 (.rd 1 (.rd 2 (.rd 3 (.rd 4 (.ef 5 (.ef 6 (.ef 7 (.rd 8 (.rd 9 (.rd 10 (.rd 11 (.rd 12 (.rd 13 (.rd 14 (.nil)))))))))))))))) [4] mixed (by kernel_rfl) ttok ftok ?_
    conv=>whnf
    refine⟨twoI w m,fun k hk=>rfl,?_⟩
    conv=>whnf
    refine⟨fun j hj=>?_,?_⟩
    ·match j,hj with
     | 0,_=>rfl
     | 1,_=>rfl
    conv=>whnf
    refine a0a (a6I w m (by omega) (by omega)) rfl ?_
    rintro _ rfl
    conv=>whnf
    refine a0a (b3I v (w++m) (by omega) (by rw[List.length_append];omega) W.may (fun y hy=>(hwm y hy).cl)) rfl ?_
    rintro _ ⟨ys,hys,hns,rfl⟩;have hgy:∀ y,y∈ys→itG y:=fun y hy=>hwm y (hys.subset hy);have hyl:ys.length=w.length+m.length:=by rw[hys.length_eq,List.length_append]
    have hS:=a4k ys.length v ys (Nat.le_refl _);obtain⟨T,hT⟩:∃ T,a1r ys.length v ys=T:=⟨_,rfl⟩;rw[hT]at hS ⊢;obtain⟨T1,T2,T3⟩:=T;have hTl:T1.length+T2.length=ys.length:=by rw[←hS.perm.length_eq,List.length_append]
    have hT1g:∀ y,y∈T1→itG y:=fun y hy=>hgy y (hS.perm.subset (List.mem_append_left _ hy));obtain⟨hVH,hoks⟩:=b0f T1 v T3 hs W hS.run hT1g;have hcb:true=apC m g gn (T1,T2,T3):=by
     unfold apC
     by_cases hPQ:0<m.length∨gn≠g
     ·rw[decide_eq_true hPQ]at hb
      first | (cases hb;done) | (exact(decide_eq_true (hPQ.imp id .inl)).symm)
     ·rw[decide_eq_false hPQ]at hb
      first | (cases hb;done) | (exact b1j hPQ)
    conv=>whnf
    by_cases hbig:1000<T2.length
    ·rw[decide_eq_true (by omega:(T2.length:Int)>1000)]
     conv=>whnf
     refine⟨_,Weak.refl _,?_⟩
     conv=>whnf
     exact⟨[some 0],rfl,rfl,rfl,(T1,T2,T3),fun m2 h=>(by cases h;exact⟨ys,hys,hns,hT.symm⟩),.inl ⟨hbig,rfl⟩⟩
    rw[decide_eq_false (by omega:¬(T2.length:Int)>1000)]
    conv=>whnf
    refine a0B ttok ftok (apI hs T1 gn x.dels N true T3 T2 (dcF c lim cs l v w g ver cd) (baF x)) (a0b [3,4,7,11,80,81,82] [some 0,some 1,some 2,some 3] rfl rfl) ⟨0,hsB g,cs,l,rfl,Nat.zero_le _,V,hP0,rfl⟩ ?_;rintro q st ⟨j,G,cs2,l2,rfl,hj,V2,P2,rfl⟩;have e1:=e64 (k:=j) (by omega)
    conv=>whnf
    refine a0d (fun h=>?_) (fun h=>?_)
    ·have h:=of_decide_eq_true h
     have hjl:j<T1.length:=by omega
     have hokj:=hoks j hjl;have hsn:=a4U hs T1 (j:=j) hjl
     conv=>whnf
     refine⟨⟨by omega,by omega⟩,?_⟩
     conv=>whnf
     rw[a0k];generalize T1.getD j it0=y at hokj hsn;refine a0c [some 3] rfl rfl rfl rfl (b1s V2 (by omega) T3 T2 gn (by omega) y hokj) ?_
     rintro r own2 ⟨rfl,cs3,l3,V3,rfl⟩;refine⟨_,_,rfl,rfl,?_⟩;have P3:=P2.add y;rw[←hsn]at V3 P3
     conv=>whnf
     rw[e1];exact⟨T1.length-(j+1),_,by omega,a0b [3,4,7,11,80,81,82] [some 0,some 1,some 2,some 3] rfl rfl,j+1,_,cs3,l3,rfl,by omega,V3,P3,rfl⟩
    have h:=of_decide_eq_false h;obtain rfl:j=T1.length:=by omega
    rw[List.take_length]at V2 P2;generalize hhs2:adsH hs T1=hs2 at V2 P2;have hck2:=V2.ck;have hsm2:=V2.sum;have hln2:=V2.len
    conv=>whnf
    refine a0a (a5O cs2 l2) rfl ?_;rintro _ rfl
    conv=>whnf
    refine a0a (b5X cs2 (by omega) (by omega)) rfl ?_
    rintro _ rfl;have hfl:cs2.flatten.length=sumL cs2:=rfl;have hhas:=fun i (hi:i<cs2.flatten.length)=>a7w V2 hi;have hgone:=fun i (hi:i<cs2.flatten.length)=>b0T V2 hi;have hall:=fun a (ha:hasI hs2 a)=>b5u V2 ha;obtain⟨es,hes⟩:∃ es,cs2.flatten=es:=⟨_,rfl⟩;rw[hes]at hhas hgone hall hfl ⊢
    conv=>whnf
    refine a0B ttok ftok (apJ hs2 es G gn x.dels (N+T1.length) true T3 T2 l2 (dcF c lim cs l v w g ver cd) (baF x)) (a0b [3,4,7,11,96,97,98] [some 0,some 1,some 2,some 3] rfl rfl) ⟨0,G,cs2,rfl,Nat.zero_le _,V2,fun a _ h=>h,fun a ha h=>(P2 a ha).1 h,fun i hi=>by omega,rfl⟩ ?_
    rintro q st ⟨k,Gk,cs3,rfl,hk,V3,hA,hB,hC,rfl⟩;have e2:=e64 (k:=k) (by omega)
    conv=>whnf
    refine a0d (fun h=>?_) (fun h=>?_)
    ·have h:=of_decide_eq_true h
     have hkl:k<es.length:=by omega
     have hek:=hhas k hkl;have hgk:=hgone k hkl
     conv=>whnf
     refine⟨⟨by omega,by omega⟩,?_⟩
     conv=>whnf
     rw[a0k];obtain⟨e,he⟩:∃ e,es.getD k en0=e:=⟨_,rfl⟩;rw[he]at hek hgk ⊢;obtain⟨ea,ec,eg⟩:=e;have hek:hasI hs2 ea:=hek;have hgk:eg=G ea:=hgk;cases eg with
     | true =>
      conv=>whnf
      rw[e2];refine⟨es.length-(k+1),_,by omega,a0b [3,4,7,11,96,97,98] [some 0,some 1,some 2,some 3] rfl rfl,k+1,Gk,cs3,rfl,by omega,V3,hA,hB,fun i hi hd=>?_,rfl⟩
      rcases Nat.lt_succ_iff_lt_or_eq.1 hi with h3 | rfl
      ·exact hC i h3 hd
      ·rw[he];exact hA ea hek hgk.symm
     | false =>
      conv=>whnf
      refine a0a ((a9C x.dels (by omega) ea).mono (fun r o h=>(⟨h.1,_,rfl,h.2⟩:o=[]∧∃ b,hsB x.dels ea=b∧r=vcb b))) rfl ?_
      rintro _ ⟨b,hbd,rfl⟩;cases b with
      | false =>
       conv=>whnf
       rw[e2];refine⟨es.length-(k+1),_,by omega,a0b [3,4,7,11,96,97,98] [some 0,some 1,some 2,some 3] rfl rfl,k+1,Gk,cs3,rfl,by omega,V3,hA,hB,fun i hi hd=>?_,rfl⟩
       rcases Nat.lt_succ_iff_lt_or_eq.1 hi with h3 | rfl
       ·exact hC i h3 hd
       ·rw[he]at hd;rw[show hsB x.dels ea=true from hd]at hbd;cases hbd
      | true =>
       conv=>whnf
       refine a0a (b4E V3 (by omega) ea) rfl ?_
       rintro _ (⟨_,cs4,V4,rfl⟩|⟨hno,_⟩);rotate_left
       ·exact absurd hek hno
       conv=>whnf
       rw[e2];refine⟨es.length-(k+1),_,by omega,a0b [3,4,7,11,96,97,98] [some 0,some 1,some 2,some 3] rfl rfl,k+1,updG Gk ea true,cs4,rfl,by omega,V4,fun a ha h=>?_,fun a ha h=>?_,fun i hi hd=>?_,rfl⟩
       ·unfold updG;split
        ·rfl
        ·exact hA a ha h
       ·unfold updG at h;split at h
        ·rename_i e;rw[e,←hgn,a8o g x.dels hg hcd,hbd,Bool.or_true]
        ·exact hB a ha h
       ·rcases Nat.lt_succ_iff_lt_or_eq.1 hi with h3 | rfl
        ·have:=hC i h3 hd
         unfold updG;split
         ·rfl
         ·exact this
        ·rw[he];unfold updG;exact if_pos rfl
    have h:=of_decide_eq_false h;obtain rfl:k=es.length:=by omega
    have V5:LV hs2 (hsB gn) cs3 l2 (N+T1.length):=V3.congr (fun a ha=>by
     rw[Bool.eq_iff_iff];refine⟨hB a ha,fun h=>?_⟩;rcases(P2 a ha).2 h with h | h
     ·exact hA a ha h
     ·obtain⟨i,hi,rfl⟩:=hall a ha
      exact hC i hi h)
    conv=>whnf
    refine⟨_,Weak.refl _,?_⟩
    conv=>whnf
    refine⟨[some 0],rfl,rfl,rfl,(T1,T2,T3),fun m2 h=>(by cases h;exact⟨ys,hys,hns,hT.symm⟩),.inr ⟨hbig,cs3,l2,?_,?_⟩⟩
    ·show LV (adsH hs T1) (hsB gn) cs3 l2 (N+T1.length)
     rw[hhs2];exact V5
    ·rw[←hcb]
     rfl
end Go.Eng
namespace Go.Eng
open Go Go.RowKit Go.Proofs
end Go.Eng
namespace Go.Eng
open Go Go.RowKit Go.Proofs
end Go.Eng
namespace Go.Eng
open Go Go.RowKit Go.Proofs
theorem a7e{b:List UInt8}(hb:b.length≤100000):∀(n:Nat) (acc:List Ru) (s:RS),b3c b acc s→b3c b (a3I b n acc s).1 (a3I b n acc s).2
 | 0,acc,s,h=>h
 | n+1,acc,s,h=>by
  cases hs:s.2 with
  | true =>
   have e:a3I b (n+1) acc s=(acc,s):=by unfold a3I;rw[hs]
   rw[e];exact h
  | false =>
   have e:a3I b (n+1) acc s=a3I b n (acc++[(runS b s).1]) (runS b s).2:=by conv=>lhs;unfold a3I;rw[hs]
   rw[e];exact a7e hb n _ _ (b2f h hs hb)
theorem a6b{b:List UInt8}:∀(n:Nat) (acc:List Sp) (s:RS),b3d b acc s→b3d b (a1p b n acc s).1 (a1p b n acc s).2
 | 0,acc,s,h=>h
 | n+1,acc,s,h=>by
  cases hs:s.2 with
  | true =>
   have e:a1p b (n+1) acc s=(acc,s):=by unfold a1p;rw[hs]
   rw[e];exact h
  | false =>
   have e:a1p b (n+1) acc s=a1p b n (acc++[(a1Z b s).1]) (a1Z b s).2:=by conv=>lhs;unfold a1p;rw[hs]
   rw[e];exact a6b n _ _ (b2g h hs)
theorem b0O{b:List UInt8}(hb:b.length≤100000):(∀ r,r∈(getS b).1.runs→ruOk r)∧(getS b).1.runs.length≤b.length+1∧(getS b).1.dels.length≤b.length+1∧(a0p (getS b).1.runs).length≤b.length∧∀ s,s∈(getS b).1.dels→spOk s:=by
 obtain⟨n,hn⟩:∃ n,numS b (0,false)=n:=⟨_,rfl⟩;have hn1:=a1z (b:=b) (s:=(0,false)) (Nat.zero_le _);rw[hn]at hn1;have hR:=a7e hb n.1 [] n.2 ⟨hn1.1,by simp,by simp[a1Q],fun r hr=>by simp at hr⟩
 obtain⟨R,hRe⟩:∃ R,a3I b n.1 [] n.2=R:=⟨_,rfl⟩;rw[hRe]at hR;have hm1:=a1z (b:=b) (s:=R.2) hR.1;have hm2:=a6b (b:=b) (numS b R.2).1 [] (numS b R.2).2 ⟨hm1.1,by simp,fun r hr=>by simp at hr⟩
 have e:getS b=(⟨R.1,(a1p b (numS b R.2).1 [] (numS b R.2).2).1⟩,(a1p b (numS b R.2).1 [] (numS b R.2).2).2):=by unfold getS;simp only[hn,hRe]
 rw[e];obtain⟨h1,h2,h3,h4⟩:=hR;obtain⟨g1,g2,g3⟩:=hm2;have hsz:=a1I R.1;refine⟨fun r hr=>(h4 r hr).1,?_,?_,by show(a0p R.1).length≤_;omega,g3⟩
 ·show R.1.length≤_
  split at h2 <;> omega
 ·show(a1p b (numS b R.2).1 [] (numS b R.2).2).1.length≤_
  split at g2 <;> omega
def b8u(c lim:Int)(cs:Ck)(l:List Nd)(v:CV)(w:List It)(g:List Sp)(n:Nat)(hs:HS)(N:Nat)(gn:List Sp)(F:Option (List It))(T:List It × List It × CV)(r:AV)(own':List (Option Ob)):Prop:=match F with
 | none=>own'=[some (.cells 79 (dcF c lim cs l v w g (n:Int) false))]∧r=.tup [vci .i64 0,fltA a1N 2]
 | some m=>(1000<T.2.1.length∧own'=[some (.cells 79 (dcF c lim cs l v w g (n:Int) false))]∧r=.tup [vci .i64 0,fltA a1N 5]) ∨
  (¬1000<T.2.1.length∧∃ cs2 l2,LV (adsH hs T.1) (hsB gn) cs2 l2 (N+T.1.length)∧own'=[some (.cells 79 (dcF c lim cs2 l2 T.2.2 T.2.1 gn ((if apC m g gn T=true then n+1 else n:Nat):Int) false))]∧r=.tup [vci .i64 ((if apC m g gn T=true then n+1 else n:Nat):Int),.c (.v .nilIface)])
theorem b6b{hs:HS}{cs:Ck}{l:List Nd}{N:Nat}{v:CV}{w:List It}{g:List Sp}(V:LV hs (hsB g) cs l N)(hN:N≤13000)(W:VH v hs)(hv:v.length≤50000)(hg:a1c g)(hgl:g.length≤450000)(hw:w.length≤1000)(hwg:∀ x,x∈w→itG x)(hwd:w.Pairwise fun x y=>x.id≠y.id)(c lim:Int)(n:Nat)(hn:n≤1000)(b:List UInt8)(hb:b.length≤100000)(hsz:(getS b).1.runs.length≤2000∧(getS b).1.dels.length≤2000∧(a0p (getS b).1.runs).length≤2000) :
  a0f Tryz.prog 24 [.c (.own 0 0),bS b] [some (.cells 79 (dcF c lim cs l v w g (n:Int) false))] (fun r own' =>
   (¬isB b∧own'=[some (.cells 79 (dcF c lim cs l v w g (n:Int) false))]∧r=.tup [vci .i64 0,fltA a1N 2]) ∨
   (isB b∧∃ T:List It × List It × CV,(∀ m,freG (knO hs w) c (a0p (getS b).1.runs) []=some m→∃ ys:List It,ys.Perm (w++m)∧nsI ys∧T=a1r ys.length v ys) ∧
    b8u c lim cs l v w g n hs N (setL (g++(getS b).1.dels)) (freG (knO hs w) c (a0p (getS b).1.runs) []) T r own')):=by
 obtain⟨k1,k2,k3,k4,_⟩:=b0O (b:=b) (by omega)
 obtain⟨x,hx⟩:∃ x,(getS b).1=x:=⟨_,rfl⟩;have hbg:=c2y b (by omega)
 rw[hx]at k1 k2 k3 k4 hbg hsz ⊢;refine a0i Tryz.func24 rfl ttok ftok rfl rfl rfl (Nat.le_of_ble_eq_true rfl) rfl ?_
 conv=>whnf
 refine a0a hbg rfl ?_;rintro _ (⟨hB,rfl⟩|⟨hB,rfl⟩);rotate_left
 ·conv=>whnf
  refine a0a (b5o a1N 2) rfl ?_;rintro _ rfl
  conv=>whnf
  refine⟨_,Weak.refl _,?_⟩
  conv=>whnf
  exact⟨[some 0],rfl,rfl,.inl ⟨hB,rfl,rfl⟩⟩
 have hmay:mayB x:=by rw[←hx];exact hB.2.2
 conv=>whnf
 refine a0c [some 0] rfl rfl rfl rfl (c0s V hN W hv hg hgl hw hwg hwd c lim (n:Int) false x hmay k1 (by omega) (by omega) (by omega)) ?_
 rintro r own2 ⟨rfl,T,hT,hV⟩;generalize freG (knO hs w) c (a0p x.runs) []=F at hT hV;generalize setL (g++x.dels)=gn at hV;cases F with
 | none =>
  have hV:r=.tup [.agg (stF cs l v w g),vcb false,erC 2]:=hV;subst hV;refine⟨_,_,rfl,rfl,?_⟩
  conv=>whnf
  refine a0c [some 0] rfl rfl rfl rfl (a8A c lim cs l v w g (n:Int) false a1N _ 2 cs l v w g) ?_;rintro r own2 ⟨rfl,rfl⟩;refine⟨_,_,rfl,rfl,?_⟩
  conv=>whnf
  refine⟨_,Weak.refl _,?_⟩
  conv=>whnf
  exact⟨[some 0],rfl,rfl,.inr ⟨hB,T,hT,rfl,rfl⟩⟩
 | some m =>
  rcases hV with⟨hbig,rfl⟩|⟨hsm,cs2,l2,V2,rfl⟩
  ·refine⟨_,_,rfl,rfl,?_⟩
   conv=>whnf
   refine a0c [some 0] rfl rfl rfl rfl (a8A c lim cs l v w g (n:Int) false a1N _ 5 cs l v w gn) ?_;rintro r own2 ⟨rfl,rfl⟩;refine⟨_,_,rfl,rfl,?_⟩
   conv=>whnf
   refine⟨_,Weak.refl _,?_⟩
   conv=>whnf
   exact⟨[some 0],rfl,rfl,.inr ⟨hB,T,hT,.inl ⟨hbig,rfl,rfl⟩⟩⟩
  ·refine⟨_,_,rfl,rfl,?_⟩
   conv=>whnf
   refine a0c [some 0] rfl rfl rfl rfl (b5y c lim cs l v w g n hn false a1N (apC m g gn T) cs2 l2 T.2.2 T.2.1 gn) ?_;rintro r own2 ⟨rfl,rfl⟩;refine⟨_,_,rfl,rfl,?_⟩
   conv=>whnf
   refine⟨_,Weak.refl _,?_⟩
   conv=>whnf
   exact⟨[some 0],rfl,rfl,.inr ⟨hB,T,hT,.inr ⟨hsm,cs2,l2,V2,rfl,rfl⟩⟩⟩
theorem b6c{hs:HS}{cs:Ck}{l:List Nd}{N:Nat}{v:CV}{w:List It}{g:List Sp}(V:LV hs (hsB g) cs l N)(hN:N≤13000)(W:VH v hs)(hv:v.length≤50000)(hg:a1c g)(hgl:g.length≤450000)(hw:w.length≤1000)(hwg:∀ x,x∈w→itG x)(hwd:w.Pairwise fun x y=>x.id≠y.id)(c lim:Int)(n:Nat)(hn:n≤1000)(b:List UInt8)(hb:b.length≤900) :
  a0f Tryz.prog 24 [.c (.own 0 0),bS b] [some (.cells 79 (dcF c lim cs l v w g (n:Int) false))] (fun r own' =>
   (¬isB b∧own'=[some (.cells 79 (dcF c lim cs l v w g (n:Int) false))]∧r=.tup [vci .i64 0,fltA a1N 2]) ∨
   (isB b∧∃ T:List It × List It × CV,(∀ m,freG (knO hs w) c (a0p (getS b).1.runs) []=some m→∃ ys:List It,ys.Perm (w++m)∧nsI ys∧T=a1r ys.length v ys) ∧
    b8u c lim cs l v w g n hs N (setL (g++(getS b).1.dels)) (freG (knO hs w) c (a0p (getS b).1.runs) []) T r own')):=by
 obtain⟨k1,k2,k3,k4,_⟩:=b0O (b:=b) (by omega)
 exact b6b V hN W hv hg hgl hw hwg hwd c lim n hn b (by omega) ⟨by omega,by omega,by omega⟩
end Go.Eng
namespace Go.Eng
open Go Go.RowKit Go.Proofs
end Go.Eng
namespace Go.Eng
open Go Go.RowKit Go.Proofs
end Go.Eng
namespace Go.Eng
open Go Go.RowKit Go.Proofs Go.Sort Go.Shelf Go.Lib
theorem c3R(x y:It)(W:World):Calls Tryz.prog 36 #[.agg (a6V x).toArray,.agg (a6V y).toArray] W fun e w'=>e=.returned (.int .i64 (if a0R x.id.1 y.id.1=0 then a0R x.id.2 y.id.2 else a0R x.id.1 y.id.1))∧∃ q os',w'=grow (W.drewN q) os':=by
 have e7:∀ args w,(callFunc 37 args).run Tryz.prog w=.ok (.enter 37 args) w:=enters_of Tryz.func37 (by kernel_rfl) rfl
 have mixed:Tryz.prog.follows .mixedOrders=true:=by kernel_rfl
 obtain⟨⟨x1,x2⟩,⟨x3,x4⟩,⟨x5,x6⟩,x7⟩:=x;obtain⟨⟨y1,y2⟩,⟨y3,y4⟩,⟨y5,y6⟩,y7⟩:=y;unfold a6V;have hc:=fun W=>c2h (x1,x2) (y1,y2) W;simp only at hc ⊢;obtain⟨r,hr⟩:∃ r,(if a0R x1 y1=0 then a0R x2 y2 else a0R x1 y1)=r:=⟨_,rfl⟩
 rw[hr]at hc ⊢
 go_enter Tryz.func36,(show Tryz.f36.ntmps=10 from rfl)
 go_wp2_with (go_at_fn 37;refine(hc _).mono ?_;rintro e w' ⟨rfl,q,os',hw⟩)
 go_ret
 refine⟨rfl,q,?_⟩;exact a8P W _ _ q os'
theorem b2Z(l:List It)(hl:l.length≤1000000):a0f Tryz.prog 35 [.c (.row 0),.c (.fn 36 [])] [some (.row 61 7 l.length (itR l))]
  (fun r own'=>∃ ys:List It,ys.Perm l∧ys.Pairwise (fun x y=>¬ ltI y.id x.id)∧r=.tup []∧own'=[some (.row 61 7 ys.length (itR ys))]):=by
 have h:=a5q (α:=It) Tryz.sortItem 7 (fun _=>by kernel_rfl) (fun _=>by kernel_rfl) a6V (fun _=>rfl) (fun x v hv=>by
   simp only[a6V,List.mem_cons,List.not_mem_nil,or_false]at hv
   rcases hv with rfl | rfl | rfl | rfl | rfl | rfl | rfl <;> rfl) _ (b0k (fun x:It=>x.id.1) (fun x:It=>x.id.2)) 36 (enters_of Tryz.func36 (by kernel_rfl) rfl) (fun x y W=>c3R x y W) 61 l (by omega)
 refine a0f.mono h ?_;rintro r own' ⟨ys,h1,h2,h3,h4⟩;refine⟨ys,h1,List.pairwise_iff_getElem.2 fun i j hi hj hij=>?_,h3,h4⟩;have:=h2 i j hij hj;rw[a7l,List.getD_eq_getElem?_getD,List.getD_eq_getElem?_getD,List.getElem?_eq_getElem hi,List.getElem?_eq_getElem hj]at this;simp only[Option.getD_some,decide_eq_false_iff_not]at this;exact this
def snO(hs:HS)(u:CV)(e:En):Option It:=match itOf hs e.id with
 | some x=>if nxt u x.id.1≤x.id.2 then some x else none
 | none=>none
def snL(hs:HS)(u:CV)(l:List En):List It:=l.filterMap (snO hs u)
theorem b6t(hs:HS)(u:CV){l:List En}{k:Nat}(hk:k<l.length):snL hs u (l.take (k+1))=snL hs u (l.take k)++(match snO hs u (l.getD k en0)with | some x=>[x] | none=>[]):=by
 have e:l.take (k+1)=l.take k++[l.getD k en0]:=by
  rw[List.getD_eq_getElem?_getD,List.getElem?_eq_getElem hk];exact(List.take_append_getElem hk).symm
 unfold snL;rw[e,List.filterMap_append]
 congr 1
 rw[List.filterMap_cons,List.filterMap_nil];split <;> simp_all
theorem b3Q(hs:HS)(u:CV)(l:List En):(snL hs u l).length≤l.length:=List.length_filterMap_le _ _
theorem b8R{hs:HS}{u:CV}{l:List En}{x:It}(h:x∈snL hs u l):∃ g,(x,g)∈hs:=by
 unfold snL at h;rw[List.mem_filterMap]at h;obtain⟨e,_,h⟩:=h;unfold snO at h;split at h
 ·rename_i y hy
  split at h
  ·cases h;exact(a2z hy).2
  ·cases h
 ·cases h
def sncI(D:List IC)(u:CV)(hs:HS)(es:List En)(n:Nat)(st:St):Prop:=∃ k:Nat,n=es.length-k∧k≤es.length ∧
 st=⟨61,1,[(0,.c (.own 0 0)),(1,a4b u),(4,.c (.own 1 0)),(5,.c (.row 2)),(16,enS es),(17,vci .i64 es.length),(18,vci .i64 (k:Int))],
  [some (.cells 79 D),some (.cells 51 [.v (.slice none 0 0),.v (.slice none 0 0)]),some (.row 61 7 (snL hs u (es.take k)).length (itR (snL hs u (es.take k))))]⟩
theorem b3S{hs:HS}{G:I2→Bool}{cs:Ck}{l:List Nd}{N:Nat}(V:LV hs G cs l N)(hN:N≤20000)(v:CV)(w:List It)(g:List Sp)(hg:g.length≤1000000)(c lim ver:Int)(cd:Bool)(u:CV)(hu:mayV u)(hul:u.length≤1000000)(hok:∀ x h,(x,h)∈hs→itOk x) :
  a0f Tryz.prog 18 [.c (.own 0 0),a4b u] [some (.cells 79 (dcF c lim cs l v w g ver cd))] (fun r own'=>own'=[some (.cells 79 (dcF c lim cs l v w g ver cd))]∧∃ ys:List It,ys.Perm (snL hs u cs.flatten)∧nsI ys∧r=.agg (baF ⟨ofK ys ys.length,g⟩)):=by
 have hck:=V.ck;have hsm:=V.sum;have hln:=V.len;have hfl:cs.flatten.length=sumL cs:=rfl;have hhas:=fun i (hi:i<cs.flatten.length)=>a7w V hi;refine a0i Tryz.func18 rfl ttok ftok rfl rfl rfl (Nat.le_of_ble_eq_true rfl) rfl ?_
 conv=>whnf
 refine a0a (a5O cs l) rfl ?_;rintro _ rfl
 conv=>whnf
 refine a0a (b5X cs (by omega) (by omega)) rfl ?_
 rintro _ rfl;obtain⟨es,hes⟩:∃ es,cs.flatten=es:=⟨_,rfl⟩;rw[hes]at hhas hfl ⊢
 conv=>whnf
 refine a0B ttok ftok (sncI (dcF c lim cs l v w g ver cd) u hs es) ((a0M 5 61 7 (itR []) rfl).trans (a0b [0,1,4,5,16,17,18] [some 0,some 1,some 2] rfl rfl)) ⟨0,rfl,Nat.zero_le _,rfl⟩ ?_;rintro q st ⟨k,rfl,hk,rfl⟩;have e1:=e64 (k:=k) (by omega)
 conv=>whnf
 refine a0d (fun h=>?_) (fun h=>?_)
 ·have h:=of_decide_eq_true h
  have hkl:k<es.length:=by omega
  have hsn:=b6t hs u hkl;have hsl:=b3Q hs u (es.take k);rw[List.length_take]at hsl
  conv=>whnf
  refine⟨⟨by omega,by omega⟩,?_⟩
  conv=>whnf
  rw[a0k];generalize es.getD k en0=e at hsn;obtain⟨ea,ec,eg⟩:=e;have hli:=b1N V.L cs ea;refine a0m (.rd 0 (.rd 1 (.rd 2 (.rd 3 (.rd 4 (.rd 5 (.rd 6 (.alt (.ef 7 (.rd 8 (.rd 9 (.rd 10 (.ef 11 (.ef 12 (.rd 13 (.nil)))))))) (.ef 11 (.ef 7 (.rd 8 (.rd 9 (.rd 10 (.ef 12 (.rd 13 (.nil)))))))))))))))) [4] mixed (by kernel_rfl) ttok ftok ?_
  conv=>whnf
  refine⟨?_,?_⟩
  ·conv=>whnf
   refine a0a hli rfl ?_;rintro _ (⟨y,hy,rfl⟩|⟨hy,rfl⟩)
   ·have hya:=(a2z hy).1
    conv=>whnf
    refine a0m (.rd 0 (.rd 1 (.rd 2 (.rd 3 (.rd 4 (.rd 5 (.rd 6 (.rd 7 (.rd 8 (.ef 9 (.rd 10 (.rd 11 (.nil))))))))))))) [] mixed (by kernel_rfl) ttok ftok ?_
    conv=>whnf
    refine a0a (a9r u (by omega) hu.1 ea.1) rfl ?_
    rintro _ rfl
    conv=>whnf
    have hso:snO hs u ⟨ea,ec,eg⟩=if nxt u y.id.1≤y.id.2 then some y else none:=by unfold snO;rw[show itOf hs (En.id ⟨ea,ec,eg⟩)=some y from hy]
    rw[hso]at hsn
    by_cases hge:ea.2≥nxt u ea.1
    ·rw[decide_eq_true hge]
     rw[if_pos (by rw[hya];exact hge)]at hsn
     conv=>whnf
     refine⟨fun _=>itF y,fun q hq=>?_,?_⟩
     ·obtain rfl:q=0:=by omega
      rfl
     conv=>whnf
     refine⟨⟨by omega,by show((snL hs u (es.take k)).length+1)*28≤_;omega⟩,?_⟩
     conv=>whnf
     refine app1 (enc:=itF) (d:=it0) (l:=snL hs u (es.take k)) y (fun k hk=>rfl) rfl ?_
     conv=>whnf
     rw[e1];refine⟨es.length-(k+1),_,by omega,a0b [0,1,4,5,16,17,18] [some 0,some 1,some 6] rfl rfl,k+1,rfl,by omega,?_⟩
     rw[hsn];rfl
    ·rw[decide_eq_false hge]
     rw[if_neg (by rw[hya];exact hge),List.append_nil]at hsn
     conv=>whnf
     rw[e1];refine⟨es.length-(k+1),_,by omega,a0b [0,1,4,5,16,17,18] [some 0,some 1,some 2] rfl rfl,k+1,rfl,by omega,?_⟩
     rw[hsn];rfl
   ·rw[show snO hs u ⟨ea,ec,eg⟩=none from by unfold snO;rw[show itOf hs (En.id ⟨ea,ec,eg⟩)=none from hy]]at hsn
    rw[List.append_nil]at hsn
    conv=>whnf
    refine a0w mixed (by kernel_rfl) ttok ftok ?_
    conv=>whnf
    rw[e1];refine⟨es.length-(k+1),_,by omega,a0b [0,1,4,5,16,17,18] [some 0,some 1,some 2] rfl rfl,k+1,rfl,by omega,?_⟩
    rw[hsn];rfl
  ·conv=>whnf
   refine a0a hli rfl ?_;rintro _ (⟨y,hy,rfl⟩|⟨hy,rfl⟩)
   ·have hya:=(a2z hy).1
    conv=>whnf
    refine a0m (.rd 0 (.rd 1 (.rd 2 (.rd 3 (.rd 4 (.rd 5 (.rd 6 (.rd 7 (.rd 8 (.ef 9 (.rd 10 (.rd 11 (.nil))))))))))))) [] mixed (by kernel_rfl) ttok ftok ?_
    conv=>whnf
    refine a0a (a9r u (by omega) hu.1 ea.1) rfl ?_
    rintro _ rfl
    conv=>whnf
    have hso:snO hs u ⟨ea,ec,eg⟩=if nxt u y.id.1≤y.id.2 then some y else none:=by unfold snO;rw[show itOf hs (En.id ⟨ea,ec,eg⟩)=some y from hy]
    rw[hso]at hsn
    by_cases hge:ea.2≥nxt u ea.1
    ·rw[decide_eq_true hge]
     rw[if_pos (by rw[hya];exact hge)]at hsn
     conv=>whnf
     refine⟨fun _=>itF y,fun q hq=>?_,?_⟩
     ·obtain rfl:q=0:=by omega
      rfl
     conv=>whnf
     refine⟨⟨by omega,by show((snL hs u (es.take k)).length+1)*28≤_;omega⟩,?_⟩
     conv=>whnf
     refine app1 (enc:=itF) (d:=it0) (l:=snL hs u (es.take k)) y (fun k hk=>rfl) rfl ?_
     conv=>whnf
     rw[e1];refine⟨es.length-(k+1),_,by omega,a0b [0,1,4,5,16,17,18] [some 0,some 1,some 6] rfl rfl,k+1,rfl,by omega,?_⟩
     rw[hsn];rfl
    ·rw[decide_eq_false hge]
     rw[if_neg (by rw[hya];exact hge),List.append_nil]at hsn
     conv=>whnf
     rw[e1];refine⟨es.length-(k+1),_,by omega,a0b [0,1,4,5,16,17,18] [some 0,some 1,some 2] rfl rfl,k+1,rfl,by omega,?_⟩
     rw[hsn];rfl
   ·rw[show snO hs u ⟨ea,ec,eg⟩=none from by unfold snO;rw[show itOf hs (En.id ⟨ea,ec,eg⟩)=none from hy]]at hsn
    rw[List.append_nil]at hsn
    conv=>whnf
    refine a0w mixed (by kernel_rfl) ttok ftok ?_
    conv=>whnf
    rw[e1];refine⟨es.length-(k+1),_,by omega,a0b [0,1,4,5,16,17,18] [some 0,some 1,some 2] rfl rfl,k+1,rfl,by omega,?_⟩
    rw[hsn];rfl
 ·have h:=of_decide_eq_false h
  obtain rfl:k=es.length:=by omega
  rw[List.take_length];have hsl:=b3Q hs u es;have hmem:∀ x,x∈snL hs u es→itOk x:=fun x hx=>(b8R hx).elim (fun h hm=>hok x h hm);generalize snL hs u es=l1 at hsl hmem
  conv=>whnf
  refine a0c [some 2] rfl rfl rfl rfl (b2Z l1 (by omega)) ?_
  rintro r own2 ⟨ys,hp,hns,rfl,rfl⟩;have hyl:=hp.length_eq;refine⟨_,_,rfl,rfl,?_⟩
  conv=>whnf
  refine a6F [2] ?_;refine⟨fun _ _=>rfl,?_⟩
  conv=>whnf
  refine a0m (.rd 0 (.rd 2 (.rd 3 (.rd 4 (.rd 5 (.rd 6 (.ef 1 (.ef 7 (.rd 8 (.ef 9 (.nil))))))))))) [1,3] mixed (by kernel_rfl) ttok ftok ?_
  conv=>whnf
  refine a0a (of_c ys (by omega) (fun x hx=>hmem x (hp.subset hx))) rfl ?_
  rintro _ rfl
  conv=>whnf
  refine a0c [] rfl rfl rfl rfl (b3P g (by omega)) ?_
  rintro r own2 ⟨rfl,rfl⟩;refine⟨_,_,rfl,rfl,?_⟩
  conv=>whnf
  refine b2k [3] ?_;refine⟨fun _ _=>rfl,?_⟩;refine⟨_,Weak.refl _,?_⟩
  conv=>whnf
  exact⟨[some 0],rfl,rfl,rfl,ys,hp,hns,rfl⟩
end Go.Eng
namespace Go.Eng
open Go Go.RowKit Go.Proofs
end Go.Eng
namespace Go.Eng
open Go Go.RowKit Go.Proofs
structure Dd where
 what:Int
 at_:Int
 n:Int
 text:ByteArray
 b:List UInt8
def dd0:Dd:=⟨0,0,0,⟨#[]⟩,[]⟩
abbrev ddF(d:Dd):List IC:=[vi d.what,vi d.at_,vi d.n,.v (.string d.text),.sl 1 d.b.length (a4O d.b)]
abbrev ddS(l:List Dd):AV:=.c (.sl 5 l.length fun k=>ddF (l.getD k dd0))
def i64P(n:Int):Prop:=-9223372036854775808≤n∧n≤9223372036854775807
structure Pd where
 hs:HS
 v:CV
 w:List It
 g:List Sp
 n:Nat
structure Tl where
 ver:Int
 op:ByteArray
 code:Int
def b2L(op:ByteArray)(e:Int):Tl:=⟨0,op,e⟩
def c2s(n:Nat):Tl:=⟨(n:Int),⟨#[]⟩,0⟩
def insN(c lim:Int)(es:List En)(P:Pd)(k:Int)(text:ByteArray)(Q:Pd)(t:Tl):Prop :=
 (insE c lim P.v es k text≠0∧Q=P∧t=b2L b0u (insE c lim P.v es k text)) ∨
 (insE c lim P.v es k text=0∧∃ L,a0E text=some L∧Q=⟨adsH P.hs (insT c P.v es k L),setR P.v c (nxt P.v c+L.length),P.w,P.g,if L=[]then P.n else P.n+1⟩∧t=c2s (if L=[]then P.n else P.n+1))
def delN(es:List En)(P:Pd)(k m:Int)(Q:Pd)(t:Tl):Prop :=
 (c4j es k m∧Q=P∧t=b2L c4i 3) ∨
 (¬c4j es k m∧Q=⟨P.hs,P.v,P.w,setL (P.g++spsI (idsL es k.toNat m.toNat)),if 0<m then P.n+1 else P.n⟩∧t=c2s (if 0<m then P.n+1 else P.n))
def appN(c:Int)(P:Pd)(b:List UInt8)(Q:Pd)(t:Tl):Prop :=
 (¬isB b∧Q=P∧t=b2L a1N 2) ∨
 (isB b∧∃ T:List It × List It × CV,(∀ m,freG (knO P.hs P.w) c (a0p (getS b).1.runs) []=some m→∃ ys:List It,ys.Perm (P.w++m)∧nsI ys∧T=a1r ys.length P.v ys) ∧
  match freG (knO P.hs P.w) c (a0p (getS b).1.runs) []with
  | none=>Q=P∧t=b2L a1N 2
  | some m=>(1000<T.2.1.length∧Q=P∧t=b2L a1N 5) ∨
   (¬1000<T.2.1.length∧Q=⟨adsH P.hs T.1,T.2.2,T.2.1,setL (P.g++(getS b).1.dels),if apC m P.g (setL (P.g++(getS b).1.dels)) T=true then P.n+1 else P.n⟩ ∧
    t=c2s (if apC m P.g (setL (P.g++(getS b).1.dels)) T=true then P.n+1 else P.n)))
def ddN(c lim:Int)(es:List En)(P:Pd)(d:Dd)(Q:Pd)(t:Tl):Prop :=
 if d.what%4=2 then delN es P d.at_ d.n Q t else if d.what%4=3 then appN c P d.b Q t else insN c lim es P d.at_ d.text Q t
structure DI(k:Nat)(P:Pd)(cs:Ck)(l:List Nd)(N:Nat)(gs:List I2):Prop where
 V:LV P.hs (hsB P.g) cs l N
 bld:bldH P.hs
 W:VH P.v P.hs
 I:GI P.hs (hsB P.g) gs
 nw:N+P.w.length≤610*k
 gl:gs.length≤26000*k
 can:a1c P.g
 glen:P.g.length≤13000*k
 wok:∀ x,x∈P.w→itG x
 wnd:P.w.Pairwise fun x y=>x.id≠y.id
 wl:P.w.length≤1000
 iok:∀ x h,(x,h)∈P.hs→itG x
 vl:P.v.length≤1700*k
 ver:P.n≤k
theorem DI.zero:DI 0 ⟨[],[],[],[],0⟩ [] [] 0 [] :=
 ⟨LV.zero _,trivial,VH.zero,GI.zero _,Nat.le_refl _,Nat.le_refl _,⟨fun s h=>(List.not_mem_nil h).elim,List.Pairwise.nil⟩,Nat.le_refl _,fun x h=>(List.not_mem_nil h).elim,List.Pairwise.nil,Nat.zero_le _,fun x h hm=>(List.not_mem_nil hm).elim,Nat.le_refl _,Nat.le_refl _⟩
theorem DI.nx{k:Nat}{P:Pd}{cs:Ck}{l:List Nd}{N:Nat}{gs:List I2}(D:DI k P cs l N gs)(c:Int):nxt P.v c≤4294967295:=by
 have h0:=b0F D.W.may c;rcases Int.lt_or_le 0 (nxt P.v c)with h | h
 ·obtain⟨⟨x,g⟩,hm,e⟩:=(D.W.cov (c,nxt P.v c-1)).2 ⟨by show 0≤nxt P.v c-1;omega,by show nxt P.v c-1<nxt P.v c;omega⟩
  have h1:=(D.iok x g hm).hi;have h2:x.id.2=nxt P.v c-1:=by rw[show x.id=(c,nxt P.v c-1)from e]
  omega
 ·omega
end Go.Eng
namespace Go.Eng
open Go Go.RowKit Go.Proofs
theorem c4v{hs:HS}(h:∀ x g,(x,g)∈hs→itG x){a:I2}(ha:hasI hs a):u32P a:=by
 obtain⟨⟨x,g⟩,hm,rfl⟩:=ha;exact(h x g hm).ok.1
theorem c5u{hs:HS}{G:I2→Bool}{cs:Ck}{l:List Nd}{N:Nat}(V:LV hs G cs l N)(h:∀ x g,(x,g)∈hs→itG x){k:Int}(h0:0≤k)(h1:k≤(shn cs.flatten:Int)):u32P (btL cs.flatten k.toNat)∧u32P (btR cs.flatten k.toNat):=by
 have hz:u32P (0,0):=⟨⟨by decide,by decide⟩,by decide,by decide⟩
 constructor
 ·unfold btL
  split
  ·exact hz
  ·rename_i hk
   refine c4v h (a7w V ?_);unfold btA;rw[if_neg hk,Nat.add_sub_cancel];have hm:(shp cs.flatten 0).getD (k.toNat-1) 0∈shp cs.flatten 0:=a1a (by rw[a6e];omega)
   have:=(a7O _ _ _ hm).2;omega
 ·unfold btR
  split
  ·rename_i h2
   exact c4v h (a7w V h2)
  ·exact hz
theorem c4t(c:Int)(right:I2)(hc:0<c)(hc2:c≤4294967295)(hr:u32P right)(l:List Int)(n:Int)(left:I2)(hn:0≤n)(hle:n+l.length≤4294967295)(hl:u32P left)(hch:∀ ch,ch∈l→vldR ch=true):∀ x,x∈insL c n left right l→itG x:=by
 intro x hx;obtain⟨j,hj,rfl⟩:=a2j (d:=it0) hx;rw[b1Y]at hj;rw[b1Z c right l n left j hj];have hlf:u32P (b4M c n left j):=by
  cases j with
  | zero=>exact hl
  | succ j=>exact⟨⟨by show 0≤c;omega,hc2⟩,by show 0≤n+(j:Int);omega,by show n+(j:Int)≤_;omega⟩
 refine⟨⟨⟨⟨by show 0≤c;omega,hc2⟩,by show 0≤n+(j:Int);omega,by show n+(j:Int)≤_;omega⟩,hlf,hr⟩,hc,by show n+(j:Int)≤_;omega,hch _ (a1a hj)⟩
theorem DI.stay{k:Nat}{P:Pd}{cs:Ck}{l:List Nd}{N:Nat}{gs:List I2}(D:DI k P cs l N gs){cs2:Ck}{l2:List Nd}{N2:Nat}{gs2:List I2}(V2:LV P.hs (hsB P.g) cs2 l2 N2)(hN2:N2+P.w.length≤N+P.w.length+610)(I2:GI P.hs (hsB P.g) gs2)(hgs:gs2.length≤gs.length+26000):DI (k+1) P cs2 l2 N2 gs2:=by
 have h1:=D.nw;have h2:=D.gl;have h3:=D.glen;have h4:=D.vl;have h5:=D.ver;exact⟨V2,D.bld,D.W,I2,by omega,by omega,D.can,by omega,D.wok,D.wnd,D.wl,D.iok,by omega,by omega⟩
theorem DI.step{k:Nat}{P:Pd}{cs:Ck}{l:List Nd}{N:Nat}{gs:List I2}(D:DI k P cs l N gs)(hk:k<21){c lim:Int}(hc:0<c)(hc2:c≤4294967295)(hl0:0≤lim)(hl:lim≤4294967294){d:Dd}(ht:d.text.size≤60)(hb:d.b.length≤600){Q:Pd}{t:Tl}(hx:ddN c lim cs.flatten P d Q t)
  {cs2:Ck} {l2:List Nd} {N2:Nat} {gs2:List I2} (V2:LV Q.hs (hsB Q.g) cs2 l2 N2) (hN2:N2+Q.w.length≤N+P.w.length+610) (I2:GI Q.hs (hsB Q.g) gs2) (hgs:gs2.length≤gs.length+26000):DI (k+1) Q cs2 l2 N2 gs2:=by
 have h1:=D.nw;have h2:=D.gl;have h3:=D.glen;have h4:=D.vl;have h5:=D.ver;have h6:=D.V.len;have h7:=D.V.sum;have h8:cs.flatten.length=sumL cs:=rfl;unfold ddN at hx;split at hx
 ·rcases hx with⟨_,rfl,_⟩|⟨hp,rfl,_⟩
  ·exact D.stay V2 hN2 I2 hgs
  ·have hfew:=c4r hp
   have hsl:=b3U (P.g++spsI (idsL cs.flatten d.at_.toNat d.n.toNat));rw[List.length_append,show(spsI (idsL cs.flatten d.at_.toNat d.n.toNat)).length=(idsL cs.flatten d.at_.toNat d.n.toNat).length from by unfold spsI;rw[List.length_map]]at hsl
   refine⟨V2,D.bld,D.W,I2,by show N2+P.w.length≤_;have:N2+P.w.length≤N+P.w.length+610:=hN2;omega,by omega,(a0U _).1,by show(setL _).length≤_;omega,D.wok,D.wnd,D.wl,D.iok,by show P.v.length≤_;omega,?_⟩
   show(if 0<d.n then P.n+1 else P.n)≤k+1
   split <;> omega
 ·split at hx
  ·rcases hx with⟨_,rfl,_⟩|⟨B,T,hT,hm⟩
   ·exact D.stay V2 hN2 I2 hgs
   ·obtain⟨k1,k2,k3,k4,_⟩:=b0O (b:=d.b) (by omega)
    have hris:=a6N B.2.2;have hit:=a6O B.2.2 k1;cases hF:freG (knO P.hs P.w) c (a0p (getS d.b).1.runs) []with
    | none =>
     rw[hF]at hm;obtain⟨rfl,_⟩:=hm;exact D.stay V2 hN2 I2 hgs
    | some m =>
     obtain⟨hdis,hsub⟩:=b0Q D.wnd hris hF;have hml:=hsub.length_le;obtain⟨ys,p1,s1,e1⟩:=hT m hF;rw[hF]at hm;rcases hm with⟨_,rfl,_⟩|⟨hbig,rfl,_⟩
     ·exact D.stay V2 hN2 I2 hgs
     ·obtain⟨T1,T2,T3⟩:=T
      have hS:=a4k ys.length P.v ys (Nat.le_refl _);rw[←e1]at hS;have hwm:∀ y,y∈P.w++m→itG y:=fun y hy=>(List.mem_append.1 hy).elim (D.wok y) (fun h=>hit y (hsub.subset h));have hyg:∀ y,y∈ys→itG y:=fun y hy=>hwm y (p1.subset hy);have hT1:∀ y,y∈T1→itG y:=fun y hy=>hyg y (hS.perm.subset (List.mem_append_left _ hy));have hT2:∀ y,y∈T2→itG y:=fun y hy=>hyg y (hS.perm.subset (List.mem_append_right _ hy));have hyl:ys.length=P.w.length+m.length:=by rw[p1.length_eq,List.length_append]
      have hTl:T1.length+T2.length=ys.length:=by rw[←hS.perm.length_eq,List.length_append]
      have hwl:=D.wl;have hvl:=b8q T1 P.v T3 hS.run;have hsl:=b3U (P.g++(getS d.b).1.dels);rw[List.length_append]at hsl;refine⟨V2,b8i T1 P.hs D.bld,(b0f T1 P.v T3 P.hs D.W hS.run hT1).1,I2,?_,by omega,(a0U _).1,by show(setL _).length≤_;omega,hT2,(c4B p1 hdis).sublist hS.sub,by show T2.length≤1000;have:¬1000<T2.length:=hbig;omega,fun x g hm=>?_,by show T3.length≤_;omega,?_⟩
      ·show N2+T2.length≤_
       have:N2+T2.length≤N+P.w.length+610:=hN2
       omega
      ·rcases c4n T1 P.hs (x,g) hm with h | h
       ·exact D.iok x g h
       ·exact hT1 x h
      ·show(if apC m P.g (setL (P.g++(getS d.b).1.dels)) (T1,T2,T3)=true then P.n+1 else P.n)≤k+1
       split <;> omega
  ·rcases hx with⟨_,rfl,_⟩|⟨h0,L,hL,rfl,_⟩
   ·exact D.stay V2 hN2 I2 hgs
   ·have hLs:=b3k hL
    have hgood:=(a3r hL).2;have hk1:¬(d.at_<0∨(shn cs.flatten:Int)<d.at_):=fun e=>by rw[c2e hL e]at h0;cases h0
    have hk2:¬lim+1<nxt P.v c+L.length:=fun e=>by rw[c2d hL hk1 e]at h0;cases h0
    have hbt:=c2x D.V (k:=d.at_) (by omega) (by omega)
    have hbu:=c5u D.V D.iok (k:=d.at_) (by omega) (by omega)
    have hch:∀ ch,ch∈L→vldR ch=true:=fun ch hc=>b7N (hgood ch hc);obtain⟨hVH,_⟩:=a8m c (btR cs.flatten d.at_.toNat) hc L (nxt P.v c) (btL cs.flatten d.at_.toNat) P.v P.hs D.W rfl hbt.1 hbt.2 hch (by omega)
    have hv0:=b0F D.W.may c;have hig:=c4t c (btR cs.flatten d.at_.toNat) hc hc2 hbu.2 L (nxt P.v c) (btL cs.flatten d.at_.toNat) hv0 (by omega) hbu.1 hch
    have hsl:=b1q P.v c (nxt P.v c+L.length);refine⟨V2,b8i _ P.hs D.bld,hVH,I2,?_,by omega,D.can,by show P.g.length≤_;omega,D.wok,D.wnd,D.wl,fun x g hm=>?_,by show(setR _ _ _).length≤_;omega,?_⟩
    ·show N2+P.w.length≤_
     have:N2+P.w.length≤N+P.w.length+610:=hN2
     omega
    ·rcases c4n _ P.hs (x,g) hm with h | h
     ·exact D.iok x g h
     ·exact hig x h
    ·show(if L=[]then P.n else P.n+1)≤k+1
     split <;> omega
end Go.Eng
namespace Go.Eng
open Go Go.RowKit Go.Proofs
theorem do_c{k:Nat}{P:Pd}{cs:Ck}{l:List Nd}{N:Nat}{gs:List I2}(D:DI k P cs l N gs)(hk:k<21){c lim:Int}(hc:0<c)(hc2:c≤4294967295)(hl0:0≤lim)(hl:lim≤4294967294)(d:Dd)(hd:i64P d.what)(ht:d.text.size≤60)(hb:d.b.length≤600) :
  a0f Tryz.prog 8 [.c (.own 0 0),.agg (ddF d)] [some (.cells 79 (dcF c lim cs l P.v P.w P.g (P.n:Int) false))] (fun r own'=>∃ Q t cs2 l2 N2,ddN c lim cs.flatten P d Q t∧LV Q.hs (hsB Q.g) cs2 l2 N2∧N2+Q.w.length≤N+P.w.length+610 ∧
   own'=[some (.cells 79 (dcF c lim cs2 l2 Q.v Q.w Q.g (Q.n:Int) false))]∧r=.tup [vci .i64 t.ver,vcs t.op,vci .i64 t.code]):=by
 have h1:=D.nw;have h2:=D.gl;have h3:=D.glen;have h4:=D.vl;have h5:=D.ver;have hnx:=D.nx;refine a0i Tryz.func8 rfl ttok ftok rfl rfl rfl (Nat.le_of_ble_eq_true rfl) rfl ?_
 conv=>whnf
 refine a0a (b6R d.what 4 hd (by decide)) rfl ?_
 rintro _ rfl
 conv=>whnf
 by_cases w2:d.what%4=2
 ·rw[w2]
  conv=>whnf
  refine a0c [some 0] rfl rfl rfl rfl (c4E D.V (by omega) D.W hnx D.can (by omega) c lim P.n (by omega) d.at_ d.n) ?_
  rintro r own2 (⟨hp,rfl,rfl⟩|⟨hp,cs2,V2,rfl,rfl⟩)
  ·refine⟨_,_,rfl,rfl,?_⟩
   conv=>whnf
   refine a0a (c4k c4i 3) rfl ?_;rintro _ rfl
   conv=>whnf
   refine⟨_,Weak.refl _,?_⟩
   conv=>whnf
   exact⟨[some 0],rfl,rfl,P,b2L c4i 3,cs,l,N,by unfold ddN;rw[if_pos w2];exact .inl ⟨hp,rfl,rfl⟩,D.V,by omega,rfl,rfl⟩
  ·refine⟨_,_,rfl,rfl,?_⟩
   conv=>whnf
   refine a0a c4m rfl ?_;rintro _ rfl
   conv=>whnf
   refine⟨_,Weak.refl _,?_⟩
   conv=>whnf
   refine⟨[some 0],rfl,rfl,⟨P.hs,P.v,P.w,setL (P.g++spsI (idsL cs.flatten d.at_.toNat d.n.toNat)),if 0<d.n then P.n+1 else P.n⟩,c2s (if 0<d.n then P.n+1 else P.n),cs2,l,N,by unfold ddN;rw[if_pos w2];exact .inr ⟨hp,rfl,rfl⟩,V2,by show N+P.w.length≤_;omega,rfl,rfl⟩
 ·rw[beq_eq_false_iff_ne.2 w2]
  conv=>whnf
  by_cases w3:d.what%4=3
  ·rw[w3]
   conv=>whnf
   refine a0c [some 0] rfl rfl rfl rfl (b6c D.V (by omega) D.W (by omega) D.can (by omega) D.wl D.wok D.wnd c lim P.n (by omega) d.b (by omega)) ?_
   have hdd:∀ Q t,appN c P d.b Q t→ddN c lim cs.flatten P d Q t:=fun Q t h=>by unfold ddN;rw[if_neg w2,if_pos w3];exact h
   rintro r own2 (⟨hB,rfl,rfl⟩|⟨hB,T,hT,hm⟩)
   ·refine⟨_,_,rfl,rfl,?_⟩
    conv=>whnf
    refine a0a (c4k a1N 2) rfl ?_;rintro _ rfl
    conv=>whnf
    refine⟨_,Weak.refl _,?_⟩
    conv=>whnf
    exact⟨[some 0],rfl,rfl,P,b2L a1N 2,cs,l,N,hdd _ _ (.inl ⟨hB,rfl,rfl⟩),D.V,by omega,rfl,rfl⟩
   ·cases hF:freG (knO P.hs P.w) c (a0p (getS d.b).1.runs) []with
    | none =>
     rw[hF]at hm;obtain⟨rfl,rfl⟩:=hm;refine⟨_,_,rfl,rfl,?_⟩
     conv=>whnf
     refine a0a (c4k a1N 2) rfl ?_;rintro _ rfl
     conv=>whnf
     refine⟨_,Weak.refl _,?_⟩
     conv=>whnf
     exact⟨[some 0],rfl,rfl,P,b2L a1N 2,cs,l,N,hdd _ _ (.inr ⟨hB,T,hT,by rw[hF];exact⟨rfl,rfl⟩⟩),D.V,by omega,rfl,rfl⟩
    | some m =>
     have hTm:=hT m hF;rw[hF]at hm;rcases hm with⟨hbig,rfl,rfl⟩|⟨hsm,cs2,l2,V2,rfl,rfl⟩
     ·refine⟨_,_,rfl,rfl,?_⟩
      conv=>whnf
      refine a0a (c4k a1N 5) rfl ?_;rintro _ rfl
      conv=>whnf
      refine⟨_,Weak.refl _,?_⟩
      conv=>whnf
      exact⟨[some 0],rfl,rfl,P,b2L a1N 5,cs,l,N,hdd _ _ (.inr ⟨hB,T,hT,by rw[hF];exact .inl ⟨hbig,rfl,rfl⟩⟩),D.V,by omega,rfl,rfl⟩
     ·have hsz:T.1.length+T.2.1.length≤P.w.length+600:=by
       obtain⟨ys,p1,s1,e1⟩:=hTm;obtain⟨k1,k2,k3,k4,_⟩:=b0O (b:=d.b) (by omega)
       obtain⟨hdis,hsub⟩:=b0Q D.wnd (a6N hB.2.2) hF;have hml:=hsub.length_le;have hS:=a4k ys.length P.v ys (Nat.le_refl _);rw[←e1]at hS;have:=hS.perm.length_eq;rw[List.length_append,p1.length_eq,List.length_append]at this;omega
      refine⟨_,_,rfl,rfl,?_⟩
      conv=>whnf
      refine a0a c4m rfl ?_;rintro _ rfl
      conv=>whnf
      refine⟨_,Weak.refl _,?_⟩
      conv=>whnf
      exact⟨[some 0],rfl,rfl,⟨adsH P.hs T.1,T.2.2,T.2.1,setL (P.g++(getS d.b).1.dels),if apC m P.g (setL (P.g++(getS d.b).1.dels)) T=true then P.n+1 else P.n⟩,c2s (if apC m P.g (setL (P.g++(getS d.b).1.dels)) T=true then P.n+1 else P.n),cs2,l2,N+T.1.length,hdd _ _ (.inr ⟨hB,T,hT,by rw[hF];exact .inr ⟨hsm,rfl,rfl⟩⟩),V2,by show N+T.1.length+T.2.1.length≤_;omega,rfl,rfl⟩
  ·rw[beq_eq_false_iff_ne.2 w3]
   conv=>whnf
   have hdd:∀ Q t,insN c lim cs.flatten P d.at_ d.text Q t→ddN c lim cs.flatten P d Q t:=fun Q t h=>by unfold ddN;rw[if_neg w2,if_neg w3];exact h
   refine a0c [some 0] rfl rfl rfl rfl (b2D D.V (by omega) D.W (by omega) (by omega) c lim hc hc2 hl0 hl (hnx c) P.n (by omega) d.at_ d.text (by omega)) ?_
   rintro r own2 (⟨he,rfl,rfl⟩|⟨he,L,cs2,l2,hL,V2,rfl,rfl⟩)
   ·refine⟨_,_,rfl,rfl,?_⟩
    conv=>whnf
    refine a0a (c4k b0u (insE c lim P.v cs.flatten d.at_ d.text)) rfl ?_;rintro _ rfl
    conv=>whnf
    refine⟨_,Weak.refl _,?_⟩
    conv=>whnf
    exact⟨[some 0],rfl,rfl,P,b2L b0u (insE c lim P.v cs.flatten d.at_ d.text),cs,l,N,hdd _ _ (.inl ⟨he,rfl,rfl⟩),D.V,by omega,rfl,rfl⟩
   ·have hLs:=b3k hL
    refine⟨_,_,rfl,rfl,?_⟩
    conv=>whnf
    refine a0a c4m rfl ?_;rintro _ rfl
    conv=>whnf
    refine⟨_,Weak.refl _,?_⟩
    conv=>whnf
    exact⟨[some 0],rfl,rfl,⟨adsH P.hs (insT c P.v cs.flatten d.at_ L),setR P.v c (nxt P.v c+L.length),P.w,P.g,if L=[]then P.n else P.n+1⟩,c2s (if L=[]then P.n else P.n+1),cs2,l2,N+L.length,hdd _ _ (.inr ⟨he,L,hL,rfl,rfl⟩),V2,by show N+L.length+P.w.length≤_;omega,rfl,rfl⟩
end Go.Eng
namespace Go.Eng
open Go Go.RowKit Go.Proofs
end Go.Eng
