/- A part of the proof. -/
import Derived.Below
import Derived.WalkKit
import Derived.Deep.Quiet
import Derived.WideLaws
import Derived.LaidEql
import Derived.Laws.Rows
import Derived.Laws.BytesString
import Derived.Laws.Cover4
set_option linter.unusedVariables false
set_option linter.unusedSimpArgs false
namespace Go.Eng
open Go Go.RowKit
structure Hp where
 m:Nat→Option Obj
 n:Nat
inductive IC where
 | v (x:Value)
 | sl (sz n:Nat) (f:Nat→List IC)
 | fp (cs:List IC)
 | own (i off:Nat)
 | row (i:Nat)
 | rel (i sz k off:Nat)
 | view (i sz k n c:Nat)
 | fn (f:Nat) (cs:List (Bool × List IC))
 | ifc (t:Nat) (c:IC)
 | mp (i:Nat)
 | any
inductive AV where
 | c (x:IC)
 | agg (xs:List IC)
 | tup (xs:List AV)
 | top
def clo0:IC→Bool
 | .v _=>true
 | .sl _ _ _=>true
 | .fp _=>true
 | .any=>true
 | _=>false
def clo:IC→Bool
 | .ifc _ c=>clo0 c
 | .fn _ cs=>cs.all fun x=>x.2.all clo0
 | c=>clo0 c
def b8j:Value→Option Addr
 | .pointer a=>a
 | .slice a _ _=>a
 | _=>none
def a2c(h:Hp)(a:Addr):Option Value :=
 match h.m a.block with
 | some (.cells c _ _)=>if a.spot.isSome then none else c[a.off]?
 | _=>none
theorem a7q{h:Hp}{w:World}(hs:∀ k o,h.m k=some o→w.heap[k]?=some o){a:Addr}{v:Value}(hc:a2c h a=some v):w.cell? a=some v:=by
 unfold a2c at hc;unfold World.cell?;cases hb:h.m a.block with
 | none=>simp[hb]at hc
 | some o=>rw[hs _ _ hb];rw[hb]at hc;exact hc
inductive Den(L:Nat→Value)(h:Hp):IC→Value→Prop
 | v (x:Value) (h1:x.oneCell'=true):Den L h (.v x) x
 | sl (sz n:Nat) (f:Nat→List IC) (A:Option Addr) (c:Nat) (ad:Addr) (g:Nat→Nat→Value) (hc:n≤c) (hm:n≤9223372036854775807) (hA:0<n→A=some ad)
   (hg:∀ k,k<n→∀ j,j<sz→a2c h (ad.add (k*sz+j))=some (g k j)) (hl:∀ k,k<n→(f k).length=sz) (hclo:∀ k,k<n→(f k).all clo=true)
   (hr:∀ k,k<n→∀(j:Nat) c',(f k)[j]?=some c'→Den L h c' (g k j)):Den L h (.sl sz n f) (.slice A n c)
 | fp (cs:List IC) (ad:Addr) (g:Nat→Value) (hclo:cs.all clo=true) (hg:∀ j,j<cs.length→a2c h (ad.add j)=some (g j)) (hr:∀(j:Nat) c',cs[j]?=some c'→Den L h c' (g j)):Den L h (.fp cs) (.pointer (some ad))
 | own (i off:Nat) (a:Addr) (h1:i<h.n) (h2:L i=.pointer (some a)):Den L h (.own i off) (.pointer (some (a.add off)))
 | row (i:Nat) (A:Option Addr) (n c:Nat) (h1:i<h.n) (h2:L i=.slice A n c):Den L h (.row i) (.slice A n c)
 | rel (i sz k off:Nat) (a:Addr) (h1:i<h.n) (h2:b8j (L i)=some a) (h3:∀ A n c,L i=.slice A n c→k<n):Den L h (.rel i sz k off) (.pointer (some (a.add (k*sz+off))))
 | view (i sz k n c:Nat) (a b:Addr) (h1:i<h.n) (h2:L i=.pointer (some a)) (h3:0<c∨k=0→b=a.add (k*sz)) (h4:n≤c) (h5:c≤9223372036854775807):Den L h (.view i sz k n c) (.slice (some b) n c)
 | fn (f:Nat) (cs:List (Bool × List IC)) (vs:List Value) (g:Nat→Nat→Value) (hl:cs.length=vs.length)
   (hv:∀(j:Nat) b xs u,cs[j]?=some (b,xs)→vs[j]?=some u→u=if b=true then .agg ((List.range xs.length).map (g j)).toArray else g j 0) (h1:∀(j:Nat) xs,cs[j]?=some (false,xs)→xs.length=1)
   (hr:∀(j:Nat) b xs,cs[j]?=some (b,xs)→∀(i:Nat) c',xs[i]?=some c'→Den L h c' (g j i)):Den L h (.fn f cs) (.func (.func f) #[] vs.toArray)
 | ifc (t:Nat) (c:IC) (v:Value) (hr:Den L h c v):Den L h (.ifc t c) (.iface t v)
 | mp (i:Nat) (r:Option Nat) (h1:i<h.n) (h2:L i=.map r):Den L h (.mp i) (.map r)
 | any (x:Value) (h1:x.oneCell'=true):Den L h .any x
def DenL(L:Nat→Value)(h:Hp)(cs:List IC)(vs:List Value):Prop:=cs.length=vs.length∧∀(j:Nat) c u,cs[j]?=some c→vs[j]?=some u→Den L h c u
def Den1(L:Nat→Value)(h:Hp):AV→Value→Prop
 | .c x,v=>Den L h x v
 | .agg xs,v=>∃ vs:List Value,v=.agg vs.toArray∧DenL L h xs vs
 | .tup _,_=>False
 | .top,_=>False
def DenA(L:Nat→Value)(h:Hp):AV→Value→Prop
 | .tup az,v=>∃ vs:List Value,v=.tuple vs.toArray∧az.length=vs.length∧∀(j:Nat) a u,az[j]?=some a→vs[j]?=some u→Den1 L h a u
 | .top,_=>True
 | a,v=>Den1 L h a v
structure Sub(h h':Hp):Prop where
 m:∀ k o,h.m k=some o→h'.m k=some o
 n:h.n≤h'.n
theorem Sub.refl(h:Hp):Sub h h:=⟨fun _ _ e=>e,Nat.le_refl _⟩
theorem Sub.trans{a b c:Hp}(h:Sub a b)(k:Sub b c):Sub a c:=⟨fun i o e=>k.m i o (h.m i o e),Nat.le_trans h.n k.n⟩
theorem a9B{h h':Hp}(hs:∀ k o,h.m k=some o→h'.m k=some o){a:Addr}{v:Value}(hc:a2c h a=some v):a2c h' a=some v:=by
 unfold a2c at *;cases hb:h.m a.block with
 | none=>simp[hb]at hc
 | some o=>rw[hs _ _ hb];rw[hb]at hc;exact hc
theorem Den.mono{L L':Nat→Value}{h h':Hp}(hs:Sub h h')(hL:∀ i,i<h.n→L' i=L i){c:IC}{v:Value}(hd:Den L h c v):Den L' h' c v:=by
 induction hd with
 | v x h1=>exact .v x h1
 | sl sz n f A c ad g hc hm hA hg hl hclo hr ih=>exact .sl sz n f A c ad g hc hm hA (fun k hk j hj=>a9B hs.m (hg k hk j hj)) hl hclo ih
 | fp cs ad g hclo hg hr ih=>exact .fp cs ad g hclo (fun j hj=>a9B hs.m (hg j hj)) ih
 | any x h1=>exact .any x h1
 | own i off a h1 h2=>exact .own i off a (Nat.lt_of_lt_of_le h1 hs.n) ((hL i h1).trans h2)
 | row i A n c h1 h2=>exact .row i A n c (Nat.lt_of_lt_of_le h1 hs.n) ((hL i h1).trans h2)
 | rel i sz k off a h1 h2 h3=>exact .rel i sz k off a (Nat.lt_of_lt_of_le h1 hs.n) (by rw[hL i h1];exact h2) (by rw[hL i h1];exact h3)
 | view i sz k n c a b h1 h2 h3 h4 h5=>exact .view i sz k n c a b (Nat.lt_of_lt_of_le h1 hs.n) ((hL i h1).trans h2) h3 h4 h5
 | fn f cs vs g hl hv h1 hr ih=>exact .fn f cs vs g hl hv h1 ih
 | ifc t c v hr ih=>exact .ifc t c v ih
 | mp i r h1 h2=>exact .mp i r (Nat.lt_of_lt_of_le h1 hs.n) ((hL i h1).trans h2)
theorem Den.one{L:Nat→Value}{h:Hp}{c:IC}{v:Value}(hd:Den L h c v):v.oneCell'=true:=by
 cases hd <;> first | assumption | rfl
section
variable {L L':Nat→Value} {h h':Hp}
theorem DenL.mono(hs:Sub h h')(hL:∀ i,i<h.n→L' i=L i){cs:List IC}{vs:List Value}(hd:DenL L h cs vs):DenL L' h' cs vs:=⟨hd.1,fun j c u hc hu=>(hd.2 j c u hc hu).mono hs hL⟩
theorem Den1.mono(hs:Sub h h')(hL:∀ i,i<h.n→L' i=L i){a:AV}{v:Value}(hd:Den1 L h a v):Den1 L' h' a v:=by
 cases a with
 | c x=>exact Den.mono hs hL hd
 | agg xs=>obtain⟨vs,e,hd⟩:=hd;exact⟨vs,e,hd.mono hs hL⟩
 | tup az=>exact hd
 | top=>exact hd
theorem DenA.mono(hs:Sub h h')(hL:∀ i,i<h.n→L' i=L i){a:AV}{v:Value}(hd:DenA L h a v):DenA L' h' a v:=by
 cases a with
 | c x=>exact Den.mono hs hL hd
 | agg xs=>exact Den1.mono (a:=.agg xs) hs hL hd
 | tup az=>obtain⟨vs,e,hl,hd⟩:=hd;exact⟨vs,e,hl,fun(j:Nat) a u ha hu=>(hd j a u ha hu).mono hs hL⟩
 | top=>trivial
theorem DenL.nil:DenL L h [] []:=⟨rfl,fun j c u hc=>by simp at hc⟩
theorem DenL.cons{c:IC}{v:Value}{cs:List IC}{vs:List Value}(h1:Den L h c v)(h2:DenL L h cs vs):DenL L h (c::cs) (v::vs):=by
 refine⟨by simp[h2.1],fun j c' u hc hu=>?_⟩
 cases j with
 | zero=>simp at hc hu;subst hc hu;exact h1
 | succ j=>simp at hc hu;exact h2.2 j c' u hc hu
theorem DenL.uncons{c:IC}{cs:List IC}{vs:List Value}(hd:DenL L h (c::cs) vs):∃ v r,vs=v::r∧Den L h c v∧DenL L h cs r:=by
 cases vs with
 | nil=>have:=hd.1;simp at this
 | cons v r =>
  have hlen:=hd.1;simp at hlen;refine⟨v,r,rfl,hd.2 0 c v (by simp) (by simp),hlen,fun j c' u hc hu=>hd.2 (j+1) c' u (by simpa using hc) (by simpa using hu)⟩
theorem DenL.append{cs cs':List IC}{vs vs':List Value}(h1:DenL L h cs vs)(h2:DenL L h cs' vs'):DenL L h (cs++cs') (vs++vs'):=by
 refine⟨by simp[h1.1,h2.1],fun j c u hc hu=>?_⟩
 rcases Nat.lt_or_ge j cs.length with hj | hj
 ·rw[List.getElem?_append_left hj]at hc
  rw[List.getElem?_append_left (by rw[←h1.1];exact hj)]at hu
  exact h1.2 j c u hc hu
 ·rw[List.getElem?_append_right hj]at hc
  rw[List.getElem?_append_right (by rw[←h1.1];exact hj),←h1.1]at hu
  exact h2.2 _ c u hc hu
theorem DenL.take{cs:List IC}{vs:List Value}(h1:DenL L h cs vs)(n:Nat):DenL L h (cs.take n) (vs.take n):=by
 refine⟨by simp[h1.1],fun j c u hc hu=>?_⟩
 rw[List.getElem?_take]at hc hu;split at hc
 ·rename_i hj;rw[if_pos hj]at hu;exact h1.2 j c u hc hu
 ·cases hc
theorem DenL.drop{cs:List IC}{vs:List Value}(h1:DenL L h cs vs)(n:Nat):DenL L h (cs.drop n) (vs.drop n):=by
 refine⟨by simp[h1.1],fun j c u hc hu=>?_⟩
 rw[List.getElem?_drop]at hc hu;exact h1.2 _ c u hc hu
theorem DenL.one{cs:List IC}{vs:List Value}(h1:DenL L h cs vs):∀ v,v∈vs→v.oneCell'=true:=fun v hv=>by
 obtain⟨j,hj,e⟩:=List.getElem_of_mem hv;have hjc:j<cs.length:=by rw[h1.1];exact hj
 exact(h1.2 j cs[j] v (by simp[hjc]) (by simp[hj,e])).one
theorem DenL.of_v:∀{xs:List Value},(∀ x,x∈xs→x.oneCell'=true)→DenL L h (xs.map IC.v) xs
 | [],_=>DenL.nil
 | x::r,hx=>DenL.cons (.v x (hx x (by simp))) (DenL.of_v (fun y hy=>hx y (by simp[hy])))
theorem DenL.of_fun{cs:List IC}{g:Nat→Value}(hr:∀(j:Nat) c',cs[j]?=some c'→Den L h c' (g j)):DenL L h cs ((List.range cs.length).map g):=by
 refine⟨by simp,fun j c u hc hu=>?_⟩
 have hj:=(List.getElem?_eq_some_iff.1 hc).1;simp[hj]at hu;subst hu;exact hr j c hc
end
inductive Ob where
 | cells (t:TypeId) (cs:List IC)
 | row (e:TypeId) (sz n:Nat) (f:Nat→List IC)
 | arr (e:TypeId) (sz cap n:Nat) (f:Nat→List IC)
 | mp (t:TypeId) (es:List (Value × AV))
 | iter (s:ByteArray) (pos:Nat)
 | abs (p:(Nat→Option Obj)→(Nat→Prop)→World→Value→Prop)
def blk:Value→Option Nat
 | .pointer (some a)=>some a.block
 | .slice (some a) _ _=>some a.block
 | .map (some r)=>some r
 | _=>none
structure RowD(L:Nat→Value)(h:Hp)(sz n:Nat)(f:Nat→List IC)(vs:List Value):Prop where
 len:∀ k,k<n→(f k).length=sz
 den:∀ k,k<n→∀(j:Nat) c,(f k)[j]?=some c→∃ u,vs[k*sz+j]?=some u∧Den L h c u
theorem RowD.mono{L L':Nat→Value}{h h':Hp}(hs:Sub h h')(hL:∀ i,i<h.n→L' i=L i){sz n:Nat}{f:Nat→List IC}{vs:List Value}(k:RowD L h sz n f vs):RowD L' h' sz n f vs :=
 ⟨k.len,fun i hi j c hc=>by obtain⟨u,h1,h2⟩:=k.den i hi j c hc;exact⟨u,h1,h2.mono hs hL⟩⟩
structure c2I(p:(Nat→Option Obj)→(Nat→Prop)→World→Value→Prop):Prop where
 out:∀ m m' F w w' v,p m F w v→(∀ k o,m k=some o→m' k=some o)→(∀ b,F b→w'.heap[b]?=w.heap[b]?)→p m' F w' v
def ObOk(L:Nat→Value)(h:Hp)(w:World)(v:Value)(F:Nat→Prop):Ob→Prop
 | .cells t cs=>∃ b vs,v=.pointer (some ⟨b,0,none⟩)∧F b∧w.heap[b]?=some (.cells vs.toArray t (0,0))∧DenL L h cs vs
 | .row e sz n f=>∃ vs,w.ownsRow 0 e sz v n vs∧(∀ b,blk v=some b→F b)∧RowD L h sz n f vs
 | .arr e sz cap n f=>∃ b cur,v=.pointer (some ⟨b,0,none⟩)∧F b∧w.heap[b]?=some (.cells cur e (0,0))∧n≤cap∧cap≤maxLen∧cur.size=cap*sz∧RowD L h sz n f cur.toList
 | .mp t es=>∃ r ents clock,v=.map (some r)∧F r∧w.heap[r]?=some (.map ents clock)∧es.length=ents.size∧∀(j:Nat) k a en,es[j]?=some (k,a)→ents[j]?=some en→en.key=k∧Den1 L h a en.val
 | .iter s pos=>∃ b,v=.pointer (some ⟨b,0,none⟩)∧F b∧w.heap[b]?=some (.stringIter s pos)
 | .abs p=>c2I p∧p h.m F w v
structure Mem(mine:Nat→Prop)(L:Nat→Value)(F:Nat→Nat→Prop)(h:Hp)(own:List (Option Ob))(w:World):Prop where
 hn:h.n=own.length
 hsub:∀ k o,h.m k=some o→w.heap[k]?=some o
 obs:∀ i ob,own[i]?=some (some ob)→ObOk L h w (L i) (F i) ob
 foot:∀ i ob b,own[i]?=some (some ob)→F i b→b<w.heap.size∧h.m b=none∧mine b
 dis:∀ i j oi oj b,own[i]?=some (some oi)→own[j]?=some (some oj)→F i b→F j b→i=j
structure St where
 n:Nat
 k:Nat
 env:List (Nat × AV)
 own:List (Option Ob)
class a0h (P:Program) where
 ok:(Nat→Option Obj)→Prop
 mono:∀{m m':Nat→Option Obj},ok m→(∀ k o,m k=some o→m' k=some o)→ok m'
 ds:List Deferred:=[]
structure a0r(P:Program)[a0h P](L:Nat→Value)(h:Hp)(st:St)(a:Act):Prop where
 size:a.tmps.size=st.n
 env:∀ t av,st.env.lookup t=some av→DenA L h av (a.tmps.getD t undef)
 defers:a.defers=a0h.ds P
structure Keep(may:Nat→Prop)(w0 w:World):Prop where
 os:w.os=w0.os
 tape:w.tape=w0.tape
 output:w.output=w0.output
 size:w0.heap.size≤w.heap.size
 block:∀ k,k<w0.heap.size→¬may k→w.heap[k]?=w0.heap[k]?
theorem Keep.refl(may:Nat→Prop)(w:World):Keep may w w:=⟨rfl,rfl,rfl,Nat.le_refl _,fun _ _ _=>rfl⟩
def a0g(may:Nat→Prop)(w0:World)(b:Nat):Prop:=may b∨w0.heap.size≤b
def a0l(F:Nat→Nat→Prop)(own:List (Option Ob))(b:Nat):Prop:=∃(i:Nat) (ob:Ob),own[i]?=some (some ob)∧F i b
theorem Keep.trans{may may':Nat→Prop}{w0 w w':World}(h:Keep may w0 w)(k:Keep may' w w')(hm:∀ b,may' b→a0g may w0 b):Keep may w0 w':=by
 refine⟨k.os.trans h.os,k.tape.trans h.tape,k.output.trans h.output,Nat.le_trans h.size k.size,fun b hlt hno=>?_⟩;rw[k.block b (Nat.lt_of_lt_of_le hlt h.size) (fun hb=>by rcases hm b hb with h1 | h1;exact hno h1;omega)]
 exact h.block b hlt hno
structure Base(P:Program)[a0h P] where
 h:Hp
 L:Nat→Value
 gl:a0h.ok P h.m
structure SubB{P:Program}[a0h P](b:Base P)(k:Nat)(L:Nat→Value)(h:Hp):Prop where
 sub:Sub b.h h
 at_:∀ i,i<b.h.n→L i=b.L i
 kk:k=b.h.n
theorem SubB.step{P:Program}[a0h P]{b:Base P}{k:Nat}{L L':Nat→Value}{h h':Hp}(s:SubB b k L h)(hL:∀ i,i<h.n→L' i=L i)(hs:Sub h h'):SubB b k L' h' :=
 ⟨s.sub.trans hs,fun i hi=>(hL i (Nat.lt_of_lt_of_le hi s.sub.n)).trans (s.at_ i hi),s.kk⟩
structure Sat{P:Program}[a0h P](may:Nat→Prop)(w0:World)(h0:Base P)(st:St)(a:Act)(w:World):Prop where
 ex:∃ L F h,Mem (a0g may w0) L F h st.own w∧a0r P L h st a∧SubB h0 st.k L h∧(∀ k,h.m k≠none→h0.h.m k≠none∨a0g may w0 k)
 keep:Keep may w0 w
def ev(st:St):Operand→Option AV
 | .tmp t=>st.env.lookup t
 | .const v=>if v.oneCell'=true then some (.c (.v v))else none
 | .global g=>some (.c (.v (.pointer (some ⟨g,0,none⟩))))
 | .func f=>some (.c (.fn f []))
theorem a0o{P:Program}[a0h P]{L:Nat→Value}{h:Hp}{st:St}{a:Act}(ha:a0r P L h st a){x:Operand}{av:AV}(hx:ev st x=some av):DenA L h av (a.eval x):=by
 cases x with
 | tmp t=>exact ha.env t av hx
 | const v =>
  simp only[ev]at hx;split at hx
  ·rename_i h1;cases hx;exact Den.v _ h1
  ·cases hx
 | global g=>cases hx;exact Den.v _ rfl
 | func f=>cases hx;exact Den.fn f [] [] (fun _ _=>undef) rfl (fun j b xs u hc=>by simp at hc) (fun j xs hc=>by simp at hc) (fun j b xs hc=>by simp at hc)
def St.put(st:St)(d:Option Nat)(av:AV):St :=
 match d with
 | some d=>{ st with env:=(d,av)::st.env }
 | none=>st
theorem a1u{P:Program}[a0h P]{L:Nat→Value}{h:Hp}{st:St}{a:Act}(ha:a0r P L h st a){d:Nat}(hd:d<st.n){av:AV}{v:Value}(hok:DenA L h av v):a0r P L h (st.put (some d) av) (a.put (some d) v):=by
 refine⟨by simp[Act.put,St.put,ha.size],fun t av' ht=>?_,ha.defers⟩
 simp only[St.put,List.lookup_cons]at ht
 by_cases e:t=d
 ·subst e
  simp at ht;subst ht
  have:(a.put (some t) v).tmps.getD t undef=v:=by simp[Act.put,ha.size,hd]
  rw[this];exact hok
 ·have e':(t==d)=false:=by simpa using e
  rw[e']at ht;have h1:=ha.env t av' ht
  have:(a.put (some d) v).tmps.getD t undef=a.tmps.getD t undef:=by
   simp[Act.put,Array.getD_eq_getD_getElem?,Array.getElem?_setIfInBounds,Ne.symm e]
  rw[this];exact h1
theorem a1e{P:Program}[a0h P]{L L':Nat→Value}{h h':Hp}{st st':St}{a:Act}(ha:a0r P L h st a)(hL:∀ i,i<h.n→L' i=L i)(hs:Sub h h')(hn:st'.n=st.n)(he:st'.env=st.env):a0r P L' h' st' a :=
 ⟨by rw[hn];exact ha.size,fun t av ht=>by
  rw[he]at ht
  exact(ha.env t av ht).mono hs hL,ha.defers⟩
def upd{α:Type}(L:Nat→α)(n:Nat)(v:α):Nat→α:=fun i=>if i=n then v else L i
theorem a2t{α:Type}{L:Nat→α}{n:Nat}{v:α}{i:Nat}(h:i<n):upd L n v i=L i:=by unfold upd;rw[if_neg (by omega)]
theorem a3M{α:Type}{L:Nat→α}{n:Nat}{v:α}:upd L n v n=v:=by unfold upd;rw[if_pos rfl]
theorem a9n{w w1:World}{base:Nat}{e:TypeId}{size n:Nat}{v:Value}{xs:List Value}(h:w.ownsRow base e size v n xs)(hm:∀ k,blk v=some k→w1.heap[k]?=w.heap[k]?):w1.ownsRow base e size v n xs:=by
 obtain⟨hl,hr⟩:=h;refine⟨hl,?_⟩;rcases hr with hr|⟨g,cap,cur,e1,e2,e3,e4,e5,e6,e7⟩
 ·exact .inl hr
 ·refine .inr ⟨g,cap,cur,e1,e2,?_,e4,e5,e6,e7⟩
  rw[hm g (by rw[e1];rfl)]
  exact e3
theorem a0X{L L':Nat→Value}{h h':Hp}{w w':World}{v:Value}{F:Nat→Prop}{ob:Ob}(hob:ObOk L h w v F ob)(hb:∀ b,F b→w'.heap[b]?=w.heap[b]?)
  (hL:∀ i,i<h.n→L' i=L i) (hs:Sub h h'):ObOk L' h' w' v F ob:=by
 cases ob with
 | cells t cs=>obtain⟨b,vs,h1,h2,h3,h4⟩:=hob;exact⟨b,vs,h1,h2,by rw[hb b h2];exact h3,h4.mono hs hL⟩
 | row e sz n f=>obtain⟨vs,h1,h2,h3⟩:=hob;exact⟨vs,a9n h1 (fun k hk=>hb k (h2 k hk)),h2,h3.mono hs hL⟩
 | arr e sz cap n f=>obtain⟨b,cur,h1,h2,h3,h4,h5,h6,h7⟩:=hob;exact⟨b,cur,h1,h2,by rw[hb b h2];exact h3,h4,h5,h6,h7.mono hs hL⟩
 | mp t es=>obtain⟨r,ents,clock,h1,h2,h3,h4,h5⟩:=hob;exact⟨r,ents,clock,h1,h2,by rw[hb r h2];exact h3,h4,fun j k a en hj hk=>⟨(h5 j k a en hj hk).1,(h5 j k a en hj hk).2.mono hs hL⟩⟩
 | iter s pos=>obtain⟨b,h1,h2,h3⟩:=hob;exact⟨b,h1,h2,by rw[hb b h2];exact h3⟩
 | abs p=>exact⟨hob.1,hob.1.out _ _ _ _ _ _ hob.2 hs.m hb⟩
def Hp.more(h:Hp)(k:Nat):Hp:=⟨h.m,h.n+k⟩
theorem a0z(h:Hp)(k:Nat):Sub h (h.more k):=⟨fun _ _ e=>e,Nat.le_add_right _ _⟩
theorem a9y{h:Hp}{w:World}(hs:∀ k o,h.m k=some o→w.heap[k]?=some o){b:Nat}(hb:w.heap.size≤b):h.m b=none:=by
 cases hm:h.m b with
 | none=>rfl
 | some o =>
  have:=hs b o hm;have:=(Array.getElem?_eq_some_iff.1 this).1;omega
section
variable {mine:Nat→Prop} {L:Nat→Value} {F:Nat→Nat→Prop} {h:Hp} {own:List (Option Ob)} {w w':World}
theorem Mem.mine_mono{mine':Nat→Prop}(hm:Mem mine L F h own w)(hb:∀ b,a0l F own b→mine' b):Mem mine' L F h own w :=
 ⟨hm.hn,hm.hsub,hm.obs,fun i ob b hi hF=>⟨(hm.foot i ob b hi hF).1,(hm.foot i ob b hi hF).2.1,hb b ⟨i,ob,hi,hF⟩⟩,hm.dis⟩
theorem a0D{i j:Nat}{oj:Ob}(hj:(own.set i none)[j]?=some (some oj)):own[j]?=some (some oj)∧j≠i:=by
 rw[List.getElem?_set]at hj;split at hj
 ·split at hj <;> cases hj
 ·rename_i hne
  exact⟨hj,fun e=>hne e.symm⟩
theorem a2O(hm:Mem mine L F h own w)(i:Nat):Mem mine L F h (own.set i none) w :=
 ⟨by rw[List.length_set];exact hm.hn,hm.hsub,fun j oj hj=>hm.obs j oj (a0D hj).1,fun j oj b hj=>hm.foot j oj b (a0D hj).1,fun j k oj ok b hj hk=>hm.dis j k oj ok b (a0D hj).1 (a0D hk).1⟩
theorem a4C(hm:Mem mine L F h own w)(hsz:w.heap.size≤w'.heap.size)(hw:∀ k o,h.m k=some o→w'.heap[k]?=w.heap[k]?)(ho:∀ b,a0l F own b→w'.heap[b]?=w.heap[b]?):Mem mine L F h own w' :=
 ⟨hm.hn,fun k o hk=>by rw[hw k o hk];exact hm.hsub k o hk,fun i ob hi=>a0X (hm.obs i ob hi) (fun b hb=>ho b ⟨i,ob,hi,hb⟩) (fun _ _=>rfl) (Sub.refl h),
  fun i ob b hi hb=>⟨Nat.lt_of_lt_of_le (hm.foot i ob b hi hb).1 hsz,(hm.foot i ob b hi hb).2⟩,hm.dis⟩
theorem a1R(hm:Mem mine L F h own w){v:Value}{G:Nat→Prop}{ob:Ob}(hob:ObOk (upd L own.length v) (h.more 1) w v G ob)(hG:∀ b,G b→b<w.heap.size∧h.m b=none∧mine b)(hd:∀ b,G b→¬a0l F own b) :
  Mem mine (upd L own.length v) (upd F own.length G) (h.more 1) (own++[some ob]) w:=by
 have hL:∀ i,i<h.n→upd L own.length v i=L i:=fun i hi=>a2t (by have:=hm.hn;omega)
 have key:∀ i oi,(own++[some ob])[i]?=some (some oi)→(i<own.length∧own[i]?=some (some oi)∧upd L own.length v i=L i∧upd F own.length G i=F i)∨(i=own.length∧oi=ob∧upd L own.length v i=v∧upd F own.length G i=G):=by
  intro i oi hi;rcases Nat.lt_trichotomy i own.length with hlt | heq | hgt
  ·rw[List.getElem?_append_left hlt]at hi
   exact .inl ⟨hlt,hi,a2t hlt,a2t hlt⟩
  ·subst heq
   rw[List.getElem?_append_right (Nat.le_refl _)]at hi;simp at hi;exact .inr ⟨rfl,hi.symm,a3M,a3M⟩
  ·rw[List.getElem?_eq_none (by simp;omega)]at hi
   cases hi
 refine⟨by simp[Hp.more,hm.hn],hm.hsub,fun i oi hi=>?_,fun i oi b hi hb=>?_,fun i j oi oj b hi hj hbi hbj=>?_⟩
 ·rcases key i oi hi with⟨hlt,hi',e,e'⟩|⟨rfl,rfl,e,e'⟩
  ·rw[e,e']
   exact a0X (hm.obs i oi hi') (fun _ _=>rfl) hL (a0z h 1)
  ·rw[e,e'];exact hob
 ·rcases key i oi hi with⟨hlt,hi',e,e'⟩|⟨rfl,rfl,e,e'⟩
  ·rw[e']at hb;exact hm.foot i oi b hi' hb
  ·rw[e']at hb;exact hG b hb
 ·rcases key i oi hi with⟨hlt,hi',e,e'⟩|⟨rfl,rfl,e,e'⟩ <;> rcases key j oj hj with⟨hlt',hj',k,k'⟩|⟨rfl,rfl,k,k'⟩
  ·rw[e']at hbi;rw[k']at hbj;exact hm.dis i j oi oj b hi' hj' hbi hbj
  ·rw[e']at hbi;rw[k']at hbj
   exact absurd ⟨i,oi,hi',hbi⟩ (hd b hbj)
  ·rw[e']at hbi;rw[k']at hbj
   exact absurd ⟨j,oj,hj',hbj⟩ (hd b hbi)
  ·rfl
theorem a3V(hm:Mem mine L F h own w){i:Nat}{o ob:Ob}(hi:own[i]?=some (some o))(hsz:w'.heap.size=w.heap.size)(hw:∀ b,¬F i b→w'.heap[b]?=w.heap[b]?)(hob:ObOk L h w' (L i) (F i) ob):Mem mine L F h (own.set i (some ob)) w':=by
 have hlt:i<own.length:=(List.getElem?_eq_some_iff.1 hi).1;have g:∀ j oj,(own.set i (some ob))[j]?=some (some oj)→(j=i∧oj=ob)∨(j≠i∧own[j]?=some (some oj)):=fun j oj hj=>by
  by_cases hne:j=i
  ·subst hne
   rw[List.getElem?_set_self hlt]at hj;simp only[Option.some.injEq]at hj;exact .inl ⟨rfl,hj.symm⟩
  ·rw[List.getElem?_set_ne (Ne.symm hne)]at hj;exact .inr ⟨hne,hj⟩
 have g':∀ j oj,(own.set i (some ob))[j]?=some (some oj)→∃ oj',own[j]?=some (some oj'):=fun j oj hj=>by
  rcases g j oj hj with⟨rfl,_⟩|⟨_,h1⟩
  ·exact⟨o,hi⟩
  ·exact⟨oj,h1⟩
 refine⟨by rw[List.length_set];exact hm.hn,fun k ok hk=>?_,fun j oj hj=>?_,fun j oj b hj hb=>?_,fun j k oj ok b hj hk hbj hbk=>?_⟩
 ·rw[hw k (fun hF=>by have:=(hm.foot i o k hi hF).2.1;rw[this]at hk;cases hk)]
  exact hm.hsub k ok hk
 ·rcases g j oj hj with⟨rfl,rfl⟩|⟨hne,h1⟩
  ·exact hob
  ·exact a0X (hm.obs j oj h1) (fun b hb=>hw b (fun hF=>hne (hm.dis j i oj o b h1 hi hb hF))) (fun _ _=>rfl) (Sub.refl h)
 ·obtain⟨oj',h1⟩:=g' j oj hj
  rw[hsz];exact hm.foot j oj' b h1 hb
 ·obtain⟨oj',h1⟩:=g' j oj hj
  obtain⟨ok',h2⟩:=g' k ok hk;exact hm.dis j k oj' ok' b h1 h2 hbj hbk
end
structure TI where
 size:Nat
 agg:Bool
 desc:TypeDesc
 zero:Value
 bytes:Nat
 held:Bool
 g:Bool
 cmp:Bool
structure TF(P:Program)(t:TypeId)(i:TI):Prop where
 size:∀ w,(Go.sizeOf t).run P w=.ok i.size w
 agg:∀ w,(isAgg t).run P w=.ok i.agg w
 und:P.underlying t=some i.desc
 zero:∀ w,(zeroValue t).run P w=.ok i.zero w
 info:(P.info? t).map (fun x=>(x.zero,x.size,x.bytes))=some (some i.zero,i.size,i.bytes)
 held:P.stoodInHeld t=i.held
 g:P.eqGuardType P.depth t=i.g
 cmp:(P.info? t).map (·.comparable)=some i.cmp
abbrev TT:=List (Nat × TI)
def TTok(P:Program)(T:TT):Prop:=∀ t i,T.lookup t=some i→TF P t i
theorem TTok.nil{P:Program}:TTok P []:=fun t i h=>by simp at h
theorem TTok.cons{P:Program}{T:TT}{t:Nat}{i:TI}(h:TF P t i)(k:TTok P T):TTok P ((t,i)::T):=by
 intro t' i' hl;rw[List.lookup_cons]at hl
 by_cases e:t'=t
 ·subst e;simp at hl;subst hl;exact h
 ·have e':(t'==t)=false:=by simpa using e
  rw[e']at hl;exact k t' i' hl
def a3n:Nat→(Nat→Prop)→Prop
 | 0,K=>K 0
 | n+1,K=>a3n n (fun k=>K (k+1))
def a0H{α:Type}:List α→(List α→Prop)→Prop
 | [],K=>K []
 | x::r,K=>a0H r (fun r'=>K (x::r'))
theorem a6B:∀(n:Nat) (K:Nat→Prop),a3n n K=K n
 | 0,K=>rfl
 | n+1,K=>by rw[a3n,a6B n]
theorem a0q{α:Type}:∀(l:List α) (K:List α→Prop),a0H l K=K l
 | [],K=>rfl
 | x::r,K=>by rw[a0H,a0q r]
def b5f(c:IC)(K:IC→Prop):Prop :=
 match c with
 | .own i off=>a3n i fun i=>a3n off fun off=>K (.own i off)
 | .row i=>a3n i fun i=>K (.row i)
 | .mp i=>a3n i fun i=>K (.mp i)
 | .rel i sz k off=>a3n i fun i=>a3n off fun off=>K (.rel i sz k off)
 | .view i sz k n c=>a3n i fun i=>K (.view i sz k n c)
 | .fn f cs=>a0H cs fun cs=>K (.fn f cs)
 | .fp cs=>a0H cs fun cs=>K (.fp cs)
 | .ifc t c=>K (.ifc t c)
 | .any=>K .any
 | .v x=>K (.v x)
 | .sl sz n f=>K (.sl sz n f)
theorem b5e(c:IC)(K:IC→Prop):b5f c K=K c:=by cases c <;> simp only[b5f,a6B,a0q]
def a2l(a:AV)(K:AV→Prop):Prop :=
 match a with
 | .c x=>b5f x fun x=>K (.c x)
 | .agg xs=>a0H xs fun xs=>K (.agg xs)
 | .tup az=>a0H az fun az=>K (.tup az)
 | .top=>K .top
theorem a4I(a:AV)(K:AV→Prop):a2l a K=K a:=by cases a <;> simp only[a2l,b5e,a0q]
def ifD(p:Prop)[d:Decidable p](x:Prop):Prop :=
 match decide p with
 | true=>x
 | false=>False
theorem a0j{p:Prop}[d:Decidable p]{x:Prop}(h:ifD p x):p∧x:=by
 unfold ifD at h;split at h
 ·rename_i e;exact⟨of_decide_eq_true e,h⟩
 ·exact h.elim
def ldP(T:TT)(t:TypeId)(cs:List IC)(K:AV→Prop):Prop :=
 match T.lookup t with
 | some ti=>match ti.agg with
  | true=>ifD (ti.size≤cs.length) (K (.agg (cs.take ti.size)))
  | false=>match cs with
   | c::_=>K (.c c)
   | []=>False
 | none=>False
def a5S(T:TT)(s:TypeId)(i:Nat):Option Nat :=
 match T.lookup s with
 | some ti=>match ti.desc with
  | .struct fs=>match fs[i]? with
   | some f=>match T.lookup f.type with
    | some tf=>if tf.size=0 then none else some f.offset
    | none=>none
   | none=>none
  | _=>none
 | none=>none
def b1A(T:TT)(t:TypeId)(cs:Array Value)(off:Nat):Option Value :=
 match T.lookup t with
 | some ti=>if ti.agg=true then some (.agg (cs.extract off (off+ti.size)))else cs[off]?
 | none=>none
theorem a9l{P:Program}{T:TT}(hT:TTok P T){t:TypeId}{cs:Array Value}{off:Nat}{v:Value}(h:b1A T t cs off=some v)(w:World):(part t cs off).run P w=.ok v w:=by
 unfold b1A at h;split at h
 ·rename_i ti hl
  have hf:=hT _ _ hl;unfold part;simp only[Sem.run_bind,hf.agg,Result.andThen_ok];split at h
  ·rename_i ha
   cases h;simp[ha,hf.size]
  ·rename_i ha
   simp[ha,h]
 ·cases h
def eqF(T:TT)(E:TypeId→Value→Value→Option Bool)(xs ys:Array Value):List Field→Option Bool
 | []=>some true
 | f::fs=>if f.name≠"_" then match b1A T f.type xs f.offset,b1A T f.type ys f.offset with
   | some a,some b=>match E f.type a b,eqF T E xs ys fs with
    | some r,some s=>some (r&&s)
    | _,_=>none
   | _,_=>none
  else eqF T E xs ys fs
def eq1(T:TT)(E:TypeId→Value→Value→Option Bool)(ti:TI)(x y:Value):Option Bool :=
 match ti.desc with
   | .bool=>match x,y with | .bool a,.bool b=>some (a==b) | _,_=>none
   | .int _=>match x,y with | .int k a,.int k' b=>if k=k' then some (a==b)else none | _,_=>none
   | .string=>match x,y with | .string a,.string b=>some (a==b) | _,_=>none
   | .pointer _=>match x,y with
    | .pointer none,.pointer b=>some b.isNone
    | .pointer (some _),.pointer none=>some false
    | _,_=>none
   | .interface _=>match x,y with
    | .nilIface,.nilIface=>some true
    | .nilIface,.iface _ _=>some false
    | .iface _ _,.nilIface=>some false
    | .iface tx vx,.iface ty vy=>if tx=ty then(match T.lookup tx with
     | some tj=>if tj.cmp=true then E tx vx vy else none
     | none=>none)else some false
    | _,_=>none
   | .struct fs=>match x,y with
    | .agg xs,.agg ys=>if ti.held=false then eqF T E xs ys fs.toList else none
    | _,_=>none
   | .slice _=>match x,y with
    | .slice none _ _,.slice b _ _=>some b.isNone
    | .slice (some _) _ _,.slice none _ _=>some false
    | _,_=>none
   | _=>none
def eqV(T:TT):Nat→TypeId→Value→Value→Option Bool
 | 0,_,_,_=>none
 | d+1,t,x,y=>match T.lookup t with
  | none=>none
  | some ti=>eq1 T (eqV T d) ti x y
section
variable {P:Program} {T:TT}
theorem b5q(hT:TTok P T){E:TypeId→Value→Value→Option Bool}{d:Nat}(hE:∀ t x y r w,E t x y=some r→(Op.equalIn d t x y).run P w=.ok r w)(xs ys:Array Value):∀(fs:List Field) (r:Bool) (w:World),eqF T E xs ys fs=some r→(Op.eqFields d xs ys fs).run P w=.ok r w
 | [],r,w,h=>by simp[eqF]at h;subst h;simp[Op.eqFields]
 | f::fs,r,w,h=>by
  unfold eqF at h;split at h
  ·rename_i hn
   split at h
   ·rename_i a b ha hb
    split at h
    ·rename_i r1 s1 h1 h2
     cases h;have i1:=hE _ _ _ _ w h1;have i2:=b5q hT hE xs ys fs _ w h2;simp only[Op.eqFields,if_pos hn,Sem.run_bind,a9l hT ha,a9l hT hb,i1,Result.andThen_ok];cases r1
     ·simp
     ·simpa using i2
    ·cases h
   ·cases h
  ·rename_i hn
   have i2:=b5q hT hE xs ys fs _ w h;rw[Op.eqFields,if_neg hn];exact i2
theorem c2q(hT:TTok P T){E:TypeId→Value→Value→Option Bool}{d:Nat}(hE:∀ t x y r w,E t x y=some r→(Op.equalIn d t x y).run P w=.ok r w){t:TypeId}{ti:TI}(hf:TF P t ti){x y:Value}{r:Bool}(w:World)
  (h:eq1 T E ti x y=some r):(Op.equalIn (d+1) t x y).run P w=.ok r w:=by
 have hu:=hf.und;have hh:=hf.held;clear hf;unfold eq1 at h;generalize ti.desc=D at *;cases D <;> simp only[]at h <;> try (cases h;done)
 case bool=>split at h <;> first | (cases h;simp[Op.equalIn,run_underlying hu];done) | cases h
 case int k=>split at h <;> first | (split at h <;> first | (cases h;simp[Op.equalIn,run_underlying hu, *];done) | cases h) | cases h
 case string=>split at h <;> first | (cases h;simp[Op.equalIn,run_underlying hu];done) | cases h
 case pointer=>split at h <;> first | (cases h;simp[Op.equalIn,run_underlying hu];done) | cases h
 case slice=>split at h <;> first | (cases h;simp[Op.equalIn,run_underlying hu];done) | cases h
 case struct fs =>
  split at h
  ·split at h
   ·rename_i h2
    have hp:P.fieldsOf t=fs:=by simp[Program.fieldsOf,hu]
    rw[run_equalIn_struct (P:=P) w d t _ _ (by rw[hp];exact hu) (by rw[hh];exact h2),hp]
    exact b5q hT hE _ _ _ r w h
   ·cases h
  ·cases h
 case interface ms =>
  split at h
  ·cases h;simp[Op.equalIn,run_underlying hu]
  ·cases h;simp[Op.equalIn,run_underlying hu]
  ·cases h;simp[Op.equalIn,run_underlying hu]
  ·rename_i tx vx ty vy
   split at h
   ·rename_i he
    subst he;split at h
    ·rename_i tj hl2
     split at h
     ·rename_i hc
      have hj:=(hT _ _ hl2).cmp;have ih:=hE _ _ _ r w h;cases hi:P.info? tx with
      | none=>rw[hi]at hj;cases hj
      | some info =>
       rw[hi]at hj;simp only[Option.map_some,Option.some.injEq]at hj;simp[Op.equalIn,run_underlying hu,typeInfo,hi,hj,hc,ih]
     ·cases h
    ·cases h
   ·rename_i he
    cases h;simp[Op.equalIn,run_underlying hu,he]
  ·cases h
theorem b5p(hT:TTok P T):∀(d:Nat) (t:TypeId) (x y:Value) (r:Bool) (w:World),eqV T d t x y=some r→(Op.equalIn d t x y).run P w=.ok r w
 | 0,t,x,y,r,w,h=>by simp[eqV]at h
 | d+1,t,x,y,r,w,h=>by
  unfold eqV at h;split at h
  ·cases h
  ·rename_i ti hl
   exact c2q hT (fun t x y r w h=>b5p hT d t x y r w h) (hT _ _ hl) w h
end
end Go.Eng
namespace Go.Eng
open Go Go.RowKit
def b0Y:IC→Option Value
 | .v x=>some x
 | _=>none
def a4e:AV→Option Value
 | .c (.v x)=>some x
 | .agg xs=>(xs.mapM b0Y).map fun vs=>.agg vs.toArray
 | _=>none
theorem a9W{L:Nat→Value}{h:Hp}:∀{xs:List IC} {us vs:List Value},xs.mapM b0Y=some us→DenL L h xs vs→vs=us
 | [],us,vs,e,hd=>by simp at e;subst e;exact List.eq_nil_of_length_eq_zero (by have:=hd.1;simpa using this.symm)
 | x::xs,us,vs,e,hd=>by
  rw[List.mapM_cons]at e;obtain⟨v,r,rfl,h1,h2⟩:=hd.uncons;cases x with
  | v x =>
   simp only[b0Y,bind,Option.bind_some]at e;cases hx:xs.mapM b0Y with
   | none=>rw[hx]at e;cases e
   | some ws =>
    rw[hx]at e;cases e;cases h1;rw[a9W hx h2]
  | _=>cases e
theorem a2F{L:Nat→Value}{h:Hp}{a:AV}{u v:Value}(e:a4e a=some u)(hd:DenA L h a v):v=u:=by
 unfold a4e at e;split at e
 ·cases e;cases hd;rfl
 ·cases hx:List.mapM b0Y ‹List IC› with
  | none=>rw[hx]at e;cases e
  | some us=>rw[hx]at e;cases e;obtain⟨vs,rfl,hd⟩:=hd;rw[a9W hx hd]
 ·cases e
def b9M(op:BinOp)(k:IntKind)(a b:Int)(K:Value→Prop):Prop :=
 match op with
 | .add=>K (.int k (k.wrap (a+b)))
 | .sub=>K (.int k (k.wrap (a-b)))
 | .mul=>K (.int k (k.wrap (a*b)))
 | .eql=>K (.bool (a==b))
 | .neq=>K (.bool (a != b))
 | .lss=>K (.bool (decide (a<b)))
 | .leq=>K (.bool (decide (a≤b)))
 | .gtr=>K (.bool (decide (a>b)))
 | .geq=>K (.bool (decide (a≥b)))
 | .and=>K (.int k (bits .and k a b))
 | .or=>K (.int k (bits .or k a b))
 | .xor=>K (.int k (bits .xor k a b))
 | .quo=>0≤a∧0<b∧K (.int k (k.wrap (a/b)))
 | .rem=>0<b∧K (.int k (a.tmod b))
 | _=>False
theorem b5N(a b:ByteArray):(a.toList==b.toList)=decide (a=b):=by
 have key:∀ x:ByteArray,x.toList=x.data.toList:=fun x=>ByteArray.toList_eq x;rw[key,key];cases a;cases b;simp[ByteArray.mk.injEq];rw[Bool.eq_iff_iff];simp[Array.toList_inj]
def b8Q(op:BinOp)(a b:ByteArray)(K:Value→Prop):Prop :=
 match op with
 | .eql=>K (.bool (decide (a=b)))
 | .neq=>K (.bool (!(decide (a=b))))
 | .add=>a.size+b.size≤9223372036854775807∧K (.string (a++b))
 | _=>False
def a5k(T:TT)(t:TypeId)(ox oy:Operand)(x y:Value):Bool :=
 match x,y with
 | .nilIface,.nilIface=>(match ox with | .const _=>true | _=>false)||(match oy with | .const _=>true | _=>false)
 | .agg _,.agg _=>match T.lookup t with | some ti=>!ti.g | none=>false
 | _,_=>true
def a3S:Value→Value→Bool
 | .int _ _,.int _ _=>false
 | .float _ _,.float _ _=>false
 | .complex _ _ _,.complex _ _ _=>false
 | .string _,.string _=>false
 | _,_=>true
def binP(T:TT)(op:BinOp)(t:TypeId)(ox oy:Operand)(x y:Value)(K:Value→Prop):Prop :=
 match x,y with
 | .int k a,.int k' b=>match op with
  | .shl=>(0≤b∧b≤k.bits)∧K (.int k (k.wrap (a*2 ^ b.toNat)))
  | .shr=>(0≤b∧b≤k.bits)∧K (.int k (a/2 ^ b.toNat))
  | op=>ifD (k=k') (b9M op k a b K)
 | .string a,.string b=>b8Q op a b K
 | x,y=>match op with
  | .eql=>match eqV T 10000 t x y with | some r=>ifD (a5k T t ox oy x y=true) (ifD (a3S x y=true) (K (.bool r))) | none=>False
  | .neq=>match eqV T 10000 t x y with | some r=>ifD (a5k T t ox oy x y=true) (ifD (a3S x y=true) (K (.bool (!r)))) | none=>False
  | _=>False
theorem b2e{P:Program}{T:TT}(hT:TTok P T){op:BinOp}{t:TypeId}{ox oy:Operand}{x y:Value}(h:a5k T t ox oy x y=true)(w:World):(eqGuard op t ox oy x y).run P w=.ok () w:=by
 unfold a5k at h;split at h
 ·unfold eqGuard
  cases op <;> simp[h] <;> (cases ox <;> cases oy <;> simp_all)
 ·split at h
  ·rename_i ti hl
   exact run_eqGuard_agg w op t ox oy _ _ (by rw[(hT _ _ hl).g];simpa using h)
  ·cases h
 ·unfold eqGuard
  cases op <;> simp
  all_goals (split <;> simp_all)
theorem a8v{P:Program}{t:TypeId}{x y:Value}{r:Bool}{w:World}(hp:a3S x y=true)(h:(Op.equalIn 10000 t x y).run P w=.ok r w):(binOp .eql t x y).run P w=.ok (.bool r) w∧(binOp .neq t x y).run P w=.ok (.bool (!r)) w:=by
 cases x <;> cases y <;> simp_all [a3S,binOp,Op.equal,Op.maxDepth]
theorem c0k{P:Program}{T:TT}(hT:TTok P T){op:BinOp}{t:TypeId}{ox oy:Operand}{x y:Value}{K:Value→Prop}(h:binP T op t ox oy x y K):∃ v,K v∧v.oneCell'=true∧∀ w,(do eqGuard op t ox oy x y;binOp op t x y:Sem Value).run P w=.ok v w:=by
 unfold binP at h;split at h
 ·split at h
  ·obtain⟨⟨h1,h2⟩,h⟩:=h
   exact⟨_,h,rfl,fun w=>by simp[go_sem,shift_shl _ _ _ _ h1 h2]⟩
  ·obtain⟨⟨h1,h2⟩,h⟩:=h
   exact⟨_,h,rfl,fun w=>by simp[go_sem,shift_shr _ _ _ _ h1 h2]⟩
  have h2:=a0j h;clear h;obtain⟨rfl,h⟩:=h2;unfold b9M at h;split at h <;> first | exact h.elim | exact⟨_,h,rfl,fun w=>by simp[go_sem]⟩ | skip
  ·obtain⟨h1,h2,h⟩:=h
   refine⟨_,h,rfl,fun w=>?_⟩;have h3:¬(‹Int›=0∧False):=by simp
   simp[go_sem,Op.intDiv,show ∀(b:Int),0<b→(b==0)=false from fun b hb=>by simp;omega,h2,Int.tdiv_eq_ediv_of_nonneg h1]
   omega
  ·obtain⟨h2,h⟩:=h
   refine⟨_,h,rfl,fun w=>?_⟩;simp[go_sem,Op.intDiv,h2];omega
 ·unfold b8Q at h
  split at h <;> first | exact h.elim | exact⟨_,h,rfl,fun w=>by simp[go_sem,b5N]⟩ | skip
  obtain⟨h1,h⟩:=h;exact⟨_,h,rfl,fun w=>by simp[go_sem,h1]⟩
 ·split at h
  ·split at h
   ·rename_i r hr
    obtain⟨h1,h⟩:=a0j h;obtain⟨h2,h⟩:=a0j h;refine⟨_,h,rfl,fun w=>?_⟩;simp only[Sem.run_bind,b2e hT h1,Result.andThen_ok];exact(a8v h2 (b5p hT _ _ _ _ _ w hr)).1
   ·exact h.elim
  ·split at h
   ·rename_i r hr
    obtain⟨h1,h⟩:=a0j h;obtain⟨h2,h⟩:=a0j h;refine⟨_,h,rfl,fun w=>?_⟩;simp only[Sem.run_bind,b2e hT h1,Result.andThen_ok];exact(a8v h2 (b5p hT _ _ _ _ _ w hr)).2
   ·exact h.elim
  ·exact h.elim
end Go.Eng
namespace Go.Eng
open Go Go.RowKit
def a8n(av:Option AV):Option (IntKind × Int):=match av with | some (.c (.v (.int k j)))=>some (k,j) | _=>none
def cellsOf:AV→Option (List IC)
 | .c x=>some [x]
 | .agg xs=>some xs
 | .tup _=>none
 | .top=>none
def b5m(T:TT)(fs:Array Field):List IC→List (Nat × AV)→Option (List IC)
 | cs,[]=>some cs
 | cs,(i,av)::r=>match fs[i]?,cellsOf av with
  | some f,some xs=>match T.lookup f.type with
   | some tf=>if xs.length=tf.size∧f.offset+xs.length≤cs.length then b5m T fs (cs.take f.offset++xs++cs.drop (f.offset+xs.length)) r else none
   | none=>none
  | _,_=>none
def a5h(st:St):List (Nat × Operand)→Option (List (Nat × AV))
 | []=>some []
 | (i,x)::r=>match ev st x,a5h st r with
  | some a,some l=>some ((i,a)::l)
  | _,_=>none
def b5J(T:TT)(st:St)(t:TypeId)(parts:List (Nat × Operand))(K:AV→Prop):Prop :=
 match T.lookup t,a5h st parts with
 | some ti,some l=>match ti.desc with
  | .struct fs=>ifD (fs.toList.all (fun f=>(T.lookup f.type).isSome)=true)
   (match b5m T fs (ti.zero.cells.toList.map IC.v) l with
    | some cs=>ifD (ti.zero.cells.toList.all (·.oneCell')=true) (a0H cs fun cs=>K (.agg cs))
    | none=>False)
  | _=>False
 | _,_=>False
def maxI(a b:Int):Int:=if b>a then b else a
def minI(a b:Int):Int:=if b<a then b else a
def lenP(st:St)(av:Option AV)(K:AV→Prop):Prop :=
 match av with
 | some (.c (.v (.slice a n c)))=>n≤9223372036854775807∧K (.c (.v (.int .i64 n)))
 | some (.c (.sl sz n f))=>K (.c (.v (.int .i64 n)))
 | some (.c (.view i sz k n c))=>K (.c (.v (.int .i64 n)))
 | some (.c (.row i))=>match st.own[i]? with | some (some (.row e sz n f))=>K (.c (.v (.int .i64 n))) | _=>False
 | _=>False
def a2n(T:TT)(st:St)(b:Builtin)(args:List Operand)(ts:List TypeId)(K:AV→Prop):Prop :=
 match b,args,ts with
 | .len,[x],[t]=>match T.lookup t with
  | some ti=>match ti.desc with
   | .string=>(match ev st x with | some (.c (.v (.string s)))=>s.size≤9223372036854775807∧K (.c (.v (.int .i64 s.size))) | _=>False)
   | .slice _=>lenP st (ev st x) K
   | _=>False
  | none=>False
 | .cap,[x],[t]=>match T.lookup t with
  | some ti=>match ti.desc with
   | .slice _=>(match ev st x with | some (.c (.view i sz k n c))=>K (.c (.v (.int .i64 c))) | _=>False)
   | _=>False
  | none=>False
 | .max,[x,y],[_,_]=>match ev st x,ev st y with
  | some (.c (.v (.int k a))),some (.c (.v (.int k' b)))=>K (.c (.v (.int k (maxI a b))))
  | _,_=>False
 | .min,[x,y],[_,_]=>match ev st x,ev st y with
  | some (.c (.v (.int k a))),some (.c (.v (.int k' b)))=>K (.c (.v (.int k (minI a b))))
  | _,_=>False
 | _,_,_=>False
inductive NilT where
 | never | mayBe (n:Nat) | no
def nilT(st:St)(T:TT)(t:TypeId)(a b:AV):NilT :=
 match T.lookup t with
 | none=>.no
 | some ti=>match ti.desc,a,b with
  | .slice _,.c (.sl sz n f),.c (.v (.slice none 0 0))=>.mayBe n
  | .slice _,.c (.row i),.c (.v (.slice none 0 0))=>(match st.own[i]? with | some (some (.row e sz n f))=>.mayBe n | _=>.no)
  | .slice _,.c (.view i sz k n c),.c (.v (.slice none 0 0))=>.never
  | .pointer _,.c (.fp cs),.c (.v (.pointer none))=>.never
  | .pointer _,.c (.own i off),.c (.v (.pointer none))=>.never
  | .pointer _,.c (.rel i sz k off),.c (.v (.pointer none))=>.never
  | .interface _,.c (.ifc t c),.c (.v .nilIface)=>.never
  | .interface _,.c (.ifc t c),.c (.v (.iface t' v))=>(match Nat.beq t t' with | false=>.never | true=>.no)
  | .func ..,.c (.fn f cs),.c (.v .nilFunc)=>.never
  | _,_,_=>.no
def nilP(op:BinOp)(r:NilT)(K:AV→Prop):Prop :=
 match op,r with
 | .eql,.mayBe n=>∀ b:Bool,(b=true→n=0)→K (.c (.v (.bool b)))
 | .neq,.mayBe n=>∀ b:Bool,(b=true→n=0)→K (.c (.v (.bool (!b))))
 | .eql,.never=>K (.c (.v (.bool false)))
 | .neq,.never=>K (.c (.v (.bool true)))
 | _,_=>False
def a2U(st:St)(x:Option Operand)(d:Int):Option Int :=
 match x with
 | none=>some d
 | some o=>match a8n (ev st o)with
  | some (_,j)=>some j
  | none=>none
def b3R(T:TT)(st:St)(t:TypeId)(x:Operand)(lo hi mx:Option Operand)(K:AV→Prop):Prop :=
 match T.lookup t,ev st x with
  | some ti,some (.c (.v (.string s)))=>(match ti.desc,a2U st lo 0,a2U st hi s.size,mx with
   | .string,some l,some h,none=>(0≤l∧l≤h∧h≤s.size)∧K (.c (.v (.string (s.extract l.toNat h.toNat))))
   | _,_,_,_=>False)
  | some ti,some (.c (.v (.slice none 0 0)))=>(match ti.desc,a2U st lo 0,a2U st hi 0,a2U st mx 0 with
   | .slice e,some l,some h,some m=>(match hi.isNone&&mx.isSome with | true=>False | false=>(match T.lookup e with | some te=>(l=0∧h=0∧m=0)∧K (.c (.v (.slice none 0 0))) | none=>False))
   | _,_,_,_=>False)
  | some ti,some (.c (.sl sz n f))=>(match ti.desc,a2U st lo 0,a2U st hi n,a2U st mx n with
   | .slice e,some l,some h,some m=>(match hi.isNone&&mx.isSome with | true=>False | false=>(match T.lookup e with
    | some te=>ifD (te.size=sz) ((0≤l∧l≤h∧h≤m∧m≤n)∧∃(n':Nat) (f':Nat→List IC),n'=h.toNat-l.toNat∧(∀ k,k<n'→f' k=f (l.toNat+k))∧K (.c (.sl sz n' f')))
    | none=>False))
   | _,_,_,_=>False)
  | some ti,some (.c (.view i sz k n c))=>(match ti.desc,a2U st lo 0,a2U st hi n,a2U st mx c with
   | .slice e,some l,some h,some m=>(match hi.isNone&&mx.isSome with | true=>False | false=>(match T.lookup e with
    | some te=>ifD (te.size=sz) ((0≤l∧l≤h∧h≤m∧m≤c)∧K (.c (.view i sz (k+l.toNat) (h.toNat-l.toNat) (m.toNat-l.toNat))))
    | none=>False))
   | _,_,_,_=>False)
  | _,_=>False
def a7M(K:AV→Prop)(rune:Bool)(n:Nat)(f:Nat→List IC):Prop :=
 match rune with
 | true=>∃ l:List Int,l.length=n∧(∀ k,k<n→f k=[.v (.int .i32 (l.getD k 0))])∧K (.c (.v (.string (runesBytes l))))
 | false=>∃ l:List UInt8,l.length=n∧(∀ k,k<n→f k=[.v (.int .u8 ((l.getD k 0).toNat:Int))])∧K (.c (.v (.string ⟨l.toArray⟩)))
def b7x(T:TT)(st:St)(ts td:TI)(a:AV)(K:AV→Prop):Prop :=
 match td.desc,a with
 | .int k',.c (.v (.int k n))=>K (.c (.v (.int k' (k'.wrap n))))
 | .string,.c (.v (.int k n))=>K (.c (.v (.string (Utf8.encode n))))
 | .string,.c (.v (.string s))=>K (.c (.v (.string s)))
 | .string,.c (.v (.slice none 0 0))=>(match ts.desc with
  | .slice e=>(match T.lookup e with
   | some te=>(match te.desc with | .int .u8=>K (.c (.v (.string .empty))) | .int .i32=>K (.c (.v (.string .empty))) | _=>False)
   | none=>False)
  | _=>False)
 | .string,.c (.sl sz n f)=>(match ts.desc with
  | .slice e=>(match T.lookup e with
   | some te=>(match te.desc with | .int .u8=>ifD (sz=1) (a7M K false n f) | .int .i32=>ifD (sz=1) (a7M K true n f) | _=>False)
   | none=>False)
  | _=>False)
 | .string,.c (.row i)=>(match ts.desc,st.own[i]? with
  | .slice e,some (some (.row _ sz n f))=>(match T.lookup e with
   | some te=>(match te.desc with | .int .u8=>ifD (sz=1) (a7M K false n f) | .int .i32=>ifD (sz=1) (a7M K true n f) | _=>False)
   | none=>False)
  | _,_=>False)
 | _,_=>False
def b1d(T:TT)(st:St)(a:AV)(xt t:TypeId)(commaOk:Bool)(K:AV→Prop):Prop :=
 match T.lookup t with
 | some ti=>match ti.desc with
  | .interface _=>False
  | _=>match commaOk,a with
   | true,.c (.v .nilIface)=>(match ti.zero with | .agg _=>False | z=>ifD (z.oneCell'=true) (K (.tup [.c (.v z),.c (.v (.bool false))])))
   | true,.c (.v (.iface t' v))=>(match Nat.beq t' t with
    | true=>(match v with | .agg _=>False | v=>ifD (v.oneCell'=true) (K (.tup [.c (.v v),.c (.v (.bool true))])))
    | false=>(match ti.zero with | .agg _=>False | z=>ifD (z.oneCell'=true) (K (.tup [.c (.v z),.c (.v (.bool false))]))))
   | true,.c (.ifc t' c)=>(match Nat.beq t' t with
    | true=>K (.tup [.c c,.c (.v (.bool true))])
    | false=>(match ti.zero with | .agg _=>False | z=>ifD (z.oneCell'=true) (K (.tup [.c (.v z),.c (.v (.bool false))]))))
   | false,.c (.v (.iface t' v))=>(match Nat.beq t' t with | true=>(match v with | .agg _=>False | v=>ifD (v.oneCell'=true) (K (.c (.v v)))) | false=>False)
   | false,.c (.ifc t' c)=>(match Nat.beq t' t with | true=>K (.c c) | false=>False)
   | _,_=>False
 | none=>False
def b2B(st:St):List Operand→Option (List (Bool × List IC))
 | []=>some []
 | x::r=>match ev st x,b2B st r with
  | some (.c c),some l=>some ((false,[c])::l)
  | some (.agg cs),some l=>some ((true,cs)::l)
  | _,_=>none
def a5I(T:TT)(st:St)(t:TypeId)(c:IC)(K:AV→Prop):Prop:=match c with
  | .own i off=>match st.own[i]? with
   | some (some (.cells _ cs))=>ldP T t (cs.drop off) K
   | _=>False
  | .fp cs=>ldP T t cs K
  | .rel i sz k off=>match st.own[i]? with
   | some (some (.row _ sz' n f))=>ifD (sz=sz') (ldP T t ((f k).drop off) K)
   | some (some (.arr _ sz' cap n f))=>ifD (sz=sz') (k<n∧ldP T t ((f k).drop off) K)
   | _=>False
  | _=>False
def aopP(T:TT)(st:St)(o:Op)(K:AV→Prop):Prop :=
 match o with
 | .move x | .assign x=>match ev st x with | some a=>K a | none=>False
 | .pick c a b=>match ev st c with
  | some (.c (.v (.bool true)))=>(match ev st a with | some u=>K u | none=>False)
  | some (.c (.v (.bool false)))=>(match ev st b with | some u=>K u | none=>False)
  | _=>False
 | .load t p=>match ev st p with | some (.c c)=>a5I T st t c K | _=>False
 | .fieldAddr s x i=>match a5S T s i,ev st x with
  | some o,some (.c (.own j off))=>K (.c (.own j (off+o)))
  | some o,some (.c (.fp cs))=>K (.c (.fp (cs.drop o)))
  | some o,some (.c (.rel j sz k off))=>K (.c (.rel j sz k (off+o)))
  | _,_=>False
 | .field s x i=>match T.lookup s,ev st x with
  | some ti,some (.agg cs)=>(match ti.desc with
   | .struct fs=>(match fs[i]? with | some f=>ldP T f.type (cs.drop f.offset) K | none=>False)
   | _=>False)
  | _,_=>False
 | .indexAddr t x i=>match T.lookup t,ev st x,a8n (ev st i)with
  | some ti,some (.c (.sl sz n f)),some (_,j)=>(match ti.desc with
   | .slice e=>(match T.lookup e with | some te=>ifD (te.size=sz) ((0≤j∧j<n)∧K (.c (.fp (f j.toNat)))) | none=>False)
   | _=>False)
  | some ti,some (.c (.row r)),some (_,j)=>(match ti.desc,st.own[r]? with
   | .slice e,some (some (.row _ sz n f))=>(match T.lookup e with | some te=>ifD (te.size=sz) ((0≤j∧j<n)∧K (.c (.rel r sz j.toNat 0))) | none=>False)
   | _,_=>False)
  | some ti,some (.c (.view r sz k n c)),some (_,j)=>(match ti.desc with
   | .slice e=>(match T.lookup e with | some te=>ifD (te.size=sz) ((0≤j∧j<n)∧K (.c (.rel r sz (k+j.toNat) 0))) | none=>False)
   | _=>False)
  | _,_,_=>False
 | .index t x i=>match T.lookup t,ev st x,a8n (ev st i)with
  | some ti,some (.c (.v (.string s))),some (_,j)=>(match ti.desc with | .string=>(0≤j∧j<s.size)∧K (.c (.v (.int .u8 (s[j.toNat]!).toNat))) | _=>False)
  | _,_,_=>False
 | .slice t x lo hi mx=>b3R T st t x lo hi mx K
 | .binOp op t x y _=>match ev st x,ev st y with
  | some a,some b=>(match a4e a,a4e b with
   | some u,some v=>binP T op t x y u v (fun r=>K (.c (.v r)))
   | _,_=>nilP op (nilT st T t a b) K)
  | _,_=>False
 | .unOp op t x=>match op,ev st x with
  | .not,some (.c (.v (.bool b)))=>K (.c (.v (.bool (!b))))
  | .neg,some (.c (.v (.int k n)))=>K (.c (.v (.int k (k.wrap (0-n)))))
  | _,_=>False
 | .extract x i=>match ev st x with
  | some (.tup az)=>(match az[i]? with | some (.c y)=>K (.c y) | some (.agg ys)=>K (.agg ys) | _=>False)
  | _=>False
 | .makeInterface t x=>match T.lookup t,ev st x with
  | some ti,some a=>(match ti.desc with | .interface _=>False | _=>match a4e a with
   | some u=>K (.c (.v (.iface t u)))
   | none=>match a with | .c c=>K (.c (.ifc t c)) | _=>False)
  | _,_=>False
 | .makeFunc (.func f) ⟨[]⟩ ⟨xs⟩=>match b2B st xs with
  | some cs=>K (.c (.fn f cs))
  | none=>False
 | .convert src dst x=>match T.lookup src,T.lookup dst,ev st x with
  | some ts,some td,some a=>b7x T st ts td a K
  | _,_,_=>False
 | .typeAssert x xt t commaOk=>match ev st x with
  | some a=>b1d T st a xt t commaOk K
  | none=>False
 | .nilCheck x=>match ev st x with
  | some (.c (.own j off))=>K (.c (.own j off))
  | some (.c (.fp cs))=>K (.c (.fp cs))
  | some (.c (.rel i sz k off))=>K (.c (.rel i sz k off))
  | _=>False
 | .build t parts=>b5J T st t parts.toList K
 | .call { callee:=.builtin b,args,argTypes }=>a2n T st b args.toList argTypes.toList K
 | _=>False
def Same(F:Nat→Nat→Prop)(own:List (Option Ob))(h:Hp)(w w':World):Prop:=∀ b,(h.m b≠none∨a0l F own b)→w'.heap[b]?=w.heap[b]?
section
variable {P:Program} {T:TT} {mine:Nat→Prop} {L:Nat→Value} {F:Nat→Nat→Prop} {h:Hp} {st:St} {a:Act} {w:World}
theorem a6h{w':World}(hm:Mem mine L F h st.own w)(hs:Same F st.own h w w'){a:Addr}{v:Value}(hc:a2c h a=some v):w'.cell? a=some v:=by
 refine a7q (fun k o hk=>?_) hc;rw[hs k (.inl (by rw[hk];simp))]
 exact hm.hsub k o hk
theorem c1V(hT:TTok P T){t:TypeId}{cs:List IC}{vs:List Value}{K:AV→Prop}(hp:ldP T t cs K)(hd:DenL L h cs vs) :
  ∃ av v,K av∧DenA L h av v∧∀(w:World) (ad:Addr),(∀(j:Nat) u,vs[j]?=some u→w.cell? (ad.add j)=some u)→(loadVar t ad).run P w=.ok v w:=by
 unfold ldP at hp;split at hp
 ·rename_i ti hl
  have hf:=hT _ _ hl;split at hp
  ·rename_i ha
   obtain⟨hle,hK⟩:=a0j hp;refine⟨_,.agg (vs.take ti.size).toArray,hK,⟨_,rfl,hd.take _⟩,fun w ad hc=>?_⟩;have hlen:(vs.take ti.size).length=ti.size:=by have:=hd.1;simp;omega
   have:=run_loadCells_list (P:=P) w ad (vs.take ti.size) (fun j v hj=>by
    refine hc j v ?_;rw[List.getElem?_take]at hj;split at hj
    ·exact hj
    ·cases hj)
   rw[hlen]at this;unfold loadVar;simp only[Sem.run_bind,hf.agg,Result.andThen_ok,ha,if_true,hf.size,this];rfl
  ·rename_i ha
   split at hp
   ·rename_i c rest
    obtain⟨v,r,rfl,h1,h2⟩:=hd.uncons;refine⟨_,v,hp,h1,fun w ad hc=>?_⟩;have h0:=hc 0 v (by simp)
    have e:ad.add 0=ad:=by simp[Addr.add]
    rw[e]at h0;unfold loadVar;simp only[Sem.run_bind,hf.agg,Result.andThen_ok,ha];simp[run_load,h0]
   ·exact hp.elim
 ·exact hp.elim
theorem a0L(x:Addr)(i j:Nat):(x.add i).add j=x.add (i+j):=by
 unfold Addr.add
 by_cases hi:i=0 <;> by_cases hj:j=0 <;> simp[hi,hj,Nat.add_assoc]
theorem a0n(b o j:Nat):(⟨b,o,none⟩:Addr).add j=⟨b,o+j,none⟩:=by unfold Addr.add;split <;> simp_all
theorem b1b{w:World}{b:Nat}{t:TypeId}{cs:List Value}{z:Nat × Nat}(hb:w.heap[b]?=some (.cells cs.toArray t z))(j:Nat):w.cell? ⟨b,j,none⟩=cs[j]?:=by
 simp[World.cell?,hb]
theorem a1q{w:World}{b:Nat}{t:TypeId}{cs:Array Value}{z:Nat × Nat}(hb:w.heap[b]?=some (.cells cs t z))(j:Nat):w.cell? ⟨b,j,none⟩=cs.toList[j]?:=by
 simp[World.cell?,hb]
theorem a3o(hT:TTok P T){s:TypeId}{i o:Nat}(hf:a5S T s i=some o)(w:World)(ad:Addr):(Instr.fieldAt s (.pointer (some ad)) i).run P w=.ok (.pointer (some (ad.add o))) w:=by
 unfold a5S at hf;split at hf
 ·rename_i ti hl
  have h1:=hT _ _ hl;split at hf
  ·rename_i fs hd
   split at hf
   ·rename_i f hfi
    split at hf
    ·rename_i tf hl2
     have h2:=hT _ _ hl2;split at hf
     ·cases hf
     ·rename_i hz
      cases hf;have hu:=h1.und;rw[hd]at hu;simp[Instr.fieldAt,run_underlying hu,hfi,Instr.sureAddr,fieldPlace,h2.size,hz]
    ·cases hf
   ·cases hf
  ·cases hf
 ·cases hf
theorem b4c{sz n:Nat}{f:Nat→List IC}{vs:List Value}(hr:RowD L h sz n f vs){k:Nat}(hk:k<n):∃ us,DenL L h (f k) us∧∀(j:Nat) u,us[j]?=some u→vs[k*sz+j]?=some u:=by
 have hd:=DenL.of_fun (L:=L) (h:=h) (cs:=f k) (g:=fun j=>(vs[k*sz+j]?).getD undef) (fun j c hc=>by
  obtain⟨u,h1,h2⟩:=hr.den k hk j c hc;rw[h1]
  exact h2)
 refine⟨_,hd,fun j u hu=>?_⟩;have hj:j<(f k).length:=by have:=(List.getElem?_eq_some_iff.1 hu).1;simpa using this
 obtain⟨u',h1,h2⟩:=hr.den k hk j (f k)[j] (by simp[hj])
 simp[hj]at hu;rw[h1]at hu ⊢;rw[←hu];rfl
theorem a7S{w:World}{v:Value}{G:Nat→Prop}{e:TypeId}{sz n:Nat}{f:Nat→List IC}(hob:ObOk L h w v G (.row e sz n f)) :
  ∃ A c vs,v=.slice A n c∧n≤c∧n≤9223372036854775807∧RowD L h sz n f vs∧(0<n→∃ g,A=some ⟨g,0,none⟩∧G g∧∀(j:Nat) u,vs[j]?=some u→w.cell? ⟨g,j,none⟩=some u):=by
 obtain⟨vs,⟨hl,hr⟩,hG,hR⟩:=hob;rcases hr with⟨e1,e2⟩|⟨g,cap,cur,e1,e2,e3,e4,e5,e6,e7⟩
 ·exact⟨none,0,vs,by rw[e1,e2],by omega,by omega,hR,fun hp=>by omega⟩
 ·refine⟨some ⟨g,0,none⟩,cap,vs,e1,e4,by unfold maxLen at e5;omega,hR,fun _=>⟨g,rfl,hG g (by rw[e1];rfl),fun j u hj=>?_⟩⟩
  rw[←e7,List.getElem?_take]at hj;split at hj
  ·rw[a1q e3];exact hj
  ·cases hj
theorem a7Q{w':World}(hs:Same F st.own h w w'){i:Nat}{o:Ob}(hi:st.own[i]?=some (some o)){b:Nat}(hb:F i b):w'.heap[b]?=w.heap[b]?:=hs b (.inr ⟨i,o,hi,hb⟩)
theorem b4C(hT:TTok P T)(hm:Mem mine L F h st.own w){t:TypeId}{c:IC}{p:Value}{K:AV→Prop}(hd:Den L h c p)(hp:a5I T st t c K) :
  ∃ av v,K av∧DenA L h av v∧∀ w',Same F st.own h w w'→(Instr.loadAt t p).run P w'=.ok v w':=by
 have fin:∀(ad:Addr) (cs:List IC) (vs:List Value),p=.pointer (some ad)→DenL L h cs vs→(∀ w',Same F st.own h w w'→∀(j:Nat) u,vs[j]?=some u→w'.cell? (ad.add j)=some u)→ldP T t cs K →
   ∃ av v,K av∧DenA L h av v∧∀ w',Same F st.own h w w'→(Instr.loadAt t p).run P w'=.ok v w':=fun ad cs vs e h1 h2 h3=>by
  obtain⟨av,v,k1,k2,k3⟩:=c1V hT h3 h1;refine⟨av,v,k1,k2,fun w' hs=>?_⟩;simp only[e,Instr.loadAt,Instr.sureAddr,Sem.run_bind,Sem.run_pure,Result.andThen_ok];exact k3 w' ad (h2 w' hs)
 unfold a5I at hp;split at hp
 ·rename_i i off
  split at hp
  ·rename_i u cs ho
   cases hd with
   | own _ _ ad h1 h2 =>
   obtain⟨b,vs,e1,e2,e3,e4⟩:=hm.obs i _ ho;rw[h2]at e1;cases e1;refine fin _ _ _ rfl (e4.drop off) (fun w' hs j u hj=>?_) hp;rw[a0n,a0n,Nat.zero_add,b1b ((a7Q hs ho e2).trans e3),←List.getElem?_drop];exact hj
  ·exact hp.elim
 ·rename_i cs
  cases hd with
  | fp _ ad g hclo hg hr =>
  refine fin ad cs _ rfl (DenL.of_fun hr) (fun w' hs j u hj=>?_) hp;have hlt:j<cs.length:=by have:=(List.getElem?_eq_some_iff.1 hj).1;simpa using this
  simp[hlt]at hj;rw[←hj];exact a6h hm hs (hg j hlt)
 ·rename_i i sz k off
  cases hd with
  | rel _ _ _ _ ad h1 h2 h3 =>
  split at hp
  ·rename_i e sz' n f ho
   obtain⟨hz,hp2⟩:=a0j hp;subst hz;obtain⟨A,c,vs,e1,e2,e3,e4,e5⟩:=a7S (hm.obs i _ ho);have hk:=h3 _ _ _ e1;rw[e1]at h2;obtain⟨g,rfl,e6,e7⟩:=e5 (by omega)
   cases h2;obtain⟨us,k1,k2⟩:=b4c e4 hk;refine fin _ _ _ rfl (k1.drop off) (fun w' hs j u hj=>?_) hp2;rw[a0n,a0n,Nat.zero_add];rw[List.getElem?_drop]at hj;have:=e7 _ _ (k2 _ _ hj);rw[Nat.add_assoc];unfold World.cell? at this ⊢;rw[a7Q hs ho e6];exact this
  ·rename_i e sz' cap n f ho
   obtain⟨hz,hk,hp2⟩:=a0j hp;subst hz;obtain⟨b,cur,e1,e2,e3,e4,e5,e6,e7⟩:=hm.obs i _ ho;rw[e1]at h2;cases h2;obtain⟨us,k1,k2⟩:=b4c e7 hk;refine fin _ _ _ rfl (k1.drop off) (fun w' hs j u hj=>?_) hp2;rw[a0n,a0n,Nat.zero_add,a1q ((a7Q hs ho e2).trans e3),Nat.add_assoc];rw[List.getElem?_drop]at hj;exact k2 _ _ hj
  ·exact hp.elim
 ·exact hp.elim
theorem ev_v[a0h P](ha:a0r P L h st a){x:Operand}{u:Value}(hx:ev st x=some (.c (.v u))):a.eval x=u:=by
 have:Den L h _ _:=a0o ha hx
 generalize a.eval x=z at this;cases this;rfl
theorem a1A[a0h P](ha:a0r P L h st a){x:Operand}{k:IntKind}{j:Int}(hx:a8n (ev st x)=some (k,j)):a.eval x=.int k j:=by
 unfold a8n at hx;split at hx
 ·rename_i k' j' hv
  cases hx;exact ev_v ha hv
 ·cases hx
theorem a3W{t e:TypeId}{ti te:TI}(h1:TF P t ti)(hd:ti.desc=.slice e)(h2:TF P e te)(ad:Addr)(n c:Nat)(k:IntKind)(j:Int)(h0:0≤j)(hj:j<n)(w:World) :
  (Instr.indexAt t (.slice (some ad) n c) (.int k j)).run P w=.ok (.pointer (some (ad.add (j.toNat*te.size)))) w:=by
 have hu:=h1.und;rw[hd]at hu;simp[Instr.indexAt,run_underlying hu,asIntOf,h0,hj,h2.size]
theorem a2e{av:AV}{v:Value}{cs:List IC}(hc:cellsOf av=some cs)(hd:DenA L h av v):∃ vs,v.cells=vs.toArray∧DenL L h cs vs:=by
 cases av with
 | c x =>
  cases hc;have hd:Den L h x v:=hd;have h1:=hd.one;refine⟨[v],?_,DenL.cons hd DenL.nil⟩;cases v <;> simp_all [Value.cells,Value.oneCell']
 | agg xs=>cases hc;obtain⟨vs,rfl,hd⟩:=hd;exact⟨vs,rfl,hd⟩
 | tup az=>cases hc
 | top=>cases hc
theorem a6K{av:AV}{v:Value}{cs:List IC}(hc:cellsOf av=some cs)(hd:DenA L h av v):DenL L h cs v.cells.toList:=by
 obtain⟨vs,e,hd⟩:=a2e hc hd;rw[e];exact hd
end
end Go.Eng
namespace Go.Eng
open Go Go.RowKit
section
variable {P:Program} {T:TT} {mine:Nat→Prop} {L:Nat→Value} {F:Nat→Nat→Prop} {h:Hp} {st:St} {a:Act} {w:World}
theorem b7p(vs:List Value):∀(k off:Nat) (arr:List Value),off+k+vs.length≤arr.length →
  (vs.zipIdx k).foldl (fun(cs:Array Value) (x:Value × Nat)=>cs.setIfInBounds (off+x.2) x.1) arr.toArray=(arr.take (off+k)++vs++arr.drop (off+k+vs.length)).toArray:=by
 induction vs with
 | nil=>intro k off arr h;simp
 | cons v r ih =>
  intro k off arr h;rw[List.zipIdx_cons,List.foldl_cons];simp only[List.setIfInBounds_toArray];simp only[List.length_cons]at h;rw[ih (k+1) off _ (by rw[List.length_set];omega)]
  congr 1
  have hlt:off+k<arr.length:=by omega
  have e1:off+(k+1)=off+k+1:=by omega
  have e2:off+k+1+r.length=off+k+(v::r).length:=by simp;omega
  rw[e1,List.take_set,List.drop_set,if_pos (by omega),e2]
  rw[List.take_succ_eq_append_getElem (by simpa using hlt)]
  simp only[List.set_append];rw[if_neg (by simp;omega)]
  simp[Nat.min_eq_left (Nat.le_of_lt hlt)]
inductive DenP(L:Nat→Value)(h:Hp):List (Nat × AV)→List (Nat × Value)→Prop
 | nil:DenP L h [] []
 | cons {i:Nat} {a:AV} {v:Value} {l:List (Nat × AV)} {r:List (Nat × Value)} (h1:DenA L h a v) (h2:DenP L h l r):DenP L h ((i,a)::l) ((i,v)::r)
theorem b5l(hT:TTok P T){fs:Array Field}{pl:Array (Nat × Nat)}(hpl:∀(i:Nat) (f:Field) (tf:TI),fs[i]?=some f→T.lookup f.type=some tf→pl[i]?=some (f.offset,tf.size)) :
  ∀(l:List (Nat × AV)) (us:List (Nat × Value)) (cs:List IC) (vs:List Value) (out:List IC),DenP L h l us→DenL L h cs vs→b5m T fs cs l=some out →
   ∃ ws,Instr.fill (fun i=>pl[i]?) vs.toArray us=some ws.toArray∧DenL L h out ws
 | [],_,cs,vs,out,.nil,hd,hf=>by
  simp only[b5m,Option.some.injEq]at hf;subst hf;exact⟨vs,rfl,hd⟩
 | (i,av)::r,_,cs,vs,out,.cons (v:=v) (r:=us) h1 h2,hd,hf=>by
  unfold b5m at hf;split at hf
  ·rename_i f xs hfi hc
   split at hf
   ·rename_i tf hl
    split at hf
    ·rename_i hcond
     obtain⟨ys,e1,e2⟩:=a2e hc h1;have hxl:=e2.1;have hcl:=hd.1;have hnew:DenL L h (cs.take f.offset++xs++cs.drop (f.offset+xs.length)) (vs.take f.offset++ys++vs.drop (f.offset+ys.length)):=by
      rw[←hxl];exact((hd.take _).append e2).append (hd.drop _)
     obtain⟨ws,k1,k2⟩:=b5l hT hpl r us _ _ out h2 hnew hf;refine⟨ws,?_,k2⟩;unfold Instr.fill;simp only[hpl i f tf hfi hl,e1];rw[if_neg (by simp;omega)]
     have:=b7p ys 0 f.offset vs (by omega)
     rw[Nat.add_zero]at this;have e:ys.toArray.zipIdx=(ys.zipIdx 0).toArray:=by simp
     rw[e,←Array.foldl_toList];simp only[]at this ⊢;rw[this];exact k1
    ·cases hf
   ·cases hf
  ·cases hf
theorem a5g[a0h P](ha:a0r P L h st a):∀{xs:List (Nat × Operand)} {l:List (Nat × AV)},a5h st xs=some l→DenP L h l (xs.map fun x=>(x.1,a.eval x.2))
 | [],l,e=>by cases e;exact .nil
 | (i,x)::r,l,e=>by
  unfold a5h at e;split at e
  ·rename_i av l' hx hr
   cases e;exact .cons (a0o ha hx) (a5g ha hr)
  ·cases e
theorem a7h(hT:TTok P T):∀(fs:List Field),fs.all (fun f=>(T.lookup f.type).isSome)=true→∃ pl:List (Nat × Nat),(∀ w,(fs.mapM (fun f=>(do pure (f.offset,←Go.sizeOf f.type):Sem (Nat × Nat)))).run P w=.ok pl w)∧∀(i:Nat) (f:Field) (tf:TI),fs[i]?=some f→T.lookup f.type=some tf→pl[i]?=some (f.offset,tf.size)
 | [],_=>⟨[],fun w=>by simp,fun i f tf hi=>by simp at hi⟩
 | f::fs,hall=>by
  rw[List.all_cons,Bool.and_eq_true]at hall;obtain⟨tf,hl⟩:=Option.isSome_iff_exists.1 hall.1;obtain⟨pl,h1,h2⟩:=a7h hT fs hall.2;refine⟨(f.offset,tf.size)::pl,fun w=>by rw[List.mapM_cons];simp only[Sem.run_bind,Sem.run_pure,(hT _ _ hl).size,h1,Result.andThen_ok],fun i f' tf' hi hl'=>?_⟩
  cases i with
  | zero =>
   simp only[List.getElem?_cons_zero,Option.some.injEq]at hi;subst hi;rw[hl]at hl';cases hl';rfl
  | succ i =>
   simp only[List.getElem?_cons_succ]at hi ⊢;exact h2 i f' tf' hi hl'
theorem b1l{z:Value}(hz:z.cells.toList.all (·.oneCell')=true):DenL L h (z.cells.toList.map IC.v) z.cells.toList:=DenL.of_v (fun x hx=>List.all_eq_true.1 hz x hx)
theorem b7H[a0h P](hT:TTok P T)(ha:a0r P L h st a){t:TypeId}{parts:Array (Nat × Operand)}{K:AV→Prop}(hp:b5J T st t parts.toList K) :
  ∃ av v,K av∧DenA L h av v∧∀ w,(Instr.build t (parts.map fun(i,x)=>(i,a.eval x))).run P w=.ok v w:=by
 unfold b5J at hp;split at hp
 ·rename_i ti l hl hx
  have hf:=hT _ _ hl;split at hp
  ·rename_i fs hd
   have hu:=hf.und;rw[hd]at hu;obtain⟨hall,hp⟩:=a0j hp;split at hp
   ·rename_i cs hfc
    obtain⟨hz,hp⟩:=a0j hp;rw[a0q]at hp;obtain⟨pl,p1,p2⟩:=a7h hT fs.toList hall;obtain⟨ws,f1,f2⟩:=b5l (L:=L) (h:=h) hT (fs:=fs) (pl:=pl.toArray) (fun i f tf hi hl=>by
     rw[List.getElem?_toArray]
     exact p2 i f tf (by rw[Array.getElem?_toList];exact hi) hl) l _ _ _ cs (a5g ha hx) (b1l hz) hfc
    refine⟨_,.agg ws.toArray,hp,⟨ws,rfl,f2⟩,fun w=>?_⟩;rw[Array.toArray_toList]at f1;have hpr:(fs.mapM (fun f=>(do pure (f.offset,←Go.sizeOf f.type):Sem (Nat × Nat)))).run P w=.ok pl.toArray w:=by
     rw[show fs=fs.toList.toArray from by simp,List.mapM_toArray]
     simp only[Sem.run_map,p1];rfl
    have hparts:(parts.map fun(i,x)=>(i,a.eval x)).toList=parts.toList.map fun x=>(x.1,a.eval x.2):=by
     rw[Array.toList_map]
    unfold Instr.build;simp only[Sem.run_bind,hf.zero,Result.andThen_ok,run_underlying hu];rw[hpr];simp only[Result.andThen_ok,hparts,f1];rfl
   ·exact hp.elim
  ·exact hp.elim
 ·exact hp.elim
theorem a4c[a0h P]{x:Option Operand}{d l:Int}(ha:a0r P L h st a)(hb:a2U st x d=some l):(x=none∧l=d)∨∃ o k,x=some o∧a.eval o=.int k l:=by
 unfold a2U at hb;split at hb
 ·cases hb;exact .inl ⟨rfl,rfl⟩
 ·rename_i o
  split at hb
  ·rename_i k j hj
   cases hb;exact .inr ⟨o,k,rfl,a1A ha hj⟩
  ·cases hb
def mxN(mx:Option Operand)(c:Nat)(m:Int):Nat:=match mx with | none=>c | some _=>m.toNat
theorem a6c[a0h P]{t e:TypeId}{sz:Nat}(ht:P.underlying t=some (.slice e))(hsz:∀ w,(Go.sizeOf e).run P w=.ok sz w)(A:Option Addr)(n c:Nat){lo hi mx:Option Operand}{l r m:Int}{d:Int}(ha:a0r P L h st a)(hlo:a2U st lo 0=some l)(hhi:a2U st hi n=some r)(hmx:a2U st mx d=some m)
  (hh:(hi.isNone&&mx.isSome)=false) (h0:0≤l) (h1:l≤r) (h2:r≤m) (h3:m≤c) (hrc:mx=none→r≤n∨r≤c) (h4:n≤c) (w:World) :
  (Instr.sliceAt t (.slice A n c) (lo.map a.eval) (hi.map a.eval) (mx.map a.eval)).run P w=.ok (.slice (if(mxN mx c m)=l.toNat then A else A.map (·.add (l.toNat*sz))) (r.toNat-l.toNat) ((mxN mx c m)-l.toNat)) w:=by
 have er:(r.toNat:Int)=r:=Int.toNat_of_nonneg (by omega)
 have em:(m.toNat:Int)=m:=Int.toNat_of_nonneg (by omega)
 have g2:0≤r:=by omega
 have g3:l≤(r.toNat:Int):=by omega
 have g4:0≤m:=by omega
 have g5:r≤(m.toNat:Int):=by omega
 rcases a4c ha hmx with⟨rfl,rfl⟩|⟨o3,k3,rfl,e3⟩
 ·have g1:r≤(c:Int):=by rcases hrc rfl with g | g <;> omega
  rcases a4c ha hlo with⟨rfl,rfl⟩|⟨o1,k1,rfl,e1⟩ <;> rcases a4c ha hhi with⟨rfl,rfl⟩|⟨o2,k2,rfl,e2⟩ <;>
   (simp[mxN,Instr.sliceAt,Instr.slice,run_underlying ht,Instr.sliceBounds,run_sliceBound,hsz, *];try congr 1)
 ·rcases a4c ha hhi with⟨rfl,rfl⟩|⟨o2,k2,rfl,e2⟩
  ·simp at hh
  ·rcases a4c ha hlo with⟨rfl,rfl⟩|⟨o1,k1,rfl,e1⟩ <;>
    (simp[mxN,Instr.sliceAt,Instr.slice,run_underlying ht,Instr.sliceBounds,run_sliceBound,hsz, *];try congr 1)
theorem a7N[a0h P]{t:TypeId}(ht:P.underlying t=some .string)(s:ByteArray){lo hi:Option Operand}{l r:Int}(ha:a0r P L h st a)(hlo:a2U st lo 0=some l)(hhi:a2U st hi s.size=some r)
  (h0:0≤l) (h1:l≤r) (h2:r≤s.size) (w:World):(Instr.sliceAt t (.string s) (lo.map a.eval) (hi.map a.eval) none).run P w=.ok (.string (s.extract l.toNat r.toNat)) w:=by
 have er:(r.toNat:Int)=r:=Int.toNat_of_nonneg (by omega)
 have g2:0≤r:=by omega
 have g3:l≤(r.toNat:Int):=by omega
 rcases a4c ha hlo with⟨rfl,rfl⟩|⟨o1,k1,rfl,e1⟩ <;> rcases a4c ha hhi with⟨rfl,rfl⟩|⟨o2,k2,rfl,e2⟩ <;>
  simp[Instr.sliceAt,Instr.slice,run_underlying ht,Instr.sliceBounds,run_sliceBound, *]
theorem b6w[a0h P](hT:TTok P T)(ha:a0r P L h st a){t:TypeId}{x:Operand}{lo hi mx:Option Operand}{K:AV→Prop}(hp:b3R T st t x lo hi mx K) :
  ∃ av v,K av∧DenA L h av v∧∀ w,(Instr.sliceAt t (a.eval x) (lo.map a.eval) (hi.map a.eval) (mx.map a.eval)).run P w=.ok v w:=by
 unfold b3R at hp;split at hp
 ·rename_i ti s hl hx
  have hu:=(hT _ _ hl).und;split at hp
  ·rename_i l r hd h1 h2
   rw[hd]at hu;obtain⟨⟨g1,g2,g3⟩,hK⟩:=hp;refine⟨_,.string (s.extract l.toNat r.toNat),hK,Den.v _ rfl,fun w=>?_⟩;rw[ev_v ha hx];exact a7N hu s ha h1 h2 g1 g2 g3 w
  ·exact hp.elim
 ·rename_i ti hl hx
  have hu:=(hT _ _ hl).und;split at hp
  ·rename_i e l r m hd h1 h2 h3
   rw[hd]at hu;split at hp
   ·exact hp.elim
   ·rename_i hh
    split at hp
    ·rename_i te hle
     obtain⟨⟨rfl,rfl,rfl⟩,hK⟩:=hp;refine⟨_,.slice none 0 0,hK,Den.v _ rfl,fun w=>?_⟩;rw[ev_v ha hx];have hrun:=a6c (P:=P) hu (hT _ _ hle).size none 0 0 ha h1 h2 h3 (by simpa using hh) (by omega) (by omega) (by omega) (by omega) (fun _=>.inl (by omega)) (by omega) w
     rw[hrun];cases mx <;> simp[mxN]
    ·exact hp.elim
  ·exact hp.elim
 ·rename_i ti sz n f hl hx
  have hu:=(hT _ _ hl).und;split at hp
  ·rename_i e l r m hd h1 h2 h3
   rw[hd]at hu;split at hp
   ·exact hp.elim
   ·rename_i hh
    split at hp
    ·rename_i te hle
     obtain⟨hsz,⟨g1,g2,g3,g4⟩,n',f',hn,hf,hK⟩:=a0j hp;have hden:Den L h _ _:=a0o ha hx;generalize hz:a.eval x=z at hden;cases hden with
     | sl _ _ _ A c ad g hc hm hA hg hlen hclo hr =>
     subst hn;have hszr:∀ w,(Go.sizeOf e).run P w=.ok sz w:=fun w=>by rw[←hsz];exact(hT _ _ hle).size w
     have hrun:=a6c hu hszr A n c ha h1 h2 h3 hh g1 g2 g3 (by omega) (fun _=>.inl (by omega)) hc
     refine⟨_,_,hK,?_,hrun⟩;have hcm:r.toNat≤(mxN mx c m):=by unfold mxN;split <;> omega
     refine Den.sl _ _ _ _ _ (ad.add (l.toNat*sz)) (fun k j=>g (l.toNat+k) j) (by omega) (by omega) (fun hp=>?_) (fun k hk j hj=>?_) (fun k hk=>?_) (fun k hk=>?_) (fun k hk j c' hc'=>?_)
     ·rw[if_neg (by omega),hA (by omega)];rfl
     ·rw[a0L]
      have e1:l.toNat*sz+(k*sz+j)=(l.toNat+k)*sz+j:=by rw[Nat.add_mul];omega
      rw[e1];exact hg _ (by omega) j hj
     ·rw[hf k hk];exact hlen _ (by omega)
     ·rw[hf k hk];exact hclo _ (by omega)
     ·rw[hf k hk]at hc';exact hr _ (by omega) j c' hc'
    ·exact hp.elim
  ·exact hp.elim
 ·rename_i ti i sz k n c hl hx
  have hu:=(hT _ _ hl).und;split at hp
  ·rename_i e l r m hd h1 h2 h3
   rw[hd]at hu;split at hp
   ·exact hp.elim
   ·rename_i hh
    split at hp
    ·rename_i te hle
     obtain⟨hsz,⟨g1,g2,g3,g4⟩,hK⟩:=a0j hp;have hden:Den L h _ _:=a0o ha hx;generalize hz:a.eval x=z at hden;cases hden with
     | view _ _ _ _ _ ad b k1 k2 k3 k4 k5 =>
     have hmc:mx=none→m=c:=fun e=>by subst e;unfold a2U at h3;cases h3;rfl
     have hszr:∀ w,(Go.sizeOf e).run P w=.ok sz w:=fun w=>by rw[←hsz];exact(hT _ _ hle).size w
     have hrun:=a6c hu hszr (some b) n c ha h1 h2 h3 hh g1 g2 g3 g4 (fun _=>.inr (by omega)) k4
     have hmm:(mxN mx c m)=m.toNat:=by
      cases mx with
      | none=>have:=hmc rfl;show c=m.toNat;omega
      | some _=>rfl
     refine⟨_,.slice (some (if m.toNat=l.toNat then b else b.add (l.toNat*sz))) (r.toNat-l.toNat) (m.toNat-l.toNat),hK,Den.view _ _ _ _ _ ad _ k1 k2 (fun hp=>?_) (by omega) (by omega),fun w=>?_⟩
     ·rcases hp with hp | hp
      ·rw[if_neg (by omega),k3 (.inl (by omega)),a0L,Nat.add_mul]
      ·have e1:k=0:=by omega
       have e2:l.toNat=0:=by omega
       rw[k3 (.inr e1),e1,e2];simp only[Nat.zero_mul,Nat.add_zero,a0L,ite_self]
     ·rw[hrun w,hmm]
      by_cases e:m.toNat=l.toNat <;> simp[e]
    ·exact hp.elim
  ·exact hp.elim
 ·exact hp.elim
theorem a0u{u v:Value}(hx:DenA L h (.c (.v u)) v):v=u:=by cases hx;rfl
theorem b9y(hT:TTok P T)(hm:Mem mine L F h st.own w){t:TypeId}{x y:AV}{vx vy:Value}(hx:DenA L h x vx)(hy:DenA L h y vy){K:AV→Prop}{op:BinOp}(hp:nilP op (nilT st T t x y) K) :
  ∃ b:Bool,K (.c (.v (.bool b)))∧∀ ox oy w,(do eqGuard op t ox oy vx vy;binOp op t vx vy:Sem Value).run P w=.ok (.bool b) w:=by
 have fin:∀ r:Bool,a3S vx vy=true→(∀ w,(Op.equalIn 10000 t vx vy).run P w=.ok r w)→(∀ ox oy w,(eqGuard op t ox oy vx vy).run P w=.ok () w)→(op=.eql∧K (.c (.v (.bool r)))∨op=.neq∧K (.c (.v (.bool (!r))))) →
   ∃ b:Bool,K (.c (.v (.bool b)))∧∀ ox oy w,(do eqGuard op t ox oy vx vy;binOp op t vx vy:Sem Value).run P w=.ok (.bool b) w:=fun r h1 h2 h3 h4=>by
  rcases h4 with⟨rfl,h4⟩|⟨rfl,h4⟩
  ·exact⟨_,h4,fun ox oy w=>by simp only[Sem.run_bind,h3 ox oy w,Result.andThen_ok];exact(a8v h1 (h2 w)).1⟩
  ·exact⟨_,h4,fun ox oy w=>by simp only[Sem.run_bind,h3 ox oy w,Result.andThen_ok];exact(a8v h1 (h2 w)).2⟩
 have hK:∀(r:Bool) (n:Nat),(r=true→n=0)→nilP op (.mayBe n) K→(op=.eql∧K (.c (.v (.bool r)))∨op=.neq∧K (.c (.v (.bool (!r))))):=fun r n hr hp=>by
  clear fin;cases op <;> first | exact(show False from hp).elim | exact .inl ⟨rfl,hp r hr⟩ | exact .inr ⟨rfl,hp r hr⟩
 have hN:nilP op .never K→(op=.eql∧K (.c (.v (.bool false)))∨op=.neq∧K (.c (.v (.bool (!false))))):=fun hp=>by
  clear fin;cases op <;> first | exact(show False from hp).elim | exact .inl ⟨rfl,hp⟩ | exact .inr ⟨rfl,hp⟩
 have hno:∀{X:Prop},nilP op .no K→X:=fun hp=>by
  clear fin;cases op <;> exact(show False from hp).elim
 unfold nilT at hp;split at hp
 ·exact hno hp
 ·rename_i ti hl
  have hd:=(hT _ _ hl).und;split at hp
  ·rename_i e sz n f hde
   rw[hde]at hd;obtain rfl:=a0u hy;have hx:Den L h _ _:=hx;cases hx with
   | sl _ _ _ A c ad g hc hmx hA =>
   refine fin A.isNone rfl (fun w=>?_) (fun ox oy w=>by unfold eqGuard;cases op <;> simp) (hK _ n (fun e=>?_) hp)
   ·have:∀ d w,(Op.equalIn (d+1) t (.slice A n c) (.slice none 0 0)).run P w=.ok A.isNone w:=fun d w=>by cases A <;> simp[Op.equalIn,run_underlying hd]
    exact this 9999 w
   ·rcases Nat.eq_zero_or_pos n with h0 | hp
    ·exact h0
    ·rw[hA hp]at e;cases e
  ·rename_i e i hde
   rw[hde]at hd;split at hp
   ·rename_i e' sz n f ho
    obtain rfl:=a0u hy;have hx:Den L h _ _:=hx;cases hx with
    | row _ A n' c h1 h2 =>
    obtain⟨A',c',vs,e1,e2,e3,e4,e5⟩:=a7S (hm.obs i _ ho);rw[h2]at e1;cases e1;refine fin A.isNone rfl (fun w=>?_) (fun ox oy w=>by unfold eqGuard;cases op <;> simp) (hK _ _ (fun e=>?_) hp)
    ·have:∀ d w,(Op.equalIn (d+1) t (.slice A n c) (.slice none 0 0)).run P w=.ok A.isNone w:=fun d w=>by cases A <;> simp[Op.equalIn,run_underlying hd]
     exact this 9999 w
    ·rcases Nat.eq_zero_or_pos n with h0 | hp
     ·exact h0
     ·obtain⟨g,rfl,_⟩:=e5 hp;cases e
   ·exact hno hp
  ·rename_i e i sz k n c hde
   rw[hde]at hd;obtain rfl:=a0u hy;have hx:Den L h _ _:=hx;cases hx with
   | view _ _ _ _ _ a b =>
   refine fin false rfl (fun w=>?_) (fun ox oy w=>by unfold eqGuard;cases op <;> simp) (hN hp)
   have:∀ d w,(Op.equalIn (d+1) t (.slice (some b) n c) (.slice none 0 0)).run P w=.ok false w:=fun d w=>by simp[Op.equalIn,run_underlying hd]
   exact this 9999 w
  ·rename_i e cs hde
   rw[hde]at hd;obtain rfl:=a0u hy;have hx:Den L h _ _:=hx;cases hx with
   | fp _ ad =>
   refine fin false rfl (fun w=>?_) (fun ox oy w=>by unfold eqGuard;cases op <;> simp) (hN hp)
   have:∀ d w,(Op.equalIn (d+1) t (.pointer (some ad)) (.pointer none)).run P w=.ok false w:=fun d w=>by simp[Op.equalIn,run_underlying hd]
   exact this 9999 w
  ·rename_i e i off hde
   rw[hde]at hd;obtain rfl:=a0u hy;have hx:Den L h _ _:=hx;cases hx with
   | own _ _ ad =>
   refine fin false rfl (fun w=>?_) (fun ox oy w=>by unfold eqGuard;cases op <;> simp) (hN hp)
   have:∀ d w,(Op.equalIn (d+1) t (.pointer (some (ad.add off))) (.pointer none)).run P w=.ok false w:=fun d w=>by simp[Op.equalIn,run_underlying hd]
   exact this 9999 w
  ·rename_i e i sz k off hde
   rw[hde]at hd;obtain rfl:=a0u hy;have hx:Den L h _ _:=hx;cases hx with
   | rel _ _ _ _ ad =>
   refine fin false rfl (fun w=>?_) (fun ox oy w=>by unfold eqGuard;cases op <;> simp) (hN hp)
   have:∀ d w,(Op.equalIn (d+1) t (.pointer (some (ad.add (k*sz+off)))) (.pointer none)).run P w=.ok false w:=fun d w=>by simp[Op.equalIn,run_underlying hd]
   exact this 9999 w
  ·rename_i e tt c hde
   rw[hde]at hd;obtain rfl:=a0u hy;have hx:Den L h _ _:=hx;cases hx with
   | ifc _ _ u hr =>
   refine fin false rfl (fun w=>?_) (fun ox oy w=>by unfold eqGuard;cases op <;> simp) (hN hp)
   have:∀ d w,(Op.equalIn (d+1) t (.iface tt u) .nilIface).run P w=.ok false w:=fun d w=>by simp[Op.equalIn,run_underlying hd]
   exact this 9999 w
  ·rename_i e tt c t' u' hde
   rw[hde]at hd;split at hp
   ·rename_i hne
    have hne:tt≠t':=fun e=>by rw[e]at hne;simp at hne
    obtain rfl:=a0u hy;have hx:Den L h _ _:=hx;cases hx with
    | ifc _ _ u hr =>
    refine fin false rfl (fun w=>?_) (fun ox oy w=>by unfold eqGuard;cases op <;> simp) (hN hp)
    have:∀ d w,(Op.equalIn (d+1) t (.iface tt u) (.iface t' u')).run P w=.ok false w:=fun d w=>by simp[Op.equalIn,run_underlying hd,hne]
    exact this 9999 w
   ·exact hno hp
  ·rename_i e f cs hde
   rw[hde]at hd;obtain rfl:=a0u hy;have hx:Den L h _ _:=hx;cases hx with
   | fn _ _ vs =>
   refine fin false rfl (fun w=>?_) (fun ox oy w=>by unfold eqGuard;cases op <;> simp) (hN hp)
   have:∀ d w,(Op.equalIn (d+1) t (.func (.func f) #[] vs.toArray) .nilFunc).run P w=.ok false w:=fun d w=>by simp[Op.equalIn,run_underlying hd]
   exact this 9999 w
  ·exact hno hp
end
end Go.Eng
namespace Go.Eng
open Go Go.RowKit
section
variable {P:Program} {T:TT} {mine:Nat→Prop} {L:Nat→Value} {F:Nat→Nat→Prop} {h:Hp} {st:St} {a:Act} {w:World}
theorem c1T(hm:Mem mine L F h st.own w){x:Value}{av:AV}{K:AV→Prop}(hd:DenA L h av x)(hp:lenP st (some av) K):∃ A n c,x=.slice A n c∧K (.c (.v (.int .i64 (n:Int)))):=by
 unfold lenP at hp;split at hp <;> first | exact hp.elim | skip
 ·rename_i A n c heq
  cases heq;obtain rfl:=a0u hd;exact⟨_,_,_,rfl,hp.2⟩
 ·rename_i sz n f heq
  cases heq;have hd:Den L h _ _:=hd;cases hd with
  | sl _ _ _ A c=>exact⟨_,_,_,rfl,hp⟩
 ·rename_i i sz k n c heq
  cases heq;have hd:Den L h _ _:=hd;cases hd with
  | view _ _ _ _ _ a b=>exact⟨_,_,_,rfl,hp⟩
 ·rename_i i heq
  cases heq;split at hp
  ·rename_i e sz n f ho
   have hd:Den L h _ _:=hd;cases hd with
   | row _ A n' c h1 h2 =>
   obtain⟨A',c',vs,e1,_⟩:=a7S (hm.obs i _ ho);rw[h2]at e1;cases e1;exact⟨_,_,_,rfl,hp⟩
  ·exact hp.elim
theorem b3n[a0h P](hT:TTok P T)(hm:Mem mine L F h st.own w)(ha:a0r P L h st a){o:Oper}{b:Builtin}{args:Array Operand}{ts:Array TypeId}(ho:o.op=.call { callee:=.builtin b,args:=args,argTypes:=ts }){K:AV→Prop}(hp:a2n T st b args.toList ts.toList K) :
  ∃ av v,K av∧DenA L h av v∧∀ w,(execOp a.eval o).run P w=.ok (.value v) w:=by
 unfold a2n at hp;split at hp
 ·rename_i x t hargs hts
  have hargs':args=#[x]:=by apply Array.ext';simpa using hargs
  have hts':ts=#[t]:=by apply Array.ext';simpa using hts
  subst hargs' hts';split at hp
  ·rename_i ti hl
   have hu:=(hT _ _ hl).und;split at hp
   ·rename_i hd
    rw[hd]at hu;split at hp
    ·rename_i s hx
     refine⟨_,_,hp.2,Den.v _ rfl,fun w=>?_⟩;have e:a.eval x=.string s:=ev_v ha hx;unfold execOp;rw[ho];clear hx ha;generalize a.eval=ρ at e ⊢;simp[go_sem,e,hu,goInt]
    ·exact hp.elim
   ·rename_i e0 hd
    rw[hd]at hu;cases hx:ev st x with
    | none=>rw[hx]at hp;exact hp.elim
    | some av =>
     rw[hx]at hp;obtain⟨A,n,c,e,hK⟩:=c1T hm (a0o ha hx) hp;refine⟨_,_,hK,Den.v _ rfl,fun w=>?_⟩;have hel:P.elem t=e0:=by simp[Program.elem,hu]
     unfold execOp;rw[ho];clear hx ha;generalize a.eval=ρ at e ⊢;simp[go_sem,e,hu,hel,goInt]
   ·exact hp.elim
  ·exact hp.elim
 ·rename_i x t hargs hts
  have hargs':args=#[x]:=by apply Array.ext';simpa using hargs
  have hts':ts=#[t]:=by apply Array.ext';simpa using hts
  subst hargs' hts';split at hp
  ·rename_i ti hl
   have hu:=(hT _ _ hl).und;split at hp
   ·rename_i e0 hd
    rw[hd]at hu;split at hp
    ·rename_i i sz k n c hx
     have hd:Den L h _ _:=a0o ha hx;generalize hz:a.eval x=z at hd;cases hd with
     | view _ _ _ _ _ ad b =>
     refine⟨_,_,hp,Den.v _ rfl,fun w=>?_⟩;unfold execOp;rw[ho];clear hx ha;generalize a.eval=ρ at hz ⊢;simp[go_sem,resolve,invoke,builtin,Builtin.cap_,hz,run_underlying hu,goInt]
    ·exact hp.elim
   ·exact hp.elim
  ·exact hp.elim
 ·rename_i x y t t' hargs hts
  have hargs':args=#[x,y]:=by apply Array.ext';simpa using hargs
  subst hargs';split at hp
  ·rename_i k a1 k' b1 hx hy
   have e1:a.eval x=.int k a1:=ev_v ha hx;have e2:a.eval y=.int k' b1:=ev_v ha hy;refine⟨_,_,hp,Den.v _ rfl,fun w=>?_⟩;unfold execOp;rw[ho];simp[resolve,invoke,builtin,e1,e2,run_max_int2,maxI]
  ·exact hp.elim
 ·rename_i x y t t' hargs hts
  have hargs':args=#[x,y]:=by apply Array.ext';simpa using hargs
  subst hargs';split at hp
  ·rename_i k a1 k' b1 hx hy
   have e1:a.eval x=.int k a1:=ev_v ha hx;have e2:a.eval y=.int k' b1:=ev_v ha hy;refine⟨_,_,hp,Den.v _ rfl,fun w=>?_⟩;unfold execOp;rw[ho];simp[resolve,invoke,builtin,e1,e2,run_min_int2,minI]
  ·exact hp.elim
 ·exact hp.elim
theorem b1o(hm:Mem mine L F h st.own w){n:Nat}{f:Nat→List IC}{x:Value}(hd:Den L h (.sl 1 n f) x)(g:Nat→Value)(hg:∀ k,k<n→f k=[.v (g k)]) :
  ∃ A c,x=.slice A n c∧(A=none→n=0)∧∀ ad,A=some ad→∀ w',Same F st.own h w w'→(loadCells ad n).run P w'=.ok ((List.range n).map g).toArray w':=by
 cases hd with
 | sl _ _ _ A c ad g' hc hmx hA hgg hl hclo hr =>
 refine⟨A,c,rfl,fun e=>?_,fun ad' e w' hs=>?_⟩
 ·rcases Nat.eq_zero_or_pos n with h0 | hp
  ·exact h0
  ·rw[hA hp]at e;cases e
 ·have hlen:((List.range n).map g).length=n:=by simp
  have:=run_loadCells_list (P:=P) w' ad' ((List.range n).map g) (fun j v hj=>by
   have hlt:j<n:=by have:=(List.getElem?_eq_some_iff.1 hj).1;simpa using this
   have h1:=hr j hlt 0 (.v (g j)) (by rw[hg j hlt];rfl)
   have h2:=hgg j hlt 0 (by omega)
   have h3:=hA (by omega)
   rw[e]at h3;cases h3;simp[hlt]at hj;rw[←hj];have h1':g' j 0=g j:=a0u (show DenA L h (.c (.v (g j))) _ from h1);rw[h1']at h2
   simpa using a6h hm hs h2)
  rw[hlen]at this;exact this
theorem a9f(hm:Mem mine L F h st.own w){i:Nat}{e:TypeId}{n:Nat}{f:Nat→List IC}(hi:st.own[i]?=some (some (.row e 1 n f))){x:Value}(hd:Den L h (.row i) x)(g:Nat→Value)(hg:∀ k,k<n→f k=[.v (g k)]) :
  ∃ A c,x=.slice A n c∧(A=none→n=0)∧∀ ad,A=some ad→∀ w',Same F st.own h w w'→(loadCells ad n).run P w'=.ok ((List.range n).map g).toArray w':=by
 obtain⟨vs,⟨hl,hr⟩,hG,hR⟩:=hm.obs i _ hi;cases hd with
 | row _ A n' c k1 k2 =>
  rcases hr with⟨e1,e2⟩|⟨gg,cap,cur,e1,e2,e3,e4,e5,e6,e7⟩
  ·rw[e1]at k2
   cases k2;subst e2;exact⟨none,0,rfl,fun _=>rfl,fun ad h=>by cases h⟩
  ·rw[e1]at k2
   cases k2;refine⟨_,_,rfl,fun q=>(nomatch q),fun ad q w' hs=>?_⟩;cases q;have hlen:((List.range n).map g).length=n:=by simp
   have hb:w'.heap[gg]?=some (.cells cur e (0,0)):=by rw[hs gg (.inr ⟨i,_,hi,hG gg (by rw[e1];rfl)⟩)];exact e3
   have:=run_loadCells_list (P:=P) w' ⟨gg,0,none⟩ ((List.range n).map g) (fun j v hj=>by
    have hlt:j<n:=by have:=(List.getElem?_eq_some_iff.1 hj).1;simpa using this
    obtain⟨u,q1,q2⟩:=hR.den j hlt 0 (.v (g j)) (by rw[hg j hlt];rfl)
    have q3:u=g j:=a0u (show DenA L h (.c (.v (g j))) u from q2);subst q3;simp[hlt]at hj;rw[←hj];rw[Nat.mul_one,Nat.add_zero,←e7,List.getElem?_take]at q1;split at q1
    ·have ea:(⟨gg,0,none⟩:Addr).add j=⟨gg,j,none⟩:=by unfold Addr.add;split <;> simp_all
     rw[ea];unfold World.cell?;simp only[hb];simpa using q1
    ·cases q1)
   rw[hlen]at this;exact this
theorem a1h{α β:Type}(l:List α)(d:α)(f:α→β):(List.range l.length).map (fun k=>f (l.getD k d))=l.map f:=by
 apply List.ext_getElem
 ·simp
 ·intro i h1 h2
  simp at h1 h2;simp[List.getD_eq_getElem?_getD,h1]
theorem a7t(l:List UInt8):∀ r:ByteArray,(l.map fun b=>(b.toNat:Int)).foldl (fun r n=>r.push (UInt8.ofNat n.toNat)) r=⟨r.data++l.toArray⟩:=by
 induction l with
 | nil=>intro r;simp
 | cons b l ih =>
  intro r;rw[List.map_cons,List.foldl_cons,ih];simp[ByteArray.push]
theorem c0e(hT:TTok P T)(hm:Mem mine L F h st.own w){src dst:TypeId}{ts td:TI}(hs:T.lookup src=some ts)(hd:T.lookup dst=some td){av:AV}{x:Value}(hx:DenA L h av x){K:AV→Prop}(hp:b7x T st ts td av K) :
  ∃ r v,K r∧DenA L h r v∧∀ w',Same F st.own h w w'→(convert src dst x).run P w'=.ok v w':=by
 have hu1:=(hT _ _ hs).und;have hu2:=(hT _ _ hd).und;unfold b7x at hp;split at hp
 ·rename_i k' k n hde
  rw[hde]at hu2;obtain rfl:=a0u hx;exact⟨_,_,hp,Den.v _ rfl,fun w' _=>by simp[convert,run_underlying hu1,run_underlying hu2,Conv.intToInt]⟩
 ·rename_i k n hde
  rw[hde]at hu2;obtain rfl:=a0u hx;exact⟨_,_,hp,Den.v _ rfl,fun w' _=>by simp[convert,run_underlying hu1,run_underlying hu2,Conv.intToString]⟩
 ·rename_i s hde
  rw[hde]at hu2;obtain rfl:=a0u hx;exact⟨_,_,hp,Den.v _ rfl,fun w' _=>by simp[convert,run_underlying hu1,run_underlying hu2]⟩
 ·rename_i hde
  rw[hde]at hu2;obtain rfl:=a0u hx;split at hp
  ·rename_i e hse
   rw[hse]at hu1;split at hp
   ·rename_i te hle
    have hu3:=(hT _ _ hle).und;split at hp
    ·rename_i hte
     rw[hte]at hu3;exact⟨_,_,hp,Den.v _ rfl,fun w' _=>by simp[convert,run_underlying hu1,run_underlying hu2,run_underlying hu3,Conv.bytesToString]⟩
    ·rename_i hte
     rw[hte]at hu3;exact⟨_,_,hp,Den.v _ rfl,fun w' _=>by simp[convert,run_underlying hu1,run_underlying hu2,run_underlying hu3,Conv.runesToString]⟩
    ·exact hp.elim
   ·exact hp.elim
  ·exact hp.elim
 ·rename_i sz n f hde
  rw[hde]at hu2;split at hp
  ·rename_i e hse
   rw[hse]at hu1;split at hp
   ·rename_i te hle
    have hu3:=(hT _ _ hle).und;split at hp
    ·rename_i hte
     rw[hte]at hu3;obtain⟨hz,hp2⟩:=a0j hp;subst hz;obtain⟨l,rfl,hf,hK⟩:=hp2;obtain⟨A,c,rfl,e1,e2⟩:=b1o (P:=P) hm hx _ hf;refine⟨_,_,hK,Den.v _ rfl,fun w' hsame=>?_⟩;cases A with
     | none =>
      have h0:=e1 rfl;obtain rfl:l=[]:=List.eq_nil_of_length_eq_zero h0;simp[convert,run_underlying hu1,run_underlying hu2,run_underlying hu3,Conv.bytesToString];rfl
     | some ad =>
      have h2:=e2 ad rfl w' hsame;have e3:((List.range l.length).map fun k=>Value.int .u8 ((l.getD k 0).toNat:Int))=(l.map fun b=>(b.toNat:Int)).map (Value.int .u8):=by
       rw[List.map_map];exact a1h l 0 (fun b=>Value.int .u8 (b.toNat:Int))
      rw[e3]at h2;have h3:=run_bytesToString w' ad l.length c _ h2;rw[a7t]at h3;simp only[convert,run_underlying hu1,run_underlying hu2,run_underlying hu3,Sem.run_bind,Result.andThen_ok];simpa using h3
    ·rename_i hte
     rw[hte]at hu3;obtain⟨hz,hp2⟩:=a0j hp;subst hz;obtain⟨l,rfl,hf,hK⟩:=hp2;obtain⟨A,c,rfl,e1,e2⟩:=b1o (P:=P) hm hx _ hf;refine⟨_,_,hK,Den.v _ rfl,fun w' hsame=>?_⟩;cases A with
     | none =>
      have h0:=e1 rfl;obtain rfl:l=[]:=List.eq_nil_of_length_eq_zero h0;simp[convert,run_underlying hu1,run_underlying hu2,run_underlying hu3,Conv.runesToString,runesBytes]
     | some ad =>
      have h2:=e2 ad rfl w' hsame;have e3:((List.range l.length).map fun k=>Value.int .i32 (l.getD k 0))=l.map (Value.int .i32):=a1h l 0 (fun b=>Value.int .i32 b);rw[e3]at h2;have h3:=run_runesToString w' ad l.length c _ h2;simp only[convert,run_underlying hu1,run_underlying hu2,run_underlying hu3,Sem.run_bind,Result.andThen_ok];simpa using h3
    ·exact hp.elim
   ·exact hp.elim
  ·exact hp.elim
 ·rename_i i hde
  rw[hde]at hu2;split at hp
  ·rename_i e e0 sz n f hse hi
   rw[hse]at hu1;split at hp
   ·rename_i te hle
    have hu3:=(hT _ _ hle).und;split at hp
    ·rename_i hte
     rw[hte]at hu3;obtain⟨hz,hp2⟩:=a0j hp;subst hz;obtain⟨l,rfl,hf,hK⟩:=hp2;obtain⟨A,c,rfl,e1,e2⟩:=a9f (P:=P) hm hi hx _ hf;refine⟨_,_,hK,Den.v _ rfl,fun w' hsame=>?_⟩;cases A with
     | none =>
      have h0:=e1 rfl;obtain rfl:l=[]:=List.eq_nil_of_length_eq_zero h0;simp[convert,run_underlying hu1,run_underlying hu2,run_underlying hu3,Conv.bytesToString];rfl
     | some ad =>
      have h2:=e2 ad rfl w' hsame;have e3:((List.range l.length).map fun k=>Value.int .u8 ((l.getD k 0).toNat:Int))=(l.map fun b=>(b.toNat:Int)).map (Value.int .u8):=by
       rw[List.map_map];exact a1h l 0 (fun b=>Value.int .u8 (b.toNat:Int))
      rw[e3]at h2;have h3:=run_bytesToString w' ad l.length c _ h2;rw[a7t]at h3;simp only[convert,run_underlying hu1,run_underlying hu2,run_underlying hu3,Sem.run_bind,Result.andThen_ok];simpa using h3
    ·rename_i hte
     rw[hte]at hu3;obtain⟨hz,hp2⟩:=a0j hp;subst hz;obtain⟨l,rfl,hf,hK⟩:=hp2;obtain⟨A,c,rfl,e1,e2⟩:=a9f (P:=P) hm hi hx _ hf;refine⟨_,_,hK,Den.v _ rfl,fun w' hsame=>?_⟩;cases A with
     | none =>
      have h0:=e1 rfl;obtain rfl:l=[]:=List.eq_nil_of_length_eq_zero h0;simp[convert,run_underlying hu1,run_underlying hu2,run_underlying hu3,Conv.runesToString,runesBytes]
     | some ad =>
      have h2:=e2 ad rfl w' hsame;have e3:((List.range l.length).map fun k=>Value.int .i32 (l.getD k 0))=l.map (Value.int .i32):=a1h l 0 (fun b=>Value.int .i32 b);rw[e3]at h2;have h3:=run_runesToString w' ad l.length c _ h2;simp only[convert,run_underlying hu1,run_underlying hu2,run_underlying hu3,Sem.run_bind,Result.andThen_ok];simpa using h3
    ·exact hp.elim
   ·exact hp.elim
  ·exact hp.elim
 ·exact hp.elim
theorem b5R(hT:TTok P T){xt t:TypeId}{commaOk:Bool}{av:AV}{x:Value}(hx:DenA L h av x){K:AV→Prop}(hp:b1d T st av xt t commaOk K) :
  ∃ r v,K r∧DenA L h r v∧∀ w',(Instr.typeAssert x xt t commaOk).run P w'=.ok v w':=by
 unfold b1d at hp;split at hp
 ·rename_i ti hl
  have hu:=(hT _ _ hl).und;have hz:=(hT _ _ hl).zero;split at hp
  ·exact hp.elim
  ·rename_i hni
   have hnot:∀ ms,P.underlying t≠some (.interface ms):=fun ms e=>by rw[hu]at e;exact hni ms (by simpa using e)
   have two:∀(u v:Value),Den L h (.v u) u→DenA L h (.tup [.c (.v u),.c (.v v)]) (.tuple #[u,v])∨v.oneCell'=false:=fun u v hu=>by
    cases hv:v.oneCell' with
    | false=>exact .inr rfl
    | true =>
     refine .inl ⟨[u,v],rfl,rfl,fun j a' u' ha hu'=>?_⟩
     match j with
     | 0=>simp at ha hu';subst ha hu';exact hu
     | 1=>simp at ha hu';subst ha hu';exact Den.v _ hv
     | j+2=>simp at ha
   have twoC:∀(c:IC) (u v:Value),Den L h c u→DenA L h (.tup [.c c,.c (.v (.bool true))]) (.tuple #[u,.bool true]):=fun c u v hu=>by
    refine⟨[u,.bool true],rfl,rfl,fun j a' u' ha hu'=>?_⟩
    match j with
    | 0=>simp at ha hu';subst ha hu';exact hu
    | 1=>simp at ha hu';subst ha hu';exact Den.v _ rfl
    | j+2=>simp at ha
   split at hp
   ·obtain rfl:=a0u hx
    split at hp
    ·exact hp.elim
    ·rename_i z hza
     obtain⟨h1,hK⟩:=a0j hp;rcases two ti.zero (.bool false) (Den.v _ h1)with hd | hd
     ·refine⟨_,_,hK,hd,fun w'=>?_⟩
      unfold Instr.typeAssert;simp only[Sem.run_bind,run_underlying hu,Result.andThen_ok];split <;> simp_all
     ·cases hd
   ·rename_i t' v
    obtain rfl:=a0u hx;split at hp
    ·rename_i he
     have he:=Nat.eq_of_beq_eq_true he;subst he;split at hp
     ·exact hp.elim
     ·obtain⟨h1,hK⟩:=a0j hp
      rcases two v (.bool true) (Den.v _ h1)with hd | hd
      ·refine⟨_,_,hK,hd,fun w'=>?_⟩
       unfold Instr.typeAssert;simp only[Sem.run_bind,run_underlying hu,Result.andThen_ok];split <;> simp_all
      ·cases hd
    ·rename_i he
     have he:t'≠t:=fun e=>by rw[e]at he;simp at he
     split at hp
     ·exact hp.elim
     ·obtain⟨h1,hK⟩:=a0j hp
      rcases two ti.zero (.bool false) (Den.v _ h1)with hd | hd
      ·refine⟨_,_,hK,hd,fun w'=>?_⟩
       unfold Instr.typeAssert;simp only[Sem.run_bind,run_underlying hu,Result.andThen_ok];split <;> simp_all
      ·cases hd
   ·rename_i t' c
    have hx:Den L h _ _:=hx;cases hx with
    | ifc _ _ v hr =>
    split at hp
    ·rename_i he
     have he:=Nat.eq_of_beq_eq_true he;subst he;refine⟨_,_,hp,twoC c v v hr,fun w'=>?_⟩;unfold Instr.typeAssert;simp only[Sem.run_bind,run_underlying hu,Result.andThen_ok];split <;> simp_all
    ·rename_i he
     have he:t'≠t:=fun e=>by rw[e]at he;simp at he
     split at hp
     ·exact hp.elim
     ·obtain⟨h1,hK⟩:=a0j hp
      rcases two ti.zero (.bool false) (Den.v _ h1)with hd | hd
      ·refine⟨_,_,hK,hd,fun w'=>?_⟩
       unfold Instr.typeAssert;simp only[Sem.run_bind,run_underlying hu,Result.andThen_ok];split <;> simp_all
      ·cases hd
   ·rename_i t' v
    obtain rfl:=a0u hx;split at hp
    ·rename_i he
     have he:=Nat.eq_of_beq_eq_true he;subst he;split at hp
     ·exact hp.elim
     ·obtain⟨h1,hK⟩:=a0j hp
      refine⟨_,v,hK,Den.v _ h1,fun w'=>?_⟩;unfold Instr.typeAssert;simp only[Sem.run_bind,run_underlying hu,Result.andThen_ok];split <;> simp_all
    ·exact hp.elim
   ·rename_i t' c
    have hx:Den L h _ _:=hx;cases hx with
    | ifc _ _ v hr =>
    split at hp
    ·rename_i he
     have he:=Nat.eq_of_beq_eq_true he;subst he;refine⟨_,v,hp,hr,fun w'=>?_⟩;unfold Instr.typeAssert;simp only[Sem.run_bind,run_underlying hu,Result.andThen_ok];split <;> simp_all
    ·exact hp.elim
   ·exact hp.elim
 ·exact hp.elim
end
end Go.Eng
namespace Go.Eng
open Go Go.RowKit
section
variable {P:Program} {T:TT} {mine:Nat→Prop} {L:Nat→Value} {F:Nat→Nat→Prop} {h:Hp} {st:St} {a:Act} {w:World}
structure DenF(L:Nat→Value)(h:Hp)(cs:List (Bool × List IC))(vs:List Value):Prop where
 hl:cs.length=vs.length
 ex:∃ g:Nat→Nat→Value,(∀(j:Nat) b xs u,cs[j]?=some (b,xs)→vs[j]?=some u→u=if b=true then .agg ((List.range xs.length).map (g j)).toArray else g j 0)∧(∀(j:Nat) xs,cs[j]?=some (false,xs)→xs.length=1) ∧
  (∀(j:Nat) b xs,cs[j]?=some (b,xs)→∀(i:Nat) c',xs[i]?=some c'→Den L h c' (g j i))
theorem DenF.fn{cs:List (Bool × List IC)}{vs:List Value}(hd:DenF L h cs vs)(f:Nat):Den L h (.fn f cs) (.func (.func f) #[] vs.toArray):=by
 obtain⟨hl,g,h1,h2,h3⟩:=hd;exact Den.fn f cs vs g hl h1 h2 h3
theorem DenF.nil:DenF L h [] []:=⟨rfl,fun _ _=>undef,fun j b xs u hc=>by simp at hc,fun j xs hc=>by simp at hc,fun j b xs hc=>by simp at hc⟩
theorem b4h(vs:List Value):(List.range vs.length).map (fun i=>vs.getD i undef)=vs:=by
 have:=a1h vs undef id;simpa using this
theorem DenF.cons{b:Bool}{xs:List IC}{v:Value}{us:List Value}{cs:List (Bool × List IC)}{vs:List Value}(h1:DenL L h xs us)(hb:v=if b=true then .agg us.toArray else us.getD 0 undef)(hf:b=false→xs.length=1)(hd:DenF L h cs vs):DenF L h ((b,xs)::cs) (v::vs):=by
 obtain⟨hl,g,k1,k2,k3⟩:=hd;refine⟨by simp[hl],fun j=>match j with | 0=>fun i=>us.getD i undef | j+1=>g j,fun j b' xs' u hc hu=>?_,fun j xs' hc=>?_,fun j b' xs' hc i c' hi=>?_⟩
 ·match j with
  | 0 =>
   simp at hc hu;obtain⟨rfl,rfl⟩:=hc;subst hu;rw[hb,h1.1,b4h]
  | j+1=>simp at hc hu;exact k1 j b' xs' u hc hu
 ·match j with
  | 0=>simp at hc;obtain⟨rfl,rfl⟩:=hc;exact hf rfl
  | j+1=>simp at hc;exact k2 j xs' hc
 ·match j with
  | 0 =>
   simp at hc;obtain⟨rfl,rfl⟩:=hc;have hlt:=(List.getElem?_eq_some_iff.1 hi).1
   have:us[i]?=some (us.getD i undef):=by
    have:i<us.length:=by rw[←h1.1];exact hlt
    simp[List.getD_eq_getElem?_getD,this]
   exact h1.2 i c' _ hi this
  | j+1=>simp at hc;exact k3 j b' xs' hc i c' hi
theorem a6L[a0h P](ha:a0r P L h st a):∀{xs:List Operand} {cs:List (Bool × List IC)},b2B st xs=some cs→DenF L h cs (xs.map a.eval)
 | [],cs,e=>by cases e;exact DenF.nil
 | x::r,cs,e=>by
  unfold b2B at e;split at e
  ·rename_i c l hx hr
   cases e;have hd:Den L h c (a.eval x):=a0o ha hx;exact DenF.cons (us:=[a.eval x]) (DenL.cons hd DenL.nil) rfl (fun _=>rfl) (a6L ha hr)
  ·rename_i cs l hx hr
   cases e;obtain⟨us,e,hd⟩:Den1 L h (.agg cs) (a.eval x):=a0o ha hx;exact DenF.cons hd (by rw[e];rfl) (fun h=>by cases h) (a6L ha hr)
  ·cases e
theorem b9s(hT:TTok P T){t:TypeId}{cs:List IC}{vs:List Value}{off:Nat}{K:AV→Prop}(hd:DenL L h cs vs)(hp:ldP T t (cs.drop off) K) :
  ∃ av v,K av∧DenA L h av v∧∀ w,(part t vs.toArray off).run P w=.ok v w:=by
 unfold ldP at hp;split at hp
 ·rename_i ti hl
  have hf:=hT _ _ hl;split at hp
  ·rename_i ha
   obtain⟨hle,hK⟩:=a0j hp;refine⟨_,.agg ((vs.drop off).take ti.size).toArray,hK,⟨_,rfl,(hd.drop off).take _⟩,fun w=>?_⟩;unfold part;simp only[Sem.run_bind,hf.agg,Result.andThen_ok,ha,if_true,hf.size];simp[List.drop_take]
  ·rename_i ha
   split at hp
   ·rename_i c rest hce
    have hd2:=hd.drop off;rw[hce]at hd2;obtain⟨v,r,e,h1,h2⟩:=hd2.uncons;refine⟨_,v,hp,h1,fun w=>?_⟩;have h0:vs[off]?=some v:=by
     have:=List.getElem?_drop (xs:=vs) (i:=off) (j:=0);rw[e]at this;simpa using this.symm
    unfold part;simp only[Sem.run_bind,hf.agg,Result.andThen_ok,ha];simp[h0]
   ·exact hp.elim
 ·exact hp.elim
theorem a4T[a0h P](hT:TTok P T)(hm:Mem mine L F h st.own w)(ha:a0r P L h st a){o:Oper}{K:AV→Prop}(hp:aopP T st o.op K) :
  ∃ av v,K av∧DenA L h av v∧∀ w',Same F st.own h w w'→(execOp a.eval o).run P w'=.ok (.value v) w':=by
 obtain⟨dst,op,ty,pos,after,guard⟩:=o;simp only at hp;unfold aopP at hp;split at hp
 ·split at hp
  ·rename_i x av hx
   exact⟨av,_,hp,a0o ha hx,fun w _=>by simp[execOp]⟩
  ·exact hp.elim
 ·split at hp
  ·rename_i x av hx
   exact⟨av,_,hp,a0o ha hx,fun w _=>by simp[execOp]⟩
  ·exact hp.elim
 ·split at hp
  ·rename_i hc
   have ec:=ev_v ha hc;split at hp
   ·rename_i u hu
    exact⟨u,_,hp,a0o ha hu,fun w _=>by simp[execOp,ec,asBool]⟩
   ·exact hp.elim
  ·rename_i hc
   have ec:=ev_v ha hc;split at hp
   ·rename_i u hu
    exact⟨u,_,hp,a0o ha hu,fun w _=>by simp[execOp,ec,asBool]⟩
   ·exact hp.elim
  ·exact hp.elim
 ·split at hp
  ·rename_i c hx
   obtain⟨av,v,h1,h2,h3⟩:=b4C hT hm (a0o ha hx) hp;exact⟨av,v,h1,h2,fun w hs=>by simp[execOp,h3 w hs]⟩
  ·exact hp.elim
 ·split at hp
  ·rename_i fo j off hf hx
   have hd:Den L h _ _:=a0o ha hx;generalize hz:a.eval _=z at hd;cases hd with
   | own _ _ ad h1 h2 =>
   exact⟨_,_,hp,Den.own _ _ ad h1 h2,fun w _=>by simp[execOp,hz,a3o hT hf,a0L]⟩
  ·rename_i fo cs hf hx
   have hd:Den L h _ _:=a0o ha hx;generalize hz:a.eval _=z at hd;cases hd with
   | fp _ ad g hclo hg hr =>
   refine⟨_,_,hp,Den.fp _ (ad.add fo) (fun j=>g (fo+j)) (List.all_eq_true.2 (fun x hx=>List.all_eq_true.1 hclo x (List.mem_of_mem_drop hx))) (fun j hj=>?_) (fun j c' hc'=>?_),fun w _=>by simp[execOp,hz,a3o hT hf]⟩
   ·rw[a0L];simp at hj;exact hg _ (by omega)
   ·rw[List.getElem?_drop]at hc';exact hr _ _ hc'
  ·rename_i fo j sz k off hf hx
   have hd:Den L h _ _:=a0o ha hx;generalize hz:a.eval _=z at hd;cases hd with
   | rel _ _ _ _ ad h1 h2 h3 =>
   exact⟨_,_,hp,Den.rel _ _ _ _ ad h1 h2 h3,fun w _=>by simp[execOp,hz,a3o hT hf,a0L,Nat.add_assoc]⟩
  ·exact hp.elim
 ·split at hp
  ·rename_i ti cs hl hx
   obtain⟨vs,e,hd⟩:Den1 L h (.agg cs) _:=a0o ha hx;have hu:=(hT _ _ hl).und;split at hp
   ·rename_i fs hde
    rw[hde]at hu;split at hp
    ·rename_i f hf
     obtain⟨av,v,k1,k2,k3⟩:=b9s (P:=P) hT hd hp;exact⟨av,v,k1,k2,fun w _=>by simp[execOp,e,Instr.field,run_underlying hu,hf,asAgg,k3]⟩
    ·exact hp.elim
   ·exact hp.elim
  ·exact hp.elim
 ·split at hp
  ·rename_i ti sz n f k j hl hx hi
   have ei:=a1A ha hi;have hd:Den L h _ _:=a0o ha hx;generalize hz:a.eval _=z at hd;split at hp
   ·rename_i e hde
    split at hp
    ·rename_i te hl2
     obtain⟨hsz,⟨h0,hj⟩,hK⟩:=a0j hp;cases hd with
     | sl _ _ _ A c ad g hc hmx hA hg hlen hclo hr =>
     have hk:j.toNat<n:=by omega
     obtain rfl:=hA (by omega)
     refine⟨_,_,hK,Den.fp _ (ad.add (j.toNat*sz)) (g j.toNat) (hclo _ hk) (fun i hi=>?_) (hr _ hk),fun w _=>by simp[execOp,hz,ei,a3W (hT _ _ hl) hde (hT _ _ hl2) ad n c k j h0 hj w,hsz]⟩
     rw[a0L];exact hg _ hk i (by rw[hlen _ hk]at hi;exact hi)
    ·exact hp.elim
   ·exact hp.elim
  ·rename_i ti r k j hl hx hi
   have ei:=a1A ha hi;have hd:Den L h _ _:=a0o ha hx;generalize hz:a.eval _=z at hd;split at hp
   ·rename_i e e' sz n f hde ho
    split at hp
    ·rename_i te hl2
     obtain⟨hsz,⟨h0,hj⟩,hK⟩:=a0j hp;cases hd with
     | row _ A n' c h1 h2 =>
     obtain⟨A',c',vs,e1,e2,e3,e4,e5⟩:=a7S (hm.obs r _ ho);rw[h2]at e1;cases e1;have hk:j.toNat<n:=by omega
     obtain⟨g,rfl,_⟩:=e5 (by omega)
     refine⟨_,_,hK,Den.rel _ _ _ _ ⟨g,0,none⟩ h1 (by rw[h2];rfl) (fun A n2 c2 e=>by rw[h2]at e;cases e;exact hk),fun w _=>by simp[execOp,hz,ei,a3W (hT _ _ hl) hde (hT _ _ hl2) ⟨g,0,none⟩ n c k j h0 hj w,hsz]⟩
    ·exact hp.elim
   ·exact hp.elim
  ·rename_i ti r sz kk n c k j hl hx hi
   have ei:=a1A ha hi;have hd:Den L h _ _:=a0o ha hx;generalize hz:a.eval _=z at hd;split at hp
   ·rename_i e hde
    split at hp
    ·rename_i te hl2
     obtain⟨hsz,⟨h0,hj⟩,hK⟩:=a0j hp;cases hd with
     | view _ _ _ _ _ ad b h1 h2 h3 h4 h5 =>
     obtain rfl:=h3 (by omega)
     refine⟨_,_,hK,Den.rel _ _ _ _ ad h1 (by rw[h2];rfl) (fun A n2 c2 e=>by rw[h2]at e;cases e),fun w _=>by simp[execOp,hz,ei,a3W (hT _ _ hl) hde (hT _ _ hl2) (ad.add (kk*sz)) n c k j h0 hj w,hsz,a0L,Nat.add_mul]⟩
    ·exact hp.elim
   ·exact hp.elim
  ·exact hp.elim
 ·split at hp
  ·rename_i ti s k j hl hx hi
   have ex:=ev_v ha hx;have ei:=a1A ha hi;split at hp
   ·rename_i hd
    have hu:=(hT _ _ hl).und;rw[hd]at hu;obtain⟨⟨h0,hj⟩,hK⟩:=hp;have hlt:j.toNat<s.size:=by omega
    refine⟨_,_,hK,Den.v _ rfl,fun w _=>?_⟩;simp[execOp,ex,ei,Instr.index,asIntOf,run_underlying hu,h0,hlt,getElem!_pos]
   ·exact hp.elim
  ·exact hp.elim
 ·obtain⟨av,v,h1,h2,h3⟩:=b6w hT ha hp
  exact⟨av,v,h1,h2,fun w _=>by simp[execOp,h3 w]⟩
 ·split at hp
  ·rename_i u v hx hy
   split at hp
   ·rename_i x y hu hv
    obtain⟨r,h1,h2,h3⟩:=c0k hT hp;refine⟨_,_,h1,Den.v _ h2,fun w _=>?_⟩;have e1:=a2F hu (a0o ha hx);have e2:=a2F hv (a0o ha hy);have:=h3 w;simp only[execOp,e1,e2];simp only[Sem.run_bind]at this ⊢;simp[this]
   ·obtain⟨b,h1,h3⟩:=b9y hT hm (a0o ha hx) (a0o ha hy) hp
    refine⟨_,_,h1,Den.v _ rfl,fun w _=>?_⟩;simp only[Sem.run_bind]at h3;simp only[execOp];simp only[Sem.run_bind];simp[h3]
  ·exact hp.elim
 ·split at hp
  ·rename_i b hx
   have ex:=ev_v ha hx;exact⟨_,_,hp,Den.v _ rfl,fun w _=>by simp[execOp,ex,Op.unary]⟩
  ·rename_i k n hx
   have ex:=ev_v ha hx;exact⟨_,_,hp,Den.v _ rfl,fun w _=>by simp[execOp,ex,Op.unary,Op.intArith]⟩
  ·exact hp.elim
 ·split at hp
  ·rename_i az hx
   obtain⟨vs,e,hl,hd⟩:DenA L h (.tup az) _:=a0o ha hx;split at hp
   ·rename_i y hi
    have hlt:=(List.getElem?_eq_some_iff.1 hi).1;have hv:vs[_]?=some _:=List.getElem?_eq_getElem (hl▸hlt);exact⟨_,_,hp,hd _ _ _ hi hv,fun w _=>by simp[execOp,e,Instr.extract,hv]⟩
   ·rename_i ys hi
    have hlt:=(List.getElem?_eq_some_iff.1 hi).1;have hv:vs[_]?=some _:=List.getElem?_eq_getElem (hl▸hlt);exact⟨_,_,hp,hd _ _ _ hi hv,fun w _=>by simp[execOp,e,Instr.extract,hv]⟩
   ·exact hp.elim
  ·exact hp.elim
 ·split at hp
  ·rename_i tt xx _ _ ti av hl hx
   have hu:=(hT _ _ hl).und;split at hp
   ·exact hp.elim
   ·rename_i hni
    have hrun:∀ v w,(Instr.makeInterface tt v).run P w=.ok (.iface tt v) w:=fun v w=>by
     unfold Instr.makeInterface;simp only[Sem.run_bind,run_underlying hu,Result.andThen_ok];simp
    split at hp
    ·rename_i u hau
     have e:=a2F hau (a0o ha hx);exact⟨_,_,hp,Den.v _ rfl,fun w _=>by simp only[execOp,e,Sem.run_bind,hrun,Result.andThen_ok];rfl⟩
    ·split at hp
     ·rename_i c
      exact⟨_,_,hp,Den.ifc _ _ _ (a0o ha hx),fun w _=>by simp only[execOp,Sem.run_bind,hrun,Result.andThen_ok];rfl⟩
     ·exact hp.elim
  ·exact hp.elim
 ·split at hp
  ·rename_i cs hcs
   exact⟨_,_,hp,(a6L ha hcs).fn _,fun w _=>by simp[execOp,Instr.makeFunc]⟩
  ·exact hp.elim
 ·split at hp
  ·rename_i ts td av hl1 hl2 hx
   obtain⟨r,v,h1,h2,h3⟩:=c0e hT hm hl1 hl2 (a0o ha hx) hp;exact⟨r,v,h1,h2,fun w hs=>by simp[execOp,h3 w hs]⟩
  ·exact hp.elim
 ·split at hp
  ·rename_i av hx
   obtain⟨r,v,h1,h2,h3⟩:=b5R hT (a0o ha hx) hp;exact⟨r,v,h1,h2,fun w hs=>by simp[execOp,h3 w]⟩
  ·exact hp.elim
 ·split at hp
  ·rename_i j off hx
   have hd:Den L h _ _:=a0o ha hx;generalize hz:a.eval _=z at hd;cases hd with
   | own _ _ ad h1 h2=>exact⟨_,_,hp,Den.own _ _ ad h1 h2,fun w _=>by simp[execOp,hz]⟩
  ·rename_i cs hx
   have hd:Den L h _ _:=a0o ha hx;generalize hz:a.eval _=z at hd;have hd':DenA L h (.c (.fp cs)) z:=hd;cases hd with
   | fp _ ad=>exact⟨_,_,hp,hd',fun w _=>by simp[execOp,hz]⟩
  ·rename_i i sz k off hx
   have hd:Den L h _ _:=a0o ha hx;generalize hz:a.eval _=z at hd;have hd':DenA L h (.c (.rel i sz k off)) z:=hd;cases hd with
   | rel _ _ _ _ ad=>exact⟨_,_,hp,hd',fun w _=>by simp[execOp,hz]⟩
  ·exact hp.elim
 ·obtain⟨av,v,h1,h2,h3⟩:=b7H hT ha hp
  exact⟨av,v,h1,h2,fun w _=>by simp[execOp,h3 w]⟩
 ·obtain⟨av,v,h1,h2,h3⟩:=b3n hT hm ha (o:=⟨dst,_,ty,pos,after,guard⟩) rfl hp
  exact⟨av,v,h1,h2,fun w _=>h3 w⟩
 ·exact hp.elim
end
end Go.Eng
namespace Go.Eng
open Go Go.RowKit
theorem b5G{c:IC}(h:clo0 c=true):clo c=true:=by cases c <;> simp_all [clo,clo0]
section
variable {L L':Nat→Value} {h h':Hp}
theorem Den.clo{c:IC}{v:Value}(hd:Den L h c v)(n':Nat):Go.Eng.clo c=true→Den L' ⟨h.m,n'⟩ c v:=by
 induction hd with
 | v x h1=>exact fun _=>.v x h1
 | sl sz n f A c ad g hc hm hA hg hl hclo hr ih=>exact fun _=>.sl sz n f A c ad g hc hm hA hg hl hclo (fun k hk j c' hj=>ih k hk j c' hj (List.all_eq_true.1 (hclo k hk) c' (List.mem_of_getElem? hj)))
 | fp cs ad g hclo hg hr ih=>exact fun _=>.fp cs ad g hclo hg (fun j c' hj=>ih j c' hj (List.all_eq_true.1 hclo c' (List.mem_of_getElem? hj)))
 | own i off a h1 h2=>intro e;cases e
 | row i A n c h1 h2=>intro e;cases e
 | rel i sz k off a h1 h2 h3=>intro e;cases e
 | view i sz k n c a b h1 h2 h3 h4 h5=>intro e;cases e
 | fn f cs vs g hl hv h1 hr ih =>
  intro e;refine .fn f cs vs g hl hv h1 (fun j b xs hj i c' hi=>ih j b xs hj i c' hi (b5G ?_));have:=List.all_eq_true.1 e (b,xs) (List.mem_of_getElem? hj);exact List.all_eq_true.1 this c' (List.mem_of_getElem? hi)
 | ifc t c v hr ih=>exact fun e=>.ifc t c v (ih (b5G e))
 | mp i r h1 h2=>intro e;cases e
 | any x h1=>exact fun _=>.any x h1
theorem DenL.clo{cs:List IC}{vs:List Value}(hd:DenL L h cs vs)(n':Nat)(hc:cs.all Go.Eng.clo=true):DenL L' ⟨h.m,n'⟩ cs vs :=
 ⟨hd.1,fun j c u hj hu=>(hd.2 j c u hj hu).clo n' (List.all_eq_true.1 hc c (List.mem_of_getElem? hj))⟩
def clo1:AV→Bool
 | .c x=>clo x
 | .agg xs=>xs.all clo
 | .tup _=>false
 | .top=>false
def cloA:AV→Bool
 | .tup az=>az.all clo1
 | a=>clo1 a
theorem Den1.clo{a:AV}{v:Value}(hd:Den1 L h a v)(n':Nat)(hc:clo1 a=true):Den1 L' ⟨h.m,n'⟩ a v:=by
 cases a with
 | c x=>exact Den.clo hd n' hc
 | agg xs=>obtain⟨vs,e,hd⟩:=hd;exact⟨vs,e,hd.clo n' hc⟩
 | tup az=>cases hc
 | top=>cases hc
theorem DenA.clo{a:AV}{v:Value}(hd:DenA L h a v)(n':Nat)(hc:cloA a=true):DenA L' ⟨h.m,n'⟩ a v:=by
 cases a with
 | c x=>exact Den1.clo (a:=.c x) hd n' hc
 | agg xs=>exact Den1.clo (a:=.agg xs) hd n' hc
 | tup az =>
  obtain⟨vs,e,hl,hd⟩:=hd;exact⟨vs,e,hl,fun j a u ha hu=>(hd j a u ha hu).clo n' (List.all_eq_true.1 hc a (List.mem_of_getElem? ha))⟩
 | top=>cases hc
def up(s0:IC→IC):IC→IC
 | .fn f cs=>.fn f (cs.map fun x=>(x.1,x.2.map s0))
 | .ifc t c=>.ifc t (s0 c)
 | c=>s0 c
structure a0x(L L':Nat→Value)(h h':Hp)(s:IC→IC):Prop where
 out:∀ c v,Den L h c v→Den L' h' (s c) v
theorem a8b{s0:IC→IC}{cs:List (Bool × List IC)}{j:Nat}{b:Bool}{xs:List IC}(hj:(cs.map fun x=>(x.1,x.2.map s0))[j]?=some (b,xs)):∃ ys,cs[j]?=some (b,ys)∧xs=ys.map s0:=by
 rw[List.getElem?_map]at hj;cases hx:cs[j]? with
 | none=>rw[hx]at hj;cases hj
 | some p =>
  rw[hx]at hj;obtain⟨b0,ys⟩:=p;simp only[Option.map_some,Option.some.injEq,Prod.mk.injEq]at hj;obtain⟨rfl,rfl⟩:=hj;exact⟨ys,rfl,rfl⟩
theorem a0x.up{s0:IC→IC}(hs:a0x L L' h h' s0):a0x L L' h h' (up s0):=by
 refine⟨fun c v hd=>?_⟩;cases hd with
 | fn f cs vs g hl hv h1 hr =>
  refine .fn f _ vs g (by rw[List.length_map];exact hl) (fun j b xs u hj hu=>?_) (fun j xs hj=>?_) (fun j b xs hj i c' hi=>?_)
  ·obtain⟨ys,hx,rfl⟩:=a8b hj
   rw[List.length_map];exact hv j _ _ u hx hu
  ·obtain⟨ys,hx,rfl⟩:=a8b hj
   rw[List.length_map];exact h1 j _ hx
  ·obtain⟨ys,hx,rfl⟩:=a8b hj
   rw[List.getElem?_map]at hi;cases hy:ys[i]? with
   | none=>rw[hy]at hi;cases hi
   | some c0 =>
    rw[hy]at hi;cases hi;exact hs.out _ _ (hr j _ _ hx i c0 hy)
 | ifc t c v hr=>exact .ifc t _ v (hs.out _ _ hr)
 | v _ h1=>exact hs.out _ _ (.v _ h1)
 | sl sz n f A c ad g hc hm hA hg hl hclo hr=>exact hs.out _ _ (.sl sz n f A c ad g hc hm hA hg hl hclo hr)
 | fp cs ad g hclo hg hr=>exact hs.out _ _ (.fp cs ad g hclo hg hr)
 | own i off a h1 h2=>exact hs.out _ _ (.own i off a h1 h2)
 | row i A n c h1 h2=>exact hs.out _ _ (.row i A n c h1 h2)
 | rel i sz k off a h1 h2 h3=>exact hs.out _ _ (.rel i sz k off a h1 h2 h3)
 | view i sz k n c a b h1 h2 h3 h4 h5=>exact hs.out _ _ (.view i sz k n c a b h1 h2 h3 h4 h5)
 | mp i r h1 h2=>exact hs.out _ _ (.mp i r h1 h2)
 | any _ h1=>exact hs.out _ _ (.any _ h1)
def sb1(g:IC→IC):AV→AV
 | .c x=>.c (g x)
 | .agg xs=>.agg (xs.map g)
 | .tup a=>.tup a
 | .top=>.top
def sbA(g:IC→IC):AV→AV
 | .tup az=>.tup (az.map (sb1 g))
 | a=>sb1 g a
theorem a0x.denL{s:IC→IC}(hs:a0x L L' h h' s){cs:List IC}{vs:List Value}(hd:DenL L h cs vs):DenL L' h' (cs.map s) vs:=by
 refine⟨by rw[List.length_map];exact hd.1,fun j c u hj hu=>?_⟩
 rw[List.getElem?_map]at hj;cases hx:cs[j]? with
 | none=>rw[hx]at hj;cases hj
 | some c0=>rw[hx]at hj;cases hj;exact hs.out _ _ (hd.2 j c0 u hx hu)
theorem a0x.den1{s:IC→IC}(hs:a0x L L' h h' s){a:AV}{v:Value}(hd:Den1 L h a v):Den1 L' h' (sb1 s a) v:=by
 cases a with
 | c x=>exact hs.out _ _ hd
 | agg xs=>obtain⟨vs,e,hd⟩:=hd;exact⟨vs,e,hs.denL hd⟩
 | tup az=>exact hd
 | top=>exact hd
theorem a0x.denA{s:IC→IC}(hs:a0x L L' h h' s){a:AV}{v:Value}(hd:DenA L h a v):DenA L' h' (sbA s a) v:=by
 cases a with
 | c x=>exact hs.out _ _ hd
 | agg xs=>exact hs.den1 (a:=.agg xs) hd
 | tup az =>
  obtain⟨vs,e,hl,hd⟩:=hd;refine⟨vs,e,by rw[List.length_map];exact hl,fun j a u ha hu=>?_⟩
  rw[List.getElem?_map]at ha;cases hx:az[j]? with
  | none=>rw[hx]at ha;cases ha
  | some a0=>rw[hx]at ha;cases ha;exact hs.den1 (hd j a0 u hx hu)
 | top=>trivial
theorem a0x.rowD{s:IC→IC}(hs:a0x L L' h h' s){sz n:Nat}{f:Nat→List IC}{vs:List Value}(hd:RowD L h sz n f vs):RowD L' h' sz n (fun k=>(f k).map s) vs:=by
 refine⟨fun k hk=>by rw[List.length_map];exact hd.len k hk,fun k hk j c hj=>?_⟩
 rw[List.getElem?_map]at hj;cases hx:(f k)[j]? with
 | none=>rw[hx]at hj;cases hj
 | some c0 =>
  rw[hx]at hj;cases hj;obtain⟨u,h1,h2⟩:=hd.den k hk j c0 hx;exact⟨u,h1,hs.out _ _ h2⟩
def b2O(s:IC→IC):Ob→Ob
 | .cells t cs=>.cells t (cs.map s)
 | .row e sz n f=>.row e sz n (fun k=>(f k).map s)
 | .arr e sz cap n f=>.arr e sz cap n (fun k=>(f k).map s)
 | .mp t es=>.mp t (es.map fun x=>(x.1,sb1 s x.2))
 | .iter b p=>.iter b p
 | .abs p=>.abs p
theorem a0x.obOk{s:IC→IC}(hs:a0x L L' h h' s)(hm:∀ k o,h.m k=some o→h'.m k=some o){w:World}{v:Value}{F:Nat→Prop}{o:Ob}(hd:ObOk L h w v F o):ObOk L' h' w v F (b2O s o):=by
 cases o with
 | cells t cs=>obtain⟨b,vs,h1,h2,h3,h4⟩:=hd;exact⟨b,vs,h1,h2,h3,hs.denL h4⟩
 | row e sz n f=>obtain⟨vs,h1,h2,h3⟩:=hd;exact⟨vs,h1,h2,hs.rowD h3⟩
 | arr e sz cap n f=>obtain⟨b,cur,h1,h2,h3,h4,h5,h6,h7⟩:=hd;exact⟨b,cur,h1,h2,h3,h4,h5,h6,hs.rowD h7⟩
 | mp t es =>
  obtain⟨r,ents,clock,h1,h2,h3,h4,h5⟩:=hd;refine⟨r,ents,clock,h1,h2,h3,by rw[List.length_map];exact h4,fun j k a en hj hk=>?_⟩
  rw[List.getElem?_map]at hj;cases hx:es[j]? with
  | none=>rw[hx]at hj;cases hj
  | some p =>
   rw[hx]at hj;cases hj;exact⟨(h5 j _ _ en hx hk).1,hs.den1 (h5 j _ _ en hx hk).2⟩
 | iter b p=>exact hd
 | abs p=>exact⟨hd.1,hd.1.out _ _ _ _ _ _ hd.2 hm (fun _ _=>rfl)⟩
def b2P(g:IC→IC):List (Nat × AV)→(List (Nat × AV)→Prop)→Prop
 | [],K=>K []
 | x::r,K=>a2l (sbA g x.2) fun a=>b2P g r fun r=>K ((x.1,a)::r)
theorem a3y(g:IC→IC):∀(l:List (Nat × AV)) (K:List (Nat × AV)→Prop),b2P g l K=K (l.map fun x=>(x.1,sbA g x.2))
 | [],K=>rfl
 | x::r,K=>by rw[b2P,a4I,a3y g r];rfl
def sbOb(g:IC→IC):Option Ob→Option Ob
 | some (.cells t cs)=>some (.cells t (cs.map g))
 | o=>o
def b0t(g:IC→IC):List (Option Ob)→(List (Option Ob)→Prop)→Prop
 | [],K=>K []
 | o::r,K=>match o with
  | some (.cells t cs)=>a0H (cs.map g) fun cs=>b0t g r fun r=>K (some (.cells t cs)::r)
  | o=>b0t g r fun r=>K (o::r)
theorem a2M(g:IC→IC):∀(l:List (Option Ob)) (K:List (Option Ob)→Prop),b0t g l K=K (l.map (sbOb g))
 | [],K=>rfl
 | o::r,K=>by
  unfold b0t;split
  ·rw[a0q,a2M g r];rfl
  ·rename_i ho
   rw[a2M g r];rw[List.map_cons]
   congr 2
   unfold sbOb;split
   ·rename_i t cs
    exact absurd rfl (ho t cs)
   ·rfl
theorem a7m{f:AV→AV}:∀(l:List (Nat × AV)) (t:Nat),(l.map fun x=>(x.1,f x.2)).lookup t=(l.lookup t).map f
 | [],t=>rfl
 | x::r,t=>by
  rw[List.map_cons,List.lookup_cons,List.lookup_cons,a7m r t];split <;> rfl
theorem a0x.agree{P:Program}[a0h P]{s:IC→IC}(hs:a0x L L' h h' s){st:St}{a:Act}(ha:a0r P L h st a){own:List (Option Ob)}{k:Nat}:a0r P L' h' ⟨st.n,k,st.env.map fun x=>(x.1,sbA s x.2),own⟩ a:=by
 refine⟨ha.size,fun t av ht=>?_,ha.defers⟩;simp only[a7m]at ht;cases hx:st.env.lookup t with
 | none=>rw[hx]at ht;cases ht
 | some a0=>rw[hx]at ht;cases ht;exact hs.denA (ha.env t a0 hx)
end
def sbR(i sz n:Nat)(f:Nat→List IC):IC→IC
 | .row j=>match Nat.beq j i with | true=>.sl sz n f | false=>.row j
 | .rel j sz' k off=>match Nat.beq j i&&Nat.beq sz' sz with | true=>.fp ((f k).drop off) | false=>.rel j sz' k off
 | c=>c
def sbO(i:Nat)(cs:List IC):IC→IC
 | .own j off=>match Nat.beq j i with | true=>.fp (cs.drop off) | false=>.own j off
 | c=>c
def frzK(st:St)(i:Nat)(K:St→Prop):Prop :=
 match st with
 | ⟨n,k,env,own⟩=>match own[i]? with
  | some (some (.row e sz m f))=>(∀ j,j<m→(f j).all clo=true)∧b2P (up (sbR i sz m f)) env fun env=>b0t (up (sbR i sz m f)) (own.set i none) fun own=>K ⟨n,k,env,own⟩
  | some (some (.cells t cs))=>ifD (cs.all clo=true) (b2P (up (sbO i cs)) env fun env=>b0t (up (sbO i cs)) (own.set i none) fun own=>K ⟨n,k,env,own⟩)
  | _=>K ⟨n,k,env,own⟩
def frzL(l:List Nat):St→(St→Prop)→Prop :=
 List.rec (motive:=fun _=>St→(St→Prop)→Prop) (fun st K=>K st) (fun i _ ih st K=>frzK st i fun st=>ih st K) l
section
variable {P:Program} {T:TT} {mine may:Nat→Prop} {L:Nat→Value} {F:Nat→Nat→Prop} {h h':Hp} {st:St} {a:Act} {w w0:World} {own:List (Option Ob)}
theorem b1K(hm:Mem mine L F h own w){i:Nat}{o:Ob}(hi:own[i]?=some (some o)){g:Nat}(hF:F i g){ob:Obj}(hg:w.heap[g]?=some ob) :
  ∃ h',Sub h h'∧h'.n=h.n∧Mem mine L F h' (own.set i none) w∧h'.m g=some ob∧(∀ k,h'.m k≠none→h.m k≠none∨mine k):=by
 obtain⟨f1,f2,f3⟩:=hm.foot i o g hi hF;have hd:=a2O hm i
 let h':Hp:=⟨fun k=>if k=g then some ob else h.m k,h.n⟩
 have hs:Sub h h':=⟨fun k o hk=>by
  show(if k=g then _ else _)=_
  by_cases ek:k=g
  ·subst ek;rw[f2]at hk;cases hk
  ·rw[if_neg ek];exact hk,Nat.le_refl _⟩
 refine⟨h',hs,rfl,⟨hd.hn,fun k o hk=>?_,fun j oj hj=>?_,fun j oj b hj hb=>?_,hd.dis⟩,by show(if g=g then _ else _)=_;rw[if_pos rfl],fun k hk=>?_⟩
 ·have hk:(if k=g then some ob else h.m k)=some o:=hk
  by_cases ek:k=g
  ·subst ek;rw[if_pos rfl]at hk;cases hk;exact hg
  ·rw[if_neg ek]at hk;exact hm.hsub k o hk
 ·exact a0X (hd.obs j oj hj) (fun _ _=>rfl) (fun _ _=>rfl) hs
 ·obtain⟨k1,k2,k3⟩:=hd.foot j oj b hj hb
  refine⟨k1,?_,k3⟩;have hne:b≠g:=fun e=>by
   subst e;have:=a0D hj;exact this.2 (hm.dis j i oj o b this.1 hi hb hF)
  show(if b=g then _ else _)=_
  rw[if_neg hne];exact k2
 ·have hk:(if k=g then some ob else h.m k)≠none:=hk
  by_cases ek:k=g
  ·subst ek;exact .inr f3
  ·rw[if_neg ek]at hk;exact .inl hk
theorem a5Q{h:Hp}{g:Nat}{cur:Array Value}{t:TypeId}{z:Nat × Nat}(hg:h.m g=some (.cells cur t z))(j:Nat):a2c h ⟨g,j,none⟩=cur.toList[j]?:=by
 unfold a2c;simp[hg]
theorem b9U(hm:Mem mine L F h own w){i:Nat}{e:TypeId}{sz m:Nat}{f:Nat→List IC}(hi:own[i]?=some (some (.row e sz m f)))(hcl:∀ j,j<m→(f j).all clo=true) :
  ∃ h',Sub h h'∧h'.n=h.n∧Mem mine L F h' (own.set i none) w∧a0x L L h h' (sbR i sz m f)∧(∀ k,h'.m k≠none→h.m k≠none∨mine k):=by
 obtain⟨vs,⟨hl,hr⟩,hG,hR⟩:=hm.obs i _ hi;have fin:∀ h':Hp,Sub h h'→(∀ v,L i=v→Den L h' (.sl sz m f) v)→(∀ k off a,k<m→b8j (L i)=some a→Den L h' (.fp ((f k).drop off)) (.pointer (some (a.add (k*sz+off)))))→(∀ A n c,L i=.slice A n c→n=m)→a0x L L h h' (sbR i sz m f):=fun h' hs h1 h2 h3=>by
  refine⟨fun c v hd=>?_⟩;unfold sbR;split
  ·rename_i j
   split
   ·rename_i e
    have e:=Nat.eq_of_beq_eq_true e;subst e;cases hd with
    | row _ A n c k1 k2=>exact h1 _ k2
   ·exact hd.mono hs (fun _ _=>rfl)
  ·rename_i j sz' k off
   split
   ·rename_i e
    rw[Bool.and_eq_true]at e;have e1:=Nat.eq_of_beq_eq_true e.1;have e2:=Nat.eq_of_beq_eq_true e.2;subst e1 e2;cases hd with
    | rel _ _ _ _ a k1 k2 k3 =>
     refine h2 k off a ?_ k2;rcases hr with⟨e1,e2⟩|⟨g,cap,cur,e1,_⟩
     ·rw[e1]at k2;cases k2
     ·exact k3 _ _ _ e1
   ·exact hd.mono hs (fun _ _=>rfl)
  ·exact hd.mono hs (fun _ _=>rfl)
 rcases hr with⟨e1,e2⟩|⟨g,cap,cur,e1,e2,e3,e4,e5,e6,e7⟩
 ·refine⟨h,Sub.refl h,rfl,a2O hm i,fin h (Sub.refl h) (fun v hv=>?_) (fun k off a hk hb=>by omega) (fun A n c e=>?_),fun k hk=>.inl hk⟩
  ·rw[e1]at hv
   subst hv;rw[e2];exact .sl _ _ _ _ _ ⟨0,0,none⟩ (fun _ _=>undef) (Nat.le_refl _) (by omega) (fun hp=>by omega) (fun k hk=>by omega) (fun k hk=>by omega) (fun k hk=>by omega) (fun k hk=>by omega)
  ·rw[e1]at e;cases e;exact e2.symm
 ·have hFg:=hG g (by rw[e1];rfl)
  obtain⟨h',s1,s2,s3,s4,s5⟩:=b1K hm hi hFg e3;refine⟨h',s1,s2,s3,fin h' s1 (fun v hv=>?_) (fun k off a hk hb=>?_) (fun A n c e=>by rw[e1]at e;cases e;rfl),s5⟩
  ·rw[e1]at hv
   subst hv;refine .sl _ _ _ _ _ ⟨g,0,none⟩ (fun k j=>(vs[k*sz+j]?).getD undef) e4 (by unfold maxLen at e5;omega) (fun _=>rfl) (fun k hk j hj=>?_) hR.len hcl (fun k hk j c' hc'=>?_)
   ·rw[a0n,Nat.zero_add,a5Q s4]
    have hlt:j<(f k).length:=by rw[hR.len k hk];exact hj
    obtain⟨u,q1,q2⟩:=hR.den k hk j (f k)[j] (by simp[hlt])
    rw[q1];rw[←e7,List.getElem?_take]at q1;split at q1
    ·rw[q1];rfl
    ·cases q1
   ·obtain⟨u,q1,q2⟩:=hR.den k hk j c' hc'
    rw[q1];exact q2.mono s1 (fun _ _=>rfl)
  ·rw[e1]at hb
   cases hb;refine .fp _ _ (fun j=>(vs[k*sz+(off+j)]?).getD undef) (List.all_eq_true.2 (fun x hx=>List.all_eq_true.1 (hcl k hk) x (List.mem_of_mem_drop hx))) (fun j hj=>?_) (fun j c' hc'=>?_)
   ·rw[a0n,a0n,Nat.zero_add,a5Q s4,Nat.add_assoc]
    have hlt:off+j<(f k).length:=by simp at hj;omega
    obtain⟨u,q1,q2⟩:=hR.den k hk (off+j) (f k)[off+j] (by simp[hlt])
    rw[q1];rw[←e7,List.getElem?_take]at q1;split at q1
    ·rw[q1];rfl
    ·cases q1
   ·rw[List.getElem?_drop]at hc'
    obtain⟨u,q1,q2⟩:=hR.den k hk _ c' hc';rw[q1];exact q2.mono s1 (fun _ _=>rfl)
theorem b5b(hm:Mem mine L F h own w){i:Nat}{t:TypeId}{cs:List IC}(hi:own[i]?=some (some (.cells t cs)))(hcl:cs.all clo=true) :
  ∃ h',Sub h h'∧h'.n=h.n∧Mem mine L F h' (own.set i none) w∧a0x L L h h' (sbO i cs)∧(∀ k,h'.m k≠none→h.m k≠none∨mine k):=by
 obtain⟨b,vs,e1,e2,e3,e4⟩:=hm.obs i _ hi;obtain⟨h',s1,s2,s3,s4,s5⟩:=b1K hm hi e2 e3;refine⟨h',s1,s2,s3,⟨fun c v hd=>?_⟩,s5⟩;unfold sbO;split
 ·rename_i j off
  split
  ·rename_i e
   have e:=Nat.eq_of_beq_eq_true e;subst e;cases hd with
   | own _ _ a k1 k2 =>
    rw[e1]at k2;cases k2;refine .fp _ _ (fun j=>(vs[off+j]?).getD undef) (List.all_eq_true.2 (fun x hx=>List.all_eq_true.1 hcl x (List.mem_of_mem_drop hx))) (fun j hj=>?_) (fun j c' hc'=>?_)
    ·rw[a0n,a0n,Nat.zero_add,a5Q s4]
     have hlt:off+j<vs.length:=by have:=e4.1;simp at hj;omega
     simp[hlt]
    ·rw[List.getElem?_drop]at hc'
     have hlt:off+j<vs.length:=by have:=(List.getElem?_eq_some_iff.1 hc').1;have:=e4.1;omega
     have hv:vs[off+j]?=some vs[off+j]:=by simp[hlt]
     rw[hv];exact(e4.2 _ _ _ hc' hv).mono s1 (fun _ _=>rfl)
  ·exact hd.mono s1 (fun _ _=>rfl)
 ·exact hd.mono s1 (fun _ _=>rfl)
theorem a2k{g:IC→IC}{own:List (Option Ob)}{j:Nat}{oj:Ob}(hj:(own.map (sbOb g))[j]?=some (some oj)):∃ oj',own[j]?=some (some oj')∧(oj=oj'∨∃ t cs,oj'=.cells t cs∧oj=.cells t (cs.map g)):=by
 rw[List.getElem?_map]at hj;cases ho:own[j]? with
 | none=>rw[ho]at hj;cases hj
 | some o =>
  rw[ho]at hj;simp only[Option.map_some,Option.some.injEq]at hj;cases o with
  | none=>cases hj
  | some o =>
   refine⟨o,rfl,?_⟩;unfold sbOb at hj;split at hj
   ·rename_i t cs heq
    cases heq;cases hj;exact .inr ⟨t,cs,rfl,rfl⟩
   ·cases hj;exact .inl rfl
theorem b6Y{g:IC→IC}(hm:Mem mine L F h own w)(hg:a0x L L h h g):Mem mine L F h (own.map (sbOb g)) w:=by
 refine⟨by rw[List.length_map];exact hm.hn,hm.hsub,fun j oj hj=>?_,fun j oj b hj hb=>?_,fun j k oj ok b hj hk hb1 hb2=>?_⟩
 ·obtain⟨oj',h1,h2⟩:=a2k hj
  have ho:=hm.obs j oj' h1;rcases h2 with rfl|⟨t,cs,rfl,rfl⟩
  ·exact ho
  ·exact hg.obOk (fun _ _ e=>e) ho
 ·obtain⟨oj',h1,_⟩:=a2k hj
  exact hm.foot j oj' b h1 hb
 ·obtain⟨oj',h1,_⟩:=a2k hj
  obtain⟨ok',h2,_⟩:=a2k hk;exact hm.dis j k oj' ok' b h1 h2 hb1 hb2
theorem b5a[a0h P]{h0:Base P}{n k:Nat}{env:List (Nat × AV)}{s:IC→IC}{i:Nat}{K:St→Prop}(hsat:∃ L F h h',Sub h h'∧h'.n=h.n∧Mem (a0g may w0) L F h' (own.set i none) w∧a0x L L h h' s∧a0x L L h' h' s∧(∀ k,h'.m k≠none→h.m k≠none∨a0g may w0 k)∧a0r P L h ⟨n,k,env,own⟩ a∧SubB h0 k L h∧(∀ k,h.m k≠none→h0.h.m k≠none∨a0g may w0 k))
  (hk:Keep may w0 w) (hp:b2P (up s) env fun env=>b0t (up s) (own.set i none) fun own=>K ⟨n,k,env,own⟩):∃ st',Sat may w0 h0 st' a w∧K st':=by
 rw[a3y,a2M]at hp;obtain⟨L,F,h,h',s1,s2,s3,s4,s4',s5,ha,hsub,hnew⟩:=hsat;refine⟨_,⟨⟨L,F,h',b6Y s3 s4'.up,s4.up.agree ha,hsub.step (fun _ _=>rfl) s1,fun k hk2=>?_⟩,hk⟩,hp⟩;rcases s5 k hk2 with h1 | h1
 ·exact hnew k h1
 ·exact .inr h1
theorem b4Z[a0h P]{h0:Base P}{i:Nat}{K:St→Prop}(hp:frzK st i K)(hs:Sat may w0 h0 st a w):∃ st',Sat may w0 h0 st' a w∧K st':=by
 obtain⟨n,k,env,own⟩:=st;unfold frzK at hp;simp only at hp;split at hp
 ·rename_i e sz m f hi
  obtain⟨⟨L,F,h,hm,ha,hsub,hnew⟩,hk⟩:=hs;obtain⟨h',s1,s2,s3,s4,s5⟩:=b9U hm hi hp.1;have s4':a0x L L h' h' (sbR i sz m f):=by
   refine⟨fun c v hd=>?_⟩;unfold sbR;split
   ·rename_i j
    split
    ·rename_i e
     have e:=Nat.eq_of_beq_eq_true e;subst e;cases hd with
     | row _ A n c k1 k2 =>
      have:=s4.out (.row j) _ (.row j A n c (by rw[←s2];exact k1) k2)
      simpa [sbR]using this
    ·exact hd
   ·rename_i j sz' k off
    split
    ·rename_i e
     have e':=e;rw[Bool.and_eq_true]at e;have e1:=Nat.eq_of_beq_eq_true e.1;have e2:=Nat.eq_of_beq_eq_true e.2;subst e1 e2;cases hd with
     | rel _ _ _ _ a k1 k2 k3 =>
      have:=s4.out (.rel j sz' k off) _ (.rel j sz' k off a (by rw[←s2];exact k1) k2 k3)
      simpa [sbR]using this
    ·exact hd
   ·exact hd
  exact b5a ⟨L,F,h,h',s1,s2,s3,s4,s4',s5,ha,hsub,hnew⟩ hk hp.2
 ·rename_i t cs hi
  obtain⟨hcl,hp⟩:=a0j hp;obtain⟨⟨L,F,h,hm,ha,hsub,hnew⟩,hk⟩:=hs;obtain⟨h',s1,s2,s3,s4,s5⟩:=b5b hm hi hcl;have s4':a0x L L h' h' (sbO i cs):=by
   refine⟨fun c v hd=>?_⟩;unfold sbO;split
   ·rename_i j off
    split
    ·rename_i e
     have e:=Nat.eq_of_beq_eq_true e;subst e;cases hd with
     | own _ _ a k1 k2 =>
      have:=s4.out (.own j off) _ (.own j off a (by rw[←s2];exact k1) k2)
      simpa [sbO]using this
    ·exact hd
   ·exact hd
  exact b5a ⟨L,F,h,h',s1,s2,s3,s4,s4',s5,ha,hsub,hnew⟩ hk hp
 ·exact⟨_,hs,hp⟩
theorem a1E[a0h P]{h0:Base P}:∀(l:List Nat) {K:St→Prop} (st:St),frzL l st K→Sat may w0 h0 st a w→∃ st',Sat may w0 h0 st' a w∧K st'
 | [],K,st,hp,hs=>⟨st,hs,hp⟩
 | i::r,K,st,hp,hs=>by
  obtain⟨st1,h1,h2⟩:=b4Z (K:=fun st=>frzL r st K) hp hs;exact a1E r st1 h2 h1
end
end Go.Eng
namespace Go.Eng
open Go Go.RowKit
def idx?:List (Option Nat)→Nat→Option Nat
 | [],_=>none
 | none::r,i=>match idx? r i with | some j=>some (j+1) | none=>none
 | some x::r,i=>match Nat.beq x i with | true=>some 0 | false=>match idx? r i with | some j=>some (j+1) | none=>none
def a2X:List (Option Nat)→Bool
 | []=>true
 | none::r=>a2X r
 | some x::r=>(match idx? r x with | none=>true | some _=>false)&&a2X r
def renT(ob:List (Option Nat)):IC→IC
 | .own i off=>match idx? ob i with | some j=>.own j off | none=>.any
 | .row i=>match idx? ob i with | some j=>.row j | none=>.any
 | .rel i sz k off=>match idx? ob i with | some j=>.rel j sz k off | none=>.any
 | .view i sz k n c=>match idx? ob i with | some j=>.view j sz k n c | none=>.any
 | .mp i=>match idx? ob i with | some j=>.mp j | none=>.any
 | .ifc t c=>match clo0 c with | true=>.ifc t c | false=>.any
 | .fn f cs=>match cs.all (fun x=>x.2.all clo0)with | true=>.fn f cs | false=>.any
 | c=>c
def sel{α:Type}(L:Nat→α)(ob:List (Option Nat))(j:Nat):α:=match ob[j]? with | some (some i)=>L i | _=>L j
def a7W(st:St)(s:IC→IC):List Nat→Option (List (Nat × AV))
 | []=>some []
 | t::r=>match st.env.lookup t,a7W st s r with
  | some a,some l=>some ((t,sbA s a)::l)
  | _,_=>none
def a1K(own:List (Option Ob))(s:IC→IC):Option Nat→Option Ob
 | some i=>match own[i]? with | some (some o)=>some (b2O s o) | _=>none
 | none=>none
def a9A(k:Nat)(ob:List (Option Nat)):Bool:=(List.range k).all fun i=>match ob[i]? with | some (some j)=>Nat.beq i j | some none=>true | none=>false
def b7X(slots:List Nat)(ob:List (Option Nat))(st:St):Option St :=
 match a7W st (up (renT ob)) slots,a9A st.k ob with
 | some e,true=>some ⟨st.n,st.k,e,ob.map (a1K st.own (up (renT ob)))⟩
 | _,_=>none
theorem a2R:∀{ob:List (Option Nat)} {i j:Nat},idx? ob i=some j→ob[j]?=some (some i)
 | [],i,j,h=>by cases h
 | none::r,i,j,h=>by
  unfold idx? at h;split at h
  ·rename_i j' hj
   cases h;simpa using a2R hj
  ·cases h
 | some x::r,i,j,h=>by
  unfold idx? at h;split at h
  ·rename_i e
   cases h
   have:x=i:=Nat.eq_of_beq_eq_true e
   simp[this]
  ·split at h
   ·rename_i j' hj
    cases h;simpa using a2R hj
   ·cases h
theorem a9x:∀{ob:List (Option Nat)} {i j:Nat},ob[j]?=some (some i)→∃ k,idx? ob i=some k
 | [],i,j,h=>by simp at h
 | none::r,i,j,h=>by
  cases j with
  | zero=>simp at h
  | succ j =>
   obtain⟨k,hk⟩:=a9x (ob:=r) (by simpa using h)
   exact⟨k+1,by simp[idx?,hk]⟩
 | some x::r,i,j,h=>by
  cases hx:Nat.beq x i with
  | true=>exact⟨0,by simp[idx?,hx]⟩
  | false =>
   cases j with
   | zero =>
    simp at h;subst h;simp at hx
   | succ j =>
    obtain⟨k,hk⟩:=a9x (ob:=r) (by simpa using h)
    exact⟨k+1,by simp[idx?,hx,hk]⟩
theorem a4B:∀{ob:List (Option Nat)} (hd:a2X ob=true) {i j x:Nat},ob[i]?=some (some x)→ob[j]?=some (some x)→i=j
 | [],_,i,j,x,h,_=>by simp at h
 | none::r,hd,i,j,x,h,k=>by
  cases i with
  | zero=>simp at h
  | succ i =>
   cases j with
   | zero=>simp at k
   | succ j =>
    have:=a4B (ob:=r) hd (i:=i) (j:=j) (by simpa using h) (by simpa using k)
    omega
 | some y::r,hd,i,j,x,h,k=>by
  unfold a2X at hd;rw[Bool.and_eq_true]at hd;cases i with
  | zero =>
   cases j with
   | zero=>rfl
   | succ j =>
    simp at h;subst h;obtain⟨m,hm⟩:=a9x (ob:=r) (j:=j) (by simpa using k)
    rw[hm]at hd;simp at hd
  | succ i =>
   cases j with
   | zero =>
    simp at k;subst k;obtain⟨m,hm⟩:=a9x (ob:=r) (j:=i) (by simpa using h)
    rw[hm]at hd;simp at hd
   | succ j =>
    have:=a4B (ob:=r) hd.2 (i:=i) (j:=j) (by simpa using h) (by simpa using k)
    omega
structure Weak(st st':St):Prop where
 out:∀{P:Program} [a0h P] (may:Nat→Prop) (w0:World) (h0:Base P) (a:Act) (w:World),Sat may w0 h0 st a w→Sat may w0 h0 st' a w
theorem Weak.refl(st:St):Weak st st:=⟨fun _ _ _ _ _ h=>h⟩
theorem Weak.trans{a b c:St}(h:Weak a b)(k:Weak b c):Weak a c:=⟨fun m w0 h0 x w hs=>k.out m w0 h0 x w (h.out m w0 h0 x w hs)⟩
section
variable {P:Program} {T:TT} {mine may:Nat→Prop} {L:Nat→Value} {F:Nat→Nat→Prop} {h h':Hp} {st:St} {a:Act} {w w0:World} {own:List (Option Ob)} {ob:List (Option Nat)}
theorem a9a{α:Type}{L:Nat→α}{i j:Nat}(h:idx? ob i=some j):sel L ob j=L i∧j<ob.length:=by
 have:=a2R h;refine⟨?_,(List.getElem?_eq_some_iff.1 this).1⟩;unfold sel;rw[this]
theorem c1B(L:Nat→Value)(h:Hp)(ob:List (Option Nat)):a0x L (sel L ob) h ⟨h.m,ob.length⟩ (renT ob):=by
 refine⟨fun c v hd=>?_⟩;have h1:=hd.one;cases hd with
 | own i off a k1 k2 =>
  simp only[renT];split
  ·rename_i j hj
   obtain⟨e1,e2⟩:=a9a (L:=L) hj;exact .own _ _ a e2 (e1.trans k2)
  ·exact .any _ h1
 | row i A n c k1 k2 =>
  simp only[renT];split
  ·rename_i j hj
   obtain⟨e1,e2⟩:=a9a (L:=L) hj;exact .row _ A n c e2 (e1.trans k2)
  ·exact .any _ h1
 | rel i sz k off a k1 k2 k3 =>
  simp only[renT];split
  ·rename_i j hj
   obtain⟨e1,e2⟩:=a9a (L:=L) hj;exact .rel _ _ _ _ a e2 (by rw[e1];exact k2) (by rw[e1];exact k3)
  ·exact .any _ h1
 | view i sz k n c a b k1 k2 k3 k4 k5 =>
  simp only[renT];split
  ·rename_i j hj
   obtain⟨e1,e2⟩:=a9a (L:=L) hj;exact .view _ _ _ _ _ a b e2 (e1.trans k2) k3 k4 k5
  ·exact .any _ h1
 | mp i r k1 k2 =>
  simp only[renT];split
  ·rename_i j hj
   obtain⟨e1,e2⟩:=a9a (L:=L) hj;exact .mp _ r e2 (e1.trans k2)
  ·exact .any _ h1
 | ifc t c v hr =>
  simp only[renT];split
  ·rename_i e;exact(Den.ifc t c v hr).clo _ e
  ·exact .any _ h1
 | fn f cs vs g hl hv h2 hr =>
  simp only[renT];split
  ·rename_i e;exact(Den.fn f cs vs g hl hv h2 hr).clo _ e
  ·exact .any _ h1
 | v _ h2=>exact .v _ h2
 | sl sz n f A c ad g hc hm hA hg hl hclo hr=>exact(Den.sl sz n f A c ad g hc hm hA hg hl hclo hr).clo _ rfl
 | fp cs ad g hclo hg hr=>exact(Den.fp cs ad g hclo hg hr).clo _ rfl
 | any _ h2=>exact .any _ h2
theorem a7T(L:Nat→Value)(h:Hp)(ob:List (Option Nat)):a0x L (sel L ob) h ⟨h.m,ob.length⟩ (up (renT ob)):=(c1B L h ob).up
theorem a7k[a0h P]{s:IC→IC}{L':Nat→Value}(hs:a0x L L' h h' s)(ha:a0r P L h st a):∀{slots:List Nat} {e:List (Nat × AV)},a7W st s slots=some e→∀ t av,e.lookup t=some av→DenA L' h' av (a.tmps.getD t undef)
 | [],e,hn,t,av,hl=>by cases hn;cases hl
 | x::r,e,hn,t,av,hl=>by
  unfold a7W at hn;split at hn
  ·rename_i a0 l hx hr
   cases hn;rw[List.lookup_cons]at hl
   by_cases et:t=x
   ·subst et
    simp at hl;subst hl;exact hs.denA (ha.env t a0 hx)
   ·have e':(t==x)=false:=by simpa using et
    rw[e']at hl;exact a7k hs ha hr t av hl
  ·cases hn
theorem a3i{s:IC→IC}{j:Nat}{o':Ob}(hj:(ob.map (a1K own s))[j]?=some (some o')):∃ i o,ob[j]?=some (some i)∧own[i]?=some (some o)∧o'=b2O s o:=by
 rw[List.getElem?_map]at hj;cases hb:ob[j]? with
 | none=>rw[hb]at hj;cases hj
 | some x =>
  rw[hb]at hj;simp only[Option.map_some,Option.some.injEq]at hj;cases x with
  | none=>cases hj
  | some i =>
   simp only[a1K]at hj;split at hj
   ·rename_i o ho
    cases hj;exact⟨i,o,rfl,ho,rfl⟩
   ·cases hj
theorem a7Z(hd:a2X ob=true)(hm:Mem mine L F h own w):Mem mine (sel L ob) (sel F ob) ⟨h.m,ob.length⟩ (ob.map (a1K own (up (renT ob)))) w:=by
 have hsel:∀{α:Type} (M:Nat→α) (j i:Nat),ob[j]?=some (some i)→sel M ob j=M i:=fun M j i hj=>by unfold sel;rw[hj]
 refine⟨by simp,hm.hsub,fun j o' hj=>?_,fun j o' b hj hb=>?_,fun i j oi oj b hi hj hbi hbj=>?_⟩
 ·obtain⟨i,o,h1,h2,rfl⟩:=a3i hj
  rw[hsel L j i h1,hsel F j i h1];exact(a7T L h ob).obOk (fun _ _ e=>e) (hm.obs i o h2)
 ·obtain⟨i,o,h1,h2,rfl⟩:=a3i hj
  rw[hsel F j i h1]at hb;exact hm.foot i o b h2 hb
 ·obtain⟨i',o1,h1,h2,rfl⟩:=a3i hi
  obtain⟨j',o2,k1,k2,rfl⟩:=a3i hj;rw[hsel F i i' h1]at hbi;rw[hsel F j j' k1]at hbj;have:=hm.dis i' j' o1 o2 b h2 k2 hbi hbj;subst this;exact a4B hd h1 k1
theorem a8V[a0h P]{h0:Base P}{k:Nat}(hh:a9A k ob=true)(hsub:SubB h0 k L h):SubB h0 k (sel L ob) ⟨h.m,ob.length⟩:=by
 have key:∀ i,i<k→ob[i]?=some (some i)∨ob[i]?=some none:=fun i hi=>by
  have:=List.all_eq_true.1 hh i (List.mem_range.2 hi);split at this
  ·rename_i j hj
   have:i=j:=Nat.eq_of_beq_eq_true this
   rw[hj,this];exact .inl rfl
  ·rename_i hj;exact .inr hj
  ·cases this
 refine⟨⟨hsub.sub.m,?_⟩,fun i hi=>?_,hsub.kk⟩
 ·rw[←hsub.kk]
  show k≤ob.length;rcases Nat.eq_zero_or_pos k with h0' | hp
  ·omega
  ·rcases key (k-1) (by omega)with h1 | h1
   ·have:=(List.getElem?_eq_some_iff.1 h1).1;omega
   ·have:=(List.getElem?_eq_some_iff.1 h1).1;omega
 ·have hk:=hsub.kk
  have:sel L ob i=L i:=by
   unfold sel;rcases key i (by omega)with h1 | h1 <;> rw[h1]
  rw[this];exact hsub.at_ i hi
theorem a0b(slots:List Nat)(ob:List (Option Nat)){st st':St}(hn:b7X slots ob st=some st')(hd:a2X ob=true):Weak st st':=by
 refine⟨fun may w0 h0 a w hs=>?_⟩;obtain⟨⟨L,F,h,hm,ha,hsub,hnew⟩,hk⟩:=hs;unfold b7X at hn;split at hn
 ·rename_i e he hh
  cases hn;exact⟨⟨_,_,_,a7Z hd hm,⟨ha.size,fun t av ht=>a7k (a7T L h ob) ha he t av ht,ha.defers⟩,a8V hh hsub,hnew⟩,hk⟩
 ·cases hn
theorem a0M(t:Nat)(e:TypeId)(sz:Nat)(f:Nat→List IC){st:St}(hl:st.env.lookup t=some (.c (.v (.slice none 0 0)))):Weak st ⟨st.n,st.k,(t,.c (.row st.own.length))::st.env,st.own++[some (.row e sz 0 f)]⟩:=by
 refine⟨fun{P} _ may w0 h0 a w hs=>?_⟩;obtain⟨⟨L,F,h,hm,ha,hsub,hnew⟩,hk⟩:=hs;have hn:=hm.hn;have hL:∀ i,i<h.n→upd L st.own.length (.slice none 0 0) i=L i:=fun i hi=>a2t (by omega)
 have hm':=a1R (v:=.slice none 0 0) (G:=fun _=>False) (ob:=.row e sz 0 f) hm ⟨[],World.ownsRow_nil w 0 e sz,(fun b hb=>by cases hb),⟨fun k hk=>by omega,fun k hk=>by omega⟩⟩ (fun b hb=>hb.elim) (fun b hb=>hb.elim)
 have ha':a0r P (upd L st.own.length (.slice none 0 0)) (h.more 1) st a:=a1e ha hL (a0z h 1) rfl rfl;refine⟨⟨_,_,_,hm',⟨ha'.size,fun t' av ht=>?_,ha'.defers⟩,hsub.step hL (a0z h 1),hnew⟩,hk⟩;have ht:((t,AV.c (.row st.own.length))::st.env).lookup t'=some av:=ht;rw[List.lookup_cons]at ht
 by_cases et:t'=t
 ·subst et
  simp at ht;subst ht;have:=a0u (ha.env t' _ hl);show Den _ _ _ _;rw[this];exact .row _ none 0 0 (by simp[Hp.more,hn]) a3M
 ·have e':(t'==t)=false:=by simpa using et
  rw[e']at ht;exact ha'.env t' av ht
theorem a7Y(i j:Nat)(e:TypeId)(sz:Nat)(f:Nat→List IC){st:St}{t:TypeId}{cs:List IC}(hi:st.own[i]?=some (some (.cells t cs)))(hj:cs[j]?=some (.v (.slice none 0 0))) :
  Weak st ⟨st.n,st.k,st.env,st.own.set i (some (.cells t (cs.set j (.row st.own.length))))++[some (.row e sz 0 f)]⟩:=by
 refine⟨fun may w0 h0 a w hs=>?_⟩;obtain⟨⟨L,F,h,hm,ha,hsub,hnew⟩,hk⟩:=hs;have hn:=hm.hn;have hil:i<st.own.length:=(List.getElem?_eq_some_iff.1 hi).1;have hL:∀ i,i<h.n→upd L st.own.length (.slice none 0 0) i=L i:=fun i hi=>a2t (by omega)
 have hm':=a1R (v:=.slice none 0 0) (G:=fun _=>False) (ob:=.row e sz 0 f) hm ⟨[],World.ownsRow_nil w 0 e sz,(fun b hb=>by cases hb),⟨fun k hk=>by omega,fun k hk=>by omega⟩⟩ (fun b hb=>hb.elim) (fun b hb=>hb.elim)
 have hi':(st.own++[some (.row e sz 0 f)])[i]?=some (some (.cells t cs)):=by rw[List.getElem?_append_left hil];exact hi
 have hm2:=a3V (w':=w) (ob:=.cells t (cs.set j (.row st.own.length))) hm' hi' rfl (fun _ _=>rfl) (by
  obtain⟨b,vs,e1,e2,e3,e4⟩:=hm'.obs i _ hi';refine⟨b,vs,e1,e2,e3,by rw[List.length_set];exact e4.1,fun j' c u hc hu=>?_⟩
  rw[List.getElem?_set]at hc;split at hc
  ·rename_i ej
   subst ej;split at hc
   ·cases hc
    have:=a0u (e4.2 j _ u hj hu);rw[this];exact .row _ none 0 0 (by simp[Hp.more,hn]) a3M
   ·cases hc
  ·exact e4.2 j' c u hc hu)
 rw[List.set_append,if_pos hil]at hm2;exact⟨⟨_,_,_,hm2,a1e ha hL (a0z h 1) rfl rfl,hsub.step hL (a0z h 1),hnew⟩,hk⟩
theorem b2j(i:Nat){st st':St}(hf:∀ K:St→Prop,K st'→frzK st i K):Weak st st':=by
 refine⟨fun may w0 h0 a w hs=>?_⟩;obtain⟨st2,h1,h2⟩:=b4Z (hf (fun x=>x=st') rfl) hs;subst h2;exact h1
end
end Go.Eng
