/- A part of the proof. -/
import Derived.Test.YteglopjljejjkacGreatDoorGA13gTA19
import Derived.Lib.Overlaps
import Derived.ChangeArms
import Derived.Deep.Slices
import Derived.WideShapes
import Derived.Shelf.Unicode.DecodeSlow
import Derived.RangeFuncFrom
import Derived.RangeFuncLeaves
import Derived.RangeFuncCalls
import Derived.OrdersIn
import Derived.Shelf.SlSortCmp.WholeK
import Derived.Shelf.SlSortCmp.NoneTotal
set_option linter.unusedVariables false
set_option linter.unusedSimpArgs false
namespace Go.Eng
open Go Go.RowKit
def sNil (i : Nat) : IC→IC
 | .row j=>match Nat.beq j i with | true=>.v (.slice none 0 0) | false=>.row j
 | c=>c
def sView (i l sz n c : Nat) : IC→IC
 | .row j=>match Nat.beq j i with | true=>.view l sz 0 n c | false=>.row j
 | x=>x
section
variable {P : Program} {T : TT} {mine may : Nat→Prop} {L : Nat→Value} {F : Nat→Nat→Prop} {h : Hp} {st : St} {a : Act} {w w0 : World} {own : List (Option Ob)}
theorem view_row (t i : Nat) {st : St} {e : TypeId} {sz k m n c cap N : Nat} {f : Nat→List IC} (hl : st.env.lookup t = some (.c (.view i sz k m c))) (hi : st.own[i]? = some (some (.arr e sz cap N f))) (hk : k = 0) (hm : n = m) (hN : n≤N) (hc : c = cap) :
  Weak st ⟨st.n,st.k,(t,.c (.row st.own.length)) :: st.env,st.own.set i none ++ [some (.row e sz n f)]⟩:=by
 subst hc hk hm
 refine ⟨fun {P} _ may w0 h0 a w hs=>?_⟩
 obtain ⟨⟨L,F,h,hm,ha,hsub,hnew⟩,hk⟩:=hs
 have hn:=hm.hn
 obtain ⟨b,cur,e1,e2,e3,e4,e5,e6,e7⟩:=hm.obs i _ hi
 have hv : Den L h (.view i sz 0 n c) (a.tmps.getD t undef):=ha.env t _ hl
 generalize hz : a.tmps.getD t undef = z at hv
 cases hv with
 | view _ _ _ _ _ a0 b0 h1 h2 h3 h4 h5 =>
 rw [e1] at h2
 cases h2
 have hb0:=h3 (.inr rfl)
 rw [Nat.zero_mul,addr_plain] at hb0
 subst hb0
 have hlen : (st.own.set i none).length = st.own.length:=List.length_set ..
 have hL : ∀ j,j < h.n→upd L (st.own.set i none).length (.slice (some ⟨b,0,none⟩) n c) j = L j:=fun j hj=>upd_lt (by omega)
 have hsz : n * sz≤cur.size:=by rw [e6];exact Nat.mul_le_mul_right _ h4
 have hm':=mem_push (v:=.slice (some ⟨b,0,none⟩) n c) (G:=F i) (ob:=.row e sz n f) (mem_drop hm i)
  ⟨cur.toList.take (n * sz),⟨by rw [List.length_take,Array.length_toList];omega,.inr ⟨b,c,cur,rfl,Nat.zero_le _,e3,h4,e5,e6,rfl⟩⟩,(fun k hk=>by cases hk;exact e2),⟨fun q hq=>e7.len q (by omega),fun q hq j cc hcc=>by
   obtain ⟨u,g1,g2⟩:=e7.den q (by omega) j cc hcc
   have hj : j < sz:=by have:=(List.getElem?_eq_some_iff.1 hcc).1;rw [e7.len q (by omega)] at this;exact this
   refine ⟨u,?_,g2.mono (sub_more h 1) hL⟩
   have : (q + 1) * sz≤n * sz:=Nat.mul_le_mul_right _ hq
   rw [Nat.succ_mul] at this
   rw [List.getElem?_take,if_pos (by omega)]
   exact g1⟩⟩ (fun k hk=>hm.foot i _ k hi hk) (fun k hk=>by
   rintro ⟨j,oj,hj,hF⟩
   obtain ⟨q1,q2⟩:=set_none_get hj
   exact q2 (hm.dis j i oj _ k q1 hi hF hk))
 have ha' : Agree (upd L (st.own.set i none).length (.slice (some ⟨b,0,none⟩) n c)) (h.more 1) st a:=agree_more ha hL (sub_more h 1) rfl rfl
 refine ⟨⟨_,_,_,hm',⟨ha'.size,fun t' av ht=>?_,ha'.defers⟩,hsub.step hL (sub_more h 1),hnew⟩,hk⟩
 have ht : ((t,AV.c (.row st.own.length)) :: st.env).lookup t' = some av:=ht
 rw [List.lookup_cons] at ht
 by_cases et : t' = t
 ·subst et
  simp at ht
  subst ht
  show Den _ _ _ _
  rw [hz]
  exact .row _ _ n c (by simp [Hp.more,hn]) (by rw [hlen];exact upd_eq)
 ·have e' : (t' == t) = false:=by simpa using et
  rw [e'] at ht
  exact ha'.env t' av ht
theorem sNil_ok {i : Nat} (hi : L i = .slice none 0 0) : SubstOk L L h h (sNil i):=by
 refine ⟨fun c v hd=>?_⟩
 unfold sNil
 split
 ·rename_i j
  split
  ·rename_i e
   have e:=Nat.eq_of_beq_eq_true e
   subst e
   cases hd with
   | row _ A n c h1 h2=>rw [hi] at h2;cases h2;exact .v _ rfl
  ·exact hd
 ·exact hd
theorem sView_ok {L' : Nat→Value} {h' : Hp} {i l sz n c b : Nat} (hi : L i = .slice (some ⟨b,0,none⟩) n c) (hs : Sub h h') (hL : ∀ j,j < h.n→L' j = L j) (hl : L' l = .pointer (some ⟨b,0,none⟩)) (hln : l < h'.n) (hnc : n≤c) (hc : c≤maxLen) : SubstOk L L' h h' (sView i l sz n c):=by
 refine ⟨fun x v hd=>?_⟩
 unfold sView
 split
 ·rename_i j
  split
  ·rename_i e
   have e:=Nat.eq_of_beq_eq_true e
   subst e
   cases hd with
   | row _ A n' c' h1 h2 =>
    rw [hi] at h2
    cases h2
    exact .view _ _ _ _ _ ⟨b,0,none⟩ ⟨b,0,none⟩ hln hl (fun _=>by rw [addr_plain];simp) hnc (by unfold maxLen at hc;omega)
  ·exact hd.mono hs hL
 ·exact hd.mono hs hL
theorem callV_view [HasGl P] (i : Nat) {g : FuncId} {own : List (Option Ob)} {args : List AV} {K : AV→List (Option Ob)→Prop} {e : TypeId} {sz n : Nat} {f : Nat→List IC} (hi : own[i]? = some (some (.row e sz n f)))
  (h1 : n = 0→CallV P g (args.map (sbA (up (sNil i)))) (own.set i none) K)
  (h2 : ∀ c,n≤c→c≤9223372036854775807→CallV P g (args.map (sbA (up (sView i own.length sz n c)))) (own.set i none ++ [some (.arr e sz c n f)]) K) : CallV P g args own K:=by
 refine ⟨fun mine L F h w vs hgl hm hden=>?_⟩
 have hn:=hm.hn
 have hil : i < own.length:=(List.getElem?_eq_some_iff.1 hi).1
 obtain ⟨xs,⟨hxl,hr⟩,hG,hR⟩:=hm.obs i _ hi
 have hmapd : ∀ {L' : Nat→Value} {h' : Hp} {s : IC→IC},SubstOk L L' h h' s→DenAs L' h' (args.map (sbA (up s))) vs:=fun hs=>by
  refine ⟨by rw [List.length_map];exact hden.len,fun j a v hj hv=>?_⟩
  rw [List.getElem?_map] at hj
  cases hx : args[j]? with
  | none=>rw [hx] at hj;cases hj
  | some a0=>rw [hx] at hj;cases hj;exact hs.up.denA (hden.den j a0 v hx hv)
 rcases hr with ⟨e1,e2⟩ | ⟨gb,cap,cur,e1,e2,e3,e4,e5,e6,e7⟩
 ·have hfoot : ∀ b,footOf F (own.set i none) b→footOf F own b:=by
   rintro b ⟨k,ob,hk,hb⟩
   exact ⟨k,ob,(set_none_get hk).1,hb⟩
  have hmine : ∀ b,mineOf (footOf F (own.set i none)) w b→mineOf (footOf F own) w b:=fun b hb=>hb.imp (hfoot b) id
  refine ((h1 e2).out mine L F h w vs hgl (mem_drop hm i) (hmapd (sNil_ok e1))).mono ?_
  rintro e' w' ⟨r,v,L',F',h',own',k1,k2,k3,k4,k5,k6,k7,k8⟩
  exact ⟨r,v,L',F',h',own',k1,k2,k3,k4.mine_mono (fun b ⟨k,ob,hk,hb⟩=>hmine b (k4.foot k ob b hk hb).2.2),⟨k5.os,k5.tape,k5.output,k5.size,fun k hk hno=>k5.block k hk (fun hb=>hno (hfoot k hb))⟩,k6,(fun k hk=>(k7 k hk).imp id (hmine k)),k8⟩
 ·have hlen : (own.set i none).length = own.length:=List.length_set ..
  have hL : ∀ j,j < h.n→upd L (own.set i none).length (.pointer (some ⟨gb,0,none⟩)) j = L j:=fun j hj=>upd_lt (by omega)
  have hFg : F i gb:=hG gb (by rw [e1];rfl)
  have hm':=mem_push (v:=.pointer (some ⟨gb,0,none⟩)) (G:=F i) (ob:=.arr e sz cap n f) (mem_drop hm i)
   ⟨gb,cur,rfl,hFg,e3,e4,e5,e6,⟨hR.len,fun q hq j cc hcc=>by
    obtain ⟨u,g1,g2⟩:=hR.den q hq j cc hcc
    refine ⟨u,?_,g2.mono (sub_more h 1) hL⟩
    rw [←e7,List.getElem?_take] at g1
    split at g1
    ·exact g1
    ·cases g1⟩⟩ (fun k hk=>hm.foot i _ k hi hk) (fun k hk=>by
    rintro ⟨j,oj,hj,hF⟩
    obtain ⟨q1,q2⟩:=set_none_get hj
    exact q2 (hm.dis j i oj _ k q1 hi hF hk))
  rw [hlen] at hm' hL
  have hfoot : ∀ b,footOf (upd F own.length (F i)) (own.set i none ++ [some (.arr e sz cap n f)]) b→footOf F own b:=by
   rintro b ⟨k,ob,hk,hb⟩
   by_cases ek : k = own.length
   ·subst ek;rw [upd_eq] at hb;exact ⟨i,_,hi,hb⟩
   ·have hk2 : k < own.length:=by
     have:=(List.getElem?_eq_some_iff.1 hk).1
     simp at this;omega
    rw [upd_lt hk2] at hb
    rw [List.getElem?_append_left (by simpa using hk2)] at hk
    exact ⟨k,ob,(set_none_get hk).1,hb⟩
  have hmine : ∀ b,mineOf (footOf (upd F own.length (F i)) (own.set i none ++ [some (.arr e sz cap n f)])) w b→mineOf (footOf F own) w b:=fun b hb=>hb.imp (hfoot b) id
  have hS : Sub h (h.more 1):=sub_more h 1
  have hsub:=hmapd (sView_ok (sz:=sz) (l:=own.length) e1 hS hL upd_eq (by simp [Hp.more,hn]) e4 e5)
  refine ((h2 cap e4 (by unfold maxLen at e5;omega)).out mine _ _ (h.more 1) w vs hgl hm' hsub).mono ?_
  rintro e' w' ⟨r,v,L',F',h',own',k1,k2,k3,k4,k5,k6,k7,k8⟩
  exact ⟨r,v,L',F',h',own',k1,k2,fun x hx=>(k3 x (Nat.lt_of_lt_of_le hx hS.n)).trans (hL x hx),k4.mine_mono (fun b ⟨k,ob,hk,hb⟩=>hmine b (k4.foot k ob b hk hb).2.2),⟨k5.os,k5.tape,k5.output,k5.size,fun k hk hno=>k5.block k hk (fun hb=>hno (hfoot k hb))⟩,hS.trans k6,(fun k hk=>(k7 k hk).imp id (hmine k)),k8⟩
theorem call_frame2 [HasGl P] {own : List (Option Ob)} {f : FuncId} {args args' : List AV} {own0 : List (Option Ob)} {Q : AV→List (Option Ob)→Prop} {K : AV→List (Option Ob)→Prop} (ob : List (Option Nat)) (hd : nodupB ob = true) (hob : inB own.length ob = true)
  (h0 : ob.map (pickOwn own (up (renT ob))) = own0) (ha : args.map (sbA (up (renT ob))) = args')
  (hc : CallV P f args' own0 Q) (hK : ∀ r own2,Q r own2→∃ r' own3,sbA (up (backT ob own.length)) r = r'∧frameOwn ob own own2 = own3∧K r' own3) : CallV P f args own K:=by
 refine call_frame ob hd hob h0 ha hc (fun r own2 hq=>?_)
 obtain ⟨r',own3,rfl,rfl,h⟩:=hK r own2 hq
 exact h
def envPick (st : St) : List Nat→Option (List (Nat × AV))
 | []=>some []
 | t :: r=>match st.env.lookup t,envPick st r with
  | some a,some l=>some ((t,a) :: l)
  | _,_=>none
theorem envPick_ok {st : St} {a : Act} (ha : Agree L h st a) : ∀ {slots : List Nat} {e : List (Nat × AV)},envPick st slots = some e→∀ t av,e.lookup t = some av→DenA L h av (a.tmps.getD t undef)
 | [],e,hn,t,av,hl=>by cases hn;cases hl
 | x :: r,e,hn,t,av,hl=>by
  unfold envPick at hn
  split at hn
  ·rename_i a0 l h1 h2
   cases hn
   rw [List.lookup_cons] at hl
   by_cases et : t = x
   ·subst et
    simp at hl
    subst hl
    exact ha.env t _ h1
   ·have e' : (t == x) = false:=by simpa using et
    rw [e'] at hl
    exact envPick_ok ha h2 t av hl
  ·cases hn
theorem env_weak (slots : List Nat) {st : St} {e : List (Nat × AV)} (hn : envPick st slots = some e) : Weak st ⟨st.n,st.k,e,st.own⟩:=by
 refine ⟨fun {P} _ may w0 h0 a w hs=>?_⟩
 obtain ⟨⟨L,F,h,hm,ha,hsub,hnew⟩,hk⟩:=hs
 exact ⟨⟨L,F,h,hm,⟨ha.size,fun t av ht=>envPick_ok ha hn t av ht,ha.defers⟩,hsub,hnew⟩,hk⟩
theorem callV_same [HasGl P] {FF : FL} {own : List (Option Ob)} {f : FuncId} {fn : Func} {c : Code} (hf : P.funcs[f]? = some fn) (hb : fn.body = some c) (hT : TTok P T) (hF : FTok P FF) {args : List AV} {n : Nat} (hnn : fn.ntmps = n) {rs : List ResultVar} (hrs : fn.results.toList = rs) {env : List (Nat × AV)} (henv : env0 args = env) (hn : args.length≤n) {Q : AV→List (Option Ob)→Prop}
  (hv : vc P T FF c (fun e st'=>match e with | .exit _=>False | _=>∃ st1,Weak st' st1∧resL T st1 rs (fun l=>Q (retV l) st1.own)) ⟨n,own.length,env,own⟩) : CallV P f args own Q:=by
 subst hnn hrs henv
 refine ⟨fun mine L F h w vs hgl hm hden=>?_⟩
 have hm0 : Mem (mineOf (footOf F own) w) L F h own w:=hm.mine_mono (fun b hb=>.inl hb)
 have hs : Sat (footOf F own) w (⟨h,L,hgl⟩ : Base P) ⟨fn.ntmps,own.length,env0 args,own⟩ { tmps:=vs.toArray ++ Array.replicate (fn.ntmps - vs.toArray.size) undef,defers:=[] } w :=
  ⟨⟨L,F,h,hm0,agree0 hn hden own.length own,⟨Sub.refl h,fun _ _=>rfl,hm.hn.symm⟩,fun k hk=>.inl hk⟩,Keep.refl _ w⟩
 refine calls_of_wp hf hb (Code.wp_mono (fun e a' w' hh=>?_) (vc_ok hT hF c _ _ _ _ hv hs))
 obtain ⟨e',st0,rfl,hs1,he⟩:=hh
 have hr : ∃ st1,Weak st0 st1∧resL T st1 fn.results.toList (fun l=>Q (retV l) st1.own):=by
  cases e' with
  | normal=>exact he
  | exit i=>exact he.elim
  | ret=>exact he
 obtain ⟨st1,hw,hr⟩:=hr
 obtain ⟨⟨L',F',h',hm',ha',hsub,hnew'⟩,hk⟩:=hw.out _ _ _ _ _ hs1
 obtain ⟨r,v,hQ,hd,hrun⟩:=results_ok (Q:=fun r=>Q r st1.own) hT hm' ha' hr
 have fin : a'.defers = []∧∃ v,(results fn a'.tmps).run P w' = .ok v w'∧∃ (r : AV) (u : Value) (L' : Nat→Value) (F' : Nat→Nat→Prop) (h' : Hp) (own' : List (Option Ob)),Ending.returned v = .returned u∧DenA L' h' r u∧(∀ i,i < h.n→L' i = L i)∧Mem (mineOf (footOf F own) w) L' F' h' own' w' ∧
   Keep (footOf F own) w w'∧Sub h h'∧(∀ k,h'.m k≠none→h.m k≠none∨mineOf (footOf F own) w k)∧Q r own' :=
  ⟨ha'.defers,_,hrun,_,v,_,_,_,_,rfl,hd,hsub.at_,hm',hk,hsub.sub,hnew',hQ⟩
 cases e' with
 | normal=>exact fin
 | exit i=>exact he.elim
 | ret=>exact fin
structure Side (w : World) (F : Nat→Prop) (sz : Nat) (v : Value) (n : Nat) : Prop where
 ex : ∃ A c,v = .slice A n c∧(0 < n→0 < sz→∃ ad t k,A = some ad∧F ad.block∧w.shape? ad.block = some (t,k)∧k≠0)
def Plain (w : World) (v : Value) (n : Nat) : Prop:=∀ ad m c,v = .slice (some ad) m c→0 < n→∀ o,w.frozen? ⟨ad.block,o,none⟩ = false∧ad.spot = none
theorem shape_of {b : Nat} {cur : Array Value} {t : TypeId} {z : Nat × Nat} (hb : w.heap[b]? = some (.cells cur t z)) : w.shape? b = some (t,cur.size):=by simp [World.shape?,hb]
theorem side_row (hm : Mem mine L F h own w) {j : Nat} {e : TypeId} {sz n : Nat} {f : Nat→List IC} (hj : own[j]? = some (some (.row e sz n f))) {v : Value} (hd : Den L h (.row j) v) : Side w (F j) sz v n∧Plain w v n:=by
 cases hd with
 | row _ A n' c h1 h2 =>
 obtain ⟨xs,⟨hxl,hr⟩,hG,hR⟩:=hm.obs j _ hj
 rw [h2] at hr hG
 rcases hr with ⟨e1,e2⟩ | ⟨gb,cap,cur,e1,e2,e3,e4,e5,e6,e7⟩
 ·cases e1
  exact ⟨⟨none,0,by rw [e2],fun hp=>by omega⟩,fun ad m c e hp=>by cases e⟩
 ·cases e1
  refine ⟨⟨_,_,rfl,fun h0 hs=>⟨⟨gb,0,none⟩,e,cur.size,rfl,hG gb rfl,shape_of e3,?_⟩⟩,fun ad m c e hp o=>?_⟩
  ·rw [e6];exact Nat.mul_ne_zero (by omega) (by omega)
  ·cases e
   exact ⟨by simp [World.frozen?,e3],rfl⟩
theorem side_view (hm : Mem mine L F h own w) {i : Nat} {e : TypeId} {sz cap N k n c : Nat} {f : Nat→List IC} (hi : own[i]? = some (some (.arr e sz cap N f))) (hcap : k + n≤cap) {v : Value} (hd : Den L h (.view i sz k n c) v) : Side w (F i) sz v n∧Plain w v n:=by
 cases hd with
 | view _ _ _ _ _ a0 b0 h1 h2 h3 h4 h5 =>
 obtain ⟨b,cur,e1,e2,e3,e4,e5,e6,e7⟩:=hm.obs i _ hi
 rw [e1] at h2
 cases h2
 refine ⟨⟨_,_,rfl,fun h0 hs=>⟨b0,e,cur.size,rfl,?_,?_,?_⟩⟩,fun ad m c e hp o=>?_⟩
 ·rw [h3 (.inl (by omega)),addr_plain];exact e2
 ·rw [h3 (.inl (by omega)),addr_plain];exact shape_of e3
 ·rw [e6];exact Nat.mul_ne_zero (by omega) (by omega)
 ·cases e
  rw [h3 (.inl (by omega)),addr_plain]
  exact ⟨by simp [World.frozen?,e3],rfl⟩
theorem side_sl (hm : Mem mine L F h own w) {sz n : Nat} {f : Nat→List IC} {v : Value} (hd : Den L h (.sl sz n f) v) : Side w (fun b=>h.m b≠none) sz v n:=by
 cases hd with
 | sl _ _ _ A c ad g hc hmx hA hg hl hclo hr =>
 refine ⟨_,_,rfl,fun h0 hs=>?_⟩
 have hh:=hg 0 h0 0 hs
 rw [Nat.zero_mul,Nat.zero_add] at hh
 unfold hcell at hh
 have hbk : (ad.add 0).block = ad.block:=by cases ad;unfold Addr.add;split <;> rfl
 rw [hbk] at hh
 split at hh
 ·rename_i cur t z hb
  have hb2:=hm.hsub _ _ hb
  refine ⟨ad,t,cur.size,hA h0,by rw [hb];simp,shape_of hb2,fun e0=>?_⟩
  split at hh
  ·cases hh
  ·have:=Array.size_eq_zero_iff.1 e0
   subst this
   simp at hh
 ·cases hh
theorem overlaps_run {t r e : TypeId} {ti : TI} (hT : TF P e ti) (ht : P.underlying t = some (.slice e)) {va vb : Value} {na nb : Nat} {Fa Fb : Nat→Prop} (ha : Side w Fa ti.size va na) (hb : Side w Fb ti.size vb nb) (hp : Plain w va na) (hd : ∀ b,Fa b→Fb b→False) (h0 : 0 < na) (h1 : 0 < nb) (h2 : 0 < ti.size) :
  (Extern.SlicesOverlaps.overlaps #[t,t] #[r] #[va,vb]).run P w = .ok (.bool false) w:=by
 obtain ⟨A,ca,rfl,g1⟩:=ha.ex
 obtain ⟨B,cb,rfl,g2⟩:=hb.ex
 obtain ⟨a,ta,ka,e1,f1,s1,z1⟩:=g1 h0 h2
 obtain ⟨b,tb,kb,e2,f2,s2,z2⟩:=g2 h1 h2
 subst e1 e2
 have hpa:=hp a na ca rfl h0
 have hane : a.block≠b.block:=fun e=>hd _ f1 (by rw [e];exact f2)
 have hfa : w.frozen? a = false:=by
  have h8:=(hpa a.off).1
  have h9:=(hpa 0).2
  have : a = ⟨a.block,a.off,none⟩:=by cases a;simp at h9;subst h9;rfl
  rw [this];exact h8
 exact Go.Lib.run_overlaps_apart w t r e ht ti.size hT.size a b na ca nb cb hane ta tb ka kb s1 s2 z2 hfa (hpa ka).1
theorem ext_overlaps [HasGl P] {g : FuncId} {fn : Func} {t r e : TypeId} {ti : TI} (hf : P.funcs[g]? = some fn) (hname : (fn.name == "runtime.NumGoroutine") = false) (hb : fn.body.isNone = true) (hn : Extern.findNext fn = none) (he : Extern.find fn = some (Extern.SlicesOverlaps.overlaps #[t,t] #[r]))
  (hT : TF P e ti) (ht : P.underlying t = some (.slice e)) {own : List (Option Ob)} {x y : IC}
  (hxy : ∀ (mine : Nat→Prop) (L : Nat→Value) (F : Nat→Nat→Prop) (h : Hp) (w : World),Mem mine L F h own w→∀ va vb,Den L h x va→Den L h y vb→∃ na nb Fa Fb,Side w Fa ti.size va na∧Plain w va na∧Side w Fb ti.size vb nb∧(∀ b,Fa b→Fb b→False)∧0 < na∧0 < nb∧0 < ti.size)
  {K : AV→List (Option Ob)→Prop} (hK : K (.c (.v (.bool false))) own) : ExtV P g [.c x,.c y] own K:=by
 refine ⟨fun mine L F h w vs hgl hm hden=>?_⟩
 obtain ⟨va,vb,rfl⟩ : ∃ va vb,vs = [va,vb]:=by
  have hl:=hden.len
  match vs,hl with
  | [a,b],_=>exact ⟨a,b,rfl⟩
 have d1 : Den L h x va:=hden.den 0 _ _ rfl rfl
 have d2 : Den L h y vb:=hden.den 1 _ _ rfl rfl
 obtain ⟨na,nb,Fa,Fb,q1,q2,q3,q4,q5,q6,q7⟩:=hxy mine L F h w hm va vb d1 d2
 refine ⟨.bool false,w,?_,.c (.v (.bool false)),L,F,h,own,Den.v _ rfl,fun _ _=>rfl,hm.mine_mono (fun b hb=>.inl hb),Keep.refl _ _,Sub.refl h,fun k hk=>.inl hk,hK⟩
 rw [run_callFunc_extern hf hname hb hn he]
 have:=overlaps_run (r:=r) hT ht q1 q3 q2 q4 q5 q6 q7
 rw [show ([va,vb] : List Value).toArray = #[va,vb] from rfl,this]
 rfl
theorem apart_row_view {j i : Nat} (hji : j≠i) {e e' : TypeId} {sz n k m c cap N : Nat} {f f' : Nat→List IC} {own : List (Option Ob)} (hj : own[j]? = some (some (.row e sz n f))) (hi : own[i]? = some (some (.arr e' sz cap N f'))) (hcap : k + m≤cap) (hn0 : 0 < n) (hm0 : 0 < m) (hs0 : 0 < sz) :
  ∀ (mine : Nat→Prop) (L : Nat→Value) (F : Nat→Nat→Prop) (h : Hp) (w : World),Mem mine L F h own w→∀ va vb,Den L h (.row j) va→Den L h (.view i sz k m c) vb→∃ na nb Fa Fb,Side w Fa sz va na∧Plain w va na∧Side w Fb sz vb nb∧(∀ b,Fa b→Fb b→False)∧0 < na∧0 < nb∧0 < sz:=by
 intro mine L F h w hm va vb d1 d2
 have s1:=side_row hm hj d1
 have s2:=side_view hm hi hcap d2
 exact ⟨n,m,F j,F i,s1.1,s1.2,s2.1,fun b h1 h2=>hji (hm.dis j i _ _ b hj hi h1 h2),hn0,hm0,hs0⟩
theorem apart_view_sl {i : Nat} {e' : TypeId} {sz n k m c cap N : Nat} {f f' : Nat→List IC} {own : List (Option Ob)} (hi : own[i]? = some (some (.arr e' sz cap N f'))) (hcap : k + m≤cap) (hn0 : 0 < n) (hm0 : 0 < m) (hs0 : 0 < sz) :
  ∀ (mine : Nat→Prop) (L : Nat→Value) (F : Nat→Nat→Prop) (h : Hp) (w : World),Mem mine L F h own w→∀ va vb,Den L h (.view i sz k m c) va→Den L h (.sl sz n f) vb→∃ na nb Fa Fb,Side w Fa sz va na∧Plain w va na∧Side w Fb sz vb nb∧(∀ b,Fa b→Fb b→False)∧0 < na∧0 < nb∧0 < sz:=by
 intro mine L F h w hm va vb d1 d2
 have s1:=side_view hm hi hcap d1
 have s2:=side_sl hm d2
 exact ⟨m,n,F i,_,s1.1,s1.2,s2,fun b h1 h2=>h2 (hm.foot i _ b hi h1).2.1,hm0,hn0,hs0⟩
end
end Go.Eng

namespace Go.Eng
open Go Go.RowKit Go.WideShapes
def RdF (R : TypeId → List IC → Prop) : List Field → List IC → Prop
  | [], cs => cs = []
  | f :: r, cs => ∃ xs ys, R f.type xs ∧ RdF R r ys ∧ cs = xs ++ ys
def Rd (T : TT) (B : Nat) : Nat → TypeId → List IC → Prop
  | 0, _, _ => False
  | d + 1, t, cs => match T.lookup t with
    | none => False
    | some ti => match ti.desc with
      | .bool => ∃ b, cs = [.v (.bool b)]
      | .int k => ∃ n, (Lit.int k n).wf = true ∧ cs = [.v (.int k n)]
      | .string => ∃ s, s.size ≤ B ∧ cs = [.v (.string s)]
      | .slice e => (match T.lookup e with
        | some te => ∃ (n : Nat) (f : Nat → List IC), n ≤ B ∧ (∀ k, k < n → Rd T B d e (f k)) ∧ cs = [.sl te.size n f]
        | none => False)
      | .struct fs => RdF (Rd T B d) fs.toList cs
      | _ => False
def tiles (T : TT) : List Field → Nat → Nat → Bool
  | [], off, tot => off == tot
  | f :: r, off, tot => f.offset == off && match T.lookup f.type with | some tf => tiles T r (off + tf.size) tot | none => false
def okS (T : TT) : Nat → TypeId → Bool
  | 0, _ => false
  | d + 1, t => match T.lookup t with
    | none => false
    | some ti => match ti.desc with
      | .bool => true
      | .int _ => true
      | .string => true
      | .slice e => (T.lookup e).isSome && okS T d e
      | .struct fs => tiles T fs.toList 0 ti.size && fs.toList.all (fun f => okS T d f.type)
      | _ => false
structure BulkOk (H : Type) (bulk : DataW H → Nat) : Prop where
  str : ∀ l : List UInt8, l.length ≤ bulk (.lit (.string l))
  len : ∀ es sp : List (DataW H), es.length ≤ bulk (.slice es sp)
  el : ∀ (es sp : List (DataW H)) e, e ∈ es → bulk e ≤ bulk (.slice es sp)
  agg : ∀ (es : List (DataW H)) e, e ∈ es → bulk e ≤ bulk (.agg es)
theorem cellsOf_size {P : Program} {t : TypeId} {i : TI} (h : TF P t i) : P.cellsOf t = i.size := by
  have := h.info
  cases hq : P.info? t with
  | none => rw [hq] at this; cases this
  | some q => rw [hq] at this; simp at this; simp [Program.cellsOf, hq, this.2.1]
theorem hcell_full {w : World} {n : Nat} {a : Addr} {v : Value} (h : w.cell? a = some v) : hcell ⟨fun k => w.heap[k]?, n⟩ a = some v := by
  unfold World.cell? at h
  unfold hcell
  exact h
section
variable {H : Type} {enc : TypeId × Value → H} {P : Program} {T : TT} {w : World} {B : Nat} {bulk : DataW H → Nat} {L : Nat → Value}
theorem rd_clo : ∀ (d : Nat) (t : TypeId) (cs : List IC), Rd T B d t cs → cs.all clo = true
  | 0, _, _, h => h.elim
  | d + 1, t, cs, h => by
    unfold Rd at h
    split at h
    · exact h.elim
    · split at h
      · obtain ⟨b, rfl⟩ := h; rfl
      · obtain ⟨b, _, rfl⟩ := h; rfl
      · obtain ⟨b, _, rfl⟩ := h; rfl
      · split at h
        · obtain ⟨n, f, _, _, rfl⟩ := h; rfl
        · exact h.elim
      · rename_i fs _
        generalize fs.toList = l at h
        induction l generalizing cs with
        | nil => unfold RdF at h; subst h; rfl
        | cons f r ih =>
          unfold RdF at h
          obtain ⟨xs, ys, h1, h2, rfl⟩ := h
          rw [List.all_append, rd_clo d _ _ h1, ih ys h2]
          rfl
      · exact h.elim
theorem choose_f {α : Type} [Inhabited α] {n : Nat} {p : Nat → α → Prop} (h : ∀ i, i < n → ∃ x, p i x) : ∃ f : Nat → α, ∀ i, i < n → p i (f i) := by
  classical
  refine ⟨fun i => if hi : i < n then Classical.choose (h i hi) else default, fun i hi => ?_⟩
  simp only [dif_pos hi]
  exact Classical.choose_spec (h i hi)
theorem rd_ok (hT : TTok P T) (hb : BulkOk H bulk) : ∀ (d : Nat) (t : TypeId) (fuel : Nat) (cs : List Value) (x : DataW H × List MemPlace), okS T d t = true → DataW.trod enc P w 0 (fun _ => true) true fuel t cs = some x → bulk x.1 ≤ B →
    ∃ ics, DenL L ⟨fun k => w.heap[k]?, 0⟩ ics cs ∧ Rd T B d t ics
  | 0, _, _, _, _, hs, _, _ => by cases hs
  | d + 1, t, fuel, cs, x, hs, h, hB => by
    unfold okS at hs
    cases hl : T.lookup t with
    | none => rw [hl] at hs; cases hs
    | some ti =>
      rw [hl] at hs
      have htf := hT _ _ hl
      have hu := htf.und
      cases hd : ti.desc with
      | bool =>
        rw [hd] at hu
        obtain ⟨b, rfl, rfl⟩ := DataW.trod_bool hu h
        exact ⟨[.v (.bool b)], DenL.cons (.v _ rfl) DenL.nil, by unfold Rd; simp only [hl, hd]; exact ⟨b, rfl⟩⟩
      | int k =>
        rw [hd] at hu
        obtain ⟨n, rfl, rfl, hw⟩ := DataW.trod_int hu h
        exact ⟨[.v (.int k n)], DenL.cons (.v _ rfl) DenL.nil, by unfold Rd; simp only [hl, hd]; exact ⟨n, hw, rfl⟩⟩
      | string =>
        rw [hd] at hu
        obtain ⟨s, rfl, rfl, hw⟩ := DataW.trod_string hu h
        have h1 := hb.str s.data.toList
        have h2 : s.data.toList.length = s.size := ba_len s
        exact ⟨[.v (.string s)], DenL.cons (.v _ rfl) DenL.nil, by unfold Rd; simp only [hl, hd]; exact ⟨s, by simp only at hB; omega, rfl⟩⟩
      | slice e =>
        simp only [hd] at hs
        rw [Bool.and_eq_true] at hs
        obtain ⟨te, hle⟩ := Option.isSome_iff_exists.1 hs.1
        have hte := hT _ _ hle
        have hsz := cellsOf_size hte
        rw [hd] at hu
        rcases DataW.trod_slice hu h with ⟨rfl, rfl⟩ | ⟨a, len, cap, elems, rest, n, rfl, rfl, rfl, hba, hlc, hcm, hlen, hel, _⟩
        · exact ⟨[.sl te.size 0 fun _ => []], DenL.cons (.sl _ 0 _ none 0 ⟨0, 0, none⟩ (fun _ _ => undef) (Nat.le_refl _) (by omega) (fun h => by omega) (fun k hk => by omega) (fun k hk => by omega) (fun k hk => by omega) (fun k hk => by omega)) DenL.nil,
            by unfold Rd; simp only [hl, hd, hle]; exact ⟨0, fun _ => [], Nat.zero_le _, (fun k hk => by omega), rfl⟩⟩
        · have hbl := hb.len (elems.map (·.1)) (rest.map (·.1))
          rw [List.length_map, hlen] at hbl
          have key : ∀ i, i < len → ∃ p : List IC × List Value, w.cells? 0 (a.add (i * P.cellsOf e)) (P.cellsOf e) = some p.2 ∧ DenL L ⟨fun k => w.heap[k]?, 0⟩ p.1 p.2 ∧ Rd T B d e p.1 := fun i hi => by
            have h1 := hel i hi
            rw [List.getElem?_eq_getElem (by omega)] at h1
            obtain ⟨cs', h2, h3⟩ := Option.bind_eq_some_iff.1 h1
            have hbe : bulk (elems[i]'(by omega)).1 ≤ B := Nat.le_trans (hb.el _ (rest.map (·.1)) _ (List.mem_map_of_mem (List.getElem_mem (by omega)))) hB
            obtain ⟨ics, k1, k2⟩ := rd_ok hT hb d e n cs' _ hs.2 h3 hbe
            exact ⟨(ics, cs'), h2, k1, k2⟩
          obtain ⟨F, hF⟩ := choose_f key
          refine ⟨[.sl te.size len fun k => (F k).1], DenL.cons (.sl _ len _ (some a) cap a (fun k j => (F k).2.getD j undef) hlc (by unfold maxLen at hcm; omega) (fun _ => rfl) (fun k hk j hj => ?_) (fun k hk => ?_) (fun k hk => rd_clo d e _ (hF k hk).2.2) (fun k hk j c hc => ?_)) DenL.nil, by unfold Rd; simp only [hl, hd, hle]; exact ⟨len, _, by simp only at hB; omega, (fun k hk => (hF k hk).2.2), rfl⟩⟩
          · obtain ⟨_, q1, q2⟩ := World.cells?_some (hF k hk).1
            rw [hsz] at q1 q2
            have q3 := q2 j hj
            rw [addr_add_add] at q3
            rw [List.getElem?_eq_getElem (by omega)] at q3
            rw [hcell_full q3]
            simp [List.getD_eq_getElem?_getD, List.getElem?_eq_getElem (show j < (F k).2.length by omega)]
          · obtain ⟨_, q1, q2⟩ := World.cells?_some (hF k hk).1
            rw [(hF k hk).2.1.1, q1, hsz]
          · have h1 := (hF k hk).2.1
            have hj : j < (F k).2.length := by rw [← h1.1]; exact (List.getElem?_eq_some_iff.1 hc).1
            have := h1.2 j c _ hc (List.getElem?_eq_getElem hj)
            simpa [List.getD_eq_getElem?_getD, List.getElem?_eq_getElem hj] using this
      | struct fs =>
        simp only [hd] at hs
        rw [Bool.and_eq_true] at hs
        obtain ⟨hti, hall⟩ := hs
        rw [hd] at hu
        obtain ⟨xs, n, rfl, rfl, hcl, hxl, hx⟩ := DataW.trod_struct hu h
        rw [cellsOf_size htf] at hcl
        have main : ∀ (l : List Field) (i off : Nat), (∀ j, l[j]? = fs[i + j]?) → tiles T l off ti.size = true → l.all (fun f => okS T d f.type) = true → off ≤ cs.length →
            ∃ ics, DenL L ⟨fun k => w.heap[k]?, 0⟩ ics (cs.drop off) ∧ RdF (Rd T B d) l ics := by
          intro l
          induction l with
          | nil =>
            intro i off _ ht _ _
            unfold tiles at ht
            have e : off = ti.size := by simpa using ht
            refine ⟨[], ?_, rfl⟩
            rw [e, ← hcl, List.drop_length]
            exact DenL.nil
          | cons f r ih =>
            intro i off hi ht ha hoff
            unfold tiles at ht
            rw [Bool.and_eq_true] at ht
            obtain ⟨h1, h2⟩ := ht
            have e : f.offset = off := by simpa using h1
            cases hlf : T.lookup f.type with
            | none => rw [hlf] at h2; cases h2
            | some tf =>
              rw [hlf] at h2
              simp only at h2
              rw [List.all_cons, Bool.and_eq_true] at ha
              have hfi : fs[i]? = some f := by have := hi 0; simpa using this.symm
              have hxi := hx i f hfi
              have hlt : i < xs.length := by rw [hxl]; exact (Array.getElem?_eq_some_iff.1 hfi).1
              rw [List.getElem?_eq_getElem hlt] at hxi
              have hbe : bulk (xs[i]).1 ≤ B := Nat.le_trans (hb.agg _ _ (List.mem_map_of_mem (List.getElem_mem hlt))) hB
              obtain ⟨ics, k1, k2⟩ := rd_ok hT hb d f.type n _ _ ha.1 hxi hbe
              rw [cellsOf_size (hT _ _ hlf), e] at k1
              have hle : ∀ (l : List Field) (o : Nat), tiles T l o ti.size = true → o ≤ ti.size := by
                intro l
                induction l with
                | nil => intro o h; unfold tiles at h; have : o = ti.size := by simpa using h
                         omega
                | cons f r ih =>
                  intro o h
                  unfold tiles at h
                  rw [Bool.and_eq_true] at h
                  obtain ⟨_, h⟩ := h
                  cases hq : T.lookup f.type with
                  | none => rw [hq] at h; cases h
                  | some tq => rw [hq] at h; have := ih _ h; omega
              have hnext := hle r _ h2
              obtain ⟨ics2, k3, k4⟩ := ih (i + 1) (off + tf.size) (fun j => by have := hi (j + 1); rw [List.getElem?_cons_succ] at this; rw [this, Nat.add_assoc, Nat.add_comm 1]) h2 ha.2 (by omega)
              refine ⟨ics ++ ics2, ?_, ?_⟩
              · have := k1.append k3
                rwa [← List.drop_drop, List.take_append_drop] at this
              · unfold RdF; exact ⟨ics, ics2, k2, k4, rfl⟩
        obtain ⟨ics, k1, k2⟩ := main fs.toList 0 0 (fun j => by simp) hti hall (Nat.zero_le _)
        rw [List.drop_zero] at k1
        exact ⟨ics, k1, by unfold Rd; simp only [hl, hd]; exact k2⟩
      | _ => simp only [hd] at hs; cases hs
def RdA (T : TT) (B d : Nat) (t : TypeId) (a : AV) : Prop :=
  match T.lookup t with
  | none => False
  | some ti => match ti.desc with
    | .struct _ => ∃ cs, Rd T B d t cs ∧ a = .agg cs
    | _ => ∃ c, Rd T B d t [c] ∧ a = .c c
def RdArgs (T : TT) (B d : Nat) : List TypeId → List AV → Prop
  | [], az => az = []
  | t :: ts, az => ∃ a r, RdA T B d t a ∧ RdArgs T B d ts r ∧ az = a :: r
theorem arg_ok (hT : TTok P T) (hb : BulkOk H bulk) {d : Nat} {t : TypeId} {v : Value} {x : DataW H} {p : List MemPlace} {base : Nat} (hval : Value.okWide P w .any base t v) (h : DataW.Trod enc P w 0 (fun _ => true) true t v x p) (hs : okS T d t = true) (hB : bulk x ≤ B) :
    ∃ a, DenA L ⟨fun k => w.heap[k]?, 0⟩ a v ∧ RdA T B d t a := by
  obtain ⟨fuel, h⟩ := h
  obtain ⟨ics, h1, h2⟩ := rd_ok (L := L) hT hb d t fuel _ _ hs h hB
  cases d with
  | zero => cases hs
  | succ d =>
  unfold okS at hs
  cases hl : T.lookup t with
  | none => rw [hl] at hs; cases hs
  | some ti =>
    have hu := (hT _ _ hl).und
    have one : (∃ u, v = u ∧ v.cells.toList = [u]) → (∀ fs, ti.desc ≠ .struct fs) → ∃ a, DenA L ⟨fun k => w.heap[k]?, 0⟩ a v ∧ RdA T B (d + 1) t a := fun ⟨u, e1, e2⟩ hne => by
      subst e1
      rw [e2] at h1
      match ics, h1.1 with
      | [c], _ =>
        refine ⟨.c c, h1.2 0 c _ rfl rfl, ?_⟩
        unfold RdA
        simp only [hl]
        cases hq : ti.desc with
        | struct fs => exact absurd hq (hne fs)
        | _ => exact ⟨c, h2, rfl⟩
    cases hd : ti.desc with
    | bool => rw [hd] at hu; obtain ⟨b, rfl⟩ := okWide_bool hu hval; exact one ⟨_, rfl, rfl⟩ (by rw [hd]; intro fs e; cases e)
    | int k => rw [hd] at hu; obtain ⟨b, rfl⟩ := okWide_int hu hval; exact one ⟨_, rfl, rfl⟩ (by rw [hd]; intro fs e; cases e)
    | string => rw [hd] at hu; obtain ⟨b, rfl⟩ := okWide_string hu hval; exact one ⟨_, rfl, rfl⟩ (by rw [hd]; intro fs e; cases e)
    | slice e => rw [hd] at hu; obtain ⟨a, n, c, rfl⟩ := okWide_slice hu hval; exact one ⟨_, rfl, rfl⟩ (by rw [hd]; intro fs e; cases e)
    | struct fs =>
      rw [hd] at hu
      obtain ⟨cs, rfl, _⟩ := okWide_struct hu hval
      refine ⟨.agg ics, ⟨cs.toList, by simp, by simpa [Value.cells] using h1⟩, ?_⟩
      unfold RdA
      rw [hl]
      simp only [hd]
      exact ⟨ics, h2, rfl⟩
    | _ => simp only [hl, hd] at hs; cases hs
def ArgsLe (az bs : List AV) : Prop := ∀ (L : Nat → Value) (h : Hp) (vs : List Value), DenAs L h az vs → DenAs L h bs vs
theorem argsLe_refl (az : List AV) : ArgsLe az az := fun _ _ _ h => h
theorem argsLe_cons {a b : AV} {az bs : List AV} (h1 : ∀ (L : Nat → Value) (h : Hp) v, DenA L h a v → DenA L h b v) (h2 : ArgsLe az bs) : ArgsLe (a :: az) (b :: bs) := fun L h vs hd => by
  match vs, hd with
  | v :: r, hd =>
    have := h2 L h r ⟨by have := hd.len; simpa using this, fun j x u hj hu => hd.den (j + 1) x u (by simpa using hj) (by simpa using hu)⟩
    exact denAs_cons (h1 L h v (hd.den 0 _ _ rfl rfl)) this
  | [], hd => have := hd.len; simp at this
theorem argsLe_same {a : AV} {az bs : List AV} (h2 : ArgsLe az bs) : ArgsLe (a :: az) (a :: bs) := argsLe_cons (fun _ _ _ h => h) h2
theorem callV_args [HasGl P] {f : FuncId} {args args' : List AV} {own : List (Option Ob)} {Q : AV → List (Option Ob) → Prop} (h : ArgsLe args args') (hc : CallV P f args' own Q) : CallV P f args own Q :=
  ⟨fun mine L F hh w vs hgl hm hd => hc.out mine L F hh w vs hgl hm (h L hh vs hd)⟩
theorem list_of {α : Type} {n : Nat} {f : Nat → List IC} {enc : α → List IC} {R : α → Prop} (d : α) (h : ∀ k, k < n → ∃ a, R a ∧ f k = enc a) : ∃ l : List α, l.length = n ∧ (∀ k, k < n → f k = enc (l.getD k d)) ∧ ∀ k, k < n → R (l.getD k d) := by
  have : Inhabited α := ⟨d⟩
  obtain ⟨g, hg⟩ := choose_f h
  refine ⟨(List.range n).map g, by simp, fun k hk => ?_, fun k hk => ?_⟩
  · rw [(hg k hk).2]; simp [List.getD_eq_getElem?_getD, hk]
  · have := (hg k hk).1; simpa [List.getD_eq_getElem?_getD, hk] using this
theorem den_sl_ext {h : Hp} {sz n : Nat} {f f' : Nat → List IC} {v : Value} (hd : Den L h (.sl sz n f) v) (hf : ∀ k, k < n → f' k = f k) : Den L h (.sl sz n f') v := by
  cases hd with
  | sl _ _ _ A c ad g hc hm hA hg hl hclo hr => exact .sl sz n f' A c ad g hc hm hA hg (fun k hk => by rw [hf k hk]; exact hl k hk) (fun k hk => by rw [hf k hk]; exact hclo k hk) (fun k hk j c' hc' => by rw [hf k hk] at hc'; exact hr k hk j c' hc')
end
end Go.Eng
namespace Go.Eng
open Go
def headsOf (ords : List (List Nat)) : List Nat:=(ords.filterMap List.head?).eraseDups
def tailsOf (i : Nat) (ords : List (List Nat)) : List (List Nat):=ords.filterMap fun l=>match l with | x :: r=>(match Nat.beq x i with | true=>some r | false=>none) | []=>none
def ordsB (md : Region.Mode) (ops : Array Oper) (S : Nat→Bool) : Nat→List (List Nat)→Array Bool→Bool
 | 0,_,listed=>(List.range ops.size).all (fun j=>!S j || listed.getD j false)
 | n + 1,ords,listed=>(List.range ops.size).any (fun j=>S j && !(listed.getD j true)) && ((Region.ready md ops listed).all (fun i=>!S i || (headsOf ords).contains i) &&
   (headsOf ords).all (fun i=>decide (i < ops.size) && ordsB md ops S n (tailsOf i ords) (listed.setIfInBounds i true)))
section
variable {P : Program} {ops : Array Oper} {Q : Exit→Act→World→Prop} {md : Region.Mode} {C : World→Prop}
def wpOrds (P : Program) (ops : Array Oper) (Q : Exit→Act→World→Prop) (C : World→Prop) (R : Act→World→Prop) : Nat→List (List Nat)→Act→World→Prop
 | 0,_,a,w=>R a w
 | n + 1,ords,a,w=>∀ i,i ∈ headsOf ords→wpOp P ops Q i (fun a' w'=>C w'∧wpOrds P ops Q C R n (tailsOf i ords) a' w') a w
theorem wpOrds_mono {R R' : Act→World→Prop} (hq : ∀ a w,R a w→R' a w) : ∀ (n : Nat) (ords : List (List Nat)) (a : Act) (w : World),wpOrds P ops Q C R n ords a w→wpOrds P ops Q C R' n ords a w
 | 0,_,a,w,h=>hq a w h
 | n + 1,ords,a,w,h=>fun i hi=>wpOp_mono (fun a' w' h2=>⟨h2.1,wpOrds_mono hq n _ a' w' h2.2⟩) (h i hi)
theorem wpAnyX_ords {S : Nat→Bool} {R : Act→World→Prop} : ∀ (n : Nat) (ords : List (List Nat)) (listed : Array Bool) (a : Act) (w : World),ordsB md ops S n ords listed = true→wpOrds P ops Q C R n ords a w→wpAnyX P md ops Q C S R n listed a w
 | 0,ords,listed,a,w,hB,h=>by
  unfold ordsB at hB
  rw [List.all_eq_true] at hB
  refine ⟨fun j hj hS=>?_,h⟩
  have:=hB j (List.mem_range.2 hj)
  rw [hS] at this
  simpa using this
 | n + 1,ords,listed,a,w,hB,h=>by
  unfold ordsB at hB
  rw [Bool.and_eq_true,Bool.and_eq_true] at hB
  obtain ⟨h1,h2,h3⟩:=hB
  rw [List.any_eq_true] at h1
  obtain ⟨j,hj,hj2⟩:=h1
  rw [Bool.and_eq_true] at hj2
  rw [List.all_eq_true] at h2 h3
  refine ⟨⟨j,List.mem_range.1 hj,hj2.1,by simpa using hj2.2⟩,fun i hi hS=>?_⟩
  have h4:=h2 i hi
  rw [hS] at h4
  have hm : i ∈ headsOf ords:=by simpa using h4
  have h5:=h3 i hm
  rw [Bool.and_eq_true] at h5
  exact wpOp_mono (fun a' w' h6=>⟨h6.1,wpAnyX_ords n _ _ a' w' h5.2 h6.2⟩) (h i hm)
def loudOB (ops : Array Oper) (k en : Nat) (h : List Nat) (ords : List (List Nat)) : Bool :=
 Region.noSelect ops && decide (k≤ops.size) && tailB .any ops k && preB .any ops h (Array.replicate ops.size false) && h.all (fun i=>decide (i < k)) && ordsB .any ops (fun i=>decide (i < k)) en ords (setAll h (Array.replicate ops.size false)) && decide (en + h.length = k)
theorem wp_region_loudO {id k en : Nat} {hl : List Nat} {ords : List (List Nat)} {a : Act} {w : World} (hmx : P.follows .mixedOrders = true) (hB : loudOB ops k en hl ords = true) (hQ : ∀ d v c a w,Q (.panic c) (a.put d v) w→Q (.panic c) a w) (hC : C { w with drawn:=w.drawn + 1 })
  (h : wpHoist P ops C (fun a'=>wpOrds P ops Q C (fun a'' w'=>wpList P ops Q (ops.toList.drop k) a'' w') en ords a' { w with drawn:=w.drawn + 1 }) hl a) : (Code.region id ops true).wp P Q a w:=by
 unfold loudOB at hB
 simp only [Bool.and_eq_true,decide_eq_true_eq] at hB
 obtain ⟨⟨⟨⟨⟨⟨hs,hk⟩,ht⟩,hp⟩,hhk⟩,hob⟩,hlen⟩:=hB
 refine wp_region_any hmx ?_
 have hsz0 : (Array.replicate ops.size false).size = ops.size:=by simp
 have hcl : Lclosed .any ops (Array.replicate ops.size false):=fun i hi hx=>by simp [hi] at hx
 have hX : wpAnyX P .any ops Q C (fun i=>decide (i < k)) (fun a'' w'=>wpList P ops Q (ops.toList.drop k) a'' w') (en + hl.length) (Array.replicate ops.size false) a { w with drawn:=w.drawn + 1 } :=
  wpAnyX_hoist hs hQ en hl _ a _ hC (fun i hi=>List.all_eq_true.1 hhk i hi) hp h (fun a' hK=>wpAnyX_ords en ords _ a' _ hob hK)
 have hlenk : en + hl.length + (ops.toList.drop k).length = ops.size:=by
  rw [hlen,List.length_drop,Array.length_toList];omega
 have key:=wpAny_of_X (Q:=Q) ht hk (ops.toList.drop k).length (fun listed a' w' hR hz h1 h2 hc =>
  wpAny_tail ht (ops.toList.drop k) k listed a' w' (fun j=>by rw [List.getElem?_drop,Array.getElem?_toList]) (by simp;omega) (Nat.le_refl _) hz h1 h2 hc hR) (en + hl.length) _ a _ hsz0 (fun j _ hj=>by simp [hj]) hcl hX
 rw [hlenk] at key
 exact key
end
def allH (l : List Nat) : (Nat→Prop)→Prop:=List.rec (motive:=fun _=>(Nat→Prop)→Prop) (fun _=>True) (fun i _ ih p=>p i∧ih p) l
theorem allH_mem : ∀ {l : List Nat} {p : Nat→Prop},allH l p→∀ i,i ∈ l→p i
 | [],p,_,i,hi=>by cases hi
 | x :: r,p,h,i,hi=>by
  rcases List.mem_cons.1 hi with rfl | hi
  ·exact h.1
  ·exact allH_mem (l:=r) h.2 i hi
def anyO (P : Program) [HasGl P] (T : TT) (F : FL) (ops : Array Oper) (n : Nat) : List (List Nat)→St→(St→Prop)→Prop :=
 Nat.rec (motive:=fun _=>List (List Nat)→St→(St→Prop)→Prop) (fun _ st K=>K st)
  (fun _ ih ords st K=>allH (headsOf ords) fun i=>match ops[i]? with
   | some o=>guardP ops o st (stepP P T F o st (fun st'=>ih (tailsOf i ords) st' K)) (skipK st o.dst (fun st'=>ih (tailsOf i ords) st' K))
   | none=>True) n
def loudOP (P : Program) [HasGl P] (T : TT) (F : FL) (ops : Array Oper) (k en : Nat) (hl : List Nat) (ords : List (List Nat)) (ch : List Nat) (st : St) (K : St→Prop) : Prop :=
 match st with
 | ⟨n,kk,env,own⟩=>forceL (hideL ch 0 own) fun ownH=>hopsP T (getO ops hl) ⟨n,kk,env,ownH⟩ (fun st1=>match st1 with
  | ⟨n1,_,env1,_⟩=>forceL (onlyL ch 0 own) fun ownE=>anyO P T F ops en ords ⟨n1,own.length,env1,ownE⟩ (fun st2=>match st2 with
   | ⟨n2,_,env2,own2⟩=>emptyL ch 0 own own2 = true∧forceL (mergeL ch 0 own own2) fun own3=>opsP P T F ops (ops.toList.drop k) ⟨n2,kk,env2,own3⟩ K))
section
variable {P : Program} {T : TT} {FF : FL} {mine may : Nat→Prop} {L : Nat→Value} {F : Nat→Nat→Prop} {h : Hp} {w w0 : World} {ops : Array Oper}
theorem ordI_ok [HasGl P] {h0 : Base P} (hT : TTok P T) (hF : FTok P FF) {C : World→Prop} {Q : Exit→Act→World→Prop} {K : St→Prop} {S : Nat→Bool} (hC : ∀ w',Keep may w0 w'→C w') : ∀ (n : Nat) (ords : List (List Nat)) (st : St) (a : Act) (w : World) (listed : Array Bool),ordsB .any ops S n ords listed = true→anyO P T FF ops n ords st K→Sat may w0 h0 st a w →
  wpOrds P ops Q C (fun a' w'=>∃ st',Sat may w0 h0 st' a' w'∧K st') n ords a w
 | 0,ords,st,a,w,listed,hB,hp,hs=>⟨st,hs,hp⟩
 | n + 1,ords,st,a,w,listed,hB,hp,hs=>fun i hi=>by
  have hpi:=allH_mem (l:=headsOf ords) hp i hi
  unfold ordsB at hB
  rw [Bool.and_eq_true,Bool.and_eq_true] at hB
  have hBi:=List.all_eq_true.1 hB.2.2 i hi
  rw [Bool.and_eq_true] at hBi
  have hi2 : i < ops.size:=of_decide_eq_true hBi.1
  have hoi : ops[i]? = some ops[i]:=Array.getElem?_eq_getElem hi2
  rw [hoi] at hpi
  generalize ops[i] = o at hoi hpi
  simp only at hpi
  obtain ⟨⟨L,F,h,hm,ha,hsub,hnew⟩,hk⟩:=hs
  unfold wpOp
  simp only [hoi]
  have next : ∀ a' w' st',Sat may w0 h0 st' a' w'→anyO P T FF ops n (tailsOf i ords) st' K→C w'∧wpOrds P ops Q C (fun a' w'=>∃ st',Sat may w0 h0 st' a' w'∧K st') n (tailsOf i ords) a' w':=fun a' w' st' h1 h2=>⟨hC w' h1.keep,ordI_ok hT hF hC n _ st' a' w' _ hBi.2 h2 h1⟩
  rcases guard_wanted ha hpi with ⟨hw,hp⟩ | ⟨hw,hp⟩
  ·rw [if_pos hw]
   refine .inl (Oper.wp_mono (fun a' w' ⟨st',h1,h2⟩=>next a' w' st' h1 h2) (step_ok (Q:=Q) hT hF hp ⟨⟨L,F,h,hm,ha,hsub,hnew⟩,hk⟩))
  ·rw [if_neg (by rw [hw];simp)]
   obtain ⟨st',h1,h2⟩:=put_sat hm ha hsub hnew hk (av:=.tup []) tup_nil hp
   exact next _ _ st' h1 h2
theorem drawV_ords [HasGl P] (k en : Nat) (hl : List Nat) (ords : List (List Nat)) (ch : List Nat) {id : Nat} {K : St→Prop} {st : St} (hmx : P.follows .mixedOrders = true) (hB : loudOB ops k en hl ords = true) (hT : TTok P T) (hF : FTok P FF)
  (hp : loudOP P T FF ops k en hl ords ch st K) : DrawV P id ops K st:=by
 refine ⟨fun may w0 h0 a w hs=>?_⟩
 obtain ⟨n,kk,env,own⟩:=st
 obtain ⟨⟨L,F,h,hm,ha,hsub,hnew⟩,hk⟩:=hs
 have hk0 : Keep may w0 { w with drawn:=w.drawn + 1 }:=⟨hk.os,hk.tape,hk.output,hk.size,hk.block⟩
 have hm0 : Mem (mineOf may w0) L F h own { w with drawn:=w.drawn + 1 }:=mem_same hm (fun b _=>rfl) (Nat.le_refl _)
 have hBk:=hB
 unfold loudOB at hBk
 simp only [Bool.and_eq_true,decide_eq_true_eq] at hBk
 obtain ⟨⟨⟨⟨⟨⟨_,hkk⟩,_⟩,_⟩,hhk⟩,hob⟩,_⟩:=hBk
 generalize hwd : ({ w with drawn:=w.drawn + 1 } : World) = wd at hk0 hm0
 let may' : Nat→Prop:=footOf F (onlyL ch 0 own)
 have hmayF : ∀ b,may' b→∃ i ob,own[i]? = some (some ob)∧ch.contains i = true∧F i b:=fun b ⟨i,ob,hi,hb⟩=>by
  have:=(onlyL_get ch own 0 i ob).1 hi
  rw [Nat.zero_add] at this
  exact ⟨i,ob,this.1,this.2,hb⟩
 have hmay : ∀ b,may' b→mineOf may w0 b:=fun b hb=>by
  obtain ⟨i,ob,h1,_,h3⟩:=hmayF b hb
  exact (hm0.foot i ob b h1 h3).2.2
 have hmine' : ∀ b,mineOf may' wd b→mineOf may w0 b:=fun b hb=>by
  rcases hb with hb | hb
  ·exact hmay b hb
  ·exact .inr (Nat.le_trans hk0.size hb)
 have hmH : Mem (mineOf may w0) L F h (hideL ch 0 own) wd :=
  ⟨by rw [hideL_len];exact hm0.hn,hm0.hsub,fun i ob hi=>hm0.obs i ob ((hideL_get ch own 0 i ob).1 hi).1,fun i ob b hi=>hm0.foot i ob b ((hideL_get ch own 0 i ob).1 hi).1,
   fun i j oi oj b hi hj=>hm0.dis i j oi oj b ((hideL_get ch own 0 i oi).1 hi).1 ((hideL_get ch own 0 j oj).1 hj).1⟩
 have hmE : Mem (mineOf may' wd) L F h (onlyL ch 0 own) wd :=
  ⟨by rw [onlyL_len];exact hm0.hn,hm0.hsub,fun i ob hi=>hm0.obs i ob ((onlyL_get ch own 0 i ob).1 hi).1,fun i ob b hi hb=>⟨(hm0.foot i ob b ((onlyL_get ch own 0 i ob).1 hi).1 hb).1,(hm0.foot i ob b ((onlyL_get ch own 0 i ob).1 hi).1 hb).2.1,.inl ⟨i,ob,hi,hb⟩⟩,
   fun i j oi oj b hi hj=>hm0.dis i j oi oj b ((onlyL_get ch own 0 i oi).1 hi).1 ((onlyL_get ch own 0 j oj).1 hj).1⟩
 have hout : ∀ (i : Nat) (ob : Ob) (b : Nat),own[i]? = some (some ob)→ch.contains i = false→F i b→¬ may' b:=fun i ob b hi hc hb hmb=>by
  obtain ⟨j,oj,h1,h2,h3⟩:=hmayF b hmb
  have:=hm0.dis i j ob oj b hi h1 hb h3
  subst this
  rw [hc] at h2;cases h2
 have hC : ∀ w',Keep may' wd w'→Same F (hideL ch 0 own) h wd w':=fun w' hw' b hb=>by
  rcases hb with hb | ⟨i,ob,hi,hb⟩
  ·cases ho : h.m b with
   | none=>exact absurd ho hb
   | some o =>
    refine hw'.block b (Array.getElem?_eq_some_iff.1 (hm0.hsub b o ho)).1 (fun hmb=>?_)
    obtain ⟨j,oj,h1,_,h3⟩:=hmayF b hmb
    exact hb (hm0.foot j oj b h1 h3).2.1
  ·have h1:=(hideL_get ch own 0 i ob).1 hi
   rw [Nat.zero_add] at h1
   exact hw'.block b (hm0.foot i ob b h1.1 hb).1 (hout i ob b h1.1 h1.2 hb)
 have hlsz : ∀ i,i ∈ hl→i < ops.size:=fun i hi=>by
  have : i < k:=of_decide_eq_true (List.all_eq_true.1 hhk i hi)
  omega
 refine wp_region_loudO (k:=k) (en:=en) (hl:=hl) (ords:=ords) (C:=Keep may' wd) hmx hB (fun d v c a w h=>by cases h.1) (by rw [hwd];exact Keep.refl _ _) ?_
 rw [hwd]
 unfold loudOP at hp
 simp only [forceL_eq] at hp
 have hH:=hoist_ok (mine:=mineOf may w0) (C:=Keep may' wd) hT hmH hC hl ⟨n,kk,env,hideL ch 0 own⟩ a hlsz ⟨rfl,rfl⟩ hp ⟨ha.size,ha.env,ha.defers⟩
 refine wpHoist_mono (fun a1 h1=>?_) hl a hH
 obtain ⟨⟨n1,kk1,env1,own1⟩,ha1,⟨rfl,rfl⟩,hp1⟩:=h1
 simp only at hp1
 have hsatE : Sat may' wd (⟨h,L,HasGl.mono h0.gl hsub.sub.m⟩ : Base P) ⟨n1,own.length,env1,onlyL ch 0 own⟩ a1 wd :=
  ⟨⟨L,F,h,hmE,⟨ha1.size,ha1.env,ha1.defers⟩,⟨Sub.refl h,fun i hi=>rfl,hm0.hn.symm⟩,fun k hk=>.inl hk⟩,Keep.refl _ _⟩
 have hE:=ordI_ok (Q:=fun e a' w'=>e = .normal∧∃ st',Sat may w0 h0 st' a' w'∧K st') (C:=Keep may' wd) hT hF (fun w' hw'=>hw') en ords _ a1 wd _ hob hp1 hsatE
 refine wpOrds_mono (fun a2 w2 h2=>?_) en ords a1 wd hE
 obtain ⟨⟨n2,kk2,env2,own2⟩,⟨⟨L2,F2,h2,hm2,ha2,hsub2,hnew2⟩,hk2⟩,hem,hp2⟩:=h2
 have hLL : ∀ i,i < h.n→L2 i = L i:=fun i hi=>hsub2.at_ i hi
 have hS2 : Sub h h2:=hsub2.sub
 let F3 : Nat→Nat→Prop:=fun i b=>(∃ x,own[i]? = some (some x)∧ch.contains i = false∧F i b)∨((∀ x,own[i]? = some (some x)→ch.contains i = true)∧F2 i b)
 have hnot : ∀ (i j : Nat) (ob o2 : Ob) (b : Nat),own[i]? = some (some ob)→ch.contains i = false→F i b→own2[j]? = some (some o2)→F2 j b→False:=fun i j ob o2 b hi hc hb hj hb2=>by
  obtain ⟨q1,q2,q3⟩:=hm2.foot j o2 b hj hb2
  rcases q3 with q3 | q3
  ·exact hout i ob b hi hc hb q3
  ·have:=(hm0.foot i ob b hi hb).1
   omega
 have hF3a : ∀ (i : Nat) (ob : Ob),own[i]? = some (some ob)→ch.contains i = false→F3 i = F i:=fun i ob hi hc=>by
  funext b
  refine propext ⟨fun hb=>?_,fun hb=>.inl ⟨ob,hi,hc,hb⟩⟩
  rcases hb with ⟨_,_,_,hb⟩ | ⟨hx,_⟩
  ·exact hb
  ·rw [hx ob hi] at hc;cases hc
 have hF3b : ∀ (i : Nat),(∀ x,own[i]? = some (some x)→ch.contains i = true)→F3 i = F2 i:=fun i hx=>by
  funext b
  refine propext ⟨fun hb=>?_,fun hb=>.inr ⟨hx,hb⟩⟩
  rcases hb with ⟨x,h1,h2,_⟩ | ⟨_,hb⟩
  ·rw [hx x h1] at h2;cases h2
  ·exact hb
 have hmg : ∀ (i : Nat) (ob : Ob),(mergeL ch 0 own own2)[i]? = some (some ob)→(own[i]? = some (some ob)∧ch.contains i = false∧F3 i = F i)∨(own2[i]? = some (some ob)∧F3 i = F2 i):=fun i ob hi=>by
  have:=mergeL_get ch own own2 0 i ob hi
  rw [Nat.zero_add] at this
  rcases this with ⟨h1,h2⟩ | ⟨h1,h2⟩
  ·exact .inl ⟨h1,h2,hF3a i ob h1 h2⟩
  ·exact .inr ⟨h1,hF3b i h2⟩
 have hm3 : Mem (mineOf may w0) L2 F3 h2 (mergeL ch 0 own own2) w2:=by
  refine ⟨by rw [mergeL_len];exact hm2.hn,hm2.hsub,fun i ob hi=>?_,fun i ob b hi hb=>?_,fun i j oi oj b hi hj hbi hbj=>?_⟩
  ·rcases hmg i ob hi with ⟨q1,q2,q3⟩ | ⟨q1,q3⟩
   ·have hlt : i < h.n:=by rw [hm0.hn];exact (List.getElem?_eq_some_iff.1 q1).1
    rw [q3,hLL i hlt]
    exact obOk_move (hm0.obs i ob q1) (fun b hb=>hk2.block b (hm0.foot i ob b q1 hb).1 (hout i ob b q1 q2 hb)) hLL hS2
   ·rw [q3];exact hm2.obs i ob q1
  ·rcases hmg i ob hi with ⟨q1,q2,q3⟩ | ⟨q1,q3⟩
   ·rw [q3] at hb
    obtain ⟨f1,f2,f3⟩:=hm0.foot i ob b q1 hb
    refine ⟨Nat.lt_of_lt_of_le f1 hk2.size,?_,f3⟩
    cases ho : h2.m b with
    | none=>rfl
    | some o =>
     rcases hnew2 b (by rw [ho];simp) with h9 | h9 | h9
     ·exact absurd f2 h9
     ·exact absurd h9 (hout i ob b q1 q2 hb)
     ·omega
   ·rw [q3] at hb
    obtain ⟨f1,f2,f3⟩:=hm2.foot i ob b q1 hb
    exact ⟨f1,f2,hmine' b f3⟩
  ·rcases hmg i oi hi with ⟨q1,q2,q3⟩ | ⟨q1,q3⟩ <;> rcases hmg j oj hj with ⟨r1,r2,r3⟩ | ⟨r1,r3⟩ <;> rw [q3] at hbi <;> rw [r3] at hbj
   ·exact hm0.dis i j oi oj b q1 r1 hbi hbj
   ·exact (hnot i j oi oj b q1 q2 hbi r1 hbj).elim
   ·exact (hnot j i oj oi b r1 r2 hbj q1 hbi).elim
   ·exact hm2.dis i j oi oj b q1 r1 hbi hbj
 refine ops_ok (may:=may) (w0:=w0) (h0:=h0) (K:=K) hT hF (fun st'' a'' w'' h1 h2=>⟨rfl,st'',h1,h2⟩) _ _ a2 w2 hp2 ⟨⟨L2,F3,h2,hm3,⟨ha2.size,ha2.env,ha2.defers⟩,hsub.step hLL hS2,fun x hx=>?_⟩,hk0.trans hk2 hmay⟩
 rcases hnew2 x hx with h9 | h9
 ·exact hnew x h9
 ·exact .inr (hmine' x h9)
end
end Go.Eng
namespace Go.Eng
open Go
section
variable {P : Program} {ops : Array Oper} {Q : Exit→Act→World→Prop} {md : Region.Mode} {R : Act→World→Prop}
theorem wpAnyX_monoC {S : Nat→Bool} {C C' : World→Prop} (hC : ∀ w,C' w→C w) : ∀ (fuel : Nat) (listed : Array Bool) (a : Act) (w : World),wpAnyX P md ops Q C' S R fuel listed a w→wpAnyX P md ops Q C S R fuel listed a w
 | 0,listed,a,w,h=>h
 | fuel + 1,listed,a,w,h=>⟨h.1,fun i hi hS=>wpOp_mono (fun a' w' h1=>⟨hC _ h1.1,wpAnyX_monoC hC fuel _ a' w' h1.2⟩) (h.2 i hi hS)⟩
inductive Sch where
 | nil
 | rd (i : Nat) (s : Sch)
 | ef (i : Nat) (s : Sch)
 | alt (a b : Sch)
def wpS (P : Program) (ops : Array Oper) (Q : Exit→Act→World→Prop) (R : Act→World→Prop) : Sch→(World→Prop)→Act→World→Prop
 | .nil,C,a,w=>R a w
 | .rd i r,C,a,w=>∃ o v,ops[i]? = some o∧YieldsW P ops C o v a∧wpS P ops Q R r C (a.put o.dst v) w
 | .ef i r,C,a,w=>wpOp P ops Q i (fun a' w'=>∃ C' : World→Prop,(∀ x,C' x→C x)∧C' w'∧wpS P ops Q R r C' a' w') a w
 | .alt x y,C,a,w=>wpS P ops Q R x C a w∧wpS P ops Q R y C a w
theorem wpS_mono {R R' : Act→World→Prop} (hq : ∀ a w,R a w→R' a w) : ∀ (l : Sch) (C : World→Prop) (a : Act) (w : World),wpS P ops Q R l C a w→wpS P ops Q R' l C a w
 | .nil,C,a,w,h=>hq a w h
 | .rd i r,C,a,w,⟨o,v,h1,h2,h3⟩=>⟨o,v,h1,h2,wpS_mono hq r C _ _ h3⟩
 | .ef i r,C,a,w,h=>wpOp_mono (fun a' w' ⟨C',k1,k2,k3⟩=>⟨C',k1,k2,wpS_mono hq r C' a' w' k3⟩) h
 | .alt x y,C,a,w,h=>⟨wpS_mono hq x C a w h.1,wpS_mono hq y C a w h.2⟩
def heads : Sch→List Nat
 | .ef i _=>[i]
 | .alt x y=>heads x ++ heads y
 | _=>[]
def depthB : Sch→Nat→Bool
 | .nil,0=>true
 | .rd _ r,n + 1=>depthB r n
 | .ef _ r,n + 1=>depthB r n
 | .alt x y,n + 1=>depthB x (n + 1) && depthB y (n + 1)
 | _,_=>false
def schedB (md : Region.Mode) (ops : Array Oper) : Sch→Bool→Array Bool→Bool
 | .nil,_,listed=>(List.range ops.size).all (fun j=>listed.getD j false)
 | .rd i r,_,listed=>(Region.ready md ops listed).contains i && Region.free md ops listed i && schedB md ops r true (listed.setIfInBounds i true)
 | .ef i r,fl,listed=>(Region.ready md ops listed).contains i && (!fl || (Region.ready md ops listed).all (fun j=>decide (j = i))) && schedB md ops r true (listed.setIfInBounds i true)
 | .alt x y,fl,listed=>(!fl || ((Region.ready md ops listed).all (fun j=>(heads x ++ heads y).contains j) && (Region.ready md ops listed).any (fun _=>true))) && schedB md ops x false listed && schedB md ops y false listed
theorem wpAnyX_sched (hs : Region.noSelect ops = true) (hQ : ∀ d v c a w,Q (.panic c) (a.put d v) w→Q (.panic c) a w) : ∀ (l : Sch),
  (∀ (n : Nat) (listed : Array Bool) (C : World→Prop) (a : Act) (w : World),C w→depthB l n = true→schedB md ops l true listed = true→wpS P ops Q R l C a w→wpAnyX P md ops Q C (fun i=>decide (i < ops.size)) R n listed a w) ∧
  (∀ (n : Nat) (listed : Array Bool) (C : World→Prop) (a : Act) (w : World) (j : Nat),C w→depthB l (n + 1) = true→schedB md ops l false listed = true→wpS P ops Q R l C a w→j ∈ heads l→wpOp P ops Q j (fun a' w'=>C w'∧wpAnyX P md ops Q C (fun i=>decide (i < ops.size)) R n (listed.setIfInBounds j true) a' w') a w)
 | .nil=>by
  refine ⟨fun n listed C a w hw hd hB h=>?_,fun n listed C a w j hw hd hB h hj=>by cases hj⟩
  cases n with
  | zero=>exact ⟨fun j hj _=>List.all_eq_true.1 hB j (List.mem_range.2 hj),h⟩
  | succ n=>cases hd
 | .rd i r=>by
  refine ⟨fun n listed C a w hw hd hB h=>?_,fun n listed C a w j hw hd hB h hj=>by cases hj⟩
  cases n with
  | zero=>cases hd
  | succ n =>
   obtain ⟨o,v,h0,hy,h⟩:=h
   simp only [schedB,Bool.and_eq_true] at hB
   obtain ⟨⟨hr,hf⟩,hB'⟩:=hB
   have:=(wpAnyX_sched hs hQ r).1 n _ C (a.put o.dst v) w hw hd hB' h
   exact wpAnyX_first (decide_eq_true (Array.getElem?_eq_some_iff.1 h0).1) h0 (Region.noSelect_spec hs) (hQ o.dst v) n listed a w hw (Region.free_spec h0 hf) (by simpa using hr) hy this
 | .ef i r=>by
  have two : ∀ (n : Nat) (listed : Array Bool) (C : World→Prop) (a : Act) (w : World),C w→depthB r n = true→schedB md ops r true (listed.setIfInBounds i true) = true→wpS P ops Q R (.ef i r) C a w→wpOp P ops Q i (fun a' w'=>C w'∧wpAnyX P md ops Q C (fun i=>decide (i < ops.size)) R n (listed.setIfInBounds i true) a' w') a w:=fun n listed C a w hw hd hB h=>by
   refine wpOp_mono (fun a' w' h1=>?_) h
   obtain ⟨C',k1,k2,k3⟩:=h1
   exact ⟨k1 _ k2,wpAnyX_monoC k1 _ _ _ _ ((wpAnyX_sched hs hQ r).1 n _ C' a' w' k2 hd hB k3)⟩
  refine ⟨fun n listed C a w hw hd hB h=>?_,fun n listed C a w j hw hd hB h hj=>?_⟩
  ·cases n with
   | zero=>cases hd
   | succ n =>
    simp only [schedB,Bool.and_eq_true,Bool.not_true,Bool.false_or] at hB
    obtain ⟨⟨hr,hf⟩,hB'⟩:=hB
    have hr' : i ∈ Region.ready md ops listed:=by simpa using hr
    obtain ⟨g1,g2,g3⟩:=ready_deps hr'
    refine ⟨⟨i,g1,decide_eq_true g1,g2⟩,fun j hj hS=>?_⟩
    obtain rfl : j = i:=of_decide_eq_true (List.all_eq_true.1 hf j hj)
    exact two n listed C a w hw hd hB' h
  ·obtain rfl : j = i:=by simpa [heads] using hj
   simp only [schedB,Bool.and_eq_true] at hB
   exact two n listed C a w hw hd hB.2 h
 | .alt x y=>by
  have two : ∀ (n : Nat) (listed : Array Bool) (C : World→Prop) (a : Act) (w : World) (j : Nat),C w→depthB (.alt x y) (n + 1) = true→schedB md ops x false listed = true→schedB md ops y false listed = true→wpS P ops Q R (.alt x y) C a w→j ∈ heads x ++ heads y →
    wpOp P ops Q j (fun a' w'=>C w'∧wpAnyX P md ops Q C (fun i=>decide (i < ops.size)) R n (listed.setIfInBounds j true) a' w') a w:=fun n listed C a w j hw hd h1 h2 h hj=>by
   simp only [depthB,Bool.and_eq_true] at hd
   rcases List.mem_append.1 hj with hj | hj
   ·exact (wpAnyX_sched hs hQ x).2 n listed C a w j hw hd.1 h1 h.1 hj
   ·exact (wpAnyX_sched hs hQ y).2 n listed C a w j hw hd.2 h2 h.2 hj
  refine ⟨fun n listed C a w hw hd hB h=>?_,fun n listed C a w j hw hd hB h hj=>?_⟩
  ·cases n with
   | zero=>cases hd
   | succ n =>
    simp only [schedB,Bool.and_eq_true,Bool.not_true,Bool.false_or] at hB
    obtain ⟨⟨⟨hr,he⟩,h1⟩,h2⟩:=hB
    obtain ⟨i,hi,_⟩:=List.any_eq_true.1 he
    obtain ⟨g1,g2,g3⟩:=ready_deps hi
    refine ⟨⟨i,g1,decide_eq_true g1,g2⟩,fun j hj hS=>?_⟩
    exact two n listed C a w j hw hd h1 h2 h (by simpa using List.all_eq_true.1 hr j hj)
  ·simp only [schedB,Bool.and_eq_true] at hB
   exact two n listed C a w j hw hd hB.1.2 hB.2 h hj
def schB (ops : Array Oper) (l : Sch) : Bool:=Region.noSelect ops && tailB .any ops ops.size && schedB .any ops l true (Array.replicate ops.size false) && depthB l ops.size
theorem wp_region_sched {id : Nat} {l : Sch} {C : World→Prop} {a : Act} {w : World} (hmx : P.follows .mixedOrders = true) (hB : schB ops l = true) (hQ : ∀ d v c a w,Q (.panic c) (a.put d v) w→Q (.panic c) a w) (hC : C { w with drawn:=w.drawn + 1 })
  (h : wpS P ops Q (fun a' w'=>Q .normal a' w') l C a { w with drawn:=w.drawn + 1 }) : (Code.region id ops true).wp P Q a w:=by
 unfold schB at hB
 simp only [Bool.and_eq_true,decide_eq_true_eq] at hB
 obtain ⟨⟨⟨hs,ht⟩,hp⟩,hlen⟩:=hB
 refine wp_region_any hmx ?_
 have hsz0 : (Array.replicate ops.size false).size = ops.size:=by simp
 have hcl : Lclosed .any ops (Array.replicate ops.size false):=fun i hi hx=>by simp [hi] at hx
 have hX:=(wpAnyX_sched (md:=.any) (Q:=Q) (R:=fun a' w'=>Q .normal a' w') hs hQ l).1 ops.size _ C a _ hC hlen hp h
 have key:=wpAny_of_X (Q:=Q) ht (Nat.le_refl _) 0 (fun listed a' w' hR hz h1 h2 hc =>
  wpAny_tail ht [] ops.size listed a' w' (fun j=>by rw [List.getElem?_nil,Array.getElem?_eq_none (by omega)]) (by simp) (Nat.le_refl _) hz h1 h2 hc hR) ops.size _ a _ hsz0 (fun j hj1 hj2=>by omega) hcl hX
 exact key
end
def schedP (P : Program) [HasGl P] (T : TT) (F : FL) (ops : Array Oper) (ch : List Nat) (l : Sch) : St→(St→Prop)→Prop :=
 Sch.rec (motive:=fun _=>St→(St→Prop)→Prop) (fun st K=>K st)
  (fun i _ ih st K=>match ops[i]? with
    | none=>False
    | some o=>match st with
     | ⟨n,kk,env,own⟩=>forceL (hideL ch 0 own) fun ownH=>guardP ops o ⟨n,kk,env,ownH⟩ (aopP T ⟨n,kk,env,ownH⟩ o.op (fun av=>putK ⟨n,kk,env,own⟩ o.dst av (fun st'=>ih st' K))) (skipK ⟨n,kk,env,own⟩ o.dst (fun st'=>ih st' K)))
  (fun i _ ih st K=>match ops[i]? with
    | none=>False
    | some o=>match st with
     | ⟨n,kk,env,own⟩=>forceL (onlyL ch 0 own) fun ownE=>guardP ops o ⟨n,own.length,env,ownE⟩ (stepP P T F o ⟨n,own.length,env,ownE⟩ (fun st2=>match st2 with
        | ⟨n2,_,env2,own2⟩=>forceL (mergeL ch 0 own own2) fun own3=>ih ⟨n2,kk,env2,own3⟩ K)) (skipK ⟨n,kk,env,own⟩ o.dst (fun st'=>ih st' K)))
  (fun _ _ iha ihb st K=>iha st K∧ihb st K) l
section
variable {P : Program} {T : TT} {FF : FL} {may : Nat→Prop} {L : Nat→Value} {F : Nat→Nat→Prop} {h : Hp} {w w0 : World} {ops : Array Oper}
theorem merge_ok [HasGl P] {h0 : Base P} {ch : List Nat} {own own2 : List (Option Ob)} {kk n2 kk2 : Nat} {env2 : List (Nat × AV)} {a2 : Act} {wd w2 : World} {hgl : HasGl.ok P h.m} (hm0 : Mem (mineOf may w0) L F h own wd) (hk0 : Keep may w0 wd) (hsub : SubB h0 kk L h) (hnew : ∀ k,h.m k≠none→h0.h.m k≠none∨mineOf may w0 k)
  (hs : Sat (footOf F (onlyL ch 0 own)) wd (⟨h,L,hgl⟩ : Base P) ⟨n2,kk2,env2,own2⟩ a2 w2) :
  ∃ L2 F3 h2,Mem (mineOf may w0) L2 F3 h2 (mergeL ch 0 own own2) w2∧Agree L2 h2 ⟨n2,kk,env2,mergeL ch 0 own own2⟩ a2∧SubB h0 kk L2 h2∧(∀ k,h2.m k≠none→h0.h.m k≠none∨mineOf may w0 k)∧Keep may w0 w2 ∧
   (∀ x,Keep (footOf F3 (onlyL ch 0 (mergeL ch 0 own own2))) w2 x→Keep (footOf F (onlyL ch 0 own)) wd x):=by
 let may' : Nat→Prop:=footOf F (onlyL ch 0 own)
 have hmayF : ∀ b,may' b→∃ i ob,own[i]? = some (some ob)∧ch.contains i = true∧F i b:=fun b ⟨i,ob,hi,hb⟩=>by
  have:=(onlyL_get ch own 0 i ob).1 hi
  rw [Nat.zero_add] at this
  exact ⟨i,ob,this.1,this.2,hb⟩
 have hmay : ∀ b,may' b→mineOf may w0 b:=fun b hb=>by
  obtain ⟨i,ob,h1,_,h3⟩:=hmayF b hb
  exact (hm0.foot i ob b h1 h3).2.2
 have hmine' : ∀ b,mineOf may' wd b→mineOf may w0 b:=fun b hb=>by
  rcases hb with hb | hb
  ·exact hmay b hb
  ·exact .inr (Nat.le_trans hk0.size hb)
 have hout : ∀ (i : Nat) (ob : Ob) (b : Nat),own[i]? = some (some ob)→ch.contains i = false→F i b→¬ may' b:=fun i ob b hi hc hb hmb=>by
  obtain ⟨j,oj,h1,h2,h3⟩:=hmayF b hmb
  have:=hm0.dis i j ob oj b hi h1 hb h3
  subst this
  rw [hc] at h2;cases h2
 obtain ⟨⟨L2,F2,h2,hm2,ha2,hsub2,hnew2⟩,hk2⟩:=hs
 have hLL : ∀ i,i < h.n→L2 i = L i:=fun i hi=>hsub2.at_ i hi
 have hS2 : Sub h h2:=hsub2.sub
 let F3 : Nat→Nat→Prop:=fun i b=>(∃ x,own[i]? = some (some x)∧ch.contains i = false∧F i b)∨((∀ x,own[i]? = some (some x)→ch.contains i = true)∧F2 i b)
 have hnot : ∀ (i j : Nat) (ob o2 : Ob) (b : Nat),own[i]? = some (some ob)→ch.contains i = false→F i b→own2[j]? = some (some o2)→F2 j b→False:=fun i j ob o2 b hi hc hb hj hb2=>by
  obtain ⟨q1,q2,q3⟩:=hm2.foot j o2 b hj hb2
  rcases q3 with q3 | q3
  ·exact hout i ob b hi hc hb q3
  ·have:=(hm0.foot i ob b hi hb).1
   omega
 have hF3a : ∀ (i : Nat) (ob : Ob),own[i]? = some (some ob)→ch.contains i = false→F3 i = F i:=fun i ob hi hc=>by
  funext b
  refine propext ⟨fun hb=>?_,fun hb=>.inl ⟨ob,hi,hc,hb⟩⟩
  rcases hb with ⟨_,_,_,hb⟩ | ⟨hx,_⟩
  ·exact hb
  ·rw [hx ob hi] at hc;cases hc
 have hF3b : ∀ (i : Nat),(∀ x,own[i]? = some (some x)→ch.contains i = true)→F3 i = F2 i:=fun i hx=>by
  funext b
  refine propext ⟨fun hb=>?_,fun hb=>.inr ⟨hx,hb⟩⟩
  rcases hb with ⟨x,h1,h2,_⟩ | ⟨_,hb⟩
  ·rw [hx x h1] at h2;cases h2
  ·exact hb
 have hmg : ∀ (i : Nat) (ob : Ob),(mergeL ch 0 own own2)[i]? = some (some ob)→(own[i]? = some (some ob)∧ch.contains i = false∧F3 i = F i)∨(own2[i]? = some (some ob)∧F3 i = F2 i):=fun i ob hi=>by
  have:=mergeL_get ch own own2 0 i ob hi
  rw [Nat.zero_add] at this
  rcases this with ⟨h1,h2⟩ | ⟨h1,h2⟩
  ·exact .inl ⟨h1,h2,hF3a i ob h1 h2⟩
  ·exact .inr ⟨h1,hF3b i h2⟩
 have hm3 : Mem (mineOf may w0) L2 F3 h2 (mergeL ch 0 own own2) w2:=by
  refine ⟨by rw [mergeL_len];exact hm2.hn,hm2.hsub,fun i ob hi=>?_,fun i ob b hi hb=>?_,fun i j oi oj b hi hj hbi hbj=>?_⟩
  ·rcases hmg i ob hi with ⟨q1,q2,q3⟩ | ⟨q1,q3⟩
   ·have hlt : i < h.n:=by rw [hm0.hn];exact (List.getElem?_eq_some_iff.1 q1).1
    rw [q3,hLL i hlt]
    exact obOk_move (hm0.obs i ob q1) (fun b hb=>hk2.block b (hm0.foot i ob b q1 hb).1 (hout i ob b q1 q2 hb)) hLL hS2
   ·rw [q3];exact hm2.obs i ob q1
  ·rcases hmg i ob hi with ⟨q1,q2,q3⟩ | ⟨q1,q3⟩
   ·rw [q3] at hb
    obtain ⟨f1,f2,f3⟩:=hm0.foot i ob b q1 hb
    refine ⟨Nat.lt_of_lt_of_le f1 hk2.size,?_,f3⟩
    cases ho : h2.m b with
    | none=>rfl
    | some o =>
     rcases hnew2 b (by rw [ho];simp) with h9 | h9 | h9
     ·exact absurd f2 h9
     ·exact absurd h9 (hout i ob b q1 q2 hb)
     ·omega
   ·rw [q3] at hb
    obtain ⟨f1,f2,f3⟩:=hm2.foot i ob b q1 hb
    exact ⟨f1,f2,hmine' b f3⟩
  ·rcases hmg i oi hi with ⟨q1,q2,q3⟩ | ⟨q1,q3⟩ <;> rcases hmg j oj hj with ⟨r1,r2,r3⟩ | ⟨r1,r3⟩ <;> rw [q3] at hbi <;> rw [r3] at hbj
   ·exact hm0.dis i j oi oj b q1 r1 hbi hbj
   ·exact (hnot i j oi oj b q1 q2 hbi r1 hbj).elim
   ·exact (hnot j i oj oi b r1 r2 hbj q1 hbi).elim
   ·exact hm2.dis i j oi oj b q1 r1 hbi hbj
 refine ⟨L2,F3,h2,hm3,⟨ha2.size,ha2.env,ha2.defers⟩,hsub.step hLL hS2,fun x hx=>?_,hk0.trans hk2 hmay,fun x hx=>hk2.trans hx (fun b hb=>?_)⟩
 ·rcases hnew2 x hx with h9 | h9
  ·exact hnew x h9
  ·exact .inr (hmine' x h9)
 ·obtain ⟨i,ob,hi,hb⟩:=hb
  have h1:=(onlyL_get ch _ 0 i ob).1 hi
  rw [Nat.zero_add] at h1
  rcases hmg i ob h1.1 with ⟨q1,q2,q3⟩ | ⟨q1,q3⟩
  ·rw [q2] at h1;cases h1.2
  ·rw [q3] at hb
   exact (hm2.foot i ob b q1 hb).2.2
theorem schedP_t [HasGl P] {ch : List Nat} {i n kk : Nat} {env : List (Nat × AV)} {own : List (Option Ob)} {r : Sch} {K : St→Prop} : schedP P T FF ops ch (.rd i r) ⟨n,kk,env,own⟩ K = (match ops[i]? with
  | none=>False
  | some o=>forceL (hideL ch 0 own) fun ownH=>guardP ops o ⟨n,kk,env,ownH⟩ (aopP T ⟨n,kk,env,ownH⟩ o.op (fun av=>putK ⟨n,kk,env,own⟩ o.dst av (fun st'=>schedP P T FF ops ch r st' K))) (skipK ⟨n,kk,env,own⟩ o.dst (fun st'=>schedP P T FF ops ch r st' K))):=by
 show (match ops[i]? with | none=>_ | some o=>_) = _
 cases ops[i]? <;> rfl
theorem schedP_f [HasGl P] {ch : List Nat} {i n kk : Nat} {env : List (Nat × AV)} {own : List (Option Ob)} {r : Sch} {K : St→Prop} : schedP P T FF ops ch (.ef i r) ⟨n,kk,env,own⟩ K = (match ops[i]? with
  | none=>False
  | some o=>forceL (onlyL ch 0 own) fun ownE=>guardP ops o ⟨n,own.length,env,ownE⟩ (stepP P T FF o ⟨n,own.length,env,ownE⟩ (fun st2=>match st2 with
        | ⟨n2,_,env2,own2⟩=>forceL (mergeL ch 0 own own2) fun own3=>schedP P T FF ops ch r ⟨n2,kk,env2,own3⟩ K)) (skipK ⟨n,kk,env,own⟩ o.dst (fun st'=>schedP P T FF ops ch r st' K))):=by
 show (match ops[i]? with | none=>_ | some o=>_) = _
 cases ops[i]? <;> rfl
theorem sched_ok [HasGl P] {h0 : Base P} (hT : TTok P T) (hF : FTok P FF) {Q : Exit→Act→World→Prop} {ch : List Nat} {K : St→Prop} : ∀ (l : Sch) (n kk : Nat) (env : List (Nat × AV)) (own : List (Option Ob)) (a : Act) (w : World) (L : Nat→Value) (F : Nat→Nat→Prop) (h : Hp),
  schedP P T FF ops ch l ⟨n,kk,env,own⟩ K→Mem (mineOf may w0) L F h own w→Agree L h ⟨n,kk,env,own⟩ a→SubB h0 kk L h→(∀ k,h.m k≠none→h0.h.m k≠none∨mineOf may w0 k)→Keep may w0 w →
  wpS P ops Q (fun a' w'=>∃ st',Sat may w0 h0 st' a' w'∧K st') l (Keep (footOf F (onlyL ch 0 own)) w) a w
 | .nil,n,kk,env,own,a,w,L,F,h,hp,hm,ha,hsub,hnew,hk=>⟨_,⟨⟨L,F,h,hm,ha,hsub,hnew⟩,hk⟩,hp⟩
 | .rd i r,n,kk,env,own,a,w,L,F,h,hp,hm,ha,hsub,hnew,hk=>by
  rw [schedP_t] at hp
  cases hoi : ops[i]? with
  | none=>rw [hoi] at hp;exact hp.elim
  | some o =>
   rw [hoi] at hp
   have hgl : HasGl.ok P h.m:=HasGl.mono h0.gl hsub.sub.m
   simp only [forceL_eq] at hp
   have hH : Agree L h ⟨n,kk,env,hideL ch 0 own⟩ a:=⟨ha.size,ha.env,ha.defers⟩
   have hmH : Mem (mineOf may w0) L F h (hideL ch 0 own) w :=
    ⟨by rw [hideL_len];exact hm.hn,hm.hsub,fun i ob hi=>hm.obs i ob ((hideL_get ch own 0 i ob).1 hi).1,fun i ob b hi=>hm.foot i ob b ((hideL_get ch own 0 i ob).1 hi).1,
     fun i j oi oj b hi hj=>hm.dis i j oi oj b ((hideL_get ch own 0 i oi).1 hi).1 ((hideL_get ch own 0 j oj).1 hj).1⟩
   have hC : ∀ w',Keep (footOf F (onlyL ch 0 own)) w w'→Same F (hideL ch 0 own) h w w':=fun w' hw' b hb=>by
    have hmayF : footOf F (onlyL ch 0 own) b→∃ i ob,own[i]? = some (some ob)∧ch.contains i = true∧F i b:=fun ⟨i,ob,hi,hb⟩=>by
     have:=(onlyL_get ch own 0 i ob).1 hi
     rw [Nat.zero_add] at this
     exact ⟨i,ob,this.1,this.2,hb⟩
    rcases hb with hb | ⟨i,ob,hi,hb⟩
    ·cases ho : h.m b with
     | none=>exact absurd ho hb
     | some o =>
      refine hw'.block b (Array.getElem?_eq_some_iff.1 (hm.hsub b o ho)).1 (fun hmb=>?_)
      obtain ⟨j,oj,h1,_,h3⟩:=hmayF hmb
      exact hb (hm.foot j oj b h1 h3).2.1
    ·have h1:=(hideL_get ch own 0 i ob).1 hi
     rw [Nat.zero_add] at h1
     refine hw'.block b (hm.foot i ob b h1.1 hb).1 (fun hmb=>?_)
     obtain ⟨j,oj,g1,g2,g3⟩:=hmayF hmb
     have:=hm.dis i j ob oj b h1.1 g1 hb g3
     subst this
     rw [h1.2] at g2;cases g2
   rcases guard_wanted hH hp with ⟨hw,hp⟩ | ⟨hw,hp⟩
   ·obtain ⟨av,v,h1,h2,h3⟩:=aop_ok hT hmH hH (o:=o) hp
    obtain ⟨⟨n',kk',env',own'⟩,k1,⟨k2,k2'⟩,k3⟩:=put_agree ha h2 h1
    simp only at k2 k2'
    subst k2 k2'
    exact ⟨o,v,hoi,.inl ⟨hw,fun w' hw'=>h3 w' (hC w' hw')⟩,sched_ok hT hF r n' _ env' _ _ w L F h k3 hm k1 hsub hnew hk⟩
   ·obtain ⟨⟨n',kk',env',own'⟩,k1,⟨k2,k2'⟩,k3⟩:=put_agree ha (av:=.tup []) (v:=undef) tup_nil hp
    simp only at k2 k2'
    subst k2 k2'
    exact ⟨o,undef,hoi,.inr ⟨hw,rfl⟩,sched_ok hT hF r n' _ env' _ _ w L F h k3 hm k1 hsub hnew hk⟩
 | .ef i r,n,kk,env,own,a,w,L,F,h,hp,hm,ha,hsub,hnew,hk=>by
  rw [schedP_f] at hp
  cases hoi : ops[i]? with
  | none=>rw [hoi] at hp;exact hp.elim
  | some o =>
   rw [hoi] at hp
   have hgl : HasGl.ok P h.m:=HasGl.mono h0.gl hsub.sub.m
   simp only [forceL_eq] at hp
   have hE : Agree L h ⟨n,own.length,env,onlyL ch 0 own⟩ a:=⟨ha.size,ha.env,ha.defers⟩
   have hmE : Mem (mineOf (footOf F (onlyL ch 0 own)) w) L F h (onlyL ch 0 own) w :=
    ⟨by rw [onlyL_len];exact hm.hn,hm.hsub,fun i ob hi=>hm.obs i ob ((onlyL_get ch own 0 i ob).1 hi).1,fun i ob b hi hb=>⟨(hm.foot i ob b ((onlyL_get ch own 0 i ob).1 hi).1 hb).1,(hm.foot i ob b ((onlyL_get ch own 0 i ob).1 hi).1 hb).2.1,.inl ⟨i,ob,hi,hb⟩⟩,
     fun i j oi oj b hi hj=>hm.dis i j oi oj b ((onlyL_get ch own 0 i oi).1 hi).1 ((onlyL_get ch own 0 j oj).1 hj).1⟩
   have hsatE : Sat (footOf F (onlyL ch 0 own)) w (⟨h,L,hgl⟩ : Base P) ⟨n,own.length,env,onlyL ch 0 own⟩ a w :=
    ⟨⟨L,F,h,hmE,hE,⟨Sub.refl h,fun i hi=>rfl,hm.hn.symm⟩,fun k hk=>.inl hk⟩,Keep.refl _ _⟩
   show Go.wpOp P ops Q i _ a w
   unfold Go.wpOp
   simp only [hoi]
   rcases guard_wanted hE hp with ⟨hw,hp⟩ | ⟨hw,hp⟩
   ·rw [if_pos hw]
    refine .inl (Oper.wp_mono (fun a' w' h2=>?_) (step_ok (Q:=Q) hT hF hp hsatE))
    obtain ⟨⟨n2,kk2,env2,own2⟩,hs2,hp2⟩:=h2
    obtain ⟨L2,F3,h2,m1,m2,m3,m4,m5,m6⟩:=merge_ok hm hk hsub hnew hs2
    exact ⟨_,m6,Keep.refl _ _,sched_ok hT hF r n2 kk env2 _ a' w' L2 F3 h2 hp2 m1 m2 m3 m4 m5⟩
   ·rw [if_neg (by rw [hw];simp)]
    obtain ⟨⟨n',kk',env',own'⟩,k1,⟨k2,k2'⟩,k3⟩:=put_agree ha (av:=.tup []) (v:=undef) tup_nil hp
    simp only at k2 k2'
    subst k2 k2'
    exact ⟨_,fun x hx=>hx,Keep.refl _ _,sched_ok hT hF r n' _ env' _ _ w L F h k3 hm k1 hsub hnew hk⟩
 | .alt x y,n,kk,env,own,a,w,L,F,h,hp,hm,ha,hsub,hnew,hk=>⟨sched_ok hT hF x n kk env own a w L F h hp.1 hm ha hsub hnew hk,sched_ok hT hF y n kk env own a w L F h hp.2 hm ha hsub hnew hk⟩
theorem drawV_sched [HasGl P] (l : Sch) (ch : List Nat) {id : Nat} {K : St→Prop} {st : St} (hmx : P.follows .mixedOrders = true) (hB : schB ops l = true) (hT : TTok P T) (hF : FTok P FF)
  (hp : schedP P T FF ops ch l st K) : DrawV P id ops K st:=by
 refine ⟨fun may w0 h0 a w hs=>?_⟩
 obtain ⟨n,kk,env,own⟩:=st
 obtain ⟨⟨L,F,h,hm,ha,hsub,hnew⟩,hk⟩:=hs
 have hk0 : Keep may w0 { w with drawn:=w.drawn + 1 }:=⟨hk.os,hk.tape,hk.output,hk.size,hk.block⟩
 have hm0 : Mem (mineOf may w0) L F h own { w with drawn:=w.drawn + 1 }:=mem_same hm (fun b _=>rfl) (Nat.le_refl _)
 refine wp_region_sched (l:=l) (C:=Keep (footOf F (onlyL ch 0 own)) { w with drawn:=w.drawn + 1 }) hmx hB (fun d v c a w h=>by cases h.1) (Keep.refl _ _) ?_
 have:=sched_ok (Q:=fun e a' w'=>e = .normal∧∃ st',Sat may w0 h0 st' a' w'∧K st') (ops:=ops) hT hF l n kk env own a _ L F h hp hm0 ha hsub hnew hk0
 exact wpS_mono (fun a' w' h1=>⟨rfl,h1⟩) l _ a _ this
end
end Go.Eng
namespace Go.Eng
open Go Go.RowKit
def okTabs (g3 g4 : Nat) (m : Nat→Option Obj) : Prop:=∀ w : World,(∀ k o,m k = some o→w.heap[k]? = some o)→Lib.Utf8Tabs g3 g4 w
theorem okTabs_mono {g3 g4 : Nat} {m m' : Nat→Option Obj} (h : okTabs g3 g4 m) (hs : ∀ k o,m k = some o→m' k = some o) : okTabs g3 g4 m':=fun w hw=>h w (fun k o hk=>hw k o (hs k o hk))
theorem cell_heap {w w' : World} {b o : Nat} {v : Value} (hs : ∀ (k : Nat) (x : Obj),w.heap[k]? = some x→w'.heap[k]? = some x) (h : w.cell? ⟨b,o,none⟩ = some v) : w'.cell? ⟨b,o,none⟩ = some v:=by
 unfold World.cell? at *
 cases hx : w.heap[b]? with
 | none=>simp [hx] at h
 | some x=>rw [hs b x hx];rw [hx] at h;exact h
theorem okTabs_of {g3 g4 : Nat} {W : World} (h : Lib.Utf8Tabs g3 g4 W) : okTabs g3 g4 (fun k=>W.heap[k]?) :=
 fun w hw=>⟨fun c hc=>cell_heap hw (h.1 c hc),fun i hi=>⟨cell_heap hw (h.2 i hi).1,cell_heap hw (h.2 i hi).2⟩⟩
def okErr (nv tr te : Nat) (m : Nat→Option Obj) : Prop:=∀ w : World,(∀ k o,m k = some o→w.heap[k]? = some o)→w.cell? ⟨0,0,none⟩ = some (.iface tr (.agg #[.pointer (some ⟨nv,te,none⟩)]))
theorem okErr_mono {nv tr te : Nat} {m m' : Nat→Option Obj} (h : okErr nv tr te m) (hs : ∀ k o,m k = some o→m' k = some o) : okErr nv tr te m':=fun w hw=>h w (fun k o hk=>hw k o (hs k o hk))
theorem okErr_of {nv tr te : Nat} {W : World} (h : W.cell? ⟨0,0,none⟩ = some (.iface tr (.agg #[.pointer (some ⟨nv,te,none⟩)]))) : okErr nv tr te (fun k=>W.heap[k]?):=fun w hw=>cell_heap hw h
section
variable {P : Program} [HasGl P]
theorem callV_calls {f : FuncId} {vs : List Value} {u : Value} (hv : ∀ v,v ∈ vs→v.oneCell' = true) (hu : u.oneCell' = true)
  (hC : ∀ (m : Nat→Option Obj) (w : World),HasGl.ok P m→(∀ k o,m k = some o→w.heap[k]? = some o)→Calls P f vs.toArray w (fun e w'=>e = .returned u∧Below w.heap.size w w')) :
  CallV P f (vs.map fun v=>.c (.v v)) [] (fun r own'=>own' = []∧r = .c (.v u)):=by
 refine ⟨fun mine L F h w ws hgl hm hden=>?_⟩
 have e : ws = vs:=by
  refine List.ext_getElem? (fun j=>?_)
  have hl:=hden.len
  rw [List.length_map] at hl
  rcases Nat.lt_or_ge j vs.length with hj | hj
  ·have h1 : (vs.map fun v=>AV.c (.v v))[j]? = some (.c (.v vs[j])):=by rw [List.getElem?_map,List.getElem?_eq_getElem hj];rfl
   have h2 : ws[j]? = some (ws[j]'(by omega)):=List.getElem?_eq_getElem (by omega)
   have h3:=hden.den j _ _ h1 h2
   have h4 : ws[j]'(by omega) = vs[j]:=by
    have : Den L h (.v vs[j]) (ws[j]'(by omega)):=h3
    generalize ws[j]'(by omega) = x at this
    cases this;rfl
   rw [h2,h4,List.getElem?_eq_getElem hj]
  ·rw [List.getElem?_eq_none (by omega),List.getElem?_eq_none (by omega)]
 subst e
 refine (hC h.m w hgl hm.hsub).mono ?_
 rintro e w' ⟨rfl,hb⟩
 have hob : ∀ (i : Nat) (ob : Ob),([] : List (Option Ob))[i]?≠some (some ob):=fun i ob hi=>by simp at hi
 refine ⟨.c (.v u),u,L,F,h,[],rfl,Den.v _ hu,fun _ _=>rfl,⟨hm.hn,fun k o hk=>?_,fun i ob hi=>(hob i ob hi).elim,fun i ob b hi=>(hob i ob hi).elim,fun i j oi oj b hi=>(hob i oi hi).elim⟩,
  ⟨hb.os,hb.tape,hb.output,hb.size,fun k hk _=>hb.block k hk⟩,Sub.refl h,fun k hk=>.inl hk,rfl,rfl⟩
 have h1:=hm.hsub k o hk
 rw [hb.block k (Array.getElem?_eq_some_iff.1 h1).1]
 exact h1
end
end Go.Eng
namespace Go.Eng
open Go Go.RowKit
end Go.Eng
namespace Go.Eng
open Go Go.RowKit
theorem frzK_ex {i : Nat} {st : St} {K : St→Prop} (hp : frzK st i K) : ∃ st',Weak st st'∧K st':=by
 obtain ⟨n,k,env,own⟩:=st
 have hp0:=hp
 unfold frzK at hp
 simp only at hp
 split at hp
 ·rename_i e sz m f hi
  rw [sbEnv_eq,sbOwn_eq] at hp
  refine ⟨_,frz_weak i (fun K' hK'=>?_),hp.2⟩
  unfold frzK
  simp only [hi]
  rw [sbEnv_eq,sbOwn_eq]
  exact ⟨hp.1,hK'⟩
 ·rename_i t cs hi
  obtain ⟨h1,h2⟩:=ifD_and hp
  rw [sbEnv_eq,sbOwn_eq] at h2
  refine ⟨_,frz_weak i (fun K' hK'=>?_),h2⟩
  unfold frzK
  simp only [hi]
  unfold ifD
  rw [decide_eq_true h1]
  simp only
  rw [sbEnv_eq,sbOwn_eq]
  exact hK'
 ·exact ⟨_,Weak.refl _,hp⟩
theorem frzL_ex : ∀ (l : List Nat) {st : St} {K : St→Prop},frzL l st K→∃ st',Weak st st'∧K st'
 | [],st,K,hp=>⟨st,Weak.refl _,hp⟩
 | i :: r,st,K,hp=>by
  obtain ⟨st1,h1,h2⟩:=frzK_ex (K:=fun st=>frzL r st K) hp
  obtain ⟨st2,h3,h4⟩:=frzL_ex r h2
  exact ⟨st2,h1.trans h3,h4⟩
theorem frz_end (l : List Nat) {st : St} {M : Nat} {I : Nat→St→Prop} (hp : frzL l st fun st1=>∃ m st2,m < M∧Weak st1 st2∧I m st2) : ∃ m st2,m < M∧Weak st st2∧I m st2:=by
 obtain ⟨st1,h1,m,st2,h2,h3,h4⟩:=frzL_ex l hp
 exact ⟨m,st2,h2,h1.trans h3,h4⟩
theorem app_list {α : Type} {enc : α→List IC} {d : α} {l b : List α} {f g : Nat→List IC} {K : Nat→(Nat→List IC)→Prop} (hf : ∀ k,k < l.length→f k = enc (l.getD k d)) (hg : ∀ k,k < b.length→g k = enc (b.getD k d)) (h : K (l ++ b).length fun k=>enc ((l ++ b).getD k d)) :
  ∃ (n' : Nat) (f' : Nat→List IC),n' = l.length + b.length∧(∀ k,k < l.length→f' k = f k)∧(∀ k,k < b.length→f' (l.length + k) = g k)∧K n' f':=by
 refine ⟨_,_,List.length_append,fun k hk=>?_,fun k hk=>?_,h⟩
 ·rw [hf k hk]
  simp [List.getD_eq_getElem?_getD,List.getElem?_append_left hk]
 ·rw [hg k hk,List.getD_eq_getElem?_getD,List.getElem?_append_right (by omega),Nat.add_sub_cancel_left,List.getD_eq_getElem?_getD]
theorem drawV_at {P : Program} [HasGl P] (S : St) {id : Nat} {ops : Array Oper} {K : St→Prop} {st : St} (h : DrawV P id ops (fun st'=>Weak st' S) st) (hK : K S) : DrawV P id ops K st:=by
 refine ⟨fun may w0 h0 a w hs=>?_⟩
 refine Code.wp_mono (fun e a' w' hh=>?_) (h.out may w0 h0 a w hs)
 obtain ⟨h1,st',h2,h3⟩:=hh
 exact ⟨h1,S,h3.out may w0 h0 a' w' h2,hK⟩
end Go.Eng
namespace Go.Eng
open Go Go.RowKit
def wideAt : Option Nat→Fence
 | none=>Fence.wide
 | some l=>Fence.wide.inRound l
theorem wideAt_fn (ro : Option Nat) (f : FuncId) : (wideAt ro).fn f:=by cases ro <;> trivial
theorem wideAt_depth (ro : Option Nat) : (wideAt ro).depth = none:=by cases ro <;> rfl
theorem wideAt_round (ro : Option Nat) : (wideAt ro).round = ro:=by cases ro <;> rfl
theorem calls_wideAt {ro : Option Nat} {n : Nat} {P : Program} {f : FuncId} {args : Array Value} {w : World} {R : Ending→World→Prop} (h : Calls P f args w R) : CallsIn (wideAt ro) n P f args w R:=by
 cases ro with
 | none=>exact callsIn_wide.2 h
 | some l=>exact CallsIn.inRound l (callsIn_wide.2 h)
theorem rows_wideAt {ro : Option Nat} {n : Nat} {P : Program} {row : String} {args : Array Value} {w : World} {R : Value→World→Prop} (h : Rows P row args w R) : RowsIn (wideAt ro) n P row args w R:=by
 cases ro with
 | none=>exact fun c cs _=>let ⟨v,w',r,s⟩:=h c cs;⟨v,w',r,stepsIn_wide.2 s⟩
 | some l=>exact fun c cs _=>let ⟨v,w',r,s⟩:=h c cs;⟨v,w',r,stepsIn_wide.2 s⟩
def calmOp (o : Oper) : Bool:=match o.op with | .defer _=>false | _=>true
theorem calmOp_ne {o : Oper} (h : calmOp o = true) (c : Go.Call) : o.op≠.defer c:=fun e=>by
 unfold calmOp at h;rw [e] at h;cases h
def addD (ds : List Deferred) (a : Act) : Act:={ a with defers:=a.defers ++ ds }
def onD (ds : List Deferred) (K : Act→World→Prop) : Act→World→Prop:=fun a w=>∃ a0,a = addD ds a0∧K a0 w
theorem addD_eval (ds : List Deferred) (a : Act) : (addD ds a).eval = a.eval:=by funext x;cases x <;> rfl
theorem addD_put (ds : List Deferred) (a : Act) (d : Option Nat) (v : Value) : (addD ds a).put d v = addD ds (a.put d v):=by cases d <;> rfl
section
variable {ro : Option Nat} {n : Nat} {P : Program} {ops : Array Oper} {Q : Exit→Act→World→Prop} {ds : List Deferred} {w : World} {a : Act}
theorem letsOut_onD (h : LetsOut Q) : LetsOut (fun e=>onD ds (Q e)):=by
 obtain ⟨a,w,h⟩:=h
 exact ⟨_,w,a,rfl,h⟩
theorem op_in {o : Oper} {K : Act→World→Prop} (hc : calmOp o = true) (h : o.wp P a w K Q) : o.wpIn (wideAt ro) n P (addD ds a) w (onD ds K) (fun e=>onD ds (Q e)):=by
 refine ⟨fun f _=>wideAt_fn ro f,?_⟩
 rw [wideAt_round,Oper.semAt_eq _ _ _ (calmOp_ne hc),addD_eval]
 unfold Oper.wp at h
 have hd : (wideAt ro).depth.isSome = true→1≤n:=fun e=>by rw [wideAt_depth] at e;cases e
 generalize (execOp a.eval o).run P w = r at *
 cases r with
 | ok x w' =>
  cases x <;> simp only [Oper.uponIn,Oper.upon] at h ⊢
  case value v=>exact ⟨_,addD_put ds a _ v,h⟩
  case skip=>exact ⟨_,addD_put ds a _ undef,h⟩
  case defer d=>exact ⟨_,by rw [←addD_put];rfl,h⟩
  case enter f args =>
   refine ⟨hd,(calls_wideAt h).mono (fun e w'' he=>?_)⟩
   cases e with
   | returned v=>exact ⟨_,addD_put ds a _ v,he⟩
   | panicked c=>exact ⟨_,rfl,he⟩
   | outgrown=>exact letsOut_onD he
  case row row args =>
   exact ⟨hd,(rows_wideAt h).mono (fun v w'' he=>⟨_,addD_put ds a _ v,he⟩)⟩
 | halt x w'=>cases x <;> simp only [Oper.uponIn,Oper.upon] at h ⊢;exact ⟨_,rfl,h⟩
theorem op_in2 {o : Oper} {K : Act→World→Prop} {Q2 : Exit→Act→World→Prop} (hQ : ∀ e a w,Q e a w→e = .normal) (hc : calmOp o = true) (h : o.wp P a w K Q) : o.wpIn (wideAt ro) n P (addD ds a) w (onD ds K) Q2:=by
 refine ⟨fun f _=>wideAt_fn ro f,?_⟩
 rw [wideAt_round,Oper.semAt_eq _ _ _ (calmOp_ne hc),addD_eval]
 unfold Oper.wp at h
 have hd : (wideAt ro).depth.isSome = true→1≤n:=fun e=>by rw [wideAt_depth] at e;cases e
 generalize (execOp a.eval o).run P w = r at *
 cases r with
 | ok x w' =>
  cases x <;> simp only [Oper.uponIn,Oper.upon] at h ⊢
  case value v=>exact ⟨_,addD_put ds a _ v,h⟩
  case skip=>exact ⟨_,addD_put ds a _ undef,h⟩
  case defer d=>exact ⟨_,by rw [←addD_put];rfl,h⟩
  case enter f args =>
   refine ⟨hd,(calls_wideAt h).mono (fun e w'' he=>?_)⟩
   cases e with
   | returned v=>exact ⟨_,addD_put ds a _ v,he⟩
   | panicked c=>cases hQ _ _ _ he
   | outgrown=>obtain ⟨_,_,he⟩:=he;cases hQ _ _ _ he
  case row row args =>
   exact ⟨hd,(rows_wideAt h).mono (fun v w'' he=>⟨_,addD_put ds a _ v,he⟩)⟩
 | halt x w' =>
  cases x <;> simp only [Oper.uponIn,Oper.upon] at h ⊢
  cases hQ _ _ _ h
theorem list_in {Q2 : Exit→Act→World→Prop} {l2 : List Oper} (hQ : ∀ e a w,Q e a w→e = .normal) (hk : ∀ a w,Q .normal a w→wpListIn (wideAt ro) n P ops Q2 l2 (addD ds a) w) : ∀ (l : List Oper) (a : Act) (w : World),l.all calmOp = true→wpList P ops Q l a w→wpListIn (wideAt ro) n P ops Q2 (l ++ l2) (addD ds a) w
 | [],a,w,_,h=>hk a w h
 | o :: r,a,w,hc,h=>by
  simp only [List.all_cons,Bool.and_eq_true] at hc
  unfold wpList at h
  refine wpListIn_step (fun K hK=>?_)
  have hK' : ∀ a' w',onD ds (wpList P ops Q r) a' w'→K a' w':=fun a' w' ⟨a0,e,h0⟩=>by subst e;exact hK _ _ (list_in hQ hk r a0 w' hc.2 h0)
  have hy : yielded ops (addD ds a).tmps = yielded ops a.tmps:=rfl
  rw [hy]
  split at h
  ·rename_i hw
   rw [if_pos hw]
   rcases h with h | h
   ·exact Oper.wpIn_mono hK' (op_in2 hQ hc.1 h)
   ·obtain ⟨_,_,h⟩:=h.2
    cases hQ _ _ _ h
  ·rename_i hw
   rw [if_neg hw]
   refine ⟨fun f _=>wideAt_fn ro f,hK' _ _ ⟨_,addD_put ds a _ undef,h⟩⟩
theorem opi_in {i : Nat} {K : Act→World→Prop} (hno : ¬ LetsOut Q) (hc : ops.all calmOp = true) (h : wpOp P ops Q i K a w) : wpOpIn (wideAt ro) n P ops (fun e=>onD ds (Q e)) i (onD ds K) (addD ds a) w:=by
 unfold wpOp at h
 unfold wpOpIn
 have hy : yielded ops (addD ds a).tmps = yielded ops a.tmps:=rfl
 cases ho : ops[i]? with
 | none=>rw [ho] at h;exact ⟨a,rfl,h⟩
 | some o =>
  rw [ho] at h
  simp only at h ⊢
  have hco : calmOp o = true:=by
   obtain ⟨hi,e⟩:=Array.getElem?_eq_some_iff.1 ho
   rw [←e]
   exact (Array.all_eq_true.1 hc) i hi
  rw [hy]
  split at h
  ·rename_i hw
   rw [if_pos hw]
   rcases h with h | h
   ·exact op_in hco h
   ·exact absurd h.2 hno
  ·rename_i hw
   rw [if_neg hw]
   exact ⟨fun f _=>wideAt_fn ro f,_,addD_put ds a _ undef,h⟩
theorem any_in {md : Region.Mode} (hno : ¬ LetsOut Q) (hc : ops.all calmOp = true) : ∀ (fuel : Nat) (listed : Array Bool) (a : Act) (w : World),wpAny P md ops Q fuel listed a w→wpAnyIn (wideAt ro) n P md ops (fun e=>onD ds (Q e)) fuel listed (addD ds a) w
 | 0,listed,a,w,h=>⟨h.1,a,rfl,h.2⟩
 | fuel + 1,listed,a,w,h=>by
  refine ⟨fun e=>⟨a,rfl,h.1 e⟩,fun i hi=>?_⟩
  refine wpOpIn_mono (fun a' w' hh=>?_) (opi_in hno hc (h.2 i hi))
  obtain ⟨a0,e,h0⟩:=hh
  subst e
  exact any_in hno hc fuel _ a0 w' h0
end
section
variable {P : Program} {T : TT} {FF : FL} {mine may : Nat→Prop} {L : Nat→Value} {F : Nat→Nat→Prop} {h : Hp} {st : St} {a : Act} {w w0 : World}
theorem callV_pureL [HasGl P] (l : List Nat) {f : FuncId} {fn : Func} {c : Code} (hf : P.funcs[f]? = some fn) (hb : fn.body = some c) (hT : TTok P T) (hF : FTok P FF) {args : List AV} {n : Nat} (hnn : fn.ntmps = n) {rs : List ResultVar} (hrs : fn.results.toList = rs) {env : List (Nat × AV)} (henv : env0 args = env) (hn : args.length≤n) {Q : AV→Prop}
  (hv : vc P T FF c (fun e st'=>match e with | .exit _=>False | _=>frzL l st' fun st'=>resL T st' rs (retK Q)) ⟨n,0,env,[]⟩) : CallV P f args [] (fun r own'=>own' = []∧Q r):=by
 subst hnn hrs henv
 refine ⟨fun mine L F h w vs hgl hm hden=>?_⟩
 have hm0 : Mem (mineOf (footOf F []) w) L F h [] w:=hm.mine_mono (fun b hb=>.inl hb)
 have hs : Sat (footOf F []) w (⟨h,L,hgl⟩ : Base P) ⟨fn.ntmps,0,env0 args,[]⟩ { tmps:=vs.toArray ++ Array.replicate (fn.ntmps - vs.toArray.size) undef,defers:=[] } w :=
  ⟨⟨L,F,h,hm0,agree0 hn hden 0 [],⟨Sub.refl h,fun _ _=>rfl,hm.hn.symm⟩,fun k hk=>.inl hk⟩,Keep.refl _ w⟩
 refine calls_of_wp hf hb (Code.wp_mono (fun e a' w' hh=>?_) (vc_ok hT hF c _ _ _ _ hv hs))
 obtain ⟨e',st0,rfl,hs1,he⟩:=hh
 have hr0 : frzL l st0 (fun st'=>resL T st' fn.results.toList (retK Q)):=by
  cases e' with
  | normal=>exact he
  | exit i=>exact he.elim
  | ret=>exact he
 obtain ⟨st',⟨⟨L',F',h',hm',ha',hsub,hnew'⟩,hk⟩,hr⟩:=frzL_sat _ st0 hr0 hs1
 obtain ⟨r,v,⟨hcl,hQ⟩,hd,hrun⟩:=results_ok (Q:=fun r=>cloA r = true∧Q r) hT hm' ha' (resL_mono (fun l h=>retK_eq h) hr)
 have h0n : h.n = 0:=hm.hn
 have fin : a'.defers = []∧∃ v,(results fn a'.tmps).run P w' = .ok v w'∧∃ (r : AV) (u : Value) (L' : Nat→Value) (F' : Nat→Nat→Prop) (h' : Hp) (own' : List (Option Ob)),Ending.returned v = .returned u∧DenA L' h' r u∧(∀ i,i < h.n→L' i = L i)∧Mem (mineOf (footOf F []) w) L' F' h' own' w' ∧
   Keep (footOf F []) w w'∧Sub h h'∧(∀ k,h'.m k≠none→h.m k≠none∨mineOf (footOf F []) w k)∧own' = []∧Q r :=
  ⟨ha'.defers,_,hrun,r,v,L',F',⟨h'.m,0⟩,[],rfl,hd.clo 0 hcl,fun i hi=>by omega,⟨rfl,hm'.hsub,fun i ob hi=>by simp at hi,fun i ob b hi=>by simp at hi,fun i j oi oj b hi=>by simp at hi⟩,hk,⟨hsub.sub.m,by rw [h0n];exact Nat.le_refl _⟩,hnew',rfl,hQ⟩
 cases e' with
 | normal=>exact fin
 | exit i=>exact he.elim
 | ret=>exact fin
end
def FzIn (m : Nat→Option Obj) (W : World) : Prop:=∀ k o,m k = some o→W.heap[k]? = some o
theorem FzIn.mem {m : Nat→Option Obj} {W : World} (hf : FzIn m W) (L : Nat→Value) : Mem (fun _=>True) L (fun _ _=>False) ⟨m,0⟩ [] W :=
 ⟨rfl,hf,fun i ob hi=>by simp at hi,fun i ob b hi=>by simp at hi,fun i j oi oj b hi=>by simp at hi⟩
theorem FzIn.below {m : Nat→Option Obj} {W W' : World} (hf : FzIn m W) (h : Below W.heap.size W W') : FzIn m W':=fun k o hk=>by
 have:=hf k o hk
 rw [h.block k (Array.getElem?_eq_some_iff.1 this).1]
 exact this
section
variable {P : Program} {T : TT} {FF : FL} {L : Nat→Value} {m : Nat→Option Obj} {W : World} {ops : Array Oper} {K : St→Prop}
theorem quietL_G (hT : TTok P T) (hf : FzIn m W) : ∀ (l : List Oper) (st : St) (gds : GD) (a : Act),st.own = []→opsG T ops l st gds K→Agree L ⟨m,0⟩ st a→GOk L ⟨m,0⟩ gds a →
  wpList P ops (fun e a' w'=>e = .normal∧w' = W∧∃ st',Agree L ⟨m,0⟩ st' a'∧st'.own = []∧K st') l a W
 | [],st,gds,a,ho,hp,ha,hg=>wpList_nil ⟨rfl,rfl,st,ha,ho,hp⟩
 | o :: r,st,gds,a,ho,hp,ha,hg=>by
  refine wpList_step (fun Kc hKc=>?_)
  have hm:=hf.mem L
  rw [←ho] at hm
  obtain ⟨v,st',gds',hrun,h1,h2,h3,h4⟩:=opsG_step (P:=P) hT hm ha hg hp
  have go : Kc (a.put o.dst v) W:=hKc _ _ (quietL_G hT hf r st' gds' _ (h3.1.trans ho) h4 h1 h2)
  rcases hrun with ⟨hw,hrun⟩ | ⟨hw,rfl⟩
  ·rw [if_pos hw]
   exact value_upon (hrun W (fun _ _=>rfl)) go
  ·rw [if_neg (by rw [hw];simp)]
   exact go
theorem quietR (hT : TTok P T) (hf : FzIn m W) {st : St} {a : Act} {id : Nat} (ho : st.own = []) (hp : opsG T ops ops.toList st [] K) (ha : Agree L ⟨m,0⟩ st a) :
  (Code.region id ops false).wp P (fun e a' w'=>e = .normal∧w' = W∧∃ st',Agree L ⟨m,0⟩ st' a'∧st'.own = []∧K st') a W :=
 wp_region_list (quietL_G hT hf _ st [] a ho hp ha gok_nil)
theorem quietD [HasGl P] (hgl : HasGl.ok P m) (hmx : P.follows .mixedOrders = true) (hB : Region.lexB .any ops = true) (hT : TTok P T) (hF : FTok P FF) (hf : FzIn m W) {st : St} {a : Act} {id : Nat} (ho : st.own = []) (hp : qopsP P T FF ops ops.toList st K) (ha : Agree L ⟨m,0⟩ st a) :
  (Code.region id ops true).wp P (fun e a' w'=>e = .normal∧Below W.heap.size W w'∧∃ st',Agree L ⟨m,0⟩ st' a'∧st'.own = []∧K st') a W:=by
 refine wp_region_quiet (C:=fun w'=>Below W.heap.size W w') hmx hB ⟨rfl,rfl,rfl,Nat.le_refl _,fun _ _=>rfl⟩ ?_
 have hm:=hf.mem L
 rw [←ho] at hm
 refine wpQuiet_mono (fun a' hq w' hw'=>?_) _ _ (quiet_ops (h:=⟨m,0⟩) hgl hT hF hm ops.toList st a ⟨rfl,rfl⟩ hp ha)
 obtain ⟨st',k1,k2,k3⟩:=hq
 exact ⟨rfl,hw',st',k1,k2.1.trans ho,k3⟩
def pickE (env : List (Nat × AV)) : List Nat→Option (List (Nat × AV))
 | []=>some []
 | t :: r=>match env.lookup t,pickE env r with
  | some a,some l=>some ((t,a) :: l)
  | _,_=>none
theorem pickE_ok {env : List (Nat × AV)} : ∀ {ts : List Nat} {env' : List (Nat × AV)},pickE env ts = some env'→∀ t av,env'.lookup t = some av→env.lookup t = some av
 | [],env',h,t,av,hl=>by cases h;simp at hl
 | t0 :: r,env',h,t,av,hl=>by
  unfold pickE at h
  split at h
  ·rename_i a l h1 h2
   cases h
   rw [List.lookup_cons] at hl
   by_cases e : t = t0
   ·subst e;simp at hl;subst hl;exact h1
   ·have e' : (t == t0) = false:=by simpa using e
    rw [e'] at hl
    exact pickE_ok h2 t av hl
  ·cases h
theorem agree_pick {h : Hp} {st : St} {a : Act} {n k : Nat} {ts : List Nat} {env : List (Nat × AV)} {own : List (Option Ob)} (ha : Agree L h st a) (hn : st.n = n) (hp : pickE st.env ts = some env) : Agree L h ⟨n,k,env,own⟩ a :=
 ⟨ha.size.trans hn,fun t av ht=>ha.env t av (pickE_ok hp t av ht),ha.defers⟩
theorem yield_op {n ln : Nat} {o : Oper} {y x : Operand} {tys : Array TypeId} {a : Act} {w : World} {Kc : Act→World→Prop} {Q : Exit→Act→World→Prop} {R : Ending→World→Prop} (ho : o.op = .call { callee:=.value y,args:=#[x],argTypes:=tys }) (hg : a.eval y = .func (.yield ln) #[] #[])
  (hY : YieldAt Fence.wide (n - 1) P ln #[a.eval x] w R) (hR : ∀ e w',R e w'→∃ v,e = .returned v∧Kc (a.put o.dst v) w') : o.wpIn Fence.wide n P a w Kc Q:=by
 obtain ⟨fn,tmps,assign,body,hy,hr⟩:=hY
 refine ⟨fun f _=>trivial,?_⟩
 have : (Oper.semAt Fence.wide.round a.eval o).run P w = .ok (.round ln fn tmps assign body) w:=by
  show (execOp a.eval o).run P w = _
  obtain ⟨vx,e⟩ : ∃ vx,a.eval x = vx:=⟨_,rfl⟩
  rw [e] at hy
  have hres : resolve a.eval { callee:=.value y,args:=#[x],argTypes:=tys } o.type = Deferred.ofValue (.func (.yield ln) #[] #[]) #[vx]:=by
   unfold resolve
   simp only [hg,List.map_toArray,List.map_cons,List.map_nil,e]
  unfold execOp
  rw [ho]
  simp only [hres]
  simp [go_sem,invoke,hy]
 rw [this]
 refine ⟨fun h=>(by cases h),hr.mono (fun e w' he=>?_)⟩
 obtain ⟨v,rfl,hK⟩:=hR e w' he
 exact hK
end
theorem addD_nil (a : Act) : addD [] a = a:=by
 obtain ⟨t,d⟩:=a
 show (⟨t,d ++ []⟩ : Act) = _
 rw [List.append_nil]
theorem list_in0 {n : Nat} {P : Program} {ops : Array Oper} {l l2 : List Oper} {R : Act→World→Prop} {Q2 : Exit→Act→World→Prop} {a : Act} {w : World} (hc : l.all calmOp = true) (hp : wpList P ops (fun e a' w'=>e = .normal∧R a' w') l a w)
  (hk : ∀ a w,R a w→wpListIn Fence.wide n P ops Q2 l2 a w) : wpListIn Fence.wide n P ops Q2 (l ++ l2) a w:=by
 have:=list_in (ro:=none) (ds:=[]) (n:=n) (Q2:=Q2) (l2:=l2) (fun e a w h=>h.1) (fun a w h=>by rw [addD_nil];exact hk a w h.2) l a w hc hp
 rw [addD_nil] at this
 exact this
theorem region_pre (k : Nat) {n : Nat} {P : Program} {ops : Array Oper} {id : Nat} {R : Act→World→Prop} {Q2 : Exit→Act→World→Prop} {a : Act} {w : World} (hc : (ops.toList.take k).all calmOp = true) (hp : wpList P ops (fun e a' w'=>e = .normal∧R a' w') (ops.toList.take k) a w)
  (hk : ∀ a w,R a w→wpListIn Fence.wide n P ops Q2 (ops.toList.drop k) a w) : (Code.region id ops false).wpIn Fence.wide n P Q2 a w:=by
 refine wpIn_region_list ?_
 have:=list_in0 (l2:=ops.toList.drop k) hc hp hk
 rwa [List.take_append_drop] at this
theorem then_n {K : Act→World→Prop} {Q : Exit→Act→World→Prop} {a : Act} {w : World} (h : K a w) : Exit.then K Q .normal a w:=h
theorem then_e {K : Act→World→Prop} {Q : Exit→Act→World→Prop} {a : Act} {w : World} {i : Nat} (h : Q (.exit i) a w) : Exit.then K Q (.exit i) a w:=h
theorem then_r {K : Act→World→Prop} {Q : Exit→Act→World→Prop} {a : Act} {w : World} (h : Q .ret a w) : Exit.then K Q .ret a w:=h
theorem inb_n {Q : Exit→Act→World→Prop} {a : Act} {w : World} {i : Nat} (h : Q .normal a w) : Exit.inBlock i Q .normal a w:=h
theorem inb_r {Q : Exit→Act→World→Prop} {a : Act} {w : World} {i : Nat} (h : Q .ret a w) : Exit.inBlock i Q .ret a w:=h
theorem inb_e {Q : Exit→Act→World→Prop} {a : Act} {w : World} {i : Nat} (h : Q .normal a w) : Exit.inBlock i Q (.exit i) a w:=by show (if i = i then _ else _);rw [if_pos rfl];exact h
theorem below_grown {W W' : World} (h : Below W.heap.size W W') : W.grownBy W' none:=⟨h.os,h.tape,h.output,h.size,fun k hk _=>h.block k hk⟩
end Go.Eng
namespace Go.Eng
open Go Go.RowKit
theorem den_hc {L : Nat→Value} {h h' : Hp} (hn : h.n≤h'.n) (hh : ∀ a v,hcell h a = some v→hcell h' a = some v) {c : IC} {v : Value} (hd : Den L h c v) : Den L h' c v:=by
 induction hd with
 | v x h1=>exact .v x h1
 | sl sz n f A c ad g hc hm hA hg hl hclo hr ih=>exact .sl sz n f A c ad g hc hm hA (fun k hk j hj=>hh _ _ (hg k hk j hj)) hl hclo ih
 | fp cs ad g hclo hg hr ih=>exact .fp cs ad g hclo (fun j hj=>hh _ _ (hg j hj)) ih
 | any x h1=>exact .any x h1
 | own i off a h1 h2=>exact .own i off a (Nat.lt_of_lt_of_le h1 hn) h2
 | row i A n c h1 h2=>exact .row i A n c (Nat.lt_of_lt_of_le h1 hn) h2
 | rel i sz k off a h1 h2 h3=>exact .rel i sz k off a (Nat.lt_of_lt_of_le h1 hn) h2 h3
 | view i sz k n c a b h1 h2 h3 h4 h5=>exact .view i sz k n c a b (Nat.lt_of_lt_of_le h1 hn) h2 h3 h4 h5
 | fn f cs vs g hl hv h1 hr ih=>exact .fn f cs vs g hl hv h1 ih
 | ifc t c v hr ih=>exact .ifc t c v ih
 | mp i r h1 h2=>exact .mp i r (Nat.lt_of_lt_of_le h1 hn) h2
def cutH (B : Nat) (h : Hp) : Hp:=⟨fun k=>match h.m k with | some o=>if k < B∨o.isCells = true then some o else none | none=>none,h.n⟩
theorem cutH_sub {B : Nat} {h : Hp} {k : Nat} {o : Obj} (e : (cutH B h).m k = some o) : h.m k = some o∧(k < B∨o.isCells = true):=by
 unfold cutH at e
 simp only at e
 split at e
 ·rename_i o' ho
  split at e
  ·rename_i hc;cases e;exact ⟨ho,hc⟩
  ·cases e
 ·cases e
theorem cutH_of {B : Nat} {h : Hp} {k : Nat} {o : Obj} (e : h.m k = some o) (hc : k < B∨o.isCells = true) : (cutH B h).m k = some o:=by
 unfold cutH
 simp only [e,if_pos hc]
theorem cutH_none {B : Nat} {h : Hp} {k : Nat} (e : h.m k = none) : (cutH B h).m k = none:=by
 unfold cutH
 simp only [e]
theorem hcell_cut {B : Nat} {h : Hp} {a : Addr} {v : Value} (e : hcell h a = some v) : hcell (cutH B h) a = some v:=by
 unfold hcell at *
 cases hb : h.m a.block with
 | none=>rw [hb] at e;cases e
 | some o =>
  rw [hb] at e
  cases o <;> first | (cases e;done) | skip
  rw [cutH_of hb (.inr rfl)]
  exact e
theorem den_cut {B : Nat} {L : Nat→Value} {h : Hp} {c : IC} {v : Value} (hd : Den L h c v) : Den L (cutH B h) c v:=den_hc (h:=h) (h':=cutH B h) (Nat.le_refl _) (fun a v e=>@hcell_cut B h a v e) hd
def plainO : Option Ob→Bool
 | none=>true
 | some (.cells _ _)=>true
 | some (.row _ _ _ _)=>true
 | some (.arr _ _ _ _ _)=>true
 | _=>false
def cellsAt (W : World) (b : Nat) : Prop:=∃ o,W.heap[b]? = some o∧o.isCells = true
structure RInv {P : Program} [HasGl P] (may : Nat→Prop) (w0 : World) (h0 : Base P) (k B : Nat) (own : List (Option Ob)) (W : World) : Prop where
 ex : ∃ L F h,Mem (mineOf may w0) L F h own W∧SubB h0 k L h∧(∀ x,h.m x≠none→h0.h.m x≠none∨mineOf may w0 x)∧(∀ x o,B≤x→h.m x = some o→o.isCells = true)∧(∀ b,footOf F own b→cellsAt W b)
 keep : Keep may w0 W
section
variable {P : Program} [HasGl P] {may : Nat→Prop} {w0 W : World} {h0 : Base P} {k B : Nat} {own : List (Option Ob)}
theorem obOk_tight {L : Nat→Value} {h : Hp} {F : Nat→Prop} {v : Value} {ob : Ob} (hp : plainO (some ob) = true) (hob : ObOk L h W v F ob) : ObOk L (cutH B h) W v (fun b=>F b∧blk v = some b) ob∧∀ b,F b∧blk v = some b→cellsAt W b:=by
 cases ob with
 | cells t cs =>
  obtain ⟨b,vs,h1,h2,h3,h4⟩:=hob
  refine ⟨⟨b,vs,h1,⟨h2,by rw [h1];rfl⟩,h3,h4.1,fun j c u hc hu=>den_cut (h4.2 j c u hc hu)⟩,fun b' hb'=>?_⟩
  have:=hb'.2
  rw [h1] at this
  cases this
  exact ⟨_,h3,rfl⟩
 | row e sz n f =>
  obtain ⟨vs,h1,h2,h3⟩:=hob
  refine ⟨⟨vs,h1,fun b hb=>⟨h2 b hb,hb⟩,h3.len,fun k hk j c hc=>?_⟩,fun b' hb'=>?_⟩
  ·obtain ⟨u,g1,g2⟩:=h3.den k hk j c hc
   exact ⟨u,g1,den_cut g2⟩
  ·rcases h1.2 with ⟨e,_⟩ | ⟨g,cap,cur,e1,_,e3,_⟩
   ·rw [e] at hb';cases hb'.2
   ·rw [e1] at hb'
    cases hb'.2
    exact ⟨_,e3,rfl⟩
 | arr e sz cap n f =>
  obtain ⟨b,cur,h1,h2,h3,h4,h5,h6,h7⟩:=hob
  refine ⟨⟨b,cur,h1,⟨h2,by rw [h1];rfl⟩,h3,h4,h5,h6,h7.len,fun k hk j c hc=>?_⟩,fun b' hb'=>?_⟩
  ·obtain ⟨u,g1,g2⟩:=h7.den k hk j c hc
   exact ⟨u,g1,den_cut g2⟩
  ·have:=hb'.2
   rw [h1] at this
   cases this
   exact ⟨_,h3,rfl⟩
 | mp t es=>cases hp
 | iter s pos=>cases hp
 | abs p=>cases hp
theorem RInv.of_sat {st : St} {a : Act} (hs : Sat may w0 h0 st a W) (hp : st.own.all plainO = true) (hB : ∀ x,h0.h.m x≠none→x < B) : RInv may w0 h0 st.k B st.own W:=by
 obtain ⟨⟨L,F,h,hm,ha,hsub,hnew⟩,hk⟩:=hs
 have hpl : ∀ (i : Nat) ob,st.own[i]? = some (some ob)→plainO (some ob) = true:=fun i ob hi=>List.all_eq_true.1 hp _ (List.mem_of_getElem? hi)
 refine ⟨⟨L,fun i b=>F i b∧blk (L i) = some b,cutH B h,⟨hm.hn,fun x o e=>hm.hsub x o (cutH_sub e).1,fun i ob hi=>(obOk_tight (hpl i ob hi) (hm.obs i ob hi)).1,fun i ob b hi hb=>?_,fun i j oi oj b hi hj hbi hbj=>hm.dis i j oi oj b hi hj hbi.1 hbj.1⟩,⟨⟨fun x o e=>?_,hsub.sub.n⟩,hsub.at_,hsub.kk⟩,fun x hx=>?_,fun x o hB e=>?_,fun b hb=>?_⟩,hk⟩
 ·obtain ⟨f1,f2,f3⟩:=hm.foot i ob b hi hb.1
  exact ⟨f1,cutH_none f2,f3⟩
 ·exact cutH_of (hsub.sub.m x o e) (.inl (hB x (by rw [e];simp)))
 ·refine hnew x (fun e=>hx (cutH_none e))
 ·rcases (cutH_sub e).2 with h1 | h1
  ·omega
  ·exact h1
 ·obtain ⟨i,ob,hi,hb⟩:=hb
  exact (obOk_tight (B:=B) (hpl i ob hi) (hm.obs i ob hi)).2 b hb
theorem RInv.grown {W' : World} {row : Option Nat} (hr : RInv may w0 h0 k B own W) (hB : w0.heap.size≤B) (hg : W.grownBy W' row) (hrow : ∀ r,row = some r→B≤r∧∃ o : Obj,W.heap[r]? = some o∧o.isCells = false) : RInv may w0 h0 k B own W':=by
 obtain ⟨⟨L,F,h,hm,hsub,hnew,hcc,hft⟩,hk⟩:=hr
 have hbl : ∀ x o,W.heap[x]? = some o→(x < B∨o.isCells = true)→W'.heap[x]? = W.heap[x]?:=fun x o hx hc=>by
  refine hg.block x (Array.getElem?_eq_some_iff.1 hx).1 (fun e=>?_)
  obtain ⟨h1,o',h2,h3⟩:=hrow x e.symm
  rw [hx] at h2;cases h2
  rcases hc with hc | hc
  ·omega
  ·rw [hc] at h3;cases h3
 have hmb : ∀ x o,h.m x = some o→W'.heap[x]? = W.heap[x]?:=fun x o hx=>hbl x o (hm.hsub x o hx) (by
  rcases Nat.lt_or_ge x B with h1 | h1
  ·exact .inl h1
  ·exact .inr (hcc x o h1 hx))
 have hfb : ∀ b,footOf F own b→W'.heap[b]? = W.heap[b]?:=fun b hb=>by
  obtain ⟨o,h1,h2⟩:=hft b hb
  exact hbl b o h1 (.inr h2)
 refine ⟨⟨L,F,h,mem_move hm hg.size hmb hfb,hsub,hnew,hcc,fun b hb=>?_⟩,⟨hg.os.trans hk.os,hg.tape.trans hk.tape,hg.output.trans hk.output,Nat.le_trans hk.size hg.size,fun x hx hn=>?_⟩⟩
 ·obtain ⟨o,h1,h2⟩:=hft b hb
  exact ⟨o,(hfb b hb).trans h1,h2⟩
 ·rw [←hk.block x hx hn]
  exact hg.block x (Nat.lt_of_lt_of_le hx hk.size) (fun e=>by
   have:=(hrow x e.symm).1
   omega)
theorem sat_back {st : St} {L : Nat→Value} {F : Nat→Nat→Prop} {h : Hp} {hgl : HasGl.ok P h.m} (hm : Mem (mineOf may w0) L F h own W) (hsub : SubB h0 k L h) (hnew : ∀ x,h.m x≠none→h0.h.m x≠none∨mineOf may w0 x) (hk : Keep may w0 W)
  {a' : Act} {W' : World} (hs : Sat (footOf F own) W (⟨h,L,hgl⟩ : Base P) st a' W') : Sat may w0 h0 ⟨st.n,k,st.env,st.own⟩ a' W':=by
 obtain ⟨⟨L',F',h',hm',ha',hsub',hnew'⟩,hk'⟩:=hs
 have hmine : ∀ b,mineOf (footOf F own) W b→mineOf may w0 b:=fun b hb=>by
  rcases hb with ⟨i,ob,hi,hb⟩ | hb
  ·exact (hm.foot i ob b hi hb).2.2
  ·exact .inr (Nat.le_trans hk.size hb)
 refine ⟨⟨L',F',h',hm'.mine_mono (fun b ⟨i,ob,hi,hb⟩=>hmine b (hm'.foot i ob b hi hb).2.2),⟨ha'.size,ha'.env,ha'.defers⟩,⟨hsub.sub.trans hsub'.sub,fun i hi=>(hsub'.at_ i (Nat.lt_of_lt_of_le hi hsub.sub.n)).trans (hsub.at_ i hi),hsub.kk⟩,fun x hx=>?_⟩,hk.trans hk' (fun b ⟨i,ob,hi,hb⟩=>(hm.foot i ob b hi hb).2.2)⟩
 rcases hnew' x hx with h1 | h1
 ·exact hnew x h1
 ·exact .inr (hmine x h1)
theorem sat_rebase {st : St} {a : Act} (hs : Sat may w0 h0 st a W) : ∃ (b : Base P) (f : Nat→Prop),FzIn b.h.m W∧b.h.n = st.own.length∧Agree b.L b.h st a∧Sat f W b ⟨st.n,st.own.length,st.env,st.own⟩ a W∧∀ st' a' W',Sat f W b st' a' W'→Sat may w0 h0 ⟨st'.n,st.k,st'.env,st'.own⟩ a' W':=by
 obtain ⟨⟨L,F,h,hm,ha,hsub,hnew⟩,hk⟩:=hs
 have hgl : HasGl.ok P h.m:=HasGl.mono h0.gl hsub.sub.m
 exact ⟨⟨h,L,hgl⟩,footOf F st.own,hm.hsub,hm.hn,ha,⟨⟨L,F,h,hm.mine_mono (fun b hb=>.inl hb),⟨ha.size,ha.env,ha.defers⟩,⟨Sub.refl h,fun _ _=>rfl,hm.hn.symm⟩,fun x hx=>.inl hx⟩,Keep.refl _ _⟩,fun st' a' W' hs'=>sat_back (hgl:=hgl) hm hsub hnew hk hs'⟩
theorem RInv.open {n : Nat} {env : List (Nat × AV)} {a : Act} (hr : RInv may w0 h0 k B own W) (hB : w0.heap.size≤B) (ha : ∀ (L : Nat→Value) (h : Hp),Sub h0.h h→(∀ i,i < h0.h.n→L i = h0.L i)→Agree L h ⟨n,k,env,own⟩ a) :
  ∃ (b : Base P) (f : Nat→Prop),Sat f W b ⟨n,own.length,env,own⟩ a W∧∀ st' a' W',Sat f W b st' a' W'→KeepsOthers W W'∧Sat may w0 h0 ⟨st'.n,k,st'.env,st'.own⟩ a' W' ∧
   ∀ D o o',B≤D→W.heap[D]? = some o→o.isCells = false→Sat may w0 h0 ⟨st'.n,k,st'.env,st'.own⟩ a' (W'.putObj D o'):=by
 obtain ⟨⟨L,F,h,hm,hsub,hnew,hcc,hft⟩,hk⟩:=hr
 have hgl : HasGl.ok P h.m:=HasGl.mono h0.gl hsub.sub.m
 have ha1:=ha L h hsub.sub hsub.at_
 refine ⟨⟨h,L,hgl⟩,footOf F own,⟨⟨L,F,h,hm.mine_mono (fun b hb=>.inl hb),⟨ha1.size,ha1.env,ha1.defers⟩,⟨Sub.refl h,fun _ _=>rfl,hm.hn.symm⟩,fun x hx=>.inl hx⟩,Keep.refl _ _⟩,fun st' a' W' hs'=>?_⟩
 have hback:=sat_back (hgl:=hgl) hm hsub hnew hk hs'
 have hko : KeepsOthers W W':=⟨hs'.keep.size,fun x o hx ho=>by
  rw [←hx]
  refine hs'.keep.block x (Array.getElem?_eq_some_iff.1 hx).1 (fun hf=>?_)
  obtain ⟨o2,h1,h2⟩:=hft x hf
  rw [hx] at h1;cases h1;rw [ho] at h2;cases h2⟩
 refine ⟨hko,hback,fun D o o' hD hDo ho=>?_⟩
 obtain ⟨⟨L',F',h',hm',ha',hsub',hnew'⟩,hk'⟩:=hs'
 have hDl:=(Array.getElem?_eq_some_iff.1 hDo).1
 have hnf : ¬ mineOf (footOf F own) W D:=fun hf=>by
  rcases hf with hf | hf
  ·obtain ⟨o2,h1,h2⟩:=hft D hf
   rw [hDo] at h1;cases h1;rw [ho] at h2;cases h2
  ·omega
 have hmn : h'.m D = none:=by
  cases e : h'.m D with
  | none=>rfl
  | some o2 =>
   rcases hnew' D (by rw [e];simp) with h1 | h1
   ·cases e1 : h.m D with
    | none=>exact absurd e1 h1
    | some o3 =>
     have:=hcc D o3 hD e1
     have h4:=hm.hsub D o3 e1
     rw [hDo] at h4;cases h4;rw [ho] at this;cases this
   ·exact absurd h1 hnf
 have hms : ∀ x,x≠D→(W'.putObj D o').heap[x]? = W'.heap[x]?:=fun x hx=>World.putObj_heap_other hx
 have hm2 : Mem (mineOf (footOf F own) W) L' F' h' st'.own (W'.putObj D o'):=mem_move hm' (by simp [World.putObj]) (fun x o hx=>hms x (fun e=>by subst e;rw [hmn] at hx;cases hx)) (fun b ⟨i,ob,hi,hb⟩=>hms b (fun e=>by subst e;exact hnf (hm'.foot i ob b hi hb).2.2))
 have hmine : ∀ b,mineOf (footOf F own) W b→mineOf may w0 b:=fun b hb=>by
  rcases hb with ⟨i,ob,hi,hb⟩ | hb
  ·exact (hm.foot i ob b hi hb).2.2
  ·exact .inr (Nat.le_trans hk.size hb)
 have hkb:=hback.keep
 refine ⟨⟨L',F',h',hm2.mine_mono (fun b ⟨i,ob,hi,hb⟩=>hmine b (hm2.foot i ob b hi hb).2.2),⟨ha'.size,ha'.env,ha'.defers⟩,⟨hsub.sub.trans hsub'.sub,fun i hi=>(hsub'.at_ i (Nat.lt_of_lt_of_le hi hsub.sub.n)).trans (hsub.at_ i hi),hsub.kk⟩,fun x hx=>?_⟩,
  ⟨hkb.os,hkb.tape,hkb.output,by simpa [World.putObj] using hkb.size,fun x hx hn=>(hms x (by omega)).trans (hkb.block x hx hn)⟩⟩
 rcases hnew' x hx with h1 | h1
 ·exact hnew x h1
 ·exact .inr (hmine x h1)
end
section
variable {P : Program} {T : TT} {FF : FL} {may : Nat→Prop} {w0 : World} {ops : Array Oper}
theorem assign_in {F : Fence} {n : Nat} {id : Nat} {d : Nat} {x : Operand} {ty : TypeId} {pos : String} {after : Array Edge} {K : Act→World→Prop} {Q : Exit→Act→World→Prop} {a : Act} {w : World} (h : K (a.put (some d) (a.eval x)) w) :
  (Code.region id #[{ dst:=some d,op:=.assign x,type:=ty,pos:=pos,after:=after,guard:=none }] false).wpIn F n P (Exit.then K Q) a w:=by
 refine wpIn_region_list ?_
 refine wpListIn_plain rfl (fun Kc hK=>?_)
 refine ⟨fun f hf=>(by cases hf),?_⟩
 rw [Oper.semAt_eq _ _ _ (fun c e=>by cases e)]
 exact hK _ _ (wpListIn_nil h)
theorem sat_fin [HasGl P] {L : Nat→Value} {F : Nat→Nat→Prop} {h : Hp} {hgl : HasGl.ok P h.m} {w w' : World} {a' : Act} {st0 : St} {fn : Func} {Q : AV→Prop} (hT : TTok P T) (h0n : h.n = 0) (hs1 : Sat (footOf F []) w (⟨h,L,hgl⟩ : Base P) st0 a' w')
  (hr0 : frzL (resOwns st0 fn.results.toList) st0 (fun st'=>resL T st' fn.results.toList (retK Q))) :
  ∃ v,(results fn a'.tmps).run P w' = .ok v w'∧∃ (r : AV) (u : Value) (L' : Nat→Value) (F' : Nat→Nat→Prop) (h' : Hp) (own' : List (Option Ob)),Ending.returned v = .returned u∧DenA L' h' r u∧(∀ i,i < h.n→L' i = L i)∧Mem (mineOf (footOf F []) w) L' F' h' own' w' ∧
   Keep (footOf F []) w w'∧Sub h h'∧(∀ k,h'.m k≠none→h.m k≠none∨mineOf (footOf F []) w k)∧own' = []∧Q r:=by
 obtain ⟨st',⟨⟨L',F',h',hm',ha',hsub,hnew'⟩,hk⟩,hr⟩:=frzL_sat _ st0 hr0 hs1
 obtain ⟨r,v,⟨hcl,hQ⟩,hd,hrun⟩:=results_ok (Q:=fun r=>cloA r = true∧Q r) hT hm' ha' (resL_mono (fun l h=>retK_eq h) hr)
 exact ⟨_,hrun,r,v,L',F',⟨h'.m,0⟩,[],rfl,hd.clo 0 hcl,fun i hi=>by omega,⟨rfl,hm'.hsub,fun i ob hi=>by simp at hi,fun i ob b hi=>by simp at hi,fun i j oi oj b hi=>by simp at hi⟩,hk,⟨hsub.sub.m,by rw [h0n];exact Nat.le_refl _⟩,hnew',rfl,hQ⟩
theorem Agree.mono2 {L L' : Nat→Value} {h h' : Hp} {st : St} {a : Act} (ha : Agree L h st a) (hs : Sub h h') (hL : ∀ i,i < h.n→L' i = L i) {k : Nat} {own : List (Option Ob)} : Agree L' h' ⟨st.n,k,st.env,own⟩ a :=
 ⟨ha.size,fun t av ht=>(ha.env t av ht).mono hs hL,ha.defers⟩
end
end Go.Eng
namespace Go.Eng
open Go Go.RowKit
theorem any_region_loud {P : Program} {ops : Array Oper} {Q : Exit→Act→World→Prop} {C : World→Prop} {k : Nat} {hl el : List Nat} {a : Act} {w : World} (hmx : P.follows .mixedOrders = true) (hB : loudB ops k hl el = true) (hQ : ∀ d v c a w,Q (.panic c) (a.put d v) w→Q (.panic c) a w) (hC : C { w with drawn:=w.drawn + 1 })
  (h : wpHoist P ops C (fun a'=>wpListI P ops Q C (fun a'' w'=>wpList P ops Q (ops.toList.drop k) a'' w') el a' { w with drawn:=w.drawn + 1 }) hl a) : wpAny P .any ops Q ops.size (Array.replicate ops.size false) a { w with drawn:=w.drawn + 1 }:=by
 unfold loudB at hB
 simp only [Bool.and_eq_true,decide_eq_true_eq] at hB
 obtain ⟨⟨⟨⟨⟨⟨⟨⟨⟨hs,hk⟩,ht⟩,hp⟩,hch⟩,hhk⟩,hek⟩,hnd⟩,hcov⟩,hlen⟩:=hB
 have hsz0 : (Array.replicate ops.size false).size = ops.size:=by simp
 have hcl : Lclosed .any ops (Array.replicate ops.size false):=fun i hi hx=>by simp [hi] at hx
 have hX : wpAnyX P .any ops Q C (fun i=>decide (i < k)) (fun a'' w'=>wpList P ops Q (ops.toList.drop k) a'' w') (el.length + hl.length) (Array.replicate ops.size false) a { w with drawn:=w.drawn + 1 }:=by
  refine wpAnyX_hoist hs hQ el.length hl _ a _ hC (fun i hi=>List.all_eq_true.1 hhk i hi) hp h (fun a' hK=>?_)
  refine wpAnyX_chain el _ a' _ (by rw [setAll_size,hsz0]) (preB_closed hl _ hcl hp) hch (fun i hi=>?_) (fun j hj hS hm=>?_) hnd hK
  ·have h1:=List.all_eq_true.1 hek i hi
   simp only [Bool.and_eq_true,Bool.not_eq_true'] at h1
   have hik : i < k:=of_decide_eq_true h1.1
   refine ⟨h1.1,?_⟩
   rw [setAll_get _ _ _ _ (by rw [hsz0];omega),h1.2]
   simp [show i < ops.size by omega]
  ·have h1:=List.all_eq_true.1 hcov j (List.mem_range.2 (of_decide_eq_true hS))
   rw [Bool.or_eq_true] at h1
   rw [setAll_get _ _ _ _ (by rw [hsz0];exact hj)]
   rcases h1 with h1 | h1
   ·rw [h1];rfl
   ·exact absurd (by simpa using h1) hm
 have hlenk : el.length + hl.length + (ops.toList.drop k).length = ops.size:=by
  rw [hlen,List.length_drop,Array.length_toList];omega
 have key:=wpAny_of_X (Q:=Q) ht hk (ops.toList.drop k).length (fun listed a' w' hR hz h1 h2 hc =>
  wpAny_tail ht (ops.toList.drop k) k listed a' w' (fun j=>by rw [List.getElem?_drop,Array.getElem?_toList]) (by simp;omega) (Nat.le_refl _) hz h1 h2 hc hR) (el.length + hl.length) _ a _ hsz0 (fun j _ hj=>by simp [hj]) hcl hX
 rw [hlenk] at key
 exact key
theorem list_end {ro : Option Nat} {n : Nat} {P : Program} {ops : Array Oper} {Q Q2 : Exit→Act→World→Prop} {ds : List Deferred} {w : World} {a : Act} {l : List Oper} (hQ : ∀ e a w,Q e a w→e = .normal) (hk : ∀ a w,Q .normal a w→Q2 .normal (addD ds a) w)
  (hc : l.all calmOp = true) (h : wpList P ops Q l a w) : wpListIn (wideAt ro) n P ops Q2 l (addD ds a) w:=by
 have:=list_in (ro:=ro) (n:=n) (ds:=ds) (Q2:=Q2) (l2:=[]) hQ (fun a w h=>wpListIn_nil (hk a w h)) l a w hc h
 rwa [List.append_nil] at this
theorem addD_mark {a : Act} (hd : a.defers = []) (m : Deferred) : ({ a with defers:=m :: a.defers } : Act) = addD [m] a:=by
 obtain ⟨t,d⟩:=a
 cases hd
 rfl
section
variable {P : Program} {T : TT} {FF : FL} {may : Nat→Prop} {w0 : World} {ops : Array Oper}
theorem any_loud [HasGl P] (k : Nat) (hl el ch : List Nat) {h0 : Base P} {K : St→Prop} {st : St} {a : Act} {w : World} (hmx : P.follows .mixedOrders = true) (hB : loudB ops k hl el = true) (hT : TTok P T) (hF : FTok P FF)
  (hp : loudP P T FF ops k hl el ch st K) (hs : Sat may w0 h0 st a w) : wpAny P .any ops (fun e a' w'=>e = .normal∧∃ st',Sat may w0 h0 st' a' w'∧K st') ops.size (Array.replicate ops.size false) a { w with drawn:=w.drawn + 1 }:=by
 obtain ⟨n,kk,env,own⟩:=st
 obtain ⟨⟨L,F,h,hm,ha,hsub,hnew⟩,hk⟩:=hs
 have hk0 : Keep may w0 { w with drawn:=w.drawn + 1 }:=⟨hk.os,hk.tape,hk.output,hk.size,hk.block⟩
 have hm0 : Mem (mineOf may w0) L F h own { w with drawn:=w.drawn + 1 }:=mem_same hm (fun b _=>rfl) (Nat.le_refl _)
 have hBk:=hB
 unfold loudB at hBk
 simp only [Bool.and_eq_true,decide_eq_true_eq] at hBk
 obtain ⟨⟨⟨⟨⟨⟨⟨⟨⟨_,hkk⟩,_⟩,_⟩,_⟩,hhk⟩,hek⟩,_⟩,_⟩,_⟩:=hBk
 generalize hwd : ({ w with drawn:=w.drawn + 1 } : World) = wd at hk0 hm0
 let may' : Nat→Prop:=footOf F (onlyL ch 0 own)
 have hmayF : ∀ b,may' b→∃ i ob,own[i]? = some (some ob)∧ch.contains i = true∧F i b:=fun b ⟨i,ob,hi,hb⟩=>by
  have:=(onlyL_get ch own 0 i ob).1 hi
  rw [Nat.zero_add] at this
  exact ⟨i,ob,this.1,this.2,hb⟩
 have hmay : ∀ b,may' b→mineOf may w0 b:=fun b hb=>by
  obtain ⟨i,ob,h1,_,h3⟩:=hmayF b hb
  exact (hm0.foot i ob b h1 h3).2.2
 have hmine' : ∀ b,mineOf may' wd b→mineOf may w0 b:=fun b hb=>by
  rcases hb with hb | hb
  ·exact hmay b hb
  ·exact .inr (Nat.le_trans hk0.size hb)
 have hmH : Mem (mineOf may w0) L F h (hideL ch 0 own) wd :=
  ⟨by rw [hideL_len];exact hm0.hn,hm0.hsub,fun i ob hi=>hm0.obs i ob ((hideL_get ch own 0 i ob).1 hi).1,fun i ob b hi=>hm0.foot i ob b ((hideL_get ch own 0 i ob).1 hi).1,
   fun i j oi oj b hi hj=>hm0.dis i j oi oj b ((hideL_get ch own 0 i oi).1 hi).1 ((hideL_get ch own 0 j oj).1 hj).1⟩
 have hmE : Mem (mineOf may' wd) L F h (onlyL ch 0 own) wd :=
  ⟨by rw [onlyL_len];exact hm0.hn,hm0.hsub,fun i ob hi=>hm0.obs i ob ((onlyL_get ch own 0 i ob).1 hi).1,fun i ob b hi hb=>⟨(hm0.foot i ob b ((onlyL_get ch own 0 i ob).1 hi).1 hb).1,(hm0.foot i ob b ((onlyL_get ch own 0 i ob).1 hi).1 hb).2.1,.inl ⟨i,ob,hi,hb⟩⟩,
   fun i j oi oj b hi hj=>hm0.dis i j oi oj b ((onlyL_get ch own 0 i oi).1 hi).1 ((onlyL_get ch own 0 j oj).1 hj).1⟩
 have hout : ∀ (i : Nat) (ob : Ob) (b : Nat),own[i]? = some (some ob)→ch.contains i = false→F i b→¬ may' b:=fun i ob b hi hc hb hmb=>by
  obtain ⟨j,oj,h1,h2,h3⟩:=hmayF b hmb
  have:=hm0.dis i j ob oj b hi h1 hb h3
  subst this
  rw [hc] at h2;cases h2
 have hC : ∀ w',Keep may' wd w'→Same F (hideL ch 0 own) h wd w':=fun w' hw' b hb=>by
  rcases hb with hb | ⟨i,ob,hi,hb⟩
  ·cases ho : h.m b with
   | none=>exact absurd ho hb
   | some o =>
    refine hw'.block b (Array.getElem?_eq_some_iff.1 (hm0.hsub b o ho)).1 (fun hmb=>?_)
    obtain ⟨j,oj,h1,_,h3⟩:=hmayF b hmb
    exact hb (hm0.foot j oj b h1 h3).2.1
  ·have h1:=(hideL_get ch own 0 i ob).1 hi
   rw [Nat.zero_add] at h1
   exact hw'.block b (hm0.foot i ob b h1.1 hb).1 (hout i ob b h1.1 h1.2 hb)
 have hlsz : ∀ i,i ∈ hl→i < ops.size:=fun i hi=>by
  have : i < k:=of_decide_eq_true (List.all_eq_true.1 hhk i hi)
  omega
 have elsz : ∀ i,i ∈ el→i < ops.size:=fun i hi=>by
  have:=List.all_eq_true.1 hek i hi
  rw [Bool.and_eq_true] at this
  have : i < k:=of_decide_eq_true this.1
  omega
 rw [←hwd]
 refine any_region_loud (Q:=fun e a' w'=>e = .normal∧∃ st',Sat may w0 h0 st' a' w'∧K st') (k:=k) (hl:=hl) (el:=el) (C:=Keep may' wd) hmx hB (fun d v c a w h=>by cases h.1) (by rw [hwd];exact Keep.refl _ _) ?_
 rw [hwd]
 unfold loudP at hp
 simp only [forceL_eq] at hp
 have hH:=hoist_ok (mine:=mineOf may w0) (C:=Keep may' wd) hT hmH hC hl ⟨n,kk,env,hideL ch 0 own⟩ a hlsz ⟨rfl,rfl⟩ hp ⟨ha.size,ha.env,ha.defers⟩
 refine wpHoist_mono (fun a1 h1=>?_) hl a hH
 obtain ⟨⟨n1,kk1,env1,own1⟩,ha1,⟨rfl,rfl⟩,hp1⟩:=h1
 simp only at hp1
 have hsatE : Sat may' wd (⟨h,L,HasGl.mono h0.gl hsub.sub.m⟩ : Base P) ⟨n1,own.length,env1,onlyL ch 0 own⟩ a1 wd :=
  ⟨⟨L,F,h,hmE,⟨ha1.size,ha1.env,ha1.defers⟩,⟨Sub.refl h,fun i hi=>rfl,hm0.hn.symm⟩,fun k hk=>.inl hk⟩,Keep.refl _ _⟩
 have hE:=listI_ok (Q:=fun e a' w'=>e = .normal∧∃ st',Sat may w0 h0 st' a' w'∧K st') (C:=Keep may' wd) hT hF (fun w' hw'=>hw') el _ a1 wd elsz hp1 hsatE
 refine wpListI_mono (fun a2 w2 h2=>?_) el a1 wd hE
 obtain ⟨⟨n2,kk2,env2,own2⟩,⟨⟨L2,F2,h2,hm2,ha2,hsub2,hnew2⟩,hk2⟩,hem,hp2⟩:=h2
 have hLL : ∀ i,i < h.n→L2 i = L i:=fun i hi=>hsub2.at_ i hi
 have hS2 : Sub h h2:=hsub2.sub
 let F3 : Nat→Nat→Prop:=fun i b=>(∃ x,own[i]? = some (some x)∧ch.contains i = false∧F i b)∨((∀ x,own[i]? = some (some x)→ch.contains i = true)∧F2 i b)
 have hnot : ∀ (i j : Nat) (ob o2 : Ob) (b : Nat),own[i]? = some (some ob)→ch.contains i = false→F i b→own2[j]? = some (some o2)→F2 j b→False:=fun i j ob o2 b hi hc hb hj hb2=>by
  obtain ⟨q1,q2,q3⟩:=hm2.foot j o2 b hj hb2
  rcases q3 with q3 | q3
  ·exact hout i ob b hi hc hb q3
  ·have:=(hm0.foot i ob b hi hb).1
   omega
 have hF3a : ∀ (i : Nat) (ob : Ob),own[i]? = some (some ob)→ch.contains i = false→F3 i = F i:=fun i ob hi hc=>by
  funext b
  refine propext ⟨fun hb=>?_,fun hb=>.inl ⟨ob,hi,hc,hb⟩⟩
  rcases hb with ⟨_,_,_,hb⟩ | ⟨hx,_⟩
  ·exact hb
  ·rw [hx ob hi] at hc;cases hc
 have hF3b : ∀ (i : Nat),(∀ x,own[i]? = some (some x)→ch.contains i = true)→F3 i = F2 i:=fun i hx=>by
  funext b
  refine propext ⟨fun hb=>?_,fun hb=>.inr ⟨hx,hb⟩⟩
  rcases hb with ⟨x,h1,h2,_⟩ | ⟨_,hb⟩
  ·rw [hx x h1] at h2;cases h2
  ·exact hb
 have hmg : ∀ (i : Nat) (ob : Ob),(mergeL ch 0 own own2)[i]? = some (some ob)→(own[i]? = some (some ob)∧ch.contains i = false∧F3 i = F i)∨(own2[i]? = some (some ob)∧F3 i = F2 i):=fun i ob hi=>by
  have:=mergeL_get ch own own2 0 i ob hi
  rw [Nat.zero_add] at this
  rcases this with ⟨h1,h2⟩ | ⟨h1,h2⟩
  ·exact .inl ⟨h1,h2,hF3a i ob h1 h2⟩
  ·exact .inr ⟨h1,hF3b i h2⟩
 have hm3 : Mem (mineOf may w0) L2 F3 h2 (mergeL ch 0 own own2) w2:=by
  refine ⟨by rw [mergeL_len];exact hm2.hn,hm2.hsub,fun i ob hi=>?_,fun i ob b hi hb=>?_,fun i j oi oj b hi hj hbi hbj=>?_⟩
  ·rcases hmg i ob hi with ⟨q1,q2,q3⟩ | ⟨q1,q3⟩
   ·have hlt : i < h.n:=by rw [hm0.hn];exact (List.getElem?_eq_some_iff.1 q1).1
    rw [q3,hLL i hlt]
    exact obOk_move (hm0.obs i ob q1) (fun b hb=>hk2.block b (hm0.foot i ob b q1 hb).1 (hout i ob b q1 q2 hb)) hLL hS2
   ·rw [q3];exact hm2.obs i ob q1
  ·rcases hmg i ob hi with ⟨q1,q2,q3⟩ | ⟨q1,q3⟩
   ·rw [q3] at hb
    obtain ⟨f1,f2,f3⟩:=hm0.foot i ob b q1 hb
    refine ⟨Nat.lt_of_lt_of_le f1 hk2.size,?_,f3⟩
    cases ho : h2.m b with
    | none=>rfl
    | some o =>
     rcases hnew2 b (by rw [ho];simp) with h9 | h9 | h9
     ·exact absurd f2 h9
     ·exact absurd h9 (hout i ob b q1 q2 hb)
     ·omega
   ·rw [q3] at hb
    obtain ⟨f1,f2,f3⟩:=hm2.foot i ob b q1 hb
    exact ⟨f1,f2,hmine' b f3⟩
  ·rcases hmg i oi hi with ⟨q1,q2,q3⟩ | ⟨q1,q3⟩ <;> rcases hmg j oj hj with ⟨r1,r2,r3⟩ | ⟨r1,r3⟩ <;> rw [q3] at hbi <;> rw [r3] at hbj
   ·exact hm0.dis i j oi oj b q1 r1 hbi hbj
   ·exact (hnot i j oi oj b q1 q2 hbi r1 hbj).elim
   ·exact (hnot j i oj oi b r1 r2 hbj q1 hbi).elim
   ·exact hm2.dis i j oi oj b q1 r1 hbi hbj
 refine ops_ok (may:=may) (w0:=w0) (h0:=h0) (K:=K) hT hF (fun st'' a'' w'' h1 h2=>⟨rfl,st'',h1,h2⟩) _ _ a2 w2 hp2 ⟨⟨L2,F3,h2,hm3,⟨ha2.size,ha2.env,ha2.defers⟩,hsub.step hLL hS2,fun x hx=>?_⟩,hk0.trans hk2 hmay⟩
 rcases hnew2 x hx with h9 | h9
 ·exact hnew x h9
 ·exact .inr (hmine' x h9)
theorem round_loud [HasGl P] {h0 : Base P} (k : Nat) (hl el ch : List Nat) {ro : Option Nat} {nn : Nat} {id : Nat} {K : St→Prop} {st : St} {a : Act} {w : World} (hmx : P.follows .mixedOrders = true) (hB : loudB ops k hl el = true) (hca : ops.all calmOp = true) (hT : TTok P T) (hF : FTok P FF)
  (hp : loudP P T FF ops k hl el ch st K) (hs : Sat may w0 h0 st a w) : (Code.region id ops true).wpIn (wideAt ro) nn P (fun e a' w'=>e = .normal∧∃ st',Sat may w0 h0 st' a' w'∧K st') a w:=by
 have hany:=any_loud k hl el ch hmx hB hT hF hp hs
 have hin:=any_in (ro:=ro) (n:=nn) (ds:=[]) (fun ⟨_,_,h⟩=>by cases h.1) hca _ _ _ _ hany
 rw [addD_nil] at hin
 refine wpIn_mono (wpIn_region_any hmx hin) ?_
 rintro e a' w' ⟨a0,rfl,h⟩
 rw [addD_nil]
 exact h
end
end Go.Eng
namespace Go.Eng
open Go Go.RowKit
section
variable {P : Program} [HasGl P]
theorem den_scalC {L L' : Nat→Value} {h h' : Hp} {c : IC} {u : Value} (hc : scalC c = true) (hd : Den L h c u) : Den L' h' c u:=by
 cases hd <;> first | exact Den.v _ (by assumption) | (simp [scalC] at hc)
theorem den_scalL {L L' : Nat→Value} {h h' : Hp} {cs : List IC} {us : List Value} (hc : cs.all scalC = true) (hd : DenL L h cs us) : DenL L' h' cs us :=
 ⟨hd.1,fun j c u hj hu=>den_scalC (List.all_eq_true.1 hc c (List.mem_of_getElem? hj)) (hd.2 j c u hj hu)⟩
theorem den_scal1 {L L' : Nat→Value} {h h' : Hp} {r : AV} {v : Value} (hs : scal1 r = true) (hd : Den1 L h r v) : Den1 L' h' r v:=by
 cases r with
 | c x=>exact den_scalC hs hd
 | agg xs=>obtain ⟨us,e,hd⟩:=hd;exact ⟨us,e,den_scalL hs hd⟩
 | tup xs=>cases hs
 | top=>cases hs
theorem den_scalA {L L' : Nat→Value} {h h' : Hp} {r : AV} {v : Value} (hs : scalA r = true) (hd : DenA L h r v) : DenA L' h' r v:=by
 cases r with
 | c x=>exact den_scal1 (r:=.c x) hs hd
 | agg xs=>exact den_scal1 (r:=.agg xs) hs hd
 | tup xs =>
  obtain ⟨us,e,hl,hd⟩:=hd
  exact ⟨us,e,hl,fun j a u ha hu=>den_scal1 (List.all_eq_true.1 hs a (List.mem_of_getElem? ha)) (hd j a u ha hu)⟩
 | top=>cases hs
theorem denAs_sb {L L' : Nat→Value} {h h' : Hp} {s : IC→IC} (hs : SubstOk L L' h h' s) {args : List AV} {vs : List Value} (hd : DenAs L h args vs) : DenAs L' h' (args.map (sbA s)) vs :=
 ⟨by rw [List.length_map];exact hd.len,fun j a v ha hv=>by
  rw [List.getElem?_map] at ha
  cases hx : args[j]? with
  | none=>rw [hx] at ha;cases ha
  | some b=>rw [hx] at ha;cases ha;exact hs.denA (hd.den j b v hx hv)⟩
theorem callV_lendS {f : FuncId} {args : List AV} {own : List (Option Ob)} (i : Nat) {e : TypeId} {sz m : Nat} {g : Nat→List IC} {Q : AV→Prop} (hi : own[i]? = some (some (.row e sz m g))) (hcl : ∀ j,j < m→(g j).all clo = true)
  (hc : CallV P f (args.map (sbA (up (sbR i sz m g)))) [] (fun r own'=>own' = []∧Q r)) (hca : (args.map (sbA (up (sbR i sz m g)))).all cloA = true) (hsc : ∀ r,Q r→scalA r = true) : CallV P f args own (fun r own'=>own' = own∧Q r):=by
 refine ⟨fun mine L F h w vs hgl hm hden=>?_⟩
 obtain ⟨h2,s1,s2,s3,s4,s5⟩:=frz_row hm hi hcl
 have hd2:=denAs_sb s4.up hden
 have hgl2 : HasGl.ok P h2.m:=HasGl.mono hgl s1.m
 have:=hc.out mine L F ⟨h2.m,0⟩ w vs hgl2 ⟨rfl,s3.hsub,fun i ob hi=>by simp at hi,fun i ob b hi=>by simp at hi,fun i j oi oj b hi=>by simp at hi⟩ (denAs_clo hd2 0 hca)
 refine this.mono ?_
 rintro x w' ⟨r,v,L',F',h',own',h1,h2',h3,h4,h5,h6,h7,rfl,hQ⟩
 have hkeep : ∀ k,k < w.heap.size→w'.heap[k]? = w.heap[k]?:=fun k hk=>h5.block k hk not_foot_nil
 have hm2 : Mem (mineOf (footOf F own) w) L F h own w':=(mem_move hm h5.size (fun k o hk=>hkeep k (Array.getElem?_eq_some_iff.1 (hm.hsub k o hk)).1) (fun b ⟨j,ob,hj,hb⟩=>hkeep b (hm.foot j ob b hj hb).1)).mine_mono (fun b hb=>.inl hb)
 exact ⟨r,v,L,F,h,own,h1,den_scalA (hsc r hQ) h2',fun _ _=>rfl,hm2,⟨h5.os,h5.tape,h5.output,h5.size,fun k hk _=>hkeep k hk⟩,Sub.refl h,fun k hk=>.inl hk,rfl,hQ⟩
theorem callV_lendR {f : FuncId} {args : List AV} {own : List (Option Ob)} (i : Nat) {e : TypeId} {sz m : Nat} {g : Nat→List IC} {e2 : TypeId} {sz2 : Nat} {Q : Nat→(Nat→List IC)→Prop} (hi : own[i]? = some (some (.row e sz m g))) (hcl : ∀ j,j < m→(g j).all clo = true)
  (hc : CallV P f (args.map (sbA (up (sbR i sz m g)))) [] (fun r own'=>∃ n g2,r = .c (.row 0)∧own' = [some (.row e2 sz2 n g2)]∧(∀ k,k < n→(g2 k).all scalC = true)∧Q n g2)) (hca : (args.map (sbA (up (sbR i sz m g)))).all cloA = true) :
  CallV P f args own (fun r own'=>∃ n g2,r = .c (.row own.length)∧own' = own ++ [some (.row e2 sz2 n g2)]∧Q n g2):=by
 refine ⟨fun mine L F h w vs hgl hm hden=>?_⟩
 obtain ⟨h2,s1,s2,s3,s4,s5⟩:=frz_row hm hi hcl
 have hd2:=denAs_sb s4.up hden
 have hgl2 : HasGl.ok P h2.m:=HasGl.mono hgl s1.m
 have:=hc.out mine L F ⟨h2.m,0⟩ w vs hgl2 ⟨rfl,s3.hsub,fun i ob hi=>by simp at hi,fun i ob b hi=>by simp at hi,fun i j oi oj b hi=>by simp at hi⟩ (denAs_clo hd2 0 hca)
 refine this.mono ?_
 rintro x w' ⟨r,v,L',F',h',own',h1,h2',h3,h4,h5,h6,h7,n,g2,rfl,rfl,hsc,hQ⟩
 have hkeep : ∀ k,k < w.heap.size→w'.heap[k]? = w.heap[k]?:=fun k hk=>h5.block k hk not_foot_nil
 have hm2 : Mem (mineOf (footOf F own) w) L F h own w':=(mem_move hm h5.size (fun k o hk=>hkeep k (Array.getElem?_eq_some_iff.1 (hm.hsub k o hk)).1) (fun b ⟨j,ob,hj,hb⟩=>hkeep b (hm.foot j ob b hj hb).1)).mine_mono (fun b hb=>.inl hb)
 have hn : h.n = own.length:=hm.hn
 obtain ⟨vs2,k1,k2,k3⟩:=h4.obs 0 _ rfl
 have hnew : ∀ b,F' 0 b→w.heap.size≤b:=fun b hb=>by
  rcases (h4.foot 0 _ b rfl hb).2.2 with g9 | g9
  ·exact absurd g9 not_foot_nil
  ·exact g9
 have hm3:=mem_push (v:=L' 0) (G:=F' 0) (ob:=.row e2 sz2 n g2) hm2
  ⟨vs2,k1,k2,⟨k3.len,fun k hk j c hc=>by
   obtain ⟨u,q1,q2⟩:=k3.den k hk j c hc
   exact ⟨u,q1,den_scalC (List.all_eq_true.1 (hsc k hk) c (List.mem_of_getElem? hc)) q2⟩⟩⟩
  (fun b hb=>⟨(h4.foot 0 _ b rfl hb).1,hp_new hm.hsub (hnew b hb),.inr (hnew b hb)⟩)
  (fun b hb ⟨j,ob,hj,hb2⟩=>by have:=(hm.foot j ob b hj hb2).1;have:=hnew b hb;omega)
 refine ⟨.c (.row own.length),v,_,_,_,_,h1,?_,fun i hi=>upd_lt (by omega),hm3,⟨h5.os,h5.tape,h5.output,h5.size,fun k hk _=>hkeep k hk⟩,sub_more h 1,fun k hk=>.inl hk,n,g2,rfl,rfl,hQ⟩
 have hd : Den L' h' (.row 0) v:=h2'
 cases hd with
 | row _ A n0 c q1 q2=>exact Den.row _ A n0 c (by simp [Hp.more,hn]) (by rw [upd_eq];exact q2)
end
end Go.Eng
namespace Go.Eng
open Go Go.RowKit
theorem nil_sl (t sz : Nat) (f : Nat→List IC) {st : St} (hl : st.env.lookup t = some (.c (.v (.slice none 0 0)))) : Weak st ⟨st.n,st.k,(t,.c (.sl sz 0 f)) :: st.env,st.own⟩:=by
 refine ⟨fun {P} _ may w0 h0 a w hs=>?_⟩
 obtain ⟨⟨L,F,h,hm,ha,hsub,hnew⟩,hk⟩:=hs
 refine ⟨⟨L,F,h,hm,⟨ha.size,fun s av hs=>?_,ha.defers⟩,hsub,hnew⟩,hk⟩
 simp only [List.lookup_cons] at hs
 by_cases e : s = t
 ·subst e
  simp at hs
  subst hs
  have h1:=ha.env s _ hl
  have h2 : Den L h (.v (.slice none 0 0)) (a.tmps.getD s undef):=h1
  show Den L h _ _
  generalize a.tmps.getD s undef = x at h2
  cases h2
  exact .sl sz 0 f none 0 ⟨0,0,none⟩ (fun _ _=>undef) (Nat.le_refl _) (by omega) (fun h=>by omega) (fun k hk=>by omega) (fun k hk=>by omega) (fun k hk=>by omega) (fun k hk=>by omega)
 ·have e' : (s == t) = false:=by simpa using e
  rw [e'] at hs
  exact ha.env s av hs
end Go.Eng
namespace Go.Eng
open Go Go.RowKit
theorem setCell_heap {w : World} {b : Nat} {old v : Value} {t : TypeId} {fr : Nat × Nat} (h : w.heap[b]? = some (.cells #[old] t fr)) : (w.setCell ⟨b,0,none⟩ v).heap[b]? = some (.cells #[v] t fr):=by
 unfold World.setCell
 show (w.heap.modify b _)[b]? = _
 rw [Array.getElem?_modify,if_pos rfl,h]
 rfl
theorem setCell_other {w : World} {b : Nat} {v : Value} {k : Nat} (hk : k≠b) : (w.setCell ⟨b,0,none⟩ v).heap[k]? = w.heap[k]?:=by
 unfold World.setCell
 show (w.heap.modify b _)[k]? = _
 rw [Array.getElem?_modify,if_neg (fun e=>hk e.symm)]
theorem setCell_size {w : World} {b : Nat} {v : Value} : (w.setCell ⟨b,0,none⟩ v).heap.size = w.heap.size:=by
 unfold World.setCell
 exact Array.size_modify
theorem setCell_rest {w : World} {b : Nat} {v : Value} : (w.setCell ⟨b,0,none⟩ v).os = w.os∧(w.setCell ⟨b,0,none⟩ v).tape = w.tape∧(w.setCell ⟨b,0,none⟩ v).output = w.output:=⟨rfl,rfl,rfl⟩
section
variable {P : Program} [HasGl P]
theorem callV_as {f : FuncId} {pc cc : TypeId} {e old v : Value} (he : e.oneCell' = true) (hv : v.oneCell' = true)
  (hC : ∀ (m : Nat→Option Obj) (w : World) (b : Nat),HasGl.ok P m→(∀ k o,m k = some o→w.heap[k]? = some o)→w.heap[b]? = some (.cells #[old] cc (0,0)) →
   Calls P f #[e,.iface pc (.pointer (some ⟨b,0,none⟩))] w (fun ev w'=>ev = .returned (.bool true)∧∃ w1,Below w.heap.size w w1∧w' = w1.setCell ⟨b,0,none⟩ v)) :
  CallV P f [.c (.v e),.c (.ifc pc (.own 0 0))] [some (.cells cc [.v old])] (fun r own'=>own' = [some (.cells cc [.v v])]∧r = .c (.v (.bool true))):=by
 refine ⟨fun mine L F h w ws hgl hm hden=>?_⟩
 obtain ⟨hlen,hden⟩:=hden
 match ws,hlen with
 | [x,y],_ =>
  have hx : Den L h (.v e) x:=hden 0 _ _ rfl rfl
  have hy : Den L h (.ifc pc (.own 0 0)) y:=hden 1 _ _ rfl rfl
  cases hx
  obtain ⟨b,vs,e1,e2,e3,e4⟩:=hm.obs 0 _ rfl
  cases hy with
  | ifc _ _ z hz =>
  cases hz with
  | own _ _ ad h1 h2 =>
  rw [e1] at h2
  cases h2
  obtain ⟨u,r,rfl,g1,g2⟩:=e4.uncons
  have:=den_one g1
  subst this
  have hr:=List.eq_nil_of_length_eq_zero g2.1.symm
  subst hr
  refine (hC h.m w b hgl hm.hsub e3).mono ?_
  rintro ev w' ⟨rfl,w1,hb,rfl⟩
  have hm1:=mem_same hm (same_below hm hb) hb.size
  obtain ⟨f1,f2,f3⟩:=hm.foot 0 _ b rfl e2
  have e3' : w1.heap[b]? = some (.cells #[u] cc (0,0)):=by rw [hb.block b f1];exact e3
  have hm2:=mem_set (w':=w1.setCell ⟨b,0,none⟩ v) (ob:=.cells cc [.v v]) hm1 (i:=0) (o:=.cells cc [.v u]) rfl setCell_size (fun k hk=>setCell_other (fun e=>hk (by rw [e];exact e2)))
   ⟨b,[v],e1,e2,setCell_heap e3',DenL.cons (Den.v _ hv) DenL.nil⟩
  refine ⟨.c (.v (.bool true)),.bool true,L,F,h,[some (.cells cc [.v v])],rfl,Den.v _ rfl,fun _ _=>rfl,?_,?_,Sub.refl h,fun k hk=>.inl hk,rfl,rfl⟩
  ·exact hm2.mine_mono (fun q hq=>by
    obtain ⟨i,ob,hi,hF⟩:=hq
    match i,hi with
    | 0,_=>exact .inl ⟨0,_,rfl,hF⟩)
  ·have hs:=setCell_rest (w:=w1) (b:=b) (v:=v)
   refine ⟨hs.1.trans hb.os,hs.2.1.trans hb.tape,hs.2.2.trans hb.output,by rw [setCell_size];exact hb.size,fun k hk hn=>?_⟩
   rw [setCell_other (fun e=>hn ⟨0,_,rfl,by rw [e];exact e2⟩)]
   exact hb.block k hk
end
end Go.Eng

namespace Go.Eng
open Go Go.RowKit Go.Proofs Go.Shelf Go.Sort
theorem getD_toList {α : Type} [Inhabited α] (d : Array α) (i : Nat) : d.toList.getD i default = d[i]! := by
  rw [List.getD_eq_getElem?_getD, Array.getElem?_toList, Array.getElem!_eq_getD, Array.getD_eq_getD_getElem?]
theorem flatK_toList {α : Type} [Inhabited α] (enc : α → List Value) (k : Nat) (d : Array α) (i j : Nat) (hi : i < d.size) (hj : j < k) (hk : ∀ x, (enc x).length = k) : (flatK enc k d).toList[i * k + j]? = (enc (d.toList.getD i default))[j]? := by
  have lt : i * k + j < d.size * k := by
    have := Nat.mul_le_mul_right k (show i + 1 ≤ d.size from hi); rw [Nat.add_mul, Nat.one_mul] at this; omega
  have e1 : (i * k + j) / k = i := (blk_iff k i _ (by omega)).1 ⟨by omega, by omega⟩
  have e2 : (i * k + j) % k = j := by rw [Nat.mod_eq_sub_div_mul, e1]; omega
  have h := get_flatK enc k d _ lt
  rw [e1, e2] at h
  rw [Array.getElem?_toList, getD_toList]
  rw [Array.getElem?_eq_getElem (by rw [size_flatK]; exact lt), List.getElem?_eq_getElem (by rw [hk]; exact hj)]
  rw [getElem!_pos _ _ (by rw [size_flatK]; exact lt), getElem!_pos _ _ (by rw [hk]; exact hj)] at h
  rw [h]
theorem rowD_flatK {α : Type} [Inhabited α] (L : Nat → Value) (h : Hp) (enc : α → List Value) (k : Nat) (d : Array α) (hk : ∀ x, (enc x).length = k) (h1 : ∀ x, ∀ v ∈ enc x, v.oneCell' = true) :
    RowD L h k d.size (fun i => (enc (d.toList.getD i default)).map IC.v) (flatK enc k d).toList := by
  refine ⟨fun i hi => by rw [List.length_map, hk], fun i hi j c hc => ?_⟩
  rw [List.getElem?_map] at hc
  cases hu : (enc (d.toList.getD i default))[j]? with
  | none => rw [hu] at hc; cases hc
  | some u =>
    rw [hu] at hc
    cases hc
    have hj : j < k := by rw [← hk (d.toList.getD i default)]; exact (List.getElem?_eq_some_iff.1 hu).1
    exact ⟨u, (flatK_toList enc k d i j hi hj hk).trans hu, .v u (h1 _ u (List.mem_of_getElem? hu))⟩
section
variable {P : Program} [HasGl P] {ρ : Ren} {α : Type} [Inhabited α]
theorem callV_sort (L : SlLaysF0.n6 P ρ) (k : Nat) (aE : ∀ w, (isAgg (ρ.t 24)).run P w = .ok true w) (zE : ∀ w, (Go.sizeOf (ρ.t 24)).run P w = .ok k w) (enc : α → List Value) (hk : ∀ x, (enc x).length = k) (h1 : ∀ x, ∀ v ∈ enc x, v.oneCell' = true)
    (cf : α → α → Int) (hO : SWO (ltOf cf)) (g : Nat) (eg : ∀ args w, (callFunc g args).run P w = .ok (.enter g args) w)
    (hC : ∀ x y W, Calls P g #[.agg (enc x).toArray, .agg (enc y).toArray] W fun e w' => e = .returned (.int .i64 (cf x y)) ∧ ∃ q os', w' = grow (W.drewN q) os')
    (e : TypeId) (xs : List α) (hn : xs.length < 4611686018427387904) :
    CallV P (ρ.f 6) [.c (.row 0), .c (.fn g [])] [some (.row e k xs.length fun i => (enc (xs.getD i default)).map IC.v)]
      (fun r own' => ∃ ys : List α, ys.Perm xs ∧ (∀ i j, i < j → j < ys.length → ltOf cf (ys.getD j default) (ys.getD i default) = false) ∧ r = .tup [] ∧ own' = [some (.row e k ys.length fun i => (enc (ys.getD i default)).map IC.v)]) := by
  refine ⟨fun mine Lc F h w vs hgl hm hden => ?_⟩
  obtain ⟨hlen, hden⟩ := hden
  match vs, hlen with
  | [s, fv], _ =>
    have hs := hden 0 _ _ rfl rfl
    have hf := hden 1 _ _ rfl rfl
    have hf : fv = .func (.func g) #[] #[] := by
      have : Den Lc h (.fn g []) fv := hf
      cases this with
      | fn _ _ vs _ hl =>
        have : vs = [] := List.eq_nil_of_length_eq_zero hl.symm
        subst this; rfl
    subst hf
    obtain ⟨ws, hr, hF, hD⟩ := hm.obs 0 _ rfl
    have hLs : Lc 0 = s := by
      have : Den Lc h (.row 0) s := hs
      cases this with
      | row _ _ _ _ _ h2 => exact h2
    rw [hLs] at hr hF
    have hnone : xs.length = 0 → Calls P (ρ.f 6) [s, .func (.func g) #[] #[]].toArray w (fun e' w' => e' = .returned (.tuple #[]) ∧ w' = w) → Calls P (ρ.f 6) [s, .func (.func g) #[] #[]].toArray w (fun e_1 w' => ∃ (r : AV) (v : Value) (L' : Nat → Value) (F' : Nat → Nat → Prop) (h' : Hp) (own' : List (Option Ob)), e_1 = .returned v ∧ DenA L' h' r v ∧ (∀ i, i < h.n → L' i = Lc i) ∧ Mem (mineOf (footOf F [some (.row e k xs.length fun i => (enc (xs.getD i default)).map IC.v)]) w) L' F' h' own' w' ∧
      Keep (footOf F [some (.row e k xs.length fun i => (enc (xs.getD i default)).map IC.v)]) w w' ∧ Sub h h' ∧ (∀ k_1, h'.m k_1 ≠ none → h.m k_1 ≠ none ∨ mineOf (footOf F [some (.row e k xs.length fun i => (enc (xs.getD i default)).map IC.v)]) w k_1) ∧
      (∃ ys : List α, ys.Perm xs ∧ (∀ i j, i < j → j < ys.length → ltOf cf (ys.getD j default) (ys.getD i default) = false) ∧ r = .tup [] ∧ own' = [some (.row e k ys.length fun i => (enc (ys.getD i default)).map IC.v)])) := by
      intro h0 hcall
      refine hcall.mono ?_
      rintro _ w' ⟨rfl, rfl⟩
      refine ⟨.tup [], .tuple #[], Lc, F, h, _, rfl, ⟨[], rfl, rfl, fun j a u ha => by cases ha⟩, fun _ _ => rfl, hm.mine_mono (fun b hb => .inl hb), Keep.refl _ _, Sub.refl h, fun k hk => .inl hk, xs, .refl _, fun i j _ hj => by omega, rfl, rfl⟩
    rcases hr with ⟨hwl, ⟨rfl, h0⟩ | ⟨gb, cap, cur, rfl, _, hcell, hcap, hmax, hsz, htake⟩⟩
    · exact hnone h0 (AnyF.slices_SortFunc_none L none 0 _ w)
    · by_cases h0 : xs.length = 0
      · have := AnyF.slices_SortFunc_none L (some ⟨gb, 0, none⟩) cap (.func (.func g) #[] #[]) w
        rw [h0] at hnone ⊢
        exact hnone rfl this
      have hbl : gb < w.heap.size := (Array.getElem?_eq_some_iff.1 hcell).1
      have hFb : F 0 gb := hF gb rfl
      have hflat : ws = (flatK enc k xs.toArray).toList := by
        refine List.ext_getElem? fun t => ?_
        rcases Nat.lt_or_ge t (xs.length * k) with ht | ht
        · have k0 : 0 < k := by rcases Nat.eq_zero_or_pos k with h | h
                                · subst h; simp at ht
                                · exact h
          have e1 : t = t / k * k + t % k := by have := Nat.div_add_mod t k; rw [Nat.mul_comm] at this; exact this.symm
          have hi : t / k < xs.length := (Nat.div_lt_iff_lt_mul k0).2 ht
          have hj := Nat.mod_lt t k0
          rw [e1, flatK_toList enc k xs.toArray _ _ (by simpa using hi) hj hk]
          have hx : ((enc (xs.getD (t / k) default)).map IC.v)[t % k]? = some (.v ((enc (xs.getD (t / k) default))[t % k]'(by rw [hk]; exact hj))) := by
            rw [List.getElem?_map, List.getElem?_eq_getElem (by rw [hk]; exact hj)]; rfl
          obtain ⟨u, hu, hd⟩ := hD.den _ hi _ _ hx
          rw [hu]
          rw [List.getElem?_eq_getElem (by rw [hk]; exact hj)]
          congr 1
          generalize (enc (xs.getD (t / k) default))[t % k]'(by rw [hk]; exact hj) = z at hd
          cases hd; rfl
        · rw [List.getElem?_eq_none (by omega), List.getElem?_eq_none (by simp; exact ht)]
      have hcurlen : xs.length * k ≤ cur.size := by rw [hsz]; exact Nat.mul_le_mul_right _ hcap
      have hcurget : ∀ t, t < xs.length * k → cur[t]? = (flatK enc k xs.toArray)[t]? := fun t ht => by
        have := congrArg (fun l => l[t]?) (htake.trans hflat)
        simp only [List.getElem?_take, if_pos ht, Array.getElem?_toList] at this
        exact this
      have hH : HoldsK enc k w gb 0 xs.toArray := fun j hj => by
        rw [size_flatK] at hj
        have hj' : j < xs.length * k := by simpa using hj
        have := hcurget j hj'
        rw [Nat.zero_add]
        refine ⟨?_, by simp [World.frozen?, hcell]⟩
        simp only [World.cell?, hcell]
        rw [if_neg (by simp), this, Array.getElem?_eq_getElem (by rw [size_flatK]; exact hj), getElem!_pos _ _ (by rw [size_flatK]; exact hj)]
        rfl
      have hmain := AnyQ.slices_SortFunc L k aE zE enc hk h1 cf hO g #[] gb 0 cap xs.toArray w eg (fun m os dk _ x y => hC x y _) hH hbl (by simpa using hn)
      have hmain : Calls P (ρ.f 6) [Value.slice (some ⟨gb, 0, none⟩) xs.length cap, .func (.func g) #[] #[]].toArray w _ := hmain
      refine hmain.mono ?_
      rintro _ w' ⟨rfl, d', n, os, hp, hsd, rfl⟩
      have hds : d'.size = xs.length := by simpa using hp.1
      have hheap : ∀ b, b < w.heap.size → (sortWorldK enc k w gb 0 n d' os).heap[b]? = if b = gb then some (.cells (putCells id 0 (flatK enc k d') cur) e (0, 0)) else w.heap[b]? := fun b hb => by
        show (((Sort.ahead w n).heap.modify gb (onCells (putCells id 0 (flatK enc k d')))) ++ os)[b]? = _
        rw [Array.getElem?_append_left (by simpa [Sort.ahead] using hb), Array.getElem?_modify]
        by_cases hbg : b = gb
        · subst hbg; rw [if_pos rfl, if_pos rfl]; show Option.map _ w.heap[b]? = _; rw [hcell]; rfl
        · rw [if_neg (Ne.symm hbg), if_neg hbg]; rfl
      have hsize : w.heap.size ≤ (sortWorldK enc k w gb 0 n d' os).heap.size := size_sortWorldK_c enc k w gb 0 n d' os
      refine ⟨.tup [], .tuple #[], Lc, F, h, [some (.row e k d'.toList.length fun i => (enc (d'.toList.getD i default)).map IC.v)], rfl, ⟨[], rfl, rfl, fun j a u ha => by cases ha⟩, fun _ _ => rfl,
        ⟨hm.hn, fun b o hb => ?_, fun i ob hi => ?_, fun i ob b hi hb => ?_, fun i j oi oj b hi hj _ _ => ?_⟩, ⟨rfl, rfl, rfl, hsize, fun b hb hno => ?_⟩, Sub.refl h, fun b hb => .inl hb, d'.toList, ?_, fun i j hij hj => ?_, rfl, rfl⟩
      · have h2 := hm.hsub b o hb
        rw [hheap b (Array.getElem?_eq_some_iff.1 h2).1, if_neg (fun hbg => ?_)]
        · exact h2
        · subst hbg
          have := (hm.foot 0 _ b rfl hFb).2.1
          rw [this] at hb; cases hb
      · match i, hi with
        | 0, hi =>
          cases hi
          rw [hLs]
          refine ⟨(flatK enc k d').toList, ⟨by simp, .inr ⟨gb, cap, putCells id 0 (flatK enc k d') cur, by simp [hds], Nat.zero_le _, by rw [hheap gb hbl, if_pos rfl], by simpa [hds] using hcap, hmax, by simpa [putCells] using hsz, ?_⟩⟩, fun b hb => hF b hb, ?_⟩
          · refine List.ext_getElem? fun t => ?_
            rw [List.getElem?_take]
            by_cases ht : t < d'.toList.length * k
            · rw [if_pos ht, Array.getElem?_toList, Array.getElem?_toList]
              have ht' : t < d'.size * k := by simpa using ht
              have htc : t < cur.size := by rw [hds] at ht'; omega
              simp only [putCells, Array.getElem?_mapIdx]
              rw [Array.getElem?_eq_getElem htc, Option.map_some, if_pos ⟨Nat.zero_le _, by rw [size_flatK]; omega⟩, Nat.sub_zero, Array.getElem?_eq_getElem (by rw [size_flatK]; exact ht'), getElem!_pos _ _ (by rw [size_flatK]; exact ht')]
              rfl
            · rw [if_neg ht, List.getElem?_eq_none (by simpa using ht)]
          · have := rowD_flatK Lc h enc k d' hk h1
            simpa using this
        | i + 1, hi => simp at hi
      · match i, hi with
        | 0, hi =>
          have hx := hm.foot 0 _ b rfl hb
          exact ⟨Nat.lt_of_lt_of_le hx.1 hsize, hx.2.1, .inl ⟨0, _, rfl, hb⟩⟩
        | i + 1, hi => simp at hi
      · match i, j, hi, hj with
        | 0, 0, _, _ => rfl
        | i + 1, _, hi, _ => simp at hi
        | 0, j + 1, _, hj => simp at hj
      · rw [hheap b hb, if_neg (fun hbg => hno ⟨0, _, rfl, by rw [hbg]; exact hFb⟩)]
      · have := hp.2.2
        rw [Array.extract_eq_self_of_le (by simpa using Nat.le_of_eq hds), Array.extract_eq_self_of_le (by simp)] at this
        simpa using this
      · rw [getD_toList, getD_toList]
        exact hsd i j (Nat.zero_le _) hij (by simpa [hds] using hj)
end
end Go.Eng
