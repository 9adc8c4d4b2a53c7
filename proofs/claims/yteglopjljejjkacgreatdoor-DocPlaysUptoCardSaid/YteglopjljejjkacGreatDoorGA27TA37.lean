/- A part of the proof. -/
import Derived.Test.YteglopjljejjkacGreatDoorGA20TA26
import Derived.Shelf.Spec.SlicesGrow
set_option linter.unusedVariables false
set_option linter.unusedSimpArgs false
namespace Go.Eng
open Go Go.RowKit Go.Proofs Go.Shelf
section
variable {P : Program} [HasGl P] {ρ : Ren}
theorem callV_growNil (L : Lays8.n4 P ρ) (i0 : TypeInfo) (z : Value) (hi0 : P.info? (ρ.t 25) = some i0) (hz0 : i0.zero = some z) (hs0 : 0 < i0.size) (hzs : z.cells.size = i0.size)
  (n : Nat) (hbig : n * i0.bytes≤140737488355328) (hn : n≤4611686018427387904) (f : Nat→List IC) :
  CallV P (ρ.f 4) [.c (.v (.slice none 0 0)),.c (.v (.int .i64 n))] [] (fun r own'=>r = .c (.row 0)∧own' = [some (.row (ρ.t 25) i0.size 0 f)]):=by
 refine ⟨fun mine Lc F h w vs hgl hm hden=>?_⟩
 obtain ⟨hlen,hden⟩:=hden
 match vs,hlen with
 | [s,nv],_ =>
  have hs : s = .slice none 0 0:=den_one (hden 0 _ _ rfl rfl)
  have hv : nv = .int .i64 n:=den_one (hden 1 _ _ rfl rfl)
  subst hs hv
  have hn0 : h.n = 0:=hm.hn
  have hL : ∀ (u : Value) i,i < h.n→upd Lc 0 u i = Lc i:=fun u i hi=>by omega
  by_cases h0 : n = 0
  ·subst h0
   refine (Any8.slices_Grow_room L none 0 0 0 w (Nat.le_refl _) (by omega) (by omega) (by omega)).mono ?_
   rintro _ w' ⟨rfl,rfl⟩
   have hm':=mem_push (v:=.slice none 0 0) (G:=fun _=>False) (ob:=.row (ρ.t 25) i0.size 0 f) hm ⟨[],World.ownsRow_nil _ 0 _ _,(fun b hb=>by cases hb),⟨fun k hk=>by omega,fun k hk=>by omega⟩⟩ (fun b hb=>hb.elim) (fun b hb=>hb.elim)
   refine ⟨.c (.row 0),_,upd Lc 0 (.slice none 0 0),_,_,_,rfl,.row 0 none 0 0 (by simp [Hp.more]) rfl,hL _,hm'.mine_mono (fun b hb=>?_),Keep.refl _ _,sub_more h 1,fun k hk=>.inl hk,rfl,rfl⟩
   obtain ⟨i,ob,hi,hb⟩:=hb
   match i,hi with
   | 0,hi=>exact hb.elim
   | i + 1,hi=>simp at hi
  ·refine (Any8.slices_Grow_grow L i0 z hi0 hz0 hs0 none 0 0 n [] w (Nat.le_refl _) (by omega) (by simpa using hbig) (by omega) (by simp) (fun _=>rfl) (fun a ha=>by cases ha)).mono ?_
   rintro _ w' ⟨rfl,rfl⟩
   have hge:=grownCap_ge w (0 + n) 0 (ρ.t 25)
   have hcm : grownCap w (0 + n) 0 (ρ.t 25)≤maxLen:=grownCap_le_maxLen w (0 + n) 0 (ρ.t 25) (by unfold maxLen;omega)
   have hgl':=hge
   generalize grownCap w (0 + n) 0 (ρ.t 25) = cap at hge hcm ⊢
   obtain ⟨cur,hcur⟩ : ∃ cur,cur = (([] : List Value).toArray ++ Builtin.zeroCells z.cells (0 + n - 0) ++ Builtin.zeroCells z.cells (cap - (0 + n))):=⟨_,rfl⟩
   have hsz : cur.size = cap * i0.size:=by
    rw [hcur]
    simp [size_zeroCells,hzs]
    rw [←Nat.add_mul]
    congr 1
    omega
   rw [←hcur]
   have hheap : (w.drew.alloc (.cells cur (ρ.t 25))).heap[w.heap.size]? = some (.cells cur (ρ.t 25) (0,0)):=heap_alloc_at w.drew _
   have hold : ∀ b,b < w.heap.size→(w.drew.alloc (.cells cur (ρ.t 25))).heap[b]? = w.heap[b]?:=fun b hb=>by
    show (w.heap.push _)[b]? = _
    rw [Array.getElem?_push,if_neg (by omega)]
   have hno : ∀ (i : Nat) (ob : Ob),([] : List (Option Ob))[i]?≠some (some ob):=fun i ob hi=>by simp at hi
   have hmw : Mem (fun b=>mine b∨w.heap.size≤b) Lc F h [] (w.drew.alloc (.cells cur (ρ.t 25))) :=
    ⟨hm.hn,fun k o hk=>by rw [hold k (Array.getElem?_eq_some_iff.1 (hm.hsub k o hk)).1];exact hm.hsub k o hk,fun i ob hi=>(hno i ob hi).elim,fun i ob b hi=>(hno i ob hi).elim,fun i j oi oj b hi=>(hno i oi hi).elim⟩
   have hm':=mem_push (v:=.slice (some ⟨w.heap.size,0,none⟩) 0 cap) (G:=fun b=>b = w.heap.size) (ob:=.row (ρ.t 25) i0.size 0 f) hmw
    ⟨[],⟨by simp,.inr ⟨w.heap.size,cap,cur,rfl,Nat.zero_le _,hheap,Nat.zero_le _,hcm,hsz,by simp⟩⟩,(fun b hb=>by cases hb;rfl),⟨fun k hk=>by omega,fun k hk=>by omega⟩⟩
    (fun b hb=>by subst hb;exact ⟨(Array.getElem?_eq_some_iff.1 hheap).1,hp_new hm.hsub (Nat.le_refl _),.inr (Nat.le_refl _)⟩) (fun b _ ⟨i,ob,hi,_⟩=>hno i ob hi)
   refine ⟨.c (.row 0),_,upd Lc 0 (.slice (some ⟨w.heap.size,0,none⟩) 0 cap),_,_,_,rfl,.row 0 _ 0 cap (by simp [Hp.more]) rfl,hL _,hm'.mine_mono (fun b hb=>?_),⟨rfl,rfl,rfl,?_,fun b hb _=>hold b hb⟩,sub_more h 1,fun k hk=>.inl hk,rfl,rfl⟩
   ·obtain ⟨i,ob,hi,hb⟩:=hb
    match i,hi with
    | 0,hi =>
     have hb : b = w.heap.size:=hb
     rw [hb];exact .inr (Nat.le_refl _)
    | i + 1,hi=>simp at hi
   ·show w.heap.size≤(w.heap.push _).size
    simp
end
end Go.Eng
namespace Go.Eng
open Go
def narC : List (List Nat)→List (List Nat)
 | a :: b :: r=>match b.all (fun x=>a.contains x) with | true=>b :: r | false=>a :: b :: r
 | l=>l
theorem narC_sub : ∀ (l : List (List Nat)) (x : Nat),((narC l).headD []).contains x = true→(l.headD []).contains x = true
 | [],x,h=>h
 | [a],x,h=>h
 | a :: b :: r,x,h=>by
  cases hb : b.all (fun x=>a.contains x) with
  | true =>
   have e : narC (a :: b :: r) = b :: r:=by show (match b.all (fun x=>a.contains x) with | true=>b :: r | false=>a :: b :: r) = _;rw [hb]
   rw [e] at h
   have h : b.contains x = true:=h
   exact List.all_eq_true.1 hb x (by simpa using h)
  | false =>
   have e : narC (a :: b :: r) = a :: b :: r:=by show (match b.all (fun x=>a.contains x) with | true=>b :: r | false=>a :: b :: r) = _;rw [hb]
   rw [e] at h
   exact h
def schedQ (P : Program) [HasGl P] (T : TT) (F : FL) (ops : Array Oper) (l : Sch) : List (List Nat)→St→(St→Prop)→Prop :=
 Sch.rec (motive:=fun _=>List (List Nat)→St→(St→Prop)→Prop) (fun _ st K=>K st)
  (fun i _ ih chs st K=>match ops[i]? with
    | none=>False
    | some o=>match st with
     | ⟨n,kk,env,own⟩=>forceL (hideL (chs.headD []) 0 own) fun ownH=>guardP ops o ⟨n,kk,env,ownH⟩ (aopP T ⟨n,kk,env,ownH⟩ o.op (fun av=>putK ⟨n,kk,env,own⟩ o.dst av (fun st'=>ih chs st' K))) (skipK ⟨n,kk,env,own⟩ o.dst (fun st'=>ih chs st' K)))
  (fun i _ ih chs st K=>match ops[i]? with
    | none=>False
    | some o=>match st with
     | ⟨n,kk,env,own⟩=>forceL (onlyL (chs.headD []) 0 own) fun ownE=>guardP ops o ⟨n,own.length,env,ownE⟩ (stepP P T F o ⟨n,own.length,env,ownE⟩ (fun st2=>match st2 with
        | ⟨n2,_,env2,own2⟩=>forceL (mergeL (chs.headD []) 0 own own2) fun own3=>ih (narC chs) ⟨n2,kk,env2,own3⟩ K)) (skipK ⟨n,kk,env,own⟩ o.dst (fun st'=>ih (narC chs) st' K)))
  (fun _ _ iha ihb chs st K=>iha chs st K∧ihb chs st K) l
section
variable {P : Program} {T : TT} {FF : FL} {may : Nat→Prop} {L : Nat→Value} {F : Nat→Nat→Prop} {h : Hp} {w w0 : World} {ops : Array Oper}
theorem keep_nar {F : Nat→Nat→Prop} {own : List (Option Ob)} {ch ch2 : List Nat} (hs : ∀ x,ch2.contains x = true→ch.contains x = true) {w x : World} (h : Keep (footOf F (onlyL ch2 0 own)) w x) : Keep (footOf F (onlyL ch 0 own)) w x :=
 ⟨h.os,h.tape,h.output,h.size,fun k hk hn=>h.block k hk (fun ⟨i,ob,hi,hb⟩=>hn ⟨i,ob,by
  have h1:=(onlyL_get ch2 own 0 i ob).1 hi
  exact (onlyL_get ch own 0 i ob).2 ⟨h1.1,hs _ h1.2⟩,hb⟩)⟩
theorem schedQ_t [HasGl P] {chs : List (List Nat)} {i n kk : Nat} {env : List (Nat × AV)} {own : List (Option Ob)} {r : Sch} {K : St→Prop} : schedQ P T FF ops (.rd i r) chs ⟨n,kk,env,own⟩ K = (match ops[i]? with
  | none=>False
  | some o=>forceL (hideL (chs.headD []) 0 own) fun ownH=>guardP ops o ⟨n,kk,env,ownH⟩ (aopP T ⟨n,kk,env,ownH⟩ o.op (fun av=>putK ⟨n,kk,env,own⟩ o.dst av (fun st'=>schedQ P T FF ops r chs st' K))) (skipK ⟨n,kk,env,own⟩ o.dst (fun st'=>schedQ P T FF ops r chs st' K))):=by
 show (match ops[i]? with | none=>_ | some o=>_) = _
 cases ops[i]? <;> rfl
theorem schedQ_f [HasGl P] {chs : List (List Nat)} {i n kk : Nat} {env : List (Nat × AV)} {own : List (Option Ob)} {r : Sch} {K : St→Prop} : schedQ P T FF ops (.ef i r) chs ⟨n,kk,env,own⟩ K = (match ops[i]? with
  | none=>False
  | some o=>forceL (onlyL (chs.headD []) 0 own) fun ownE=>guardP ops o ⟨n,own.length,env,ownE⟩ (stepP P T FF o ⟨n,own.length,env,ownE⟩ (fun st2=>match st2 with
        | ⟨n2,_,env2,own2⟩=>forceL (mergeL (chs.headD []) 0 own own2) fun own3=>schedQ P T FF ops r (narC chs) ⟨n2,kk,env2,own3⟩ K)) (skipK ⟨n,kk,env,own⟩ o.dst (fun st'=>schedQ P T FF ops r (narC chs) st' K))):=by
 show (match ops[i]? with | none=>_ | some o=>_) = _
 cases ops[i]? <;> rfl
theorem schedQ_ok [HasGl P] {h0 : Base P} (hT : TTok P T) (hF : FTok P FF) {Q : Exit→Act→World→Prop} {K : St→Prop} : ∀ (l : Sch) (chs : List (List Nat)) (n kk : Nat) (env : List (Nat × AV)) (own : List (Option Ob)) (a : Act) (w : World) (L : Nat→Value) (F : Nat→Nat→Prop) (h : Hp),
  schedQ P T FF ops l chs ⟨n,kk,env,own⟩ K→Mem (mineOf may w0) L F h own w→Agree L h ⟨n,kk,env,own⟩ a→SubB h0 kk L h→(∀ k,h.m k≠none→h0.h.m k≠none∨mineOf may w0 k)→Keep may w0 w →
  wpS P ops Q (fun a' w'=>∃ st',Sat may w0 h0 st' a' w'∧K st') l (Keep (footOf F (onlyL (chs.headD []) 0 own)) w) a w
 | .nil,chs,n,kk,env,own,a,w,L,F,h,hp,hm,ha,hsub,hnew,hk=>⟨_,⟨⟨L,F,h,hm,ha,hsub,hnew⟩,hk⟩,hp⟩
 | .rd i r,chs,n,kk,env,own,a,w,L,F,h,hp,hm,ha,hsub,hnew,hk=>by
  rw [schedQ_t] at hp
  cases hoi : ops[i]? with
  | none=>rw [hoi] at hp;exact hp.elim
  | some o =>
   rw [hoi] at hp
   have hgl : HasGl.ok P h.m:=HasGl.mono h0.gl hsub.sub.m
   simp only [forceL_eq] at hp
   have hH : Agree L h ⟨n,kk,env,hideL (chs.headD []) 0 own⟩ a:=⟨ha.size,ha.env,ha.defers⟩
   have hmH : Mem (mineOf may w0) L F h (hideL (chs.headD []) 0 own) w :=
    ⟨by rw [hideL_len];exact hm.hn,hm.hsub,fun i ob hi=>hm.obs i ob ((hideL_get (chs.headD []) own 0 i ob).1 hi).1,fun i ob b hi=>hm.foot i ob b ((hideL_get (chs.headD []) own 0 i ob).1 hi).1,
     fun i j oi oj b hi hj=>hm.dis i j oi oj b ((hideL_get (chs.headD []) own 0 i oi).1 hi).1 ((hideL_get (chs.headD []) own 0 j oj).1 hj).1⟩
   have hC : ∀ w',Keep (footOf F (onlyL (chs.headD []) 0 own)) w w'→Same F (hideL (chs.headD []) 0 own) h w w':=fun w' hw' b hb=>by
    have hmayF : footOf F (onlyL (chs.headD []) 0 own) b→∃ i ob,own[i]? = some (some ob)∧(chs.headD []).contains i = true∧F i b:=fun ⟨i,ob,hi,hb⟩=>by
     have:=(onlyL_get (chs.headD []) own 0 i ob).1 hi
     rw [Nat.zero_add] at this
     exact ⟨i,ob,this.1,this.2,hb⟩
    rcases hb with hb | ⟨i,ob,hi,hb⟩
    ·cases ho : h.m b with
     | none=>exact absurd ho hb
     | some o =>
      refine hw'.block b (Array.getElem?_eq_some_iff.1 (hm.hsub b o ho)).1 (fun hmb=>?_)
      obtain ⟨j,oj,h1,_,h3⟩:=hmayF hmb
      exact hb (hm.foot j oj b h1 h3).2.1
    ·have h1:=(hideL_get (chs.headD []) own 0 i ob).1 hi
     rw [Nat.zero_add] at h1
     refine hw'.block b (hm.foot i ob b h1.1 hb).1 (fun hmb=>?_)
     obtain ⟨j,oj,g1,g2,g3⟩:=hmayF hmb
     have:=hm.dis i j ob oj b h1.1 g1 hb g3
     subst this
     rw [h1.2] at g2;cases g2
   rcases guard_wanted hH hp with ⟨hw,hp⟩ | ⟨hw,hp⟩
   ·obtain ⟨av,v,h1,h2,h3⟩:=aop_ok hT hmH hH (o:=o) hp
    obtain ⟨⟨n',kk',env',own'⟩,k1,⟨k2,k2'⟩,k3⟩:=put_agree ha h2 h1
    simp only at k2 k2'
    subst k2 k2'
    exact ⟨o,v,hoi,.inl ⟨hw,fun w' hw'=>h3 w' (hC w' hw')⟩,schedQ_ok hT hF r chs n' _ env' _ _ w L F h k3 hm k1 hsub hnew hk⟩
   ·obtain ⟨⟨n',kk',env',own'⟩,k1,⟨k2,k2'⟩,k3⟩:=put_agree ha (av:=.tup []) (v:=undef) tup_nil hp
    simp only at k2 k2'
    subst k2 k2'
    exact ⟨o,undef,hoi,.inr ⟨hw,rfl⟩,schedQ_ok hT hF r chs n' _ env' _ _ w L F h k3 hm k1 hsub hnew hk⟩
 | .ef i r,chs,n,kk,env,own,a,w,L,F,h,hp,hm,ha,hsub,hnew,hk=>by
  rw [schedQ_f] at hp
  cases hoi : ops[i]? with
  | none=>rw [hoi] at hp;exact hp.elim
  | some o =>
   rw [hoi] at hp
   have hgl : HasGl.ok P h.m:=HasGl.mono h0.gl hsub.sub.m
   simp only [forceL_eq] at hp
   have hE : Agree L h ⟨n,own.length,env,onlyL (chs.headD []) 0 own⟩ a:=⟨ha.size,ha.env,ha.defers⟩
   have hmE : Mem (mineOf (footOf F (onlyL (chs.headD []) 0 own)) w) L F h (onlyL (chs.headD []) 0 own) w :=
    ⟨by rw [onlyL_len];exact hm.hn,hm.hsub,fun i ob hi=>hm.obs i ob ((onlyL_get (chs.headD []) own 0 i ob).1 hi).1,fun i ob b hi hb=>⟨(hm.foot i ob b ((onlyL_get (chs.headD []) own 0 i ob).1 hi).1 hb).1,(hm.foot i ob b ((onlyL_get (chs.headD []) own 0 i ob).1 hi).1 hb).2.1,.inl ⟨i,ob,hi,hb⟩⟩,
     fun i j oi oj b hi hj=>hm.dis i j oi oj b ((onlyL_get (chs.headD []) own 0 i oi).1 hi).1 ((onlyL_get (chs.headD []) own 0 j oj).1 hj).1⟩
   have hsatE : Sat (footOf F (onlyL (chs.headD []) 0 own)) w (⟨h,L,hgl⟩ : Base P) ⟨n,own.length,env,onlyL (chs.headD []) 0 own⟩ a w :=
    ⟨⟨L,F,h,hmE,hE,⟨Sub.refl h,fun i hi=>rfl,hm.hn.symm⟩,fun k hk=>.inl hk⟩,Keep.refl _ _⟩
   show Go.wpOp P ops Q i _ a w
   unfold Go.wpOp
   simp only [hoi]
   rcases guard_wanted hE hp with ⟨hw,hp⟩ | ⟨hw,hp⟩
   ·rw [if_pos hw]
    refine .inl (Oper.wp_mono (fun a' w' h2=>?_) (step_ok (Q:=Q) hT hF hp hsatE))
    obtain ⟨⟨n2,kk2,env2,own2⟩,hs2,hp2⟩:=h2
    obtain ⟨L2,F3,h2,m1,m2,m3,m4,m5,m6⟩:=merge_ok hm hk hsub hnew hs2
    exact ⟨_,fun x hx=>m6 x (keep_nar (narC_sub chs) hx),Keep.refl _ _,schedQ_ok hT hF r (narC chs) n2 kk env2 _ a' w' L2 F3 h2 hp2 m1 m2 m3 m4 m5⟩
   ·rw [if_neg (by rw [hw];simp)]
    obtain ⟨⟨n',kk',env',own'⟩,k1,⟨k2,k2'⟩,k3⟩:=put_agree ha (av:=.tup []) (v:=undef) tup_nil hp
    simp only at k2 k2'
    subst k2 k2'
    exact ⟨_,fun x hx=>keep_nar (narC_sub chs) hx,Keep.refl _ _,schedQ_ok hT hF r (narC chs) n' _ env' _ _ w L F h k3 hm k1 hsub hnew hk⟩
 | .alt x y,chs,n,kk,env,own,a,w,L,F,h,hp,hm,ha,hsub,hnew,hk=>⟨schedQ_ok hT hF x chs n kk env own a w L F h hp.1 hm ha hsub hnew hk,schedQ_ok hT hF y chs n kk env own a w L F h hp.2 hm ha hsub hnew hk⟩
theorem drawV_nar [HasGl P] (l : Sch) (chs : List (List Nat)) {id : Nat} {K : St→Prop} {st : St} (hmx : P.follows .mixedOrders = true) (hB : schB ops l = true) (hT : TTok P T) (hF : FTok P FF)
  (hp : schedQ P T FF ops l chs st K) : DrawV P id ops K st:=by
 refine ⟨fun may w0 h0 a w hs=>?_⟩
 obtain ⟨n,kk,env,own⟩:=st
 obtain ⟨⟨L,F,h,hm,ha,hsub,hnew⟩,hk⟩:=hs
 have hk0 : Keep may w0 { w with drawn:=w.drawn + 1 }:=⟨hk.os,hk.tape,hk.output,hk.size,hk.block⟩
 have hm0 : Mem (mineOf may w0) L F h own { w with drawn:=w.drawn + 1 }:=mem_same hm (fun b _=>rfl) (Nat.le_refl _)
 refine wp_region_sched (l:=l) (C:=Keep (footOf F (onlyL (chs.headD []) 0 own)) { w with drawn:=w.drawn + 1 }) hmx hB (fun d v c a w h=>by cases h.1) (Keep.refl _ _) ?_
 have:=schedQ_ok (Q:=fun e a' w'=>e = .normal∧∃ st',Sat may w0 h0 st' a' w'∧K st') (ops:=ops) hT hF l chs n kk env own a _ L F h hp hm0 ha hsub hnew hk0
 exact wpS_mono (fun a' w' h1=>⟨rfl,h1⟩) l _ a _ this
end
end Go.Eng
