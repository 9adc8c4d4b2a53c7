/- A part of the proof. -/
import Derived.Test.YteglopjljejjkacGreatDoorGBDcBTBPndD
set_option linter.unusedVariables false
set_option linter.unusedSimpArgs false
set_option maxRecDepth 100000
set_option maxHeartbeats 4000000
namespace Go.Eng
open Go Go.RowKit Go.Proofs
def raI (D : DF) (hs : HS) (gs : List I2) (B : List IC) (L : List It) (T : Option (List It)) (n : Nat) (st : St) : Prop:=∃ (j : Nat) (out : List It),n = L.length - j∧j≤L.length∧out.length≤j∧freG (knO hs D.w) D.cl (L.drop j) out = T ∧
 st = ⟨206,3,[(0,.c (.own 0 0)),(6,.c (.own 3 0)),(8,itS L),(9,.c (.row 4)),(10,vci .i64 (j : Int))],dOwn D hs gs ++ [some (.cells 58 B),some (.row 144 7 out.length (itR out))]⟩
def rbD (D : DF) (hs : HS) (gs : List I2) (gn : List Sp) (l0 : List It) (n : Nat) (st : St) : Prop:=∃ (j : Nat) (G : I2→Bool),n = l0.length - j∧j≤l0.length∧GI (adsH hs (l0.take j)) G gs∧(∀ a,hasI (adsH hs (l0.take j)) a→G a = true→hsB gn a = true) ∧
 st = ⟨206,3,[(0,.c (.own 0 0)),(13,itS l0),(16,spS gn),(18,vci .i64 (j : Int))],dOwn2 D (adsH hs (l0.take j)) gs⟩
def rcD (D : DF) (hs : HS) (gs : List I2) (gn : List Sp) (n : Nat) (st : St) : Prop:=∃ (j : Nat) (G : I2→Bool) (gs2 : List I2),n = (itsH hs).length - j∧j≤(itsH hs).length∧GI hs G gs2∧gs2.length≤gs.length + j∧(∀ a,hasI hs a→G a = true→hsB gn a = true)∧(∀ i,i < j→hsB gn ((itsH hs).getD i it0).id = true→G ((itsH hs).getD i it0).id = true) ∧
 st = ⟨206,3,[(0,.c (.own 0 0)),(16,spS gn),(19,vci .i64 (j : Int))],dOwn2 D hs gs2⟩
def rApplyV (c lim : Int) (v : CV) (w : List It) (g : List Sp) (n : Nat) (hs : HS) (gs : List I2) (gn : List Sp) (F : Option (List It)) (T : List It × List It × CV) (r : AV) (own' : List (Option Ob)) : Prop:=match F with
 | none=>own' = dOwn2 ⟨c,lim,v,w,g,(n : Int),false⟩ hs gs∧r = .tup [vci .i64 0,vci .i64 2]
 | some m=>(1000 < T.2.1.length∧own' = dOwn2 ⟨c,lim,v,w,g,(n : Int),false⟩ hs gs∧r = .tup [vci .i64 0,vci .i64 5]) ∨
  (¬ 1000 < T.2.1.length∧∃ gs2,GI (adsH hs T.1) (hsB gn) gs2∧gs2.length≤gs.length + (hs.length + T.1.length) ∧
   own' = dOwn2 ⟨c,lim,T.2.2,T.2.1,gn,((if apC m g gn T = true then n + 1 else n : Nat) : Int),false⟩ (adsH hs T.1) gs2∧r = .tup [vci .i64 ((if apC m g gn T = true then n + 1 else n : Nat) : Int),vci .i64 0])
theorem rApply_c {hs : HS} {gs : List I2} (c lim : Int) (v : CV) (w : List It) (g : List Sp) (n : Nat) (hn : n≤1000) (W : VH v hs) (hv : v.length≤50000) (hg : canon g) (hgln : g.length≤450000) (hw : w.length≤1000) (hwg : ∀ x,x ∈ w→itG x) (hwd : w.Pairwise fun x y=>x.id≠y.id) (I : GI hs (hsB g) gs) (ho : okH hs) (hb : bldH hs) (hlen : hs.length≤13000) (hgl : gs.length≤900000) (b : List UInt8) (hbl : b.length≤900) :
  CallV Tryz.prog 50 [.c (.own 0 0),bS b] (dOwn ⟨c,lim,v,w,g,(n : Int),false⟩ hs gs) (fun r own' =>
   (¬ isB b∧own' = dOwn2 ⟨c,lim,v,w,g,(n : Int),false⟩ hs gs∧r = .tup [vci .i64 0,vci .i64 2]) ∨
   (isB b∧∃ T : List It × List It × CV,(∀ m,freG (knO hs w) c (itemsR (getS b).1.runs) [] = some m→∃ ys : List It,ys.Perm (w ++ m)∧nsI ys∧T = takeL ys.length v ys) ∧
    rApplyV c lim v w g n hs gs (setL (g ++ (getS b).1.dels)) (freG (knO hs w) c (itemsR (getS b).1.runs) []) T r own')):=by
 obtain ⟨k1,k2,k3,k4,_⟩:=getS_ok (b:=b) (by omega)
 obtain ⟨x,hx⟩ : ∃ x,(getS b).1 = x:=⟨_,rfl⟩
 have hbg:=rgetb_c b (by omega)
 rw [hx] at k1 k2 k3 k4 hbg ⊢
 obtain ⟨D,hD⟩ : ∃ D : DF,D = ⟨c,lim,v,w,g,(n : Int),false⟩:=⟨_,rfl⟩
 refine callV_own Tryz.func50 rfl ttok ftok rfl rfl rfl (Nat.le_of_ble_eq_true rfl) rfl ?_
 conv=>whnf
 refine call_pure hbg rfl ?_
 rintro _ (⟨hB,rfl⟩ | ⟨hB,rfl⟩)
 rotate_left
 ·conv=>whnf
  refine ⟨_,Weak.refl _,?_⟩
  conv=>whnf
  exact ⟨[some 0,none,none,some 1,some 2],rfl,rfl,.inl ⟨hB,rfl,rfl⟩⟩
 have hmay : mayB x:=by rw [←hx];exact hB.2.2
 have hcd : canon x.dels:=mayS_canon.1 hmay.2.1
 have hit:=batch_items hmay k1
 have hris:=batch_ris hmay
 conv=>whnf
 refine call_pure (ritems_c x.runs (by omega) (fun r h=>⟨k1 r h,may_chars (hmay.1 r h)⟩)) rfl ?_
 rintro _ rfl
 obtain ⟨L,hL⟩ : ∃ L,itemsR x.runs = L:=⟨_,rfl⟩
 rw [hL] at k4 hit hris ⊢
 obtain ⟨F,hF⟩ : ∃ F,freG (knO hs w) c L [] = F:=⟨_,rfl⟩
 rw [hF]
 conv=>whnf
 refine loopV ttok ftok (raI ⟨c,lim,v,w,g,(n : Int),false⟩ hs gs (baF x) L F) ((nil_row 9 144 7 (itR []) rfl).trans (norm_weak [0,6,8,9,10] [some 0,some 1,some 2,some 3,some 4] rfl rfl)) ⟨0,[],rfl,Nat.zero_le _,Nat.le_refl _,hF,rfl⟩ ?_
 rintro q st ⟨j,out,rfl,hj,hol,hFj,rfl⟩
 have e1:=e64 (k:=j) (by omega)
 conv=>whnf
 refine onB_intro (fun h=>?_) (fun h=>?_)
 ·have h:=of_decide_eq_true h
  have hjl : j < L.length:=by omega
  have hd:=drop_getD (d:=it0) hjl
  rw [hd] at hFj
  conv=>whnf
  refine ⟨by omega,?_⟩
  conv=>whnf
  rw [ti_nat]
  obtain ⟨i,hi⟩ : ∃ i,L.getD j it0 = i:=⟨_,rfl⟩
  rw [hi] at hFj ⊢
  refine call_frame2 [some 0,some 1,some 2] rfl rfl rfl rfl (rknown_cD ho ⟨c,lim,v,w,g,(n : Int),false⟩ gs (by omega) (by show w.length≤_;omega) i.id) ?_
  rintro r own2 ⟨rfl,rfl⟩
  cases hk : knO hs w i.id with
  | some y =>
   rw [freG_s hk] at hFj
   refine ⟨_,_,rfl,rfl,?_⟩
   conv=>whnf
   refine drawV_quiet mixed (by kernel_rfl) ttok ftok ?_
   conv=>whnf
   refine ⟨by omega,?_⟩
   conv=>whnf
   rw [ti_nat,hi,it_eqB y i]
   by_cases e : y = i
   ·rw [decide_eq_true e]
    rw [if_pos e] at hFj
    conv=>whnf
    rw [e1]
    exact ⟨L.length - (j + 1),_,by omega,norm_weak [0,6,8,9,10] [some 0,some 1,some 2,some 3,some 4] rfl rfl,j + 1,out,rfl,by omega,by omega,hFj,rfl⟩
   ·rw [decide_eq_false e]
    rw [if_neg e] at hFj
    subst hFj
    conv=>whnf
    refine ⟨_,Weak.refl _,?_⟩
    conv=>whnf
    exact ⟨[some 0,none,none,some 1,some 2],rfl,rfl,.inr ⟨hB,([],[],[]),fun m h=>(by cases h),rfl,rfl⟩⟩
  | none =>
   rw [freG_n hk] at hFj
   refine ⟨_,_,rfl,rfl,?_⟩
   conv=>whnf
   refine drawV_quiet mixed (by kernel_rfl) ttok ftok ?_
   conv=>whnf
   refine ⟨by omega,?_⟩
   conv=>whnf
   rw [ti_nat,hi]
   by_cases e : i.id.1 = c
   ·rw [beq_iff_eq.2 e]
    rw [if_pos e] at hFj
    subst hFj
    conv=>whnf
    refine ⟨_,Weak.refl _,?_⟩
    conv=>whnf
    exact ⟨[some 0,none,none,some 1,some 2],rfl,rfl,.inr ⟨hB,([],[],[]),fun m h=>(by cases h),rfl,rfl⟩⟩
   ·rw [beq_eq_false_iff_ne.2 e]
    rw [if_neg e] at hFj
    conv=>whnf
    refine ⟨by omega,?_⟩
    conv=>whnf
    rw [ti_nat,hi]
    refine ⟨fun _=>itF i,fun q hq=>?_,?_⟩
    ·obtain rfl : q = 0:=by omega
     rfl
    conv=>whnf
    refine ⟨⟨by omega,by show (out.length + 1) * 28≤_;omega⟩,?_⟩
    conv=>whnf
    refine app1 (enc:=itF) (d:=it0) (l:=out) i (fun k hk=>rfl) rfl ?_
    conv=>whnf
    rw [e1]
    exact ⟨L.length - (j + 1),_,by omega,norm_weak [0,6,8,9,10] [some 0,some 1,some 2,some 3,some 7] rfl rfl,j + 1,out ++ [i],rfl,by omega,by rw [List.length_append,List.length_singleton];omega,hFj,rfl⟩
 ·have h:=of_decide_eq_false h
  obtain rfl : j = L.length:=by omega
  rw [List.drop_length] at hFj
  obtain ⟨m,rfl⟩ : ∃ m,m = out:=⟨_,rfl⟩
  have hFj : some m = F:=hFj
  subst hFj
  conv=>whnf
  refine drawV_frz [4] ?_
  refine ⟨fun _ _=>rfl,?_⟩
  conv=>whnf
  obtain ⟨hdis,hsub⟩:=fre_dis hwd hris hF
  have hml:=hsub.length_le
  have hmg : ∀ y,y ∈ m→itG y:=fun y hy=>hit y (hsub.subset hy)
  have hwm : ∀ y,y ∈ w ++ m→itG y:=fun y hy=>(List.mem_append.1 hy).elim (hwg y) (hmg y)
  refine drawV_cut_L (fun S=>∃ T : List It × List It × CV,(∃ ys : List It,ys.Perm (w ++ m)∧nsI ys∧T = takeL ys.length v ys) ∧
   S = ⟨206,3,[(0,.c (.own 0 0)),(6,.c (.own 3 0)),(9,itS m),(13,itS T.1),(14,itS T.2.1),(15,ckS_V T.2.2)],dOwn ⟨c,lim,v,w,g,(n : Int),false⟩ hs gs ++ [some (.cells 58 (baF x))]⟩) ?_ ?_
  ·refine drawV_sched (.rd 0 (.rd 1 (.rd 2 (.rd 3 (.rd 5 (.rd 6 (.rd 7 (.rd 8 (.rd 10 (.ef 4 (.ef 9 (.ef 11 (.ef 12 (.rd 13 (.rd 14 (.rd 15 (.rd 16 (.rd 17 (.rd 18 (.rd 19 (.nil))))))))))))))))))))) [5,6,7] mixed (by kernel_rfl) ttok ftok ?_
   conv=>whnf
   refine ⟨⟨by show 0 + w.length≤_;omega,by show (0 + w.length) * 28≤_;omega⟩,?_⟩
   conv=>whnf
   refine app_list (enc:=itF) (d:=it0) (l:=[]) (b:=w) (fun k hk=>by cases hk) (fun k hk=>rfl) ?_
   conv=>whnf
   refine ⟨⟨by show w.length + m.length≤_;omega,by show (w.length + m.length) * 28≤_;omega⟩,?_⟩
   conv=>whnf
   refine app_list (enc:=itF) (d:=it0) (l:=w) (b:=m) (fun k hk=>rfl) (fun k hk=>rfl) ?_
   conv=>whnf
   refine ⟨fun _ _=>rfl,?_⟩
   conv=>whnf
   refine call_pure (rtake_c v (w ++ m) (by omega) (by rw [List.length_append];omega) W.may (fun y hy=>(hwm y hy).cl)) rfl ?_
   rintro _ ⟨ys,hys,hns,rfl⟩
   conv=>whnf
   exact ⟨_,norm_weak [0,6,9,13,14,15] [some 0,some 1,some 2,some 3] rfl rfl,takeL ys.length v ys,⟨ys,hys,hns,rfl⟩,rfl⟩
  rintro S ⟨⟨T1,T2,T3⟩,⟨ys,hys,hns,hT⟩,rfl⟩
  have hgy : ∀ y,y ∈ ys→itG y:=fun y hy=>hwm y (hys.subset hy)
  have hyl : ys.length = w.length + m.length:=by rw [hys.length_eq,List.length_append]
  have hS:=takeL_ok ys.length v ys (Nat.le_refl _)
  rw [←hT] at hS
  have hTl : T1.length + T2.length = ys.length:=by rw [←hS.perm.length_eq,List.length_append]
  have hT1g : ∀ y,y ∈ T1→itG y:=fun y hy=>hgy y (hS.perm.subset (List.mem_append_left _ hy))
  obtain ⟨hVH,hoks⟩:=Tk_okA T1 v T3 hs W hS.run hT1g
  conv=>whnf
  by_cases hbig : 1000 < T2.length
  ·rw [decide_eq_true (by omega : (T2.length : Int) > 1000)]
   conv=>whnf
   refine ⟨_,Weak.refl _,?_⟩
   conv=>whnf
   exact ⟨[some 0,none,none,some 1,some 2],rfl,rfl,.inr ⟨hB,(T1,T2,T3),fun m2 h=>(by cases h;exact ⟨ys,hys,hns,hT⟩),.inl ⟨hbig,rfl,rfl⟩⟩⟩
  rw [decide_eq_false (by omega : ¬ (T2.length : Int) > 1000)]
  have hgnl:=set_len (g ++ x.dels)
  rw [List.length_append] at hgnl
  have hP0 : GP hs (hsB g) (setL (g ++ x.dels)) x.dels:=GP.start hg hcd
  have hso:=setof_c (g ++ x.dels) (by rw [List.length_append];omega)
  generalize hgn : setL (g ++ x.dels) = gn at hgnl hP0 hso
  conv=>whnf
  refine drawV_at ⟨206,3,[(0,.c (.own 0 0)),(9,itS m),(13,itS T1),(14,itS T2),(15,ckS_V T3),(16,spS gn)],dOwn ⟨c,lim,v,w,g,(n : Int),false⟩ hs gs⟩ ?_ ?_
  ·refine drawV_sched (.rd 1 (.rd 2 (.rd 3 (.rd 4 (.rd 6 (.rd 7 (.ef 0 (.ef 5 (.ef 8 (.ef 9 (.rd 10 (.nil)))))))))))) [4,5,6] mixed (by kernel_rfl) ttok ftok ?_
   conv=>whnf
   refine ⟨⟨by show 0 + g.length≤_;omega,by show (0 + g.length) * 12≤_;omega⟩,?_⟩
   conv=>whnf
   refine app_list (enc:=spF) (d:=sp0) (l:=[]) (b:=g) (fun k hk=>by cases hk) (fun k hk=>rfl) ?_
   conv=>whnf
   refine ⟨⟨by show g.length + x.dels.length≤_;omega,by show (g.length + x.dels.length) * 12≤_;omega⟩,?_⟩
   conv=>whnf
   refine app_list (enc:=spF) (d:=sp0) (l:=g) (b:=x.dels) (fun k hk=>rfl) (fun k hk=>rfl) ?_
   conv=>whnf
   refine ⟨fun _ _=>rfl,?_⟩
   conv=>whnf
   refine call_pure hso rfl ?_
   rintro _ rfl
   conv=>whnf
   exact norm_weak [0,9,13,14,15,16] [some 0,some 1,some 2] rfl rfl
  conv=>whnf
  refine call_pure ((sameset_c gn g (by omega) (by omega)).mono (fun r o h=>(⟨h.1,h.2.elim (fun h=>⟨true,⟨fun _=>h.1,fun _=>rfl⟩,h.2⟩) (fun h=>⟨false,⟨fun e=>(by cases e),fun e=>absurd e h.1⟩,h.2⟩)⟩ : o = []∧∃ q : Bool,(q = true↔gn = g)∧r = vcb q))) rfl ?_
  rintro _ ⟨q,hq,rfl⟩
  conv=>whnf
  have hqn : q = false↔gn≠g:=by
   cases q with
   | true=>exact ⟨fun h=>(by cases h),fun h=>absurd (hq.1 rfl) h⟩
   | false=>exact ⟨fun _ e=>(by have:=hq.2 e;cases this),fun _=>rfl⟩
  have hcb : ((decide ((m.length : Int) > 0) || decide ((T1.length : Int) > 0)) || !q) = apC m g gn (T1,T2,T3):=by
   unfold apC
   rw [Bool.eq_iff_iff,decide_eq_true_iff]
   simp only [Bool.or_eq_true,decide_eq_true_eq,Bool.not_eq_true',hqn]
   constructor
   ·rintro ((h | h) | h)
    ·exact .inl (by omega)
    ·exact .inr (.inr (show 0 < T1.length by omega))
    ·exact .inr (.inl h)
   ·rintro (h | h | h)
    ·exact .inl (.inl (by omega))
    ·exact .inr h
    ·have h : 0 < T1.length:=h
     exact .inl (.inr (by omega))
  have e2:=e64 (k:=n) (by omega)
  refine onB_intro (fun h=>?_) (fun h=>?_)
  ·have hc : apC m g gn (T1,T2,T3) = true:=hcb.symm.trans h
   conv=>whnf
   rw [e2]
   refine loopV ttok ftok (rbD ⟨c,lim,T3,T2,gn,(((n + 1) : Nat) : Int),false⟩ hs gs gn T1) (norm_weak [0,13,16,18] [some 0,none,none,some 1,some 2] rfl rfl) ⟨0,hsB g,rfl,Nat.zero_le _,I,fun a ha h=>(hP0 a ha).1 h,rfl⟩ ?_
   rintro q2 st ⟨j,G,rfl,hj,I2,hG2,rfl⟩
   have e1:=e64 (k:=j) (by omega)
   have hal:=adsH_len (T1.take j) hs
   rw [List.length_take] at hal
   conv=>whnf
   refine onB_intro (fun h=>?_) (fun h=>?_)
   ·have h:=of_decide_eq_true h
    have hjl : j < T1.length:=by omega
    have hokj:=hoks j hjl
    have hsn:=adsH_snoc hs T1 (j:=j) hjl
    conv=>whnf
    refine drawV_mix 7 mixed (by kernel_rfl) ttok ftok ?_
    conv=>whnf
    refine ⟨by omega,?_⟩
    conv=>whnf
    rw [ti_nat]
    generalize T1.getD j it0 = y at hokj hsn
    have I3:=I2.add hokj.new false
    have hG3 : ∀ a,hasI (adH (adsH hs (T1.take j)) y) a→updG G y.id false a = true→hsB gn a = true:=fun a ha hg=>by
     unfold updG at hg
     split at hg
     ·cases hg
     ·rename_i hne
      exact hG2 a ((hasI_cons_iff.1 ha).resolve_left (fun e=>hne e.symm)) hg
    rw [←hsn] at I3 hG3
    refine call_frame2 [some 0,some 3,some 4] rfl rfl rfl rfl (radd_lD ⟨c,lim,T3,T2,gn,(((n + 1) : Nat) : Int),false⟩ (adsH hs (T1.take j)) gs (by omega) (by omega) y false hokj) ?_
    rintro r own2 ⟨rfl,rfl⟩
    refine ⟨_,_,rfl,rfl,?_⟩
    conv=>whnf
    rw [e1]
    refine ⟨T1.length - (j + 1),_,by omega,norm_weak [0,13,16,18] [some 0,none,none,some 5,some 4] rfl rfl,j + 1,_,rfl,by omega,I3,hG3,?_⟩
    rw [hsn]
    rfl
   have h:=of_decide_eq_false h
   obtain rfl : j = T1.length:=by omega
   rw [List.take_length] at I2 hG2 hal
   rw [List.take_length]
   obtain ⟨hs2,hhs2⟩ : ∃ hs2,adsH hs T1 = hs2:=⟨_,rfl⟩
   rw [hhs2] at I2 hG2 hal ⊢
   have hil:=itsH_len hs2
   conv=>whnf
   refine loopV ttok ftok (rcD ⟨c,lim,T3,T2,gn,(((n + 1) : Nat) : Int),false⟩ hs2 gs gn) (norm_weak [0,16,19] [some 0,none,none,some 3,some 4] rfl rfl) ⟨0,G,gs,rfl,Nat.zero_le _,I2,Nat.le_refl _,hG2,fun i hi=>by omega,rfl⟩ ?_
   rintro q2 st ⟨j,Gk,gs2,rfl,hj,I3,hgl3,hG3,hC,rfl⟩
   have e3:=e64 (k:=j) (by omega)
   conv=>whnf
   refine onB_intro (fun h=>?_) (fun h=>?_)
   ·have h:=of_decide_eq_true h
    have hjl : j < (itsH hs2).length:=by omega
    have hmem:=its_at (hs:=hs2) (i:=j) (by omega)
    obtain ⟨y,hy⟩ : ∃ y,(itsH hs2).getD j it0 = y:=⟨_,rfl⟩
    rw [hy] at hmem
    have hyi : hasI hs2 y.id:=⟨_,hmem,rfl⟩
    conv=>whnf
    refine ⟨by omega,?_⟩
    conv=>whnf
    rw [ti_nat,hy]
    refine call_pure ((hasBr_c gn (by omega) y.id).mono (fun r o h=>(⟨h.1,_,rfl,h.2⟩ : o = []∧∃ b,hsB gn y.id = b∧r = vcb b))) rfl ?_
    rintro _ ⟨b2,hbd,rfl⟩
    cases b2 with
    | false =>
     conv=>whnf
     rw [e3]
     refine ⟨(itsH hs2).length - (j + 1),_,by omega,norm_weak [0,16,19] [some 0,none,none,some 3,some 4] rfl rfl,j + 1,Gk,gs2,rfl,by omega,I3,by omega,hG3,fun i hi hd=>?_,rfl⟩
     rcases Nat.lt_succ_iff_lt_or_eq.1 hi with h3 | rfl
     ·exact hC i h3 hd
     ·rw [hy] at hd;rw [hd] at hbd;cases hbd
    | true =>
     conv=>whnf
     refine drawV_mix 12 mixed (by kernel_rfl) ttok ftok ?_
     conv=>whnf
     refine ⟨by omega,?_⟩
     conv=>whnf
     rw [ti_nat,hy]
     refine call_frame2 [some 0,some 3,some 4] rfl rfl rfl rfl (rdel_lD ⟨c,lim,T3,T2,gn,(((n + 1) : Nat) : Int),false⟩ hs2 gs2 (by omega) (by omega) y.id hyi) ?_
     rintro r own2 ⟨rfl,rfl⟩
     refine ⟨_,_,rfl,rfl,?_⟩
     conv=>whnf
     rw [e3]
     refine ⟨(itsH hs2).length - (j + 1),_,by omega,norm_weak [0,16,19] [some 0,none,none,some 3,some 5] rfl rfl,j + 1,updG Gk y.id true,gs2 ++ [y.id],rfl,by omega,I3.del hyi,by rw [List.length_append,List.length_singleton];omega,fun a ha hg=>?_,fun i hi hd=>?_,rfl⟩
     ·unfold updG at hg
      split at hg
      ·rename_i e;rw [e];exact hbd
      ·exact hG3 a ha hg
     ·unfold updG
      split
      ·rfl
      ·rename_i hne
       rcases Nat.lt_succ_iff_lt_or_eq.1 hi with h3 | rfl
       ·exact hC i h3 hd
       ·exact absurd (by rw [hy]) hne
   have h:=of_decide_eq_false h
   obtain rfl : j = (itsH hs2).length:=by omega
   have I4 : GI hs2 (hsB gn) gs2:=I3.congr (fun a ha=>by
    rw [Bool.eq_iff_iff]
    refine ⟨hG3 a ha,fun hg=>?_⟩
    obtain ⟨⟨z,zh⟩,hz,rfl⟩:=ha
    obtain ⟨i,h1,h2,_⟩:=its_ex hz
    have:=hC i (by omega)
    rw [h2] at this
    exact this hg)
   conv=>whnf
   refine ⟨_,Weak.refl _,?_⟩
   conv=>whnf
   refine ⟨[some 0,none,none,some 3,some 4],rfl,rfl,.inr ⟨hB,(T1,T2,T3),fun m2 h=>(by cases h;exact ⟨ys,hys,hns,hT⟩),.inr ⟨hbig,gs2,?_,?_,?_⟩⟩⟩
   ·show GI (adsH hs T1) (hsB gn) gs2
    rw [hhs2];exact I4
   ·show gs2.length≤gs.length + (hs.length + T1.length)
    rw [Nat.min_self] at hal
    omega
   ·rw [hc]
    show _ = dOwn2 _ (adsH hs T1) gs2∧_
    rw [hhs2]
    exact ⟨rfl,rfl⟩
  ·have hc : apC m g gn (T1,T2,T3) = false:=hcb.symm.trans h
   conv=>whnf
   refine loopV ttok ftok (rbD ⟨c,lim,T3,T2,gn,((n : Nat) : Int),false⟩ hs gs gn T1) (norm_weak [0,13,16,18] [some 0,none,none,some 1,some 2] rfl rfl) ⟨0,hsB g,rfl,Nat.zero_le _,I,fun a ha h=>(hP0 a ha).1 h,rfl⟩ ?_
   rintro q2 st ⟨j,G,rfl,hj,I2,hG2,rfl⟩
   have e1:=e64 (k:=j) (by omega)
   have hal:=adsH_len (T1.take j) hs
   rw [List.length_take] at hal
   conv=>whnf
   refine onB_intro (fun h=>?_) (fun h=>?_)
   ·have h:=of_decide_eq_true h
    have hjl : j < T1.length:=by omega
    have hokj:=hoks j hjl
    have hsn:=adsH_snoc hs T1 (j:=j) hjl
    conv=>whnf
    refine drawV_mix 7 mixed (by kernel_rfl) ttok ftok ?_
    conv=>whnf
    refine ⟨by omega,?_⟩
    conv=>whnf
    rw [ti_nat]
    generalize T1.getD j it0 = y at hokj hsn
    have I3:=I2.add hokj.new false
    have hG3 : ∀ a,hasI (adH (adsH hs (T1.take j)) y) a→updG G y.id false a = true→hsB gn a = true:=fun a ha hg=>by
     unfold updG at hg
     split at hg
     ·cases hg
     ·rename_i hne
      exact hG2 a ((hasI_cons_iff.1 ha).resolve_left (fun e=>hne e.symm)) hg
    rw [←hsn] at I3 hG3
    refine call_frame2 [some 0,some 3,some 4] rfl rfl rfl rfl (radd_lD ⟨c,lim,T3,T2,gn,((n : Nat) : Int),false⟩ (adsH hs (T1.take j)) gs (by omega) (by omega) y false hokj) ?_
    rintro r own2 ⟨rfl,rfl⟩
    refine ⟨_,_,rfl,rfl,?_⟩
    conv=>whnf
    rw [e1]
    refine ⟨T1.length - (j + 1),_,by omega,norm_weak [0,13,16,18] [some 0,none,none,some 5,some 4] rfl rfl,j + 1,_,rfl,by omega,I3,hG3,?_⟩
    rw [hsn]
    rfl
   have h:=of_decide_eq_false h
   obtain rfl : j = T1.length:=by omega
   rw [List.take_length] at I2 hG2 hal
   rw [List.take_length]
   obtain ⟨hs2,hhs2⟩ : ∃ hs2,adsH hs T1 = hs2:=⟨_,rfl⟩
   rw [hhs2] at I2 hG2 hal ⊢
   have hil:=itsH_len hs2
   conv=>whnf
   refine loopV ttok ftok (rcD ⟨c,lim,T3,T2,gn,((n : Nat) : Int),false⟩ hs2 gs gn) (norm_weak [0,16,19] [some 0,none,none,some 3,some 4] rfl rfl) ⟨0,G,gs,rfl,Nat.zero_le _,I2,Nat.le_refl _,hG2,fun i hi=>by omega,rfl⟩ ?_
   rintro q2 st ⟨j,Gk,gs2,rfl,hj,I3,hgl3,hG3,hC,rfl⟩
   have e3:=e64 (k:=j) (by omega)
   conv=>whnf
   refine onB_intro (fun h=>?_) (fun h=>?_)
   ·have h:=of_decide_eq_true h
    have hjl : j < (itsH hs2).length:=by omega
    have hmem:=its_at (hs:=hs2) (i:=j) (by omega)
    obtain ⟨y,hy⟩ : ∃ y,(itsH hs2).getD j it0 = y:=⟨_,rfl⟩
    rw [hy] at hmem
    have hyi : hasI hs2 y.id:=⟨_,hmem,rfl⟩
    conv=>whnf
    refine ⟨by omega,?_⟩
    conv=>whnf
    rw [ti_nat,hy]
    refine call_pure ((hasBr_c gn (by omega) y.id).mono (fun r o h=>(⟨h.1,_,rfl,h.2⟩ : o = []∧∃ b,hsB gn y.id = b∧r = vcb b))) rfl ?_
    rintro _ ⟨b2,hbd,rfl⟩
    cases b2 with
    | false =>
     conv=>whnf
     rw [e3]
     refine ⟨(itsH hs2).length - (j + 1),_,by omega,norm_weak [0,16,19] [some 0,none,none,some 3,some 4] rfl rfl,j + 1,Gk,gs2,rfl,by omega,I3,by omega,hG3,fun i hi hd=>?_,rfl⟩
     rcases Nat.lt_succ_iff_lt_or_eq.1 hi with h3 | rfl
     ·exact hC i h3 hd
     ·rw [hy] at hd;rw [hd] at hbd;cases hbd
    | true =>
     conv=>whnf
     refine drawV_mix 12 mixed (by kernel_rfl) ttok ftok ?_
     conv=>whnf
     refine ⟨by omega,?_⟩
     conv=>whnf
     rw [ti_nat,hy]
     refine call_frame2 [some 0,some 3,some 4] rfl rfl rfl rfl (rdel_lD ⟨c,lim,T3,T2,gn,((n : Nat) : Int),false⟩ hs2 gs2 (by omega) (by omega) y.id hyi) ?_
     rintro r own2 ⟨rfl,rfl⟩
     refine ⟨_,_,rfl,rfl,?_⟩
     conv=>whnf
     rw [e3]
     refine ⟨(itsH hs2).length - (j + 1),_,by omega,norm_weak [0,16,19] [some 0,none,none,some 3,some 5] rfl rfl,j + 1,updG Gk y.id true,gs2 ++ [y.id],rfl,by omega,I3.del hyi,by rw [List.length_append,List.length_singleton];omega,fun a ha hg=>?_,fun i hi hd=>?_,rfl⟩
     ·unfold updG at hg
      split at hg
      ·rename_i e;rw [e];exact hbd
      ·exact hG3 a ha hg
     ·unfold updG
      split
      ·rfl
      ·rename_i hne
       rcases Nat.lt_succ_iff_lt_or_eq.1 hi with h3 | rfl
       ·exact hC i h3 hd
       ·exact absurd (by rw [hy]) hne
   have h:=of_decide_eq_false h
   obtain rfl : j = (itsH hs2).length:=by omega
   have I4 : GI hs2 (hsB gn) gs2:=I3.congr (fun a ha=>by
    rw [Bool.eq_iff_iff]
    refine ⟨hG3 a ha,fun hg=>?_⟩
    obtain ⟨⟨z,zh⟩,hz,rfl⟩:=ha
    obtain ⟨i,h1,h2,_⟩:=its_ex hz
    have:=hC i (by omega)
    rw [h2] at this
    exact this hg)
   conv=>whnf
   refine ⟨_,Weak.refl _,?_⟩
   conv=>whnf
   refine ⟨[some 0,none,none,some 3,some 4],rfl,rfl,.inr ⟨hB,(T1,T2,T3),fun m2 h=>(by cases h;exact ⟨ys,hys,hns,hT⟩),.inr ⟨hbig,gs2,?_,?_,?_⟩⟩⟩
   ·show GI (adsH hs T1) (hsB gn) gs2
    rw [hhs2];exact I4
   ·show gs2.length≤gs.length + (hs.length + T1.length)
    rw [Nat.min_self] at hal
    omega
   ·rw [hc]
    show _ = dOwn2 _ (adsH hs T1) gs2∧_
    rw [hhs2]
    exact ⟨rfl,rfl⟩
end Go.Eng
namespace Go.Eng
open Go Go.RowKit Go.Proofs Go.Sort Go.Shelf Go.Lib
theorem itd_w (x y : It) (W : World) : Calls Tryz.prog 62 #[.agg (encIt x).toArray,.agg (encIt y).toArray] W fun e w'=>e = .returned (.int .i64 (if cmpI' x.id.1 y.id.1 = 0 then cmpI' x.id.2 y.id.2 else cmpI' x.id.1 y.id.1))∧∃ q os',w' = grow (W.drewN q) os':=by
 have e7 : ∀ args w,(callFunc 63 args).run Tryz.prog w = .ok (.enter 63 args) w:=enters_of Tryz.func63 (by kernel_rfl) rfl
 have mixed : Tryz.prog.follows .mixedOrders = true:=by kernel_rfl
 obtain ⟨⟨x1,x2⟩,⟨x3,x4⟩,⟨x5,x6⟩,x7⟩:=x
 obtain ⟨⟨y1,y2⟩,⟨y3,y4⟩,⟨y5,y6⟩,y7⟩:=y
 unfold encIt
 have hc:=fun W=>idc_w (x1,x2) (y1,y2) W
 simp only at hc ⊢
 obtain ⟨r,hr⟩ : ∃ r,(if cmpI' x1 y1 = 0 then cmpI' x2 y2 else cmpI' x1 y1) = r:=⟨_,rfl⟩
 rw [hr] at hc ⊢
 go_enter Tryz.func62,(show Tryz.f62.ntmps = 10 from rfl)
 go_wp2_with (go_at_fn 63;refine (hc _).mono ?_;rintro e w' ⟨rfl,q,os',hw⟩)
 go_ret
 refine ⟨rfl,q,?_⟩
 exact two_alloc W _ _ q os'
theorem item_sortD (l : List It) (hl : l.length≤1000000) : CallV Tryz.prog 61 [.c (.row 0),.c (.fn 62 [])] [some (.row 144 7 l.length (itR l))]
  (fun r own'=>∃ ys : List It,ys.Perm l∧ys.Pairwise (fun x y=>¬ ltI y.id x.id)∧r = .tup []∧own' = [some (.row 144 7 ys.length (itR ys))]):=by
 have h:=callV_sort (α:=It) Tryz.sortItem 7 (fun _=>by kernel_rfl) (fun _=>by kernel_rfl) encIt (fun _=>rfl) (fun x v hv=>by
   simp only [encIt,List.mem_cons,List.not_mem_nil,or_false] at hv
   rcases hv with rfl | rfl | rfl | rfl | rfl | rfl | rfl <;> rfl) _ (swo_lex (fun x : It=>x.id.1) (fun x : It=>x.id.2)) 62 (enters_of Tryz.func62 (by kernel_rfl) rfl) (fun x y W=>itd_w x y W) 144 l (by omega)
 refine CallV.mono h ?_
 rintro r own' ⟨ys,h1,h2,h3,h4⟩
 refine ⟨ys,h1,List.pairwise_iff_getElem.2 fun i j hi hj hij=>?_,h3,h4⟩
 have:=h2 i j hij hj
 rw [lt_lex,List.getD_eq_getElem?_getD,List.getD_eq_getElem?_getD,List.getElem?_eq_getElem hi,List.getElem?_eq_getElem hj] at this
 simp only [Option.getD_some,decide_eq_false_iff_not] at this
 exact this
def snO (hs : HS) (u : CV) (e : En) : Option It:=match itOf hs e.id with
 | some x=>if nxt u x.id.1≤x.id.2 then some x else none
 | none=>none
def snL (hs : HS) (u : CV) (l : List En) : List It:=l.filterMap (snO hs u)
theorem snL_snoc (hs : HS) (u : CV) {l : List En} {k : Nat} (hk : k < l.length) : snL hs u (l.take (k + 1)) = snL hs u (l.take k) ++ (match snO hs u (l.getD k en0) with | some x=>[x] | none=>[]):=by
 have e : l.take (k + 1) = l.take k ++ [l.getD k en0]:=by
  rw [List.getD_eq_getElem?_getD,List.getElem?_eq_getElem hk]
  exact (List.take_append_getElem hk).symm
 unfold snL
 rw [e,List.filterMap_append]
 congr 1
 rw [List.filterMap_cons,List.filterMap_nil]
 split <;> simp_all
theorem snL_len (hs : HS) (u : CV) (l : List En) : (snL hs u l).length≤l.length:=List.length_filterMap_le _ _
theorem snL_mem {hs : HS} {u : CV} {l : List En} {x : It} (h : x ∈ snL hs u l) : ∃ g,(x,g) ∈ hs:=by
 unfold snL at h
 rw [List.mem_filterMap] at h
 obtain ⟨e,_,h⟩:=h
 unfold snO at h
 split at h
 ·rename_i y hy
  split at h
  ·cases h;exact (itOf_some hy).2
  ·cases h
 ·cases h
def sncI (D : List IC) (u : CV) (hs : HS) (es : List En) (n : Nat) (st : St) : Prop:=∃ k : Nat,n = es.length - k∧k≤es.length ∧
 st = ⟨61,1,[(0,.c (.own 0 0)),(1,ckS_V u),(4,.c (.own 1 0)),(5,.c (.row 2)),(16,enS es),(17,vci .i64 es.length),(18,vci .i64 (k : Int))],
  [some (.cells 121 D),some (.cells 58 [.v (.slice none 0 0),.v (.slice none 0 0)]),some (.row 144 7 (snL hs u (es.take k)).length (itR (snL hs u (es.take k))))]⟩
theorem since_c {hs : HS} {G : I2→Bool} {cs : Ck} {l : List Nd} {N : Nat} (V : LV hs G cs l N) (hN : N≤20000) (v : CV) (w : List It) (g : List Sp) (hg : g.length≤1000000) (c lim ver : Int) (cd : Bool) (u : CV) (hu : mayV u) (hul : u.length≤1000000) (hok : ∀ x h,(x,h) ∈ hs→itOk x) :
  CallV Tryz.prog 25 [.c (.own 0 0),ckS_V u] [some (.cells 121 (dcF c lim cs l v w g ver cd))] (fun r own'=>own' = [some (.cells 121 (dcF c lim cs l v w g ver cd))]∧∃ ys : List It,ys.Perm (snL hs u cs.flatten)∧nsI ys∧r = .agg (baF ⟨ofK ys ys.length,g⟩)):=by
 have hck:=V.ck
 have hsm:=V.sum
 have hln:=V.len
 have hfl : cs.flatten.length = sumL cs:=rfl
 have hhas:=fun i (hi : i < cs.flatten.length)=>en_has V hi
 refine callV_own Tryz.func25 rfl ttok ftok rfl rfl rfl (Nat.le_of_ble_eq_true rfl) rfl ?_
 conv=>whnf
 refine call_pure (lindex_c cs l) rfl ?_
 rintro _ rfl
 conv=>whnf
 refine call_pure (all_c cs (by omega) (by omega)) rfl ?_
 rintro _ rfl
 obtain ⟨es,hes⟩ : ∃ es,cs.flatten = es:=⟨_,rfl⟩
 rw [hes] at hhas hfl ⊢
 conv=>whnf
 refine loopV ttok ftok (sncI (dcF c lim cs l v w g ver cd) u hs es) ((nil_row 5 144 7 (itR []) rfl).trans (norm_weak [0,1,4,5,16,17,18] [some 0,some 1,some 2] rfl rfl)) ⟨0,rfl,Nat.zero_le _,rfl⟩ ?_
 rintro q st ⟨k,rfl,hk,rfl⟩
 have e1:=e64 (k:=k) (by omega)
 conv=>whnf
 refine onB_intro (fun h=>?_) (fun h=>?_)
 ·have h:=of_decide_eq_true h
  have hkl : k < es.length:=by omega
  have hsn:=snL_snoc hs u hkl
  have hsl:=snL_len hs u (es.take k)
  rw [List.length_take] at hsl
  conv=>whnf
  refine ⟨⟨by omega,by omega⟩,?_⟩
  conv=>whnf
  rw [ti_nat]
  generalize es.getD k en0 = e at hsn
  obtain ⟨ea,ec,eg⟩:=e
  have hli:=litemO_c V.L cs ea
  refine drawV_sched (.rd 0 (.rd 1 (.rd 2 (.rd 3 (.rd 4 (.rd 5 (.rd 6 (.alt (.ef 7 (.rd 8 (.rd 9 (.rd 10 (.ef 11 (.ef 12 (.rd 13 (.nil)))))))) (.ef 11 (.ef 7 (.rd 8 (.rd 9 (.rd 10 (.ef 12 (.rd 13 (.nil)))))))))))))))) [4] mixed (by kernel_rfl) ttok ftok ?_
  conv=>whnf
  refine ⟨?_,?_⟩
  ·conv=>whnf
   refine call_pure hli rfl ?_
   rintro _ (⟨y,hy,rfl⟩ | ⟨hy,rfl⟩)
   ·have hya:=(itOf_some hy).1
    conv=>whnf
    refine drawV_sched (.rd 0 (.rd 1 (.rd 2 (.rd 3 (.rd 4 (.rd 5 (.rd 6 (.rd 7 (.rd 8 (.ef 9 (.rd 10 (.rd 11 (.nil))))))))))))) [] mixed (by kernel_rfl) ttok ftok ?_
    conv=>whnf
    refine call_pure (next_c u (by omega) hu.1 ea.1) rfl ?_
    rintro _ rfl
    conv=>whnf
    have hso : snO hs u ⟨ea,ec,eg⟩ = if nxt u y.id.1≤y.id.2 then some y else none:=by unfold snO;rw [show itOf hs (En.id ⟨ea,ec,eg⟩) = some y from hy]
    rw [hso] at hsn
    by_cases hge : ea.2 ≥ nxt u ea.1
    ·rw [decide_eq_true hge]
     rw [if_pos (by rw [hya];exact hge)] at hsn
     conv=>whnf
     refine ⟨fun _=>itF y,fun q hq=>?_,?_⟩
     ·obtain rfl : q = 0:=by omega
      rfl
     conv=>whnf
     refine ⟨⟨by omega,by show ((snL hs u (es.take k)).length + 1) * 28≤_;omega⟩,?_⟩
     conv=>whnf
     refine app1 (enc:=itF) (d:=it0) (l:=snL hs u (es.take k)) y (fun k hk=>rfl) rfl ?_
     conv=>whnf
     rw [e1]
     refine ⟨es.length - (k + 1),_,by omega,norm_weak [0,1,4,5,16,17,18] [some 0,some 1,some 6] rfl rfl,k + 1,rfl,by omega,?_⟩
     rw [hsn]
     rfl
    ·rw [decide_eq_false hge]
     rw [if_neg (by rw [hya];exact hge),List.append_nil] at hsn
     conv=>whnf
     rw [e1]
     refine ⟨es.length - (k + 1),_,by omega,norm_weak [0,1,4,5,16,17,18] [some 0,some 1,some 2] rfl rfl,k + 1,rfl,by omega,?_⟩
     rw [hsn]
     rfl
   ·rw [show snO hs u ⟨ea,ec,eg⟩ = none from by unfold snO;rw [show itOf hs (En.id ⟨ea,ec,eg⟩) = none from hy]] at hsn
    rw [List.append_nil] at hsn
    conv=>whnf
    refine drawV_quiet mixed (by kernel_rfl) ttok ftok ?_
    conv=>whnf
    rw [e1]
    refine ⟨es.length - (k + 1),_,by omega,norm_weak [0,1,4,5,16,17,18] [some 0,some 1,some 2] rfl rfl,k + 1,rfl,by omega,?_⟩
    rw [hsn]
    rfl
  ·conv=>whnf
   refine call_pure hli rfl ?_
   rintro _ (⟨y,hy,rfl⟩ | ⟨hy,rfl⟩)
   ·have hya:=(itOf_some hy).1
    conv=>whnf
    refine drawV_sched (.rd 0 (.rd 1 (.rd 2 (.rd 3 (.rd 4 (.rd 5 (.rd 6 (.rd 7 (.rd 8 (.ef 9 (.rd 10 (.rd 11 (.nil))))))))))))) [] mixed (by kernel_rfl) ttok ftok ?_
    conv=>whnf
    refine call_pure (next_c u (by omega) hu.1 ea.1) rfl ?_
    rintro _ rfl
    conv=>whnf
    have hso : snO hs u ⟨ea,ec,eg⟩ = if nxt u y.id.1≤y.id.2 then some y else none:=by unfold snO;rw [show itOf hs (En.id ⟨ea,ec,eg⟩) = some y from hy]
    rw [hso] at hsn
    by_cases hge : ea.2 ≥ nxt u ea.1
    ·rw [decide_eq_true hge]
     rw [if_pos (by rw [hya];exact hge)] at hsn
     conv=>whnf
     refine ⟨fun _=>itF y,fun q hq=>?_,?_⟩
     ·obtain rfl : q = 0:=by omega
      rfl
     conv=>whnf
     refine ⟨⟨by omega,by show ((snL hs u (es.take k)).length + 1) * 28≤_;omega⟩,?_⟩
     conv=>whnf
     refine app1 (enc:=itF) (d:=it0) (l:=snL hs u (es.take k)) y (fun k hk=>rfl) rfl ?_
     conv=>whnf
     rw [e1]
     refine ⟨es.length - (k + 1),_,by omega,norm_weak [0,1,4,5,16,17,18] [some 0,some 1,some 6] rfl rfl,k + 1,rfl,by omega,?_⟩
     rw [hsn]
     rfl
    ·rw [decide_eq_false hge]
     rw [if_neg (by rw [hya];exact hge),List.append_nil] at hsn
     conv=>whnf
     rw [e1]
     refine ⟨es.length - (k + 1),_,by omega,norm_weak [0,1,4,5,16,17,18] [some 0,some 1,some 2] rfl rfl,k + 1,rfl,by omega,?_⟩
     rw [hsn]
     rfl
   ·rw [show snO hs u ⟨ea,ec,eg⟩ = none from by unfold snO;rw [show itOf hs (En.id ⟨ea,ec,eg⟩) = none from hy]] at hsn
    rw [List.append_nil] at hsn
    conv=>whnf
    refine drawV_quiet mixed (by kernel_rfl) ttok ftok ?_
    conv=>whnf
    rw [e1]
    refine ⟨es.length - (k + 1),_,by omega,norm_weak [0,1,4,5,16,17,18] [some 0,some 1,some 2] rfl rfl,k + 1,rfl,by omega,?_⟩
    rw [hsn]
    rfl
 ·have h:=of_decide_eq_false h
  obtain rfl : k = es.length:=by omega
  rw [List.take_length]
  have hsl:=snL_len hs u es
  have hmem : ∀ x,x ∈ snL hs u es→itOk x:=fun x hx=>(snL_mem hx).elim (fun h hm=>hok x h hm)
  generalize snL hs u es = l1 at hsl hmem
  conv=>whnf
  refine call_frame2 [some 2] rfl rfl rfl rfl (item_sortD l1 (by omega)) ?_
  rintro r own2 ⟨ys,hp,hns,rfl,rfl⟩
  have hyl:=hp.length_eq
  refine ⟨_,_,rfl,rfl,?_⟩
  conv=>whnf
  refine drawV_frz [2] ?_
  refine ⟨fun _ _=>rfl,?_⟩
  conv=>whnf
  refine drawV_sched (.rd 0 (.rd 2 (.rd 3 (.rd 4 (.rd 5 (.rd 6 (.ef 1 (.ef 7 (.rd 8 (.ef 9 (.nil))))))))))) [1,3] mixed (by kernel_rfl) ttok ftok ?_
  conv=>whnf
  refine call_pure (of_c ys (by omega) (fun x hx=>hmem x (hp.subset hx))) rfl ?_
  rintro _ rfl
  conv=>whnf
  refine call_frame2 [] rfl rfl rfl rfl (spClone g (by omega)) ?_
  rintro r own2 ⟨rfl,rfl⟩
  refine ⟨_,_,rfl,rfl,?_⟩
  conv=>whnf
  refine frz_exit [3] ?_
  refine ⟨fun _ _=>rfl,?_⟩
  refine ⟨_,Weak.refl _,?_⟩
  conv=>whnf
  exact ⟨[some 0],rfl,rfl,rfl,ys,hp,hns,rfl⟩
end Go.Eng
namespace Go.Eng
open Go Go.RowKit Go.Proofs
theorem sorted_r (l : List It) (hl : l.length≤100000) : CallV Tryz.prog 66 [itS l] [] (fun r own'=>∃ n g2,r = .c (.row 0)∧own' = [some (.row 144 7 n g2)]∧(∀ k,k < n→(g2 k).all scalC = true)∧∃ ys : List It,ys.Perm l∧nsI ys∧n = ys.length∧g2 = itR ys):=by
 refine callV_own Tryz.func66 rfl ttok ftok rfl rfl rfl (Nat.le_of_ble_eq_true rfl) rfl ?_
 conv=>whnf
 refine loopV ttok ftok (soI l) ((nil_row 3 144 7 (itR []) rfl).trans (norm_weak [0,3,4] [some 0] rfl rfl)) ⟨0,[],rfl,Nat.zero_le _,.refl _,List.Pairwise.nil,rfl⟩ ?_
 rintro m st ⟨k,o,rfl,hk,hp,hs,rfl⟩
 have e1:=i64_s (k:=k) (by omega)
 have hol:=hp.length_eq
 rw [List.length_take] at hol
 conv=>whnf
 refine onB_intro (fun h=>?_) (fun h=>?_)
 ·have h:=of_decide_eq_true h
  have hkl : k < l.length:=by omega
  conv=>whnf
  refine loopV_frz [0] ?_
  conv=>whnf
  refine ⟨fun _ _=>rfl,?_⟩
  conv=>whnf
  refine loopV_cut 2 (sjI l o k) ?_ ?_
  ·refine loopV ttok ftok (sqI l o k) (norm_weak [0,3,4,5] [none] rfl rfl) ⟨0,rfl,Nat.zero_le _,fun q hq=>by omega,rfl⟩ ?_
   rintro m st ⟨j,rfl,hj,hq,rfl⟩
   have e2:=i64_s (k:=j) (by omega)
   conv=>whnf
   refine onB_intro (fun h2=>?_) (fun h2=>?_)
   ·have h2:=of_decide_eq_true h2
    have hjl : j < o.length:=by omega
    conv=>whnf
    refine drawV_quiet mixed (by kernel_rfl) ttok ftok ?_
    conv=>whnf
    refine ⟨⟨by omega,by omega⟩,?_⟩
    conv=>whnf
    rw [ti_nat]
    refine ⟨⟨by omega,by omega⟩,?_⟩
    conv=>whnf
    rw [ti_nat]
    refine callQ (before_c_P (l.getD k it0).id (o.getD j it0).id) rfl rfl ?_
    conv=>whnf
    cases hb : decide (ltI (l.getD k it0).id (o.getD j it0).id) with
    | true =>
     conv=>whnf
     exact ⟨rfl,_,norm_weak [0,3,4,5] [none] rfl rfl,j,hj,hq,fun _=>of_decide_eq_true hb,rfl⟩
    | false =>
     conv=>whnf
     rw [e2]
     refine ⟨o.length - (j + 1),_,by omega,norm_weak [0,3,4,5] [none] rfl rfl,j + 1,rfl,by omega,fun q hq3=>?_,rfl⟩
     rcases Nat.lt_succ_iff_lt_or_eq.1 hq3 with h3 | rfl
     ·exact hq q h3
     ·exact of_decide_eq_false hb
   ·have h2:=of_decide_eq_false h2
    conv=>whnf
    exact ⟨rfl,_,norm_weak [0,3,4,5] [none] rfl rfl,j,hj,hq,fun h3=>absurd h3 (by omega),rfl⟩
  ·rintro st ⟨j,hj,hq,hq2,rfl⟩
   conv=>whnf
   refine drawV_sched (.rd 0 (.rd 1 (.rd 2 (.rd 3 (.rd 5 (.rd 6 (.rd 7 (.ef 4 (.ef 8 (.rd 9 (.nil))))))))))) [1] mixed (by kernel_rfl) ttok ftok ?_
   conv=>whnf
   refine ⟨⟨by omega,by omega⟩,?_⟩
   conv=>whnf
   rw [ti_nat]
   refine ⟨⟨by omega,by omega,by omega,by omega⟩,?_⟩
   refine ⟨(o.drop j).length,itR (o.drop j),by rw [List.length_drop,ti_nat],fun q hq=>?_,?_⟩
   ·show itF _ = itF (o.getD ((j : Int).toNat + q) it0)
    rw [getD_drop,ti_nat]
   conv=>whnf
   refine ⟨itR [l.getD k it0],fun q hq=>?_,?_⟩
   ·obtain rfl : q = 0:=by omega
    rw [ti_nat]
    rfl
   conv=>whnf
   have hdl : (o.drop j).length = o.length - j:=List.length_drop
   refine ⟨⟨by omega,by show (1 + (o.drop j).length) * 28≤_;omega⟩,?_⟩
   conv=>whnf
   refine app_list (enc:=itF) (d:=it0) (l:=[l.getD k it0]) (b:=o.drop j) (fun k hk=>rfl) (fun k hk=>rfl) ?_
   conv=>whnf
   have htl : (o.take j).length = j:=by rw [List.length_take];omega
   refine ⟨⟨by omega,by omega,by omega,by omega⟩,?_⟩
   refine ⟨(o.take j).length,itR (o.take j),by rw [htl,ti_nat];rfl,fun q hq=>?_,?_⟩
   ·show itF _ = itF (o.getD (Int.toNat 0 + q) it0)
    rw [getD_take _ _ _ _ (by omega),show Int.toNat 0 + q = q from Nat.zero_add q]
   conv=>whnf
   refine ⟨⟨by omega,by show (0 + (o.take j).length) * 28≤_;omega⟩,?_⟩
   conv=>whnf
   refine ⟨(o.take j).length,itR (o.take j),by omega,fun k hk=>by omega,fun k hk=>by rw [Nat.zero_add],?_⟩
   conv=>whnf
   have h1l : ([l.getD k it0] ++ o.drop j).length = 1 + (o.length - j):=by rw [List.length_append,hdl];rfl
   refine ⟨⟨by omega,by show ((o.take j).length + ([l.getD k it0] ++ o.drop j).length) * 28≤_;omega⟩,?_⟩
   conv=>whnf
   refine app_list (enc:=itF) (d:=it0) (l:=o.take j) (b:=[l.getD k it0] ++ o.drop j) (fun k hk=>rfl) (fun k hk=>rfl) ?_
   conv=>whnf
   rw [e1]
   refine ⟨l.length - (k + 1),_,by omega,norm_weak [0,3,4] [some 5] rfl rfl,k + 1,o.take j ++ ([l.getD k it0] ++ o.drop j),rfl,by omega,?_,ins_ns hj hs hq hq2,rfl⟩
   rw [take_snocI hkl]
   exact List.perm_middle.trans (((List.take_append_drop j o).symm ▸ hp).cons _ |>.trans (List.perm_append_singleton _ _).symm)
 ·have h:=of_decide_eq_false h
  have hk2 : k = l.length:=by omega
  subst hk2
  rw [List.take_length] at hp
  conv=>whnf
  refine ⟨_,Weak.refl _,?_⟩
  conv=>whnf
  exact ⟨[some 0],rfl,rfl,o.length,itR o,rfl,rfl,fun k hk=>rfl,o,hp,hs,rfl,rfl⟩
def cvP (u : CV) (x : It) : Bool:=decide (nxt u x.id.1≤x.id.2)
theorem filt_snoc (p : It→Bool) {l : List It} {k : Nat} (hk : k < l.length) : (l.take (k + 1)).filter p = (l.take k).filter p ++ (if p (l.getD k it0) = true then [l.getD k it0] else []):=by
 have e : l.take (k + 1) = l.take k ++ [l.getD k it0]:=by
  rw [List.getD_eq_getElem?_getD,List.getElem?_eq_getElem hk]
  exact (List.take_append_getElem hk).symm
 rw [e,List.filter_append]
 congr 1
 rw [List.filter_cons,List.filter_nil]
def rsnI (D : DF) (hs : HS) (gs : List I2) (u : CV) (ys : List It) (n : Nat) (st : St) : Prop:=∃ k : Nat,n = ys.length - k∧k≤ys.length ∧
 st = ⟨49,3,[(0,.c (.own 0 0)),(1,ckS_V u),(4,.c (.own 3 0)),(5,.c (.row 5)),(6,.c (.row 4)),(7,vci .i64 (k : Int))],
  dOwn D hs gs ++ [some (.cells 58 [.v (.slice none 0 0),.v (.slice none 0 0)]),some (.row 144 7 ys.length (itR ys)),some (.row 144 7 ((ys.take k).filter (cvP u)).length (itR ((ys.take k).filter (cvP u))))]⟩
theorem rsince_c {hs : HS} (D : DF) (gs : List I2) (hlen : hs.length≤100000) (u : CV) (hul : u.length≤1000000) (hok : ∀ x h,(x,h) ∈ hs→itOk x) :
  CallV Tryz.prog 26 [.c (.own 0 0),ckS_V u] (dOwn D hs gs) (fun r own'=>own' = dOwn D hs gs∧∃ ys : List It,ys.Perm (itsH hs)∧nsI ys∧r = .agg (baF ⟨ofK (ys.filter (cvP u)) (ys.filter (cvP u)).length,D.g⟩)):=by
 have hil:=itsH_len hs
 refine callV_own Tryz.func26 rfl ttok ftok rfl rfl rfl (Nat.le_of_ble_eq_true rfl) rfl ?_
 conv=>whnf
 refine (callV_lendR 1 rfl (fun j hj=>rfl) (sorted_r (itsH hs) (by omega)) rfl).mono ?_
 rintro r own2 ⟨_,_,rfl,rfl,ys,hp,hns,rfl,rfl⟩
 have hyl:=hp.length_eq
 have hyok : ∀ y,y ∈ ys→itOk y:=fun y hy=>by
  have h1:=hp.subset hy
  unfold itsH at h1
  rw [List.mem_reverse,List.mem_map] at h1
  obtain ⟨⟨z,h⟩,hm,rfl⟩:=h1
  exact hok z h hm
 conv=>whnf
 refine loopV ttok ftok (rsnI D hs gs u ys) ((nil_row 5 144 7 (itR []) rfl).trans (norm_weak [0,1,4,5,6,7] [some 0,some 1,some 2,some 3,some 4,some 5] rfl rfl)) ⟨0,rfl,Nat.zero_le _,rfl⟩ ?_
 rintro q st ⟨k,rfl,hk,rfl⟩
 have e1:=e64 (k:=k) (by omega)
 have hfl : ((ys.take k).filter (cvP u)).length≤k:=by
  have h1:=List.length_filter_le (cvP u) (ys.take k)
  rw [List.length_take] at h1
  omega
 conv=>whnf
 refine onB_intro (fun h=>?_) (fun h=>?_)
 ·have h:=of_decide_eq_true h
  have hkl : k < ys.length:=by omega
  have hsn:=filt_snoc (cvP u) hkl
  conv=>whnf
  refine drawV_sched (.rd 0 (.rd 1 (.rd 2 (.rd 3 (.rd 4 (.rd 5 (.rd 6 (.rd 7 (.rd 8 (.rd 9 (.rd 10 (.rd 11 (.rd 12 (.ef 13 (.rd 14 (.nil)))))))))))))))) [] mixed (by kernel_rfl) ttok ftok ?_
  conv=>whnf
  refine ⟨by omega,?_⟩
  conv=>whnf
  refine ⟨by omega,?_⟩
  conv=>whnf
  rw [ti_nat]
  obtain ⟨y,hy⟩ : ∃ y,ys.getD k it0 = y:=⟨_,rfl⟩
  rw [hy] at hsn ⊢
  refine call_pure (rnext_c u (by omega) y.id.1) rfl ?_
  rintro _ rfl
  conv=>whnf
  by_cases hge : y.id.2 ≥ nxt u y.id.1
  ·rw [decide_eq_true hge]
   rw [if_pos (show cvP u y = true from decide_eq_true hge)] at hsn
   conv=>whnf
   refine ⟨by omega,?_⟩
   conv=>whnf
   rw [ti_nat,hy]
   refine ⟨fun _=>itF y,fun q hq=>?_,?_⟩
   ·obtain rfl : q = 0:=by omega
    rfl
   conv=>whnf
   refine ⟨⟨by omega,by show (((ys.take k).filter (cvP u)).length + 1) * 28≤_;omega⟩,?_⟩
   conv=>whnf
   refine app1 (enc:=itF) (d:=it0) (l:=(ys.take k).filter (cvP u)) y (fun k hk=>rfl) rfl ?_
   conv=>whnf
   rw [e1]
   refine ⟨ys.length - (k + 1),_,by omega,norm_weak [0,1,4,5,6,7] [some 0,some 1,some 2,some 3,some 4,some 7] rfl rfl,k + 1,rfl,by omega,?_⟩
   rw [hsn]
   rfl
  ·rw [decide_eq_false hge]
   rw [if_neg (show ¬ cvP u y = true from fun e=>hge (of_decide_eq_true e)),List.append_nil] at hsn
   conv=>whnf
   rw [e1]
   refine ⟨ys.length - (k + 1),_,by omega,norm_weak [0,1,4,5,6,7] [some 0,some 1,some 2,some 3,some 4,some 5] rfl rfl,k + 1,rfl,by omega,?_⟩
   rw [hsn]
   rfl
 ·have h:=of_decide_eq_false h
  obtain rfl : k = ys.length:=by omega
  rw [List.take_length] at hfl
  rw [List.take_length]
  have hzok : ∀ y,y ∈ ys.filter (cvP u)→itOk y:=fun y hy=>hyok y (List.mem_filter.1 hy).1
  obtain ⟨zs,hzs⟩ : ∃ zs,ys.filter (cvP u) = zs:=⟨_,rfl⟩
  rw [hzs] at hfl hzok ⊢
  conv=>whnf
  refine drawV_frz [5] ?_
  refine ⟨fun _ _=>rfl,?_⟩
  conv=>whnf
  refine drawV_sched (.rd 0 (.rd 2 (.rd 3 (.rd 4 (.rd 5 (.ef 1 (.rd 6 (.ef 7 (.nil))))))))) [3] mixed (by kernel_rfl) ttok ftok ?_
  conv=>whnf
  refine call_pure (rof_c zs (by omega) hzok) rfl ?_
  rintro _ rfl
  conv=>whnf
  refine ⟨_,Weak.refl _,?_⟩
  conv=>whnf
  refine ⟨[some 0,some 1,some 2],rfl,rfl,rfl,ys,hp,hns,?_⟩
  rw [hzs]
  rfl
end Go.Eng
namespace Go.Eng
open Go Go.RowKit Go.Proofs
structure Dd where
 what : Int
 at_ : Int
 n : Int
 text : ByteArray
 b : List UInt8
def dd0 : Dd:=⟨0,0,0,⟨#[]⟩,[]⟩
abbrev ddF (d : Dd) : List IC:=[vi d.what,vi d.at_,vi d.n,.v (.string d.text),.sl 1 d.b.length (byteF d.b)]
abbrev ddS (l : List Dd) : AV:=.c (.sl 5 l.length fun k=>ddF (l.getD k dd0))
def i64P (n : Int) : Prop:=-9223372036854775808≤n∧n≤9223372036854775807
structure Pd where
 hs : HS
 v : CV
 w : List It
 g : List Sp
 n : Nat
structure Tl where
 ver : Int
 op : ByteArray
 code : Int
def stayT (op : ByteArray) (e : Int) : Tl:=⟨0,op,e⟩
def doneT (n : Nat) : Tl:=⟨(n : Int),⟨#[]⟩,0⟩
def insN (c lim : Int) (es : List En) (P : Pd) (k : Int) (text : ByteArray) (Q : Pd) (t : Tl) : Prop :=
 (insE c lim P.v es k text≠0∧Q = P∧t = stayT sInsert (insE c lim P.v es k text)) ∨
 (insE c lim P.v es k text = 0∧∃ L,charsF text = some L∧Q = ⟨adsH P.hs (insT c P.v es k L),setR P.v c (nxt P.v c + L.length),P.w,P.g,if L = [] then P.n else P.n + 1⟩∧t = doneT (if L = [] then P.n else P.n + 1))
def delN (es : List En) (P : Pd) (k m : Int) (Q : Pd) (t : Tl) : Prop :=
 (noPart es k m∧Q = P∧t = stayT sDelete 3) ∨
 (¬ noPart es k m∧Q = ⟨P.hs,P.v,P.w,setL (P.g ++ spsI (idsL es k.toNat m.toNat)),if 0 < m then P.n + 1 else P.n⟩∧t = doneT (if 0 < m then P.n + 1 else P.n))
def appN (c : Int) (P : Pd) (b : List UInt8) (Q : Pd) (t : Tl) : Prop :=
 (¬ isB b∧Q = P∧t = stayT sApply 2) ∨
 (isB b∧∃ T : List It × List It × CV,(∀ m,freG (knO P.hs P.w) c (itemsR (getS b).1.runs) [] = some m→∃ ys : List It,ys.Perm (P.w ++ m)∧nsI ys∧T = takeL ys.length P.v ys) ∧
  match freG (knO P.hs P.w) c (itemsR (getS b).1.runs) [] with
  | none=>Q = P∧t = stayT sApply 2
  | some m=>(1000 < T.2.1.length∧Q = P∧t = stayT sApply 5) ∨
   (¬ 1000 < T.2.1.length∧Q = ⟨adsH P.hs T.1,T.2.2,T.2.1,setL (P.g ++ (getS b).1.dels),if apC m P.g (setL (P.g ++ (getS b).1.dels)) T = true then P.n + 1 else P.n⟩ ∧
    t = doneT (if apC m P.g (setL (P.g ++ (getS b).1.dels)) T = true then P.n + 1 else P.n)))
def ddN (c lim : Int) (es : List En) (P : Pd) (d : Dd) (Q : Pd) (t : Tl) : Prop :=
 if d.what % 4 = 2 then delN es P d.at_ d.n Q t else if d.what % 4 = 3 then appN c P d.b Q t else insN c lim es P d.at_ d.text Q t
structure DI (k : Nat) (P : Pd) (cs : Ck) (l : List Nd) (N : Nat) (gs : List I2) : Prop where
 V : LV P.hs (hsB P.g) cs l N
 bld : bldH P.hs
 W : VH P.v P.hs
 I : GI P.hs (hsB P.g) gs
 nw : N + P.w.length≤610 * k
 gl : gs.length≤26000 * k
 can : canon P.g
 glen : P.g.length≤13000 * k
 wok : ∀ x,x ∈ P.w→itG x
 wnd : P.w.Pairwise fun x y=>x.id≠y.id
 wl : P.w.length≤1000
 iok : ∀ x h,(x,h) ∈ P.hs→itG x
 vl : P.v.length≤1700 * k
 ver : P.n≤k
theorem DI.zero : DI 0 ⟨[],[],[],[],0⟩ [] [] 0 [] :=
 ⟨LV.zero _,trivial,VH.zero,GI.zero _,Nat.le_refl _,Nat.le_refl _,⟨fun s h=>(List.not_mem_nil h).elim,List.Pairwise.nil⟩,Nat.le_refl _,fun x h=>(List.not_mem_nil h).elim,List.Pairwise.nil,Nat.zero_le _,fun x h hm=>(List.not_mem_nil hm).elim,Nat.le_refl _,Nat.le_refl _⟩
theorem DI.nx {k : Nat} {P : Pd} {cs : Ck} {l : List Nd} {N : Nat} {gs : List I2} (D : DI k P cs l N gs) (c : Int) : nxt P.v c≤4294967295:=by
 have h0:=nxt_pos D.W.may c
 rcases Int.lt_or_le 0 (nxt P.v c) with h | h
 ·obtain ⟨⟨x,g⟩,hm,e⟩:=(D.W.cov (c,nxt P.v c - 1)).2 ⟨by show 0≤nxt P.v c - 1;omega,by show nxt P.v c - 1 < nxt P.v c;omega⟩
  have h1:=(D.iok x g hm).hi
  have h2 : x.id.2 = nxt P.v c - 1:=by rw [show x.id = (c,nxt P.v c - 1) from e]
  omega
 ·omega
theorem DI.ents {k : Nat} {P : Pd} {cs : Ck} {l : List Nd} {N : Nat} {gs : List I2} (D : DI k P cs l N gs) : ∀ o,isOrd P.hs o→entL P.hs gs o = cs.flatten:=by
 intro o hO
 obtain ⟨o2,hO2,hf⟩:=D.V.ord
 obtain rfl:=isOrd.uniq hO hO2
 rw [hf]
 refine List.map_congr_left (fun a ha=>?_)
 unfold enOf
 have:=D.I.iff a (hO.has.1 ha)
 rw [show Gof gs a = hsB P.g a from by unfold Gof;rw [Bool.eq_iff_iff,decide_eq_true_iff,this]]
theorem appN_uniq {c : Int} {P Q Q2 : Pd} {b : List UInt8} {t t2 : Tl} (hb : b.length≤100000) (hw : P.w.Pairwise fun x y=>x.id≠y.id) (h : appN c P b Q t) (h2 : appN c P b Q2 t2) : Q = Q2∧t = t2:=by
 rcases h with ⟨n1,rfl,rfl⟩ | ⟨B1,T,hT,hm⟩
 ·rcases h2 with ⟨_,rfl,rfl⟩ | ⟨B2,_⟩
  ·exact ⟨rfl,rfl⟩
  ·exact absurd B2 n1
 ·rcases h2 with ⟨n2,_⟩ | ⟨B2,T2,hT2,hm2⟩
  ·exact absurd B1 n2
  ·have hris:=batch_ris B1.2.2
   cases hF : freG (knO P.hs P.w) c (itemsR (getS b).1.runs) [] with
   | none =>
    rw [hF] at hm hm2
    obtain ⟨rfl,rfl⟩:=hm
    obtain ⟨rfl,rfl⟩:=hm2
    exact ⟨rfl,rfl⟩
   | some m =>
    obtain ⟨hdis,_⟩:=fre_dis hw hris hF
    obtain ⟨ys,p1,s1,e1⟩:=hT m hF
    obtain ⟨zs,p2,s2,e2⟩:=hT2 m hF
    obtain rfl:=ns_uniq hdis p1 p2 s1 s2
    obtain rfl : T = T2:=e1.trans e2.symm
    rw [hF] at hm hm2
    rcases hm with ⟨h1,rfl,rfl⟩ | ⟨h1,rfl,rfl⟩ <;> rcases hm2 with ⟨h3,rfl,rfl⟩ | ⟨h3,rfl,rfl⟩
    ·exact ⟨rfl,rfl⟩
    ·exact absurd h1 h3
    ·exact absurd h3 h1
    ·exact ⟨rfl,rfl⟩
theorem ddN_uniq {c lim : Int} {es : List En} {P Q Q2 : Pd} {d : Dd} {t t2 : Tl} (hb : d.b.length≤100000) (hw : P.w.Pairwise fun x y=>x.id≠y.id) (h : ddN c lim es P d Q t) (h2 : ddN c lim es P d Q2 t2) : Q = Q2∧t = t2:=by
 unfold ddN at h h2
 split at h
 ·rename_i e
  rw [if_pos e] at h2
  rcases h with ⟨h1,rfl,rfl⟩ | ⟨h1,rfl,rfl⟩ <;> rcases h2 with ⟨h3,rfl,rfl⟩ | ⟨h3,rfl,rfl⟩
  ·exact ⟨rfl,rfl⟩
  ·exact absurd h1 h3
  ·exact absurd h3 h1
  ·exact ⟨rfl,rfl⟩
 ·rename_i e
  rw [if_neg e] at h2
  split at h
  ·rename_i e2
   rw [if_pos e2] at h2
   exact appN_uniq hb hw h h2
  ·rename_i e2
   rw [if_neg e2] at h2
   rcases h with ⟨h1,rfl,rfl⟩ | ⟨h1,L,hL,rfl,rfl⟩ <;> rcases h2 with ⟨h3,rfl,rfl⟩ | ⟨h3,L2,hL2,rfl,rfl⟩
   ·exact ⟨rfl,rfl⟩
   ·exact absurd h3 h1
   ·exact absurd h1 h3
   ·rw [hL] at hL2
    cases hL2
    exact ⟨rfl,rfl⟩
end Go.Eng
namespace Go.Eng
open Go Go.RowKit Go.Proofs
theorem has_u32 {hs : HS} (h : ∀ x g,(x,g) ∈ hs→itG x) {a : I2} (ha : hasI hs a) : u32P a:=by
 obtain ⟨⟨x,g⟩,hm,rfl⟩:=ha
 exact (h x g hm).ok.1
theorem bt_u32 {hs : HS} {G : I2→Bool} {cs : Ck} {l : List Nd} {N : Nat} (V : LV hs G cs l N) (h : ∀ x g,(x,g) ∈ hs→itG x) {k : Int} (h0 : 0≤k) (h1 : k≤(shn cs.flatten : Int)) : u32P (btL cs.flatten k.toNat)∧u32P (btR cs.flatten k.toNat):=by
 have hz : u32P (0,0):=⟨⟨by decide,by decide⟩,by decide,by decide⟩
 constructor
 ·unfold btL
  split
  ·exact hz
  ·rename_i hk
   refine has_u32 h (en_has V ?_)
   unfold btA
   rw [if_neg hk,Nat.add_sub_cancel]
   have hm : (shp cs.flatten 0).getD (k.toNat - 1) 0 ∈ shp cs.flatten 0:=getD_mem (by rw [shp_len];omega)
   have:=(shp_mem' _ _ _ hm).2
   omega
 ·unfold btR
  split
  ·rename_i h2
   exact has_u32 h (en_has V h2)
  ·exact hz
theorem insL_good (c : Int) (right : I2) (hc : 0 < c) (hc2 : c≤4294967295) (hr : u32P right) (l : List Int) (n : Int) (left : I2) (hn : 0≤n) (hle : n + l.length≤4294967295) (hl : u32P left) (hch : ∀ ch,ch ∈ l→vldR ch = true) : ∀ x,x ∈ insL c n left right l→itG x:=by
 intro x hx
 obtain ⟨j,hj,rfl⟩:=mem_getD (d:=it0) hx
 rw [insL_len] at hj
 rw [insL_get c right l n left j hj]
 have hlf : u32P (insLf c n left j):=by
  cases j with
  | zero=>exact hl
  | succ j=>exact ⟨⟨by show 0≤c;omega,hc2⟩,by show 0≤n + (j : Int);omega,by show n + (j : Int)≤_;omega⟩
 refine ⟨⟨⟨⟨by show 0≤c;omega,hc2⟩,by show 0≤n + (j : Int);omega,by show n + (j : Int)≤_;omega⟩,hlf,hr⟩,hc,by show n + (j : Int)≤_;omega,hch _ (getD_mem hj)⟩
theorem DI.stay {k : Nat} {P : Pd} {cs : Ck} {l : List Nd} {N : Nat} {gs : List I2} (D : DI k P cs l N gs) {cs2 : Ck} {l2 : List Nd} {N2 : Nat} {gs2 : List I2} (V2 : LV P.hs (hsB P.g) cs2 l2 N2) (hN2 : N2 + P.w.length≤N + P.w.length + 610) (I2 : GI P.hs (hsB P.g) gs2) (hgs : gs2.length≤gs.length + 26000) : DI (k + 1) P cs2 l2 N2 gs2:=by
 have h1:=D.nw
 have h2:=D.gl
 have h3:=D.glen
 have h4:=D.vl
 have h5:=D.ver
 exact ⟨V2,D.bld,D.W,I2,by omega,by omega,D.can,by omega,D.wok,D.wnd,D.wl,D.iok,by omega,by omega⟩
theorem DI.step {k : Nat} {P : Pd} {cs : Ck} {l : List Nd} {N : Nat} {gs : List I2} (D : DI k P cs l N gs) (hk : k < 20) {c lim : Int} (hc : 0 < c) (hc2 : c≤4294967295) (hl0 : 0≤lim) (hl : lim≤4294967294) {d : Dd} (ht : d.text.size≤60) (hb : d.b.length≤600) {Q : Pd} {t : Tl} (hx : ddN c lim cs.flatten P d Q t)
  {cs2 : Ck} {l2 : List Nd} {N2 : Nat} {gs2 : List I2} (V2 : LV Q.hs (hsB Q.g) cs2 l2 N2) (hN2 : N2 + Q.w.length≤N + P.w.length + 610) (I2 : GI Q.hs (hsB Q.g) gs2) (hgs : gs2.length≤gs.length + 26000) : DI (k + 1) Q cs2 l2 N2 gs2:=by
 have h1:=D.nw
 have h2:=D.gl
 have h3:=D.glen
 have h4:=D.vl
 have h5:=D.ver
 have h6:=D.V.len
 have h7:=D.V.sum
 have h8 : cs.flatten.length = sumL cs:=rfl
 unfold ddN at hx
 split at hx
 ·rcases hx with ⟨_,rfl,_⟩ | ⟨hp,rfl,_⟩
  ·exact D.stay V2 hN2 I2 hgs
  ·have hfew:=idsL_few hp
   have hsl:=set_len (P.g ++ spsI (idsL cs.flatten d.at_.toNat d.n.toNat))
   rw [List.length_append,show (spsI (idsL cs.flatten d.at_.toNat d.n.toNat)).length = (idsL cs.flatten d.at_.toNat d.n.toNat).length from by unfold spsI;rw [List.length_map]] at hsl
   refine ⟨V2,D.bld,D.W,I2,by show N2 + P.w.length≤_;have : N2 + P.w.length≤N + P.w.length + 610:=hN2;omega,by omega,(setL_ok _).1,by show (setL _).length≤_;omega,D.wok,D.wnd,D.wl,D.iok,by show P.v.length≤_;omega,?_⟩
   show (if 0 < d.n then P.n + 1 else P.n)≤k + 1
   split <;> omega
 ·split at hx
  ·rcases hx with ⟨_,rfl,_⟩ | ⟨B,T,hT,hm⟩
   ·exact D.stay V2 hN2 I2 hgs
   ·obtain ⟨k1,k2,k3,k4,_⟩:=getS_ok (b:=d.b) (by omega)
    have hris:=batch_ris B.2.2
    have hit:=batch_items B.2.2 k1
    cases hF : freG (knO P.hs P.w) c (itemsR (getS d.b).1.runs) [] with
    | none =>
     rw [hF] at hm
     obtain ⟨rfl,_⟩:=hm
     exact D.stay V2 hN2 I2 hgs
    | some m =>
     obtain ⟨hdis,hsub⟩:=fre_dis D.wnd hris hF
     have hml:=hsub.length_le
     obtain ⟨ys,p1,s1,e1⟩:=hT m hF
     rw [hF] at hm
     rcases hm with ⟨_,rfl,_⟩ | ⟨hbig,rfl,_⟩
     ·exact D.stay V2 hN2 I2 hgs
     ·obtain ⟨T1,T2,T3⟩:=T
      have hS:=takeL_ok ys.length P.v ys (Nat.le_refl _)
      rw [←e1] at hS
      have hwm : ∀ y,y ∈ P.w ++ m→itG y:=fun y hy=>(List.mem_append.1 hy).elim (D.wok y) (fun h=>hit y (hsub.subset h))
      have hyg : ∀ y,y ∈ ys→itG y:=fun y hy=>hwm y (p1.subset hy)
      have hT1 : ∀ y,y ∈ T1→itG y:=fun y hy=>hyg y (hS.perm.subset (List.mem_append_left _ hy))
      have hT2 : ∀ y,y ∈ T2→itG y:=fun y hy=>hyg y (hS.perm.subset (List.mem_append_right _ hy))
      have hyl : ys.length = P.w.length + m.length:=by rw [p1.length_eq,List.length_append]
      have hTl : T1.length + T2.length = ys.length:=by rw [←hS.perm.length_eq,List.length_append]
      have hwl:=D.wl
      have hvl:=Tk_len T1 P.v T3 hS.run
      have hsl:=set_len (P.g ++ (getS d.b).1.dels)
      rw [List.length_append] at hsl
      refine ⟨V2,bld_ad T1 P.hs D.bld,(Tk_okA T1 P.v T3 P.hs D.W hS.run hT1).1,I2,?_,by omega,(setL_ok _).1,by show (setL _).length≤_;omega,hT2,(dis_perm p1 hdis).sublist hS.sub,by show T2.length≤1000;have : ¬ 1000 < T2.length:=hbig;omega,fun x g hm=>?_,by show T3.length≤_;omega,?_⟩
      ·show N2 + T2.length≤_
       have : N2 + T2.length≤N + P.w.length + 610:=hN2
       omega
      ·rcases adsH_mem T1 P.hs (x,g) hm with h | h
       ·exact D.iok x g h
       ·exact hT1 x h
      ·show (if apC m P.g (setL (P.g ++ (getS d.b).1.dels)) (T1,T2,T3) = true then P.n + 1 else P.n)≤k + 1
       split <;> omega
  ·rcases hx with ⟨_,rfl,_⟩ | ⟨h0,L,hL,rfl,_⟩
   ·exact D.stay V2 hN2 I2 hgs
   ·have hLs:=charsF_len hL
    have hgood:=(charsF_bytes hL).2
    have hk1 : ¬ (d.at_ < 0∨(shn cs.flatten : Int) < d.at_):=fun e=>by rw [insE_3 hL e] at h0;cases h0
    have hk2 : ¬ lim + 1 < nxt P.v c + L.length:=fun e=>by rw [insE_4 hL hk1 e] at h0;cases h0
    have hbt:=bt_has D.V (k:=d.at_) (by omega) (by omega)
    have hbu:=bt_u32 D.V D.iok (k:=d.at_) (by omega) (by omega)
    have hch : ∀ ch,ch ∈ L→vldR ch = true:=fun ch hc=>vld_of (hgood ch hc)
    obtain ⟨hVH,_⟩:=ins_okA c (btR cs.flatten d.at_.toNat) hc L (nxt P.v c) (btL cs.flatten d.at_.toNat) P.v P.hs D.W rfl hbt.1 hbt.2 hch (by omega)
    have hv0:=nxt_pos D.W.may c
    have hig:=insL_good c (btR cs.flatten d.at_.toNat) hc hc2 hbu.2 L (nxt P.v c) (btL cs.flatten d.at_.toNat) hv0 (by omega) hbu.1 hch
    have hsl:=setR_len P.v c (nxt P.v c + L.length)
    refine ⟨V2,bld_ad _ P.hs D.bld,hVH,I2,?_,by omega,D.can,by show P.g.length≤_;omega,D.wok,D.wnd,D.wl,fun x g hm=>?_,by show (setR _ _ _).length≤_;omega,?_⟩
    ·show N2 + P.w.length≤_
     have : N2 + P.w.length≤N + P.w.length + 610:=hN2
     omega
    ·rcases adsH_mem _ P.hs (x,g) hm with h | h
     ·exact D.iok x g h
     ·exact hig x h
    ·show (if L = [] then P.n else P.n + 1)≤k + 1
     split <;> omega
end Go.Eng
namespace Go.Eng
open Go Go.RowKit Go.Proofs
theorem do_c {k : Nat} {P : Pd} {cs : Ck} {l : List Nd} {N : Nat} {gs : List I2} (D : DI k P cs l N gs) (hk : k < 20) {c lim : Int} (hc : 0 < c) (hc2 : c≤4294967295) (hl0 : 0≤lim) (hl : lim≤4294967294) (d : Dd) (hd : i64P d.what) (ht : d.text.size≤60) (hb : d.b.length≤600) :
  CallV Tryz.prog 16 [.c (.own 0 0),.agg (ddF d)] [some (.cells 121 (dcF c lim cs l P.v P.w P.g (P.n : Int) false))] (fun r own'=>∃ Q t cs2 l2 N2,ddN c lim cs.flatten P d Q t∧LV Q.hs (hsB Q.g) cs2 l2 N2∧N2 + Q.w.length≤N + P.w.length + 610 ∧
   own' = [some (.cells 121 (dcF c lim cs2 l2 Q.v Q.w Q.g (Q.n : Int) false))]∧r = .tup [vci .i64 t.ver,vcs t.op,vci .i64 t.code]):=by
 have h1:=D.nw
 have h2:=D.gl
 have h3:=D.glen
 have h4:=D.vl
 have h5:=D.ver
 have hnx:=D.nx
 refine callV_own Tryz.func16 rfl ttok ftok rfl rfl rfl (Nat.le_of_ble_eq_true rfl) rfl ?_
 conv=>whnf
 refine call_pure (pick_c_L d.what 4 hd (by decide)) rfl ?_
 rintro _ rfl
 conv=>whnf
 by_cases w2 : d.what % 4 = 2
 ·rw [w2]
  conv=>whnf
  refine call_frame2 [some 0] rfl rfl rfl rfl (Delete_c D.V (by omega) D.W hnx D.can (by omega) c lim P.n (by omega) d.at_ d.n) ?_
  rintro r own2 (⟨hp,rfl,rfl⟩ | ⟨hp,cs2,V2,rfl,rfl⟩)
  ·refine ⟨_,_,rfl,rfl,?_⟩
   conv=>whnf
   refine call_pure (gfault_c sDelete 3) rfl ?_
   rintro _ rfl
   conv=>whnf
   refine ⟨_,Weak.refl _,?_⟩
   conv=>whnf
   exact ⟨[some 0],rfl,rfl,P,stayT sDelete 3,cs,l,N,by unfold ddN;rw [if_pos w2];exact .inl ⟨hp,rfl,rfl⟩,D.V,by omega,rfl,rfl⟩
  ·refine ⟨_,_,rfl,rfl,?_⟩
   conv=>whnf
   refine call_pure gfault_0 rfl ?_
   rintro _ rfl
   conv=>whnf
   refine ⟨_,Weak.refl _,?_⟩
   conv=>whnf
   refine ⟨[some 0],rfl,rfl,⟨P.hs,P.v,P.w,setL (P.g ++ spsI (idsL cs.flatten d.at_.toNat d.n.toNat)),if 0 < d.n then P.n + 1 else P.n⟩,doneT (if 0 < d.n then P.n + 1 else P.n),cs2,l,N,by unfold ddN;rw [if_pos w2];exact .inr ⟨hp,rfl,rfl⟩,V2,by show N + P.w.length≤_;omega,rfl,rfl⟩
 ·rw [beq_eq_false_iff_ne.2 w2]
  conv=>whnf
  by_cases w3 : d.what % 4 = 3
  ·rw [w3]
   conv=>whnf
   refine call_frame2 [some 0] rfl rfl rfl rfl (Apply_c D.V (by omega) D.W (by omega) D.can (by omega) D.wl D.wok D.wnd c lim P.n (by omega) d.b (by omega)) ?_
   have hdd : ∀ Q t,appN c P d.b Q t→ddN c lim cs.flatten P d Q t:=fun Q t h=>by unfold ddN;rw [if_neg w2,if_pos w3];exact h
   rintro r own2 (⟨hB,rfl,rfl⟩ | ⟨hB,T,hT,hm⟩)
   ·refine ⟨_,_,rfl,rfl,?_⟩
    conv=>whnf
    refine call_pure (gfault_c sApply 2) rfl ?_
    rintro _ rfl
    conv=>whnf
    refine ⟨_,Weak.refl _,?_⟩
    conv=>whnf
    exact ⟨[some 0],rfl,rfl,P,stayT sApply 2,cs,l,N,hdd _ _ (.inl ⟨hB,rfl,rfl⟩),D.V,by omega,rfl,rfl⟩
   ·cases hF : freG (knO P.hs P.w) c (itemsR (getS d.b).1.runs) [] with
    | none =>
     rw [hF] at hm
     obtain ⟨rfl,rfl⟩:=hm
     refine ⟨_,_,rfl,rfl,?_⟩
     conv=>whnf
     refine call_pure (gfault_c sApply 2) rfl ?_
     rintro _ rfl
     conv=>whnf
     refine ⟨_,Weak.refl _,?_⟩
     conv=>whnf
     exact ⟨[some 0],rfl,rfl,P,stayT sApply 2,cs,l,N,hdd _ _ (.inr ⟨hB,T,hT,by rw [hF];exact ⟨rfl,rfl⟩⟩),D.V,by omega,rfl,rfl⟩
    | some m =>
     have hTm:=hT m hF
     rw [hF] at hm
     rcases hm with ⟨hbig,rfl,rfl⟩ | ⟨hsm,cs2,l2,V2,rfl,rfl⟩
     ·refine ⟨_,_,rfl,rfl,?_⟩
      conv=>whnf
      refine call_pure (gfault_c sApply 5) rfl ?_
      rintro _ rfl
      conv=>whnf
      refine ⟨_,Weak.refl _,?_⟩
      conv=>whnf
      exact ⟨[some 0],rfl,rfl,P,stayT sApply 5,cs,l,N,hdd _ _ (.inr ⟨hB,T,hT,by rw [hF];exact .inl ⟨hbig,rfl,rfl⟩⟩),D.V,by omega,rfl,rfl⟩
     ·have hsz : T.1.length + T.2.1.length≤P.w.length + 600:=by
       obtain ⟨ys,p1,s1,e1⟩:=hTm
       obtain ⟨k1,k2,k3,k4,_⟩:=getS_ok (b:=d.b) (by omega)
       obtain ⟨hdis,hsub⟩:=fre_dis D.wnd (batch_ris hB.2.2) hF
       have hml:=hsub.length_le
       have hS:=takeL_ok ys.length P.v ys (Nat.le_refl _)
       rw [←e1] at hS
       have:=hS.perm.length_eq
       rw [List.length_append,p1.length_eq,List.length_append] at this
       omega
      refine ⟨_,_,rfl,rfl,?_⟩
      conv=>whnf
      refine call_pure gfault_0 rfl ?_
      rintro _ rfl
      conv=>whnf
      refine ⟨_,Weak.refl _,?_⟩
      conv=>whnf
      exact ⟨[some 0],rfl,rfl,⟨adsH P.hs T.1,T.2.2,T.2.1,setL (P.g ++ (getS d.b).1.dels),if apC m P.g (setL (P.g ++ (getS d.b).1.dels)) T = true then P.n + 1 else P.n⟩,doneT (if apC m P.g (setL (P.g ++ (getS d.b).1.dels)) T = true then P.n + 1 else P.n),cs2,l2,N + T.1.length,hdd _ _ (.inr ⟨hB,T,hT,by rw [hF];exact .inr ⟨hsm,rfl,rfl⟩⟩),V2,by show N + T.1.length + T.2.1.length≤_;omega,rfl,rfl⟩
  ·rw [beq_eq_false_iff_ne.2 w3]
   conv=>whnf
   have hdd : ∀ Q t,insN c lim cs.flatten P d.at_ d.text Q t→ddN c lim cs.flatten P d Q t:=fun Q t h=>by unfold ddN;rw [if_neg w2,if_neg w3];exact h
   refine call_frame2 [some 0] rfl rfl rfl rfl (Insert_c D.V (by omega) D.W (by omega) (by omega) c lim hc hc2 hl0 hl (hnx c) P.n (by omega) d.at_ d.text (by omega)) ?_
   rintro r own2 (⟨he,rfl,rfl⟩ | ⟨he,L,cs2,l2,hL,V2,rfl,rfl⟩)
   ·refine ⟨_,_,rfl,rfl,?_⟩
    conv=>whnf
    refine call_pure (gfault_c sInsert (insE c lim P.v cs.flatten d.at_ d.text)) rfl ?_
    rintro _ rfl
    conv=>whnf
    refine ⟨_,Weak.refl _,?_⟩
    conv=>whnf
    exact ⟨[some 0],rfl,rfl,P,stayT sInsert (insE c lim P.v cs.flatten d.at_ d.text),cs,l,N,hdd _ _ (.inl ⟨he,rfl,rfl⟩),D.V,by omega,rfl,rfl⟩
   ·have hLs:=charsF_len hL
    refine ⟨_,_,rfl,rfl,?_⟩
    conv=>whnf
    refine call_pure gfault_0 rfl ?_
    rintro _ rfl
    conv=>whnf
    refine ⟨_,Weak.refl _,?_⟩
    conv=>whnf
    exact ⟨[some 0],rfl,rfl,⟨adsH P.hs (insT c P.v cs.flatten d.at_ L),setR P.v c (nxt P.v c + L.length),P.w,P.g,if L = [] then P.n else P.n + 1⟩,doneT (if L = [] then P.n else P.n + 1),cs2,l2,N + L.length,hdd _ _ (.inr ⟨he,L,hL,rfl,rfl⟩),V2,by show N + L.length + P.w.length≤_;omega,rfl,rfl⟩
end Go.Eng
namespace Go.Eng
open Go Go.RowKit Go.Proofs
abbrev rdF (c lim : Int) (P : Pd) : DF:=⟨c,lim,P.v,P.w,P.g,(P.n : Int),false⟩
theorem play_c {k : Nat} {P : Pd} {cs : Ck} {l : List Nd} {N : Nat} {gs : List I2} (D : DI k P cs l N gs) (hk : k < 20) {c lim : Int} (hc : 0 < c) (hc2 : c≤4294967295) (hl0 : 0≤lim) (hl : lim≤4294967294) (d : Dd) (hd : i64P d.what) (hdn : i64P d.n) (ht : d.text.size≤60) (hb : d.b.length≤600) :
  CallV Tryz.prog 17 [.c (.own 0 0),.agg (ddF d)] (dOwn (rdF c lim P) P.hs gs) (fun r own'=>∃ Q t gs2,ddN c lim cs.flatten P d Q t∧GI Q.hs (hsB Q.g) gs2∧gs2.length≤gs.length + 26000 ∧
   own' = dOwn2 (rdF c lim Q) Q.hs gs2∧r = .tup [vci .i64 t.ver,vcs t.op,vci .i64 t.code]):=by
 have h1:=D.nw
 have h2:=D.gl
 have h3:=D.glen
 have h4:=D.vl
 have h5:=D.ver
 have h6:=D.V.len
 have h7:=D.V.sum
 have h8 : cs.flatten.length = sumL cs:=rfl
 have hnx:=D.nx
 have hes:=D.ents
 refine callV_own Tryz.func17 rfl ttok ftok rfl rfl rfl (Nat.le_of_ble_eq_true rfl) rfl ?_
 conv=>whnf
 refine call_pure (pick_c_L d.what 4 hd (by decide)) rfl ?_
 rintro _ rfl
 conv=>whnf
 by_cases w2 : d.what % 4 = 2
 ·rw [w2]
  conv=>whnf
  refine call_frame2 [some 0,some 1,some 2] rfl rfl rfl rfl (rDelete_c c lim P.v P.w P.g P.n (by omega) D.can (by omega) D.I D.W hnx D.V.L.ok D.bld (by omega) (by omega) cs.flatten hes (by omega) d.at_ d.n (fun hp=>idsL_has D.V hp) hdn.2) ?_
  rintro r own2 (⟨hp,rfl,rfl⟩ | ⟨hp,gs2,I2,hgs,rfl,rfl⟩)
  ·refine ⟨_,_,rfl,rfl,?_⟩
   conv=>whnf
   refine ⟨_,Weak.refl _,?_⟩
   conv=>whnf
   exact ⟨[some 0,none,none,some 4,some 5],rfl,rfl,P,stayT sDelete 3,gs,by unfold ddN;rw [if_pos w2];exact .inl ⟨hp,rfl,rfl⟩,D.I,by omega,rfl,rfl⟩
  ·refine ⟨_,_,rfl,rfl,?_⟩
   conv=>whnf
   refine ⟨_,Weak.refl _,?_⟩
   conv=>whnf
   exact ⟨[some 0,none,none,some 4,some 5],rfl,rfl,⟨P.hs,P.v,P.w,setL (P.g ++ spsI (idsL cs.flatten d.at_.toNat d.n.toNat)),if 0 < d.n then P.n + 1 else P.n⟩,doneT (if 0 < d.n then P.n + 1 else P.n),gs2,by unfold ddN;rw [if_pos w2];exact .inr ⟨hp,rfl,rfl⟩,I2,by omega,rfl,rfl⟩
 ·rw [beq_eq_false_iff_ne.2 w2]
  conv=>whnf
  by_cases w3 : d.what % 4 = 3
  ·rw [w3]
   conv=>whnf
   have hdd : ∀ Q t,appN c P d.b Q t→ddN c lim cs.flatten P d Q t:=fun Q t h=>by unfold ddN;rw [if_neg w2,if_pos w3];exact h
   refine call_frame2 [some 0,some 1,some 2] rfl rfl rfl rfl (rApply_c c lim P.v P.w P.g P.n (by omega) D.W (by omega) D.can (by omega) D.wl D.wok D.wnd D.I D.V.L.ok D.bld (by omega) (by omega) d.b (by omega)) ?_
   rintro r own2 (⟨hB,rfl,rfl⟩ | ⟨hB,T,hT,hm⟩)
   ·refine ⟨_,_,rfl,rfl,?_⟩
    conv=>whnf
    refine ⟨_,Weak.refl _,?_⟩
    conv=>whnf
    exact ⟨[some 0,none,none,some 4,some 5],rfl,rfl,P,stayT sApply 2,gs,hdd _ _ (.inl ⟨hB,rfl,rfl⟩),D.I,by omega,rfl,rfl⟩
   ·cases hF : freG (knO P.hs P.w) c (itemsR (getS d.b).1.runs) [] with
    | none =>
     rw [hF] at hm
     obtain ⟨rfl,rfl⟩:=hm
     refine ⟨_,_,rfl,rfl,?_⟩
     conv=>whnf
     refine ⟨_,Weak.refl _,?_⟩
     conv=>whnf
     exact ⟨[some 0,none,none,some 4,some 5],rfl,rfl,P,stayT sApply 2,gs,hdd _ _ (.inr ⟨hB,T,hT,by rw [hF];exact ⟨rfl,rfl⟩⟩),D.I,by omega,rfl,rfl⟩
    | some m =>
     have hTm:=hT m hF
     rw [hF] at hm
     rcases hm with ⟨hbig,rfl,rfl⟩ | ⟨hsm,gs2,I2,hgs,rfl,rfl⟩
     ·refine ⟨_,_,rfl,rfl,?_⟩
      conv=>whnf
      refine ⟨_,Weak.refl _,?_⟩
      conv=>whnf
      exact ⟨[some 0,none,none,some 4,some 5],rfl,rfl,P,stayT sApply 5,gs,hdd _ _ (.inr ⟨hB,T,hT,by rw [hF];exact .inl ⟨hbig,rfl,rfl⟩⟩),D.I,by omega,rfl,rfl⟩
     ·have hsz : T.1.length + T.2.1.length≤P.w.length + 600:=by
       obtain ⟨ys,p1,s1,e1⟩:=hTm
       obtain ⟨k1,k2,k3,k4,_⟩:=getS_ok (b:=d.b) (by omega)
       obtain ⟨hdis,hsub⟩:=fre_dis D.wnd (batch_ris hB.2.2) hF
       have hml:=hsub.length_le
       have hS:=takeL_ok ys.length P.v ys (Nat.le_refl _)
       rw [←e1] at hS
       have:=hS.perm.length_eq
       rw [List.length_append,p1.length_eq,List.length_append] at this
       omega
      have hwl:=D.wl
      refine ⟨_,_,rfl,rfl,?_⟩
      conv=>whnf
      refine ⟨_,Weak.refl _,?_⟩
      conv=>whnf
      exact ⟨[some 0,none,none,some 4,some 5],rfl,rfl,⟨adsH P.hs T.1,T.2.2,T.2.1,setL (P.g ++ (getS d.b).1.dels),if apC m P.g (setL (P.g ++ (getS d.b).1.dels)) T = true then P.n + 1 else P.n⟩,doneT (if apC m P.g (setL (P.g ++ (getS d.b).1.dels)) T = true then P.n + 1 else P.n),gs2,hdd _ _ (.inr ⟨hB,T,hT,by rw [hF];exact .inr ⟨hsm,rfl,rfl⟩⟩),I2,by omega,rfl,rfl⟩
  ·rw [beq_eq_false_iff_ne.2 w3]
   conv=>whnf
   have hdd : ∀ Q t,insN c lim cs.flatten P d.at_ d.text Q t→ddN c lim cs.flatten P d Q t:=fun Q t h=>by unfold ddN;rw [if_neg w2,if_neg w3];exact h
   refine call_frame2 [some 0,some 1,some 2] rfl rfl rfl rfl (rInsert_c c lim P.v P.w P.g P.n (by omega) D.W D.I (by omega) D.V.L.ok D.bld (by omega) (by omega) cs.flatten hes (by omega) (fun k h0 h1=>bt_has D.V h0 h1) hc hc2 hl0 hl (by omega) (hnx c) d.at_ d.text (by omega)) ?_
   rintro r own2 (⟨he,rfl,rfl⟩ | ⟨he,L,gs2,hL,I2,hgs,rfl,rfl⟩)
   ·refine ⟨_,_,rfl,rfl,?_⟩
    conv=>whnf
    rw [beq_eq_false_iff_ne.2 he]
    conv=>whnf
    refine ⟨_,Weak.refl _,?_⟩
    conv=>whnf
    exact ⟨[some 0,none,none,some 4,some 5],rfl,rfl,P,stayT sInsert (insE c lim P.v cs.flatten d.at_ d.text),gs,hdd _ _ (.inl ⟨he,rfl,rfl⟩),D.I,by omega,rfl,rfl⟩
   ·have hLs:=charsF_len hL
    refine ⟨_,_,rfl,rfl,?_⟩
    conv=>whnf
    refine ⟨_,Weak.refl _,?_⟩
    conv=>whnf
    exact ⟨[some 0,none,none,some 4,some 5],rfl,rfl,⟨adsH P.hs (insT c P.v cs.flatten d.at_ L),setR P.v c (nxt P.v c + L.length),P.w,P.g,if L = [] then P.n else P.n + 1⟩,doneT (if L = [] then P.n else P.n + 1),gs2,hdd _ _ (.inr ⟨he,L,hL,rfl,rfl⟩),I2,by omega,rfl,rfl⟩
end Go.Eng
namespace Go.Eng
open Go Go.RowKit Go.Proofs
def smllI (l : List Dd) (n : Nat) (st : St) : Prop:=∃ k : Nat,n = l.length - k∧k≤l.length∧(∀ j,j < k→(l.getD j dd0).text.size≤60∧(l.getD j dd0).b.length≤600)∧st = ⟨29,0,[(0,ddS l),(3,vci .i64 (k : Int))],[]⟩
theorem small_c (l : List Dd) (hl : l.length≤1048576) (hs : ∀ d,d ∈ l→d.text.size≤1048576∧d.b.length≤1048576) : CallV Tryz.prog 12 [ddS l] [] (fun r own'=>own' = []∧((l.length≤20∧(∀ j,j < l.length→(l.getD j dd0).text.size≤60∧(l.getD j dd0).b.length≤600)∧r = vci .i64 1)∨r = vci .i64 0)):=by
 refine callV_pure Tryz.func12 rfl ttok ftok rfl rfl rfl (Nat.le_of_ble_eq_true rfl) ?_
 conv=>whnf
 by_cases h20 : 20 < l.length
 ·rw [decide_eq_true (by omega : (l.length : Int) > 20)]
  conv=>whnf
  exact .inr rfl
 rw [decide_eq_false (by omega : ¬ (l.length : Int) > 20)]
 conv=>whnf
 refine loopV ttok ftok (smllI l) (env_weak [0,3] rfl) ⟨0,rfl,Nat.zero_le _,fun j hj=>by omega,rfl⟩ ?_
 rintro n st ⟨k,rfl,hk,hj,rfl⟩
 have e1:=e64 (k:=k) (by omega)
 conv=>whnf
 refine onB_intro (fun h=>?_) (fun h=>?_)
 ·have h:=of_decide_eq_true h
  have hkl : k < l.length:=by omega
  have hm:=hs _ (getD_mem (d:=dd0) hkl)
  conv=>whnf
  refine ⟨by omega,?_⟩
  conv=>whnf
  rw [ti_nat]
  obtain ⟨d,hd⟩ : ∃ d,l.getD k dd0 = d:=⟨_,rfl⟩
  rw [hd] at hm ⊢
  refine ⟨by omega,?_⟩
  conv=>whnf
  refine ⟨fun _=>(show 0≤(k : Int)∧(k : Int) < l.length by omega),?_⟩
  conv=>whnf
  refine onB_intro (fun h2=>?_) (fun h2=>?_)
  ·conv=>whnf
   exact .inr rfl
  ·have h2 : (decide ((d.text.size : Int) > 60) || decide ((((l.getD ((k : Int).toNat) dd0).b.length : Nat) : Int) > 600)) = false:=h2
   rw [ti_nat,hd,Bool.or_eq_false_iff] at h2
   have h3:=of_decide_eq_false h2.1
   have h4:=of_decide_eq_false h2.2
   conv=>whnf
   rw [e1]
   refine ⟨l.length - (k + 1),_,by omega,env_weak [0,3] rfl,k + 1,rfl,by omega,fun j hj2=>?_,rfl⟩
   rcases Nat.lt_succ_iff_lt_or_eq.1 hj2 with h5 | rfl
   ·exact hj j h5
   ·rw [hd];exact ⟨by omega,by omega⟩
 ·have h:=of_decide_eq_false h
  conv=>whnf
  exact .inl ⟨by omega,fun j h2=>hj j (by omega),rfl⟩
def tAb : ByteArray:=⟨#[97,98]⟩
theorem tAb_chars : charsF tAb = some [97,98]:=by rfl
theorem hsB_nil (a : I2) : hsB [] a = false:=by
 rw [Bool.eq_false_iff]
 intro h
 exact hasS_nil _ _ (hsB_iff.1 h)
def upHs : HS:=[(⟨(1,1),(1,0),(0,0),98⟩,⟨(1,0),true⟩),(⟨(1,0),(0,0),(0,0),97⟩,⟨(0,0),true⟩)]
theorem up_ord : isOrd upHs [(1,0),(1,1)]:=by
 refine ⟨List.Perm.swap _ _ _,List.Pairwise.cons (fun b hb=>?_) (List.pairwise_singleton ..)⟩
 rw [List.mem_singleton] at hb
 subst hb
 exact .inr ⟨rfl,.inl (.inl (by decide))⟩
theorem up_ins : CallV Tryz.prog 45 [.c (.own 0 0),vci .i64 0,vcs tAb] [some (.cells 121 (dcF 1 100 [] [] [] [] [] ((0 : Nat) : Int) false))] (fun r own'=>∃ cs2 l2,LV upHs (hsB []) cs2 l2 2∧own' = [some (.cells 121 (dcF 1 100 cs2 l2 [(1,2)] [] [] ((1 : Nat) : Int) false))]∧r = .tup [vci .i64 ((1 : Nat) : Int),.c (.v .nilIface)]):=by
 have h0 : insE 1 100 [] [] 0 tAb = 0:=insE_0 tAb_chars (by decide) (by decide)
 refine (Insert_c (LV.zero (hsB [])) (by decide) VH.zero (by decide) (by decide : ([] : List Sp).length≤1000000) (w:=[]) 1 100 (by decide) (by decide) (by decide) (by decide) (by decide) 0 (by decide) 0 tAb (by decide)).mono ?_
 rintro r own2 (⟨he,_⟩ | ⟨_,L,cs2,l2,hL,V2,rfl,rfl⟩)
 ·exact absurd h0 he
 rw [tAb_chars] at hL
 cases hL
 exact ⟨cs2,l2,V2,rfl,rfl⟩
theorem up_nx (c : Int) : nxt [(1,2)] c≤4294967295:=by
 have h:=nxt_set (l:=[]) (c:=1) (n:=2) ⟨List.Pairwise.nil,fun x hx=>(List.not_mem_nil hx).elim⟩ (by decide) c
 rw [show setR [] 1 2 = [(1,2)] from rfl] at h
 rw [h]
 split
 ·decide
 ·show nxt [] c≤_
  rw [show nxt [] c = 0 from rfl]
  decide
theorem up_vh : VH [(1,2)] upHs:=(ins_okA 1 (0,0) (by decide) [97,98] 0 (0,0) [] [] VH.zero rfl (.inr rfl) (.inr rfl) (by decide) (by decide)).1
theorem up_c : CallV Tryz.prog 10 [] [] (fun r own'=>own' = []∧r = vcb true):=by
 refine callV_pure Tryz.func10 rfl ttok ftok rfl rfl rfl (Nat.le_of_ble_eq_true rfl) ?_
 conv=>whnf
 refine call_frame2 [] rfl rfl rfl rfl (new_ok 1 100 (by decide) (by decide)) ?_
 rintro r own2 ⟨rfl,rfl⟩
 refine ⟨.tup [.c (.own 0 0),.c (.v .nilIface)],[some (.cells 121 (dcF 1 100 [] [] [] [] [] 0 false))],rfl,rfl,?_⟩
 conv=>whnf
 refine call_frame2 [] rfl rfl rfl rfl (new_bad 0 100 (.inl rfl)) ?_
 rintro r own2 ⟨rfl,rfl⟩
 refine ⟨.tup [.c (.v (.pointer none)),fltA sNew 1],[some (.cells 121 (dcF 1 100 [] [] [] [] [] 0 false))],rfl,rfl,?_⟩
 conv=>whnf
 refine call_frame2 [some 0] rfl rfl rfl rfl up_ins ?_
 rintro r own2 ⟨cs2,l2,V2,rfl,rfl⟩
 obtain ⟨o,hO,hf⟩:=V2.ord
 obtain rfl:=isOrd.uniq hO up_ord
 have hf : cs2.flatten = [⟨(1,0),97,false⟩,⟨(1,1),98,false⟩]:=by
  rw [hf]
  unfold enOf
  rw [List.map_cons,List.map_cons,List.map_nil,hsB_nil,hsB_nil]
  rfl
 have hD:=Delete_c V2 (by decide) up_vh up_nx ⟨fun s h=>(List.not_mem_nil h).elim,List.Pairwise.nil⟩ (by decide : ([] : List Sp).length≤450000) (w:=[]) 1 100 1 (by decide) 0 1
 rw [hf] at hD
 refine ⟨.tup [vci .i64 ((1 : Nat) : Int),.c (.v .nilIface)],[some (.cells 121 (dcF 1 100 cs2 l2 [(1,2)] [] [] ((1 : Nat) : Int) false))],rfl,rfl,?_⟩
 conv=>whnf
 refine call_frame2 [some 0] rfl rfl rfl rfl hD ?_
 rintro r own2 (⟨hp,_⟩ | ⟨_,cs3,V3,rfl,rfl⟩)
 ·exact absurd hp (by decide)
 obtain ⟨o,hO3,hf3⟩:=V3.ord
 obtain rfl:=isOrd.uniq hO3 up_ord
 have hfl : txS cs3.flatten = ⟨#[98]⟩:=by
  rw [hf3]
  have hb : ∀ a,hsB (setL ([] ++ spsI [(1,0)])) a = (hsB [] a || decide (a ∈ [((1 : Int),(0 : Int))])):=hsB_ids ⟨fun s h=>(List.not_mem_nil h).elim,List.Pairwise.nil⟩ (by decide)
  have hi : idsL [⟨(1,0),97,false⟩,⟨(1,1),98,false⟩] (Int.toNat 0) (Int.toNat 1) = [(1,0)]:=rfl
  rw [hi]
  unfold enOf
  rw [List.map_cons,List.map_cons,List.map_nil,hb,hb,hsB_nil,hsB_nil]
  rfl
 have hlen : sumL cs3≤100000:=by rw [V3.sum];decide
 refine ⟨.tup [vci .i64 ((2 : Nat) : Int),.c (.v .nilIface)],[some (.cells 121 (dcF 1 100 cs3 l2 [(1,2)] [] (setL ([] ++ spsI (idsL [⟨(1,0),97,false⟩,⟨(1,1),98,false⟩] (Int.toNat 0) (Int.toNat 1)))) ((2 : Nat) : Int) false))],rfl,rfl,?_⟩
 conv=>whnf
 refine call_pure (gfault_c sNew 1) rfl ?_
 rintro _ rfl
 conv=>whnf
 refine call_frame2 [some 0] rfl rfl rfl rfl (dtext_c 1 100 cs3 l2 [(1,2)] [] _ ((2 : Nat) : Int) false (by have:=V3.ck;omega) hlen) ?_
 rintro r own2 ⟨rfl,rfl⟩
 rw [hfl]
 refine ⟨_,_,rfl,rfl,?_⟩
 conv=>whnf
 all_goals first | rfl | exact ⟨rfl,rfl⟩
end Go.Eng
namespace Go.Eng
open Go Go.RowKit Go.Proofs
theorem its_dis {hs : HS} (ho : okH hs) : (itsH hs).Pairwise fun x y=>x.id≠y.id:=by
 unfold itsH
 rw [List.pairwise_reverse,List.pairwise_map]
 have h:=idsH_nodup ho
 unfold idsH List.Nodup at h
 rw [List.pairwise_map] at h
 exact h.imp (fun h e=>h e.symm)
theorem snL_perm {hs : HS} {G : I2→Bool} {cs : Ck} {l : List Nd} {N : Nat} (V : LV hs G cs l N) (u : CV) : (snL hs u cs.flatten).Perm ((itsH hs).filter (cvP u)):=by
 obtain ⟨o,hO,hf⟩:=V.ord
 unfold snL
 rw [hf,List.filterMap_map]
 refine (hO.perm.filterMap _).trans ?_
 unfold idsH itsH
 rw [List.filterMap_map,List.filter_reverse]
 refine List.Perm.trans ?_ (List.reverse_perm _).symm
 have key : ∀ m : HS,(∀ p,p ∈ m→p ∈ hs)→m.filterMap ((fun a=>(snO hs u ∘ enOf hs G) a) ∘ fun p=>p.1.id) = (m.map (fun p=>p.1)).filter (cvP u):=by
  intro m
  induction m with
  | nil=>intro _;rfl
  | cons p m ih =>
   intro hm
   rw [List.filterMap_cons,List.map_cons,List.filter_cons,ih (fun q hq=>hm q (List.mem_cons_of_mem _ hq))]
   have h1 : itOf hs p.1.id = some p.1:=itOf_at V.L.ok (hm p (List.mem_cons_self ..))
   have h2 : ((fun a=>(snO hs u ∘ enOf hs G) a) ∘ fun p=>p.1.id) p = if nxt u p.1.id.1≤p.1.id.2 then some p.1 else none:=by
    show snO hs u (enOf hs G p.1.id) = _
    unfold snO
    rw [show (enOf hs G p.1.id).id = p.1.id from rfl,h1]
   rw [h2]
   by_cases h : nxt u p.1.id.1≤p.1.id.2
   ·rw [if_pos h,if_pos (show cvP u p.1 = true from decide_eq_true h)]
   ·rw [if_neg h,if_neg (show ¬ cvP u p.1 = true from fun e=>h (of_decide_eq_true e))]
 exact (key hs (fun p h=>h)) ▸ List.Perm.refl _
def sbI (a b : Ba) (n : Nat) (st : St) : Prop:=∃ k : Nat,n = a.runs.length - k∧k≤a.runs.length∧(∀ j,j < k→a.runs.getD j ru0 = b.runs.getD j ru0) ∧
 st = ⟨36,0,[(2,.c (.own 0 0)),(3,.c (.own 1 0)),(5,vci .i64 (k : Int))],[some (.cells 58 (baF a)),some (.cells 58 (baF b))]⟩
theorem sameb_c (a b : Ba) (ha : a.runs.length≤1000000) (hb : b.runs.length≤1000000) (ha2 : a.dels.length≤1000000) (hb2 : b.dels.length≤1000000) : CallV Tryz.prog 24 [.agg (baF a),.agg (baF b)] [] (fun r own'=>own' = []∧((a = b∧r = vcb true)∨(a≠b∧r = vcb false))):=by
 refine callV_pure Tryz.func24 rfl ttok ftok rfl rfl rfl (Nat.le_of_ble_eq_true rfl) ?_
 conv=>whnf
 by_cases hl : a.runs.length = b.runs.length
 ·rw [show (((a.runs.length : Nat) : Int) != (b.runs.length : Nat)) = false from by rw [hl];exact bne_self_eq_false _]
  conv=>whnf
  refine loopV ttok ftok (sbI a b) (norm_weak [2,3,5] [some 0,some 1] rfl rfl) ⟨0,rfl,Nat.zero_le _,fun j hj=>by omega,rfl⟩ ?_
  rintro n st ⟨k,rfl,hk,hj,rfl⟩
  conv=>whnf
  refine onB_intro (fun h=>?_) (fun h=>?_)
  ·have h:=of_decide_eq_true h
   have hk2 : k < a.runs.length:=by omega
   conv=>whnf
   refine drawV_join mixed (by kernel_rfl) ttok ?_
   conv=>whnf
   refine ⟨⟨by omega,by omega⟩,?_⟩
   conv=>whnf
   refine ⟨⟨by omega,by omega⟩,?_⟩
   conv=>whnf
   simp only [ti_nat]
   refine onB_intro (fun g=>?_) (fun g=>?_)
   ·conv=>whnf
    refine .inr ⟨fun e=>?_,rfl⟩
    subst e
    simp [ba_bne] at g
   ·have e : a.runs.getD k ru0 = b.runs.getD k ru0:=by
     simp [- List.getD_eq_getElem?_getD] at g
     obtain ⟨⟨q1,q2⟩,⟨q3,q4⟩,⟨q5,q6⟩,q7⟩:=g
     exact ru_ext q1 q2 q3 q4 q5 q6 ((ba_beq _ _).1 q7)
    conv=>whnf
    rw [show IntKind.i64.wrap ((k : Int) + 1) = ((k + 1 : Nat) : Int) from by rw [w_i64 (by omega) (by omega)];omega]
    refine ⟨a.runs.length - (k + 1),_,by omega,norm_weak [2,3,5] [some 0,some 1] rfl rfl,k + 1,rfl,by omega,fun j h2=>?_,rfl⟩
    rcases Nat.lt_succ_iff_lt_or_eq.1 h2 with h3 | rfl
    ·exact hj j h3
    ·exact e
  ·have h:=of_decide_eq_false h
   have hre : a.runs = b.runs:=slist_eq ru0 hl (fun j h2=>hj j (by omega))
   conv=>whnf
   refine call_pure (sameset_c a.dels b.dels (by omega) (by omega)) rfl ?_
   rintro _ (⟨h1,rfl⟩ | ⟨h1,rfl⟩)
   ·conv=>whnf
    refine .inl ⟨?_,rfl⟩
    obtain ⟨a1,a2⟩:=a
    obtain ⟨b1,b2⟩:=b
    simp only at hre h1
    rw [hre,h1]
   ·conv=>whnf
    exact .inr ⟨fun e=>h1 (by rw [e]),rfl⟩
 ·rw [show (((a.runs.length : Nat) : Int) != (b.runs.length : Nat)) = true from bne_iff_ne.2 (fun e=>hl (by omega))]
  conv=>whnf
  exact .inr ⟨fun e=>hl (by rw [e]),rfl⟩
abbrev dOwn1 (D : DF) (hs : HS) (gs : List I2) : List (Option Ob):=[some (.cells 52 (dF D 2 3)),some (.row 144 7 (itsH hs).length (itR (itsH hs))),some (.row 136 2 gs.length (idR gs))]
theorem do_x (c lim : Int) (cs : Ck) (l : List Nd) (v : CV) (w : List It) (g : List Sp) (ver : Int) : CallV Tryz.prog 16 [.c (.own 0 0),.agg [vi 0,vi 0,vi 0,.v (.string ⟨#[]⟩),.v (.slice none 0 0)]] [some (.cells 121 (dcF c lim cs l v w g ver true))] (fun r own'=>own' = [some (.cells 121 (dcF c lim cs l v w g ver true))]∧r = .tup [vci .i64 0,vcs sInsert,vci .i64 6]):=by
 refine callV_own Tryz.func16 rfl ttok ftok rfl rfl rfl (Nat.le_of_ble_eq_true rfl) rfl ?_
 conv=>whnf
 refine call_pure (pick_c_L 0 4 (by decide) (by decide)) rfl ?_
 rintro _ rfl
 conv=>whnf
 refine call_frame2 [some 0] rfl rfl rfl rfl (Insert_x c lim cs l v w g ver 0 ⟨#[]⟩) ?_
 rintro r own2 ⟨rfl,rfl⟩
 refine ⟨_,_,rfl,rfl,?_⟩
 conv=>whnf
 refine call_pure (gfault_c sInsert 6) rfl ?_
 rintro _ rfl
 conv=>whnf
 refine ⟨_,Weak.refl _,?_⟩
 conv=>whnf
 exact ⟨[some 0],rfl,rfl,rfl,rfl⟩
def dpI (c lim : Int) (ds : List Dd) (u : CV) (n : Nat) (st : St) : Prop:=∃ (k : Nat) (P : Pd) (cs : Ck) (l : List Nd) (N : Nat) (gs : List I2),n = ds.length - k∧k≤ds.length∧DI k P cs l N gs ∧
 st = ⟨204,0,[(2,ddS ds),(3,ckS_V u),(9,vcb true),(11,.c (.own 0 0)),(13,.c (.own 1 0)),(17,vci .i64 (k : Int))],some (.cells 121 (dcF c lim cs l P.v P.w P.g (P.n : Int) false)) :: dOwn1 (rdF c lim P) P.hs gs⟩
theorem docPlays_c (c lim : Int) (hc0 : 0≤c) (hc2 : c≤4294967295) (hl0 : 0≤lim) (hl2 : lim≤4294967295) (ds : List Dd) (hds : ds.length≤1048576) (hok : ∀ d,d ∈ ds→i64P d.what∧i64P d.n∧d.text.size≤1048576∧d.b.length≤1048576) (u : CV) (hu : u.length≤1048576) (hun : ∀ x ∈ u,0≤x.1∧0≤x.2) :
  CallV Tryz.prog 3 [vci .u32 c,vci .u32 lim,ddS ds,ckS_V u] [] (fun r own'=>own' = []∧r = vcb true):=by
 refine callV_pure Tryz.func3 rfl ttok ftok rfl rfl rfl (Nat.le_of_ble_eq_true rfl) ?_
 conv=>whnf
 refine call_pure up_c rfl ?_
 rintro _ rfl
 conv=>whnf
 refine call_pure (rmay_c_V u (by omega) hun) rfl ?_
 rintro _ ⟨may,hmay,rfl⟩
 conv=>whnf
 refine call_pure (small_c ds hds (fun d hd=>⟨(hok d hd).2.2.1,(hok d hd).2.2.2⟩)) rfl ?_
 rintro _ (⟨h20,hsm,rfl⟩ | rfl)
 rotate_left
 ·conv=>whnf
  all_goals first | rfl | exact ⟨rfl,rfl⟩
 conv=>whnf
 by_cases hu20 : 20 < u.length
 ·rw [decide_eq_true (by omega : (u.length : Int) > 20)]
  conv=>whnf
  all_goals first | rfl | exact ⟨rfl,rfl⟩
 rw [decide_eq_false (by omega : ¬ (u.length : Int) > 20)]
 cases may with
 | false =>
  conv=>whnf
  all_goals first | rfl | exact ⟨rfl,rfl⟩
 | true =>
 have hmu:=hmay.1 rfl
 conv=>whnf
 by_cases hbad : c = 0∨4294967294 < lim
 ·refine call_pure (new_bad c lim hbad) rfl ?_
  rintro _ rfl
  conv=>whnf
  refine call_pure (rnew_bad c lim hbad) rfl ?_
  rintro _ rfl
  conv=>whnf
  refine call_pure (gfault_c sNew 1) rfl ?_
  rintro _ rfl
  conv=>whnf
  all_goals first | rfl | exact ⟨rfl,rfl⟩
 have hc : 0 < c:=by omega
 have hl : lim≤4294967294:=by omega
 refine call_frame2 [] rfl rfl rfl rfl (new_ok c lim (by omega) hl) ?_
 rintro r own2 ⟨rfl,rfl⟩
 refine ⟨.tup [.c (.own 0 0),.c (.v .nilIface)],[some (.cells 121 (dcF c lim [] [] [] [] [] 0 false))],rfl,rfl,?_⟩
 conv=>whnf
 refine call_frame2 [] rfl rfl rfl rfl (rnew_ok c lim (by omega) hl) ?_
 rintro r own2 ⟨rfl,rfl⟩
 refine ⟨.tup [.c (.own 1 0),vci .i64 0],some (.cells 121 (dcF c lim [] [] [] [] [] 0 false)) :: dOwn1 (rd0 c lim) [] [],rfl,rfl,?_⟩
 conv=>whnf
 refine call_pure gfault_0 rfl ?_
 rintro _ rfl
 conv=>whnf
 refine loopV ttok ftok (dpI c lim ds u) (norm_weak [2,3,9,11,13,17] [some 0,some 1,some 2,some 3] rfl rfl) ⟨0,⟨[],[],[],[],0⟩,[],[],0,[],rfl,Nat.zero_le _,DI.zero,rfl⟩ ?_
 rintro q st ⟨k,P,cs,l,N,gs,rfl,hk,D,rfl⟩
 have e1:=e64 (k:=k) (by omega)
 conv=>whnf
 refine onB_intro (fun h=>?_) (fun h=>?_)
 ·have h:=of_decide_eq_true h
  have hkl : k < ds.length:=by omega
  have hdk:=hok _ (getD_mem (d:=dd0) hkl)
  have hsk:=hsm k hkl
  conv=>whnf
  refine ⟨by omega,?_⟩
  conv=>whnf
  rw [ti_nat]
  obtain ⟨d,hd⟩ : ∃ d,ds.getD k dd0 = d:=⟨_,rfl⟩
  rw [hd] at hdk hsk ⊢
  refine call_frame2 [some 0] rfl rfl rfl rfl (do_c D (by omega) hc hc2 hl0 hl d hdk.1 hsk.1 hsk.2) ?_
  rintro r own2 ⟨Q,t,cs2,l2,N2,hx,V2,hN2,rfl,rfl⟩
  refine ⟨.tup [vci .i64 t.ver,vcs t.op,vci .i64 t.code],some (.cells 121 (dcF c lim cs2 l2 Q.v Q.w Q.g (Q.n : Int) false)) :: dOwn1 (rdF c lim P) P.hs gs,rfl,rfl,?_⟩
  conv=>whnf
  refine ⟨by omega,?_⟩
  conv=>whnf
  rw [ti_nat,hd]
  refine call_frame2 [some 1,some 2,some 3] rfl rfl rfl rfl (play_c D (by omega) hc hc2 hl0 hl d hdk.1 hdk.2.1 hsk.1 hsk.2) ?_
  rintro r own2 ⟨Q2,t2,gs2,hx2,I2,hgs2,rfl,rfl⟩
  obtain ⟨rfl,rfl⟩:=ddN_uniq (by omega) D.wnd hx hx2
  have D2:=D.step (by omega) hc hc2 hl0 hl hsk.1 hsk.2 hx V2 hN2 I2 hgs2
  refine ⟨.tup [vci .i64 t.ver,vcs t.op,vci .i64 t.code],[some (.cells 121 (dcF c lim cs2 l2 Q.v Q.w Q.g (Q.n : Int) false)),some (.cells 52 (dF (rdF c lim Q) 4 5)),none,none,some (.row 144 7 (itsH Q.hs).length (itR (itsH Q.hs))),some (.row 136 2 gs2.length (idR gs2))],rfl,rfl,?_⟩
  have h1:=D2.nw
  have h2:=D2.gl
  have h4:=D2.vl
  have h6:=D2.V.len
  have h7:=D2.V.sum
  have h9:=D2.V.ck
  have h8 : cs2.flatten.length = sumL cs2:=rfl
  conv=>whnf
  refine drawV_sched (.rd 0 (.rd 2 (.rd 3 (.rd 4 (.rd 5 (.ef 1 (.ef 6 (.rd 7 (.nil))))))))) [0,6] mixed (by kernel_rfl) ttok ftok ?_
  conv=>whnf
  refine call_frame2 [some 0] rfl rfl rfl rfl (dvector_c c lim cs2 l2 Q.v Q.w Q.g (Q.n : Int) false (by omega)) ?_
  rintro r own2 ⟨rfl,rfl⟩
  refine ⟨.c (.row 6),[some (.cells 121 (dcF c lim cs2 l2 Q.v Q.w Q.g (Q.n : Int) false)),none,none,none,none,none,some (.row 109 2 (List.length Q.v) (ckR Q.v))],rfl,rfl,?_⟩
  conv=>whnf
  refine ⟨fun _ _=>rfl,?_⟩
  conv=>whnf
  refine call_pure (same_c_V Q.v Q.v (by omega) (by omega)) rfl ?_
  rintro _ rfl
  rw [decide_eq_true (rfl : Q.v = Q.v)]
  conv=>whnf
  refine drawV_nar (.rd 0 (.rd 1 (.rd 2 (.rd 3 (.rd 4 (.rd 5 (.rd 6 (.rd 7 (.rd 8 (.rd 9 (.rd 10 (.rd 11 (.rd 12 (.rd 13 (.rd 14 (.rd 16 (.ef 15 (.ef 17 (.rd 18 (.rd 19 (.rd 20 (.rd 21 (.rd 22 (.rd 23 (.rd 24 (.rd 25 (.rd 27 (.rd 28 (.rd 29 (.rd 30 (.ef 26 (.rd 31 (.rd 32 (.rd 33 (.rd 34 (.rd 36 (.rd 37 (.rd 38 (.rd 39 (.rd 40 (.ef 35 (.rd 41 (.rd 42 (.nil)))))))))))))))))))))))))))))))))))))))))))) [[0,1,4,5],[0,1,4,5],[0],[0],[0]] mixed (by kernel_rfl) ttok ftok ?_
  conv=>whnf
  rw [bne_self_eq_false t.ver]
  conv=>whnf
  rw [decide_eq_true (rfl : t.op = t.op)]
  conv=>whnf
  rw [bne_self_eq_false t.code]
  conv=>whnf
  refine call_frame2 [some 0] rfl rfl rfl rfl (dtext_c c lim cs2 l2 Q.v Q.w Q.g (Q.n : Int) false (by omega) (by omega)) ?_
  rintro r own2 ⟨rfl,rfl⟩
  refine ⟨vcs (txS cs2.flatten),[some (.cells 121 (dcF c lim cs2 l2 Q.v Q.w Q.g (Q.n : Int) false)),some (.cells 52 (dF (rdF c lim Q) 4 5)),none,none,some (.row 144 7 (itsH Q.hs).length (itR (itsH Q.hs))),some (.row 136 2 gs2.length (idR gs2)),none],rfl,rfl,?_⟩
  conv=>whnf
  refine call_frame2 [some 1,some 4,some 5] rfl rfl rfl rfl (rText_c (rdF c lim Q) D2.V.L.ok D2.bld (by omega) (by omega) cs2.flatten D2.ents (by omega)) ?_
  rintro r own2 ⟨rfl,rfl⟩
  refine ⟨vcs (txS cs2.flatten),[some (.cells 121 (dcF c lim cs2 l2 Q.v Q.w Q.g (Q.n : Int) false)),some (.cells 52 (dF (rdF c lim Q) 4 5)),none,none,some (.row 144 7 (itsH Q.hs).length (itR (itsH Q.hs))),some (.row 136 2 gs2.length (idR gs2)),none],rfl,rfl,?_⟩
  conv=>whnf
  rw [decide_eq_true (rfl : txS cs2.flatten = txS cs2.flatten)]
  conv=>whnf
  refine call_frame2 [some 0] rfl rfl rfl rfl (version_c c lim cs2 l2 Q.v Q.w Q.g (Q.n : Int) false) ?_
  rintro r own2 ⟨rfl,rfl⟩
  refine ⟨vci .i64 (Q.n : Int),[some (.cells 121 (dcF c lim cs2 l2 Q.v Q.w Q.g (Q.n : Int) false)),none,none,none,none,none,none],rfl,rfl,?_⟩
  conv=>whnf
  rw [bne_self_eq_false (Q.n : Int)]
  conv=>whnf
  refine call_frame2 [some 0] rfl rfl rfl rfl (waiting_c c lim cs2 l2 Q.v Q.w Q.g (Q.n : Int) false) ?_
  rintro r own2 ⟨rfl,rfl⟩
  refine ⟨vci .i64 (Q.w.length : Int),[some (.cells 121 (dcF c lim cs2 l2 Q.v Q.w Q.g (Q.n : Int) false)),none,none,none,none,none,none],rfl,rfl,?_⟩
  conv=>whnf
  rw [bne_self_eq_false (Q.w.length : Int)]
  conv=>whnf
  rw [e1]
  exact ⟨ds.length - (k + 1),_,by omega,norm_weak [2,3,9,11,13,17] [some 0,some 1,some 4,some 5] rfl rfl,k + 1,Q,cs2,l2,N2,gs2,rfl,by omega,D2,rfl⟩
 ·have h:=of_decide_eq_false h
  obtain rfl : k = ds.length:=by omega
  have h1:=D.nw
  have h2:=D.gl
  have h3:=D.glen
  have h4:=D.vl
  have h6:=D.V.len
  have h7:=D.V.sum
  have h9:=D.V.ck
  have h8 : cs.flatten.length = sumL cs:=rfl
  conv=>whnf
  refine call_frame2 [some 0] rfl rfl rfl rfl (since_c D.V (by omega) P.v P.w P.g (by omega) c lim (P.n : Int) false u hmu (by omega) (fun x h hm=>(D.iok x h hm).ok)) ?_
  rintro r own2 ⟨rfl,ys,hp,hns,rfl⟩
  refine ⟨.agg (baF ⟨ofK ys ys.length,P.g⟩),some (.cells 121 (dcF c lim cs l P.v P.w P.g (P.n : Int) false)) :: dOwn1 (rdF c lim P) P.hs gs,rfl,rfl,?_⟩
  conv=>whnf
  refine call_frame2 [some 1,some 2,some 3] rfl rfl rfl rfl (rsince_c (rdF c lim P) gs (by omega) u (by omega) (fun x h hm=>(D.iok x h hm).ok)) ?_
  rintro r own2 ⟨rfl,zs,hp2,hns2,rfl⟩
  have hfp:=snL_perm D.V u
  have hyz : ys = zs.filter (cvP u):=ns_uniq ((its_dis D.V.L.ok).filter _) (hp.trans hfp) (hp2.filter _) hns (hns2.filter _)
  rw [←hyz]
  have hyl : ys.length≤20000:=by
   have e1:=hp.length_eq
   have e2:=snL_len P.hs u cs.flatten
   omega
  have hol:=(ofK_len ys ys.length).1
  refine ⟨.agg (baF ⟨ofK ys ys.length,P.g⟩),some (.cells 121 (dcF c lim cs l P.v P.w P.g (P.n : Int) false)) :: dOwn1 (rdF c lim P) P.hs gs,rfl,rfl,?_⟩
  conv=>whnf
  refine call_pure (sameb_c ⟨ofK ys ys.length,P.g⟩ ⟨ofK ys ys.length,P.g⟩ (by show (ofK ys ys.length).length≤_;omega) (by show (ofK ys ys.length).length≤_;omega) (by show P.g.length≤_;omega) (by show P.g.length≤_;omega)) rfl ?_
  rintro _ (⟨_,rfl⟩ | ⟨hno,_⟩)
  rotate_left
  ·exact absurd rfl hno
  conv=>whnf
  refine call_frame2 [some 0] rfl rfl rfl rfl (close_c c lim cs l P.v P.w P.g (P.n : Int) false) ?_
  rintro r own2 ⟨rfl,rfl⟩
  refine ⟨.c (.v .nilIface),some (.cells 121 (dcF c lim cs l P.v P.w P.g (P.n : Int) true)) :: dOwn1 (rdF c lim P) P.hs gs,rfl,rfl,?_⟩
  conv=>whnf
  refine call_frame2 [some 0] rfl rfl rfl rfl (close_c c lim cs l P.v P.w P.g (P.n : Int) true) ?_
  rintro r own2 ⟨rfl,rfl⟩
  refine ⟨fltA sClose 6,some (.cells 121 (dcF c lim cs l P.v P.w P.g (P.n : Int) true)) :: dOwn1 (rdF c lim P) P.hs gs,rfl,rfl,?_⟩
  conv=>whnf
  refine call_frame2 [some 0] rfl rfl rfl rfl (do_x c lim cs l P.v P.w P.g (P.n : Int)) ?_
  rintro r own2 ⟨rfl,rfl⟩
  refine ⟨.tup [vci .i64 0,vcs sInsert,vci .i64 6],some (.cells 121 (dcF c lim cs l P.v P.w P.g (P.n : Int) true)) :: dOwn1 (rdF c lim P) P.hs gs,rfl,rfl,?_⟩
  conv=>whnf
  refine call_pure (gfault_c sClose 6) rfl ?_
  rintro _ rfl
  conv=>whnf
  refine call_frame2 [some 0] rfl rfl rfl rfl (dtext_c c lim cs l P.v P.w P.g (P.n : Int) true (by omega) (by omega)) ?_
  rintro r own2 ⟨rfl,rfl⟩
  refine ⟨vcs (txS cs.flatten),some (.cells 121 (dcF c lim cs l P.v P.w P.g (P.n : Int) true)) :: dOwn1 (rdF c lim P) P.hs gs,rfl,rfl,?_⟩
  conv=>whnf
  refine call_frame2 [some 1,some 2,some 3] rfl rfl rfl rfl (rText_c (rdF c lim P) D.V.L.ok D.bld (by omega) (by omega) cs.flatten D.ents (by omega)) ?_
  rintro r own2 ⟨rfl,rfl⟩
  refine ⟨vcs (txS cs.flatten),some (.cells 121 (dcF c lim cs l P.v P.w P.g (P.n : Int) true)) :: dOwn1 (rdF c lim P) P.hs gs,rfl,rfl,?_⟩
  conv=>whnf
  rw [decide_eq_true (rfl : txS cs.flatten = txS cs.flatten)]
  all_goals first | rfl | exact ⟨rfl,rfl⟩
end Go.Eng
namespace Go.Eng
open Go Go.RowKit Go.Proofs
theorem den_sl_mono {L : Nat→Value} {h : Hp} {sz n : Nat} {f f' : Nat→List IC} {v : Value} (hd : Den L h (.sl sz n f) v) (hl2 : ∀ k,k < n→(f' k).length = sz) (hc2 : ∀ k,k < n→(f' k).all clo = true) (he : ∀ k,k < n→∀ (j : Nat) c',(f' k)[j]? = some c'→∃ c,(f k)[j]? = some c∧∀ u,Den L h c u→Den L h c' u) : Den L h (.sl sz n f') v:=by
 cases hd with
 | sl _ _ _ A c ad g hc hm hA hg hl hclo hr=>exact .sl sz n f' A c ad g hc hm hA hg hl2 hc2 (fun k hk j c' hc'=>by
   obtain ⟨c0,h1,h2⟩:=he k hk j c' hc'
   exact h2 _ (hr k hk j c0 h1))
theorem list_rel {α : Type} (d : α) {R : Nat→α→Prop} : ∀ (n : Nat),(∀ k,k < n→∃ a,R k a)→∃ l : List α,l.length = n∧∀ k,k < n→R k (l.getD k d)
 | 0,_=>⟨[],rfl,fun k hk=>by omega⟩
 | n + 1,h=>by
  obtain ⟨l,hl,hR⟩:=list_rel d n (fun k hk=>h k (by omega))
  obtain ⟨a,ha⟩:=h n (by omega)
  refine ⟨l ++ [a],by rw [List.length_append,List.length_singleton];omega,fun k hk=>?_⟩
  rw [List.getD_eq_getElem?_getD]
  rcases Nat.lt_succ_iff_lt_or_eq.1 hk with h1 | rfl
  ·rw [List.getElem?_append_left (by omega),←List.getD_eq_getElem?_getD];exact hR k h1
  ·rw [List.getElem?_append_right (by omega),hl,Nat.sub_self];exact ha
theorem mem_getDD {α : Type} {l : List α} {x d : α} (h : x ∈ l) : ∃ j,j < l.length∧l.getD j d = x:=by
 obtain ⟨j,hj,rfl⟩:=List.getElem_of_mem h
 exact ⟨j,hj,by rw [List.getD_eq_getElem?_getD,List.getElem?_eq_getElem hj];rfl⟩
theorem rd_byteD {B d : Nat} {cs : List IC} (h : Rd tt B (d + 1) 5 cs) : ∃ c : UInt8,True∧cs = b1 c:=by
 obtain ⟨v,w,rfl⟩:=h
 have:=wf_u8 w
 refine ⟨UInt8.ofNat v.toNat,trivial,?_⟩
 rw [b1,nb (by omega),Int.toNat_of_nonneg this.1]
def ddR (cs : List IC) (d : Dd) : Prop:=(i64P d.what∧i64P d.n∧d.text.size≤1048576∧d.b.length≤1048576)∧∃ f,cs = [vi d.what,vi d.at_,vi d.n,.v (.string d.text),.sl 1 d.b.length f]∧∀ k,k < d.b.length→byteF d.b k = f k
theorem rd_dd {d : Nat} {cs : List IC} (h : Rd tt 1048576 (d + 3) 42 cs) : ∃ x : Dd,ddR cs x:=by
 obtain ⟨x1,y1,⟨v,w1,rfl⟩,⟨x2,y2,⟨w,w2,rfl⟩,⟨x3,y3,⟨u,w3,rfl⟩,⟨x4,y4,⟨s,ws,rfl⟩,⟨x5,y5,⟨n,f,hn,hf,rfl⟩,rfl,rfl⟩,rfl⟩,rfl⟩,rfl⟩,rfl⟩:=h
 obtain ⟨l,hl,hf2,_⟩:=list_of (enc:=b1) (R:=fun _=>True) (0 : UInt8) (fun k hk=>rd_byteD (hf k hk))
 subst hl
 exact ⟨⟨v,w,u,s,l⟩,⟨wf_i64 w1,wf_i64 w3,ws,hn⟩,f,rfl,fun k hk=>(hf2 k hk).symm⟩
theorem rd_dds {d : Nat} {a : AV} (h : RdA tt 1048576 (d + 4) 23 a) : ∃ l : List Dd,l.length≤1048576∧(∀ x,x ∈ l→i64P x.what∧i64P x.n∧x.text.size≤1048576∧x.b.length≤1048576)∧∀ (L : Nat→Value) (hp : Hp) v,DenA L hp a v→DenA L hp (ddS l) v:=by
 obtain ⟨c,⟨n,f,hn,hf,e⟩,rfl⟩:=h
 cases e
 obtain ⟨l,hl,hR⟩:=list_rel (R:=fun k x=>ddR (f k) x) dd0 n (fun k hk=>rd_dd (hf k hk))
 subst hl
 refine ⟨l,hn,fun s hs=>?_,fun L hp v hd=>?_⟩
 ·obtain ⟨j,hj,rfl⟩:=mem_getDD (d:=dd0) hs
  exact (hR j hj).1
 ·have hd : Den L hp (.sl 5 l.length f) v:=hd
  refine (show Den L hp (.sl 5 l.length fun k=>ddF (l.getD k dd0)) v from den_sl_mono hd (fun k hk=>rfl) (fun k hk=>rfl) (fun k hk j c' hc'=>?_))
  obtain ⟨_,g,hg,hbg⟩:=hR k hk
  rw [hg]
  match j with
  | 0=>exact ⟨_,rfl,fun u hu=>by cases hc';exact hu⟩
  | 1=>exact ⟨_,rfl,fun u hu=>by cases hc';exact hu⟩
  | 2=>exact ⟨_,rfl,fun u hu=>by cases hc';exact hu⟩
  | 3=>exact ⟨_,rfl,fun u hu=>by cases hc';exact hu⟩
  | 4=>exact ⟨_,rfl,fun u hu=>by cases hc';exact den_sl_ext hu hbg⟩
  | j + 5=>simp at hc'
theorem rd_clkD {B d : Nat} {cs : List IC} (h : Rd tt B (d + 3) 109 cs) : ∃ a : Int × Int,(0≤a.1∧0≤a.2)∧cs = ckF a:=by
 obtain ⟨x1,y1,⟨v,w1,rfl⟩,⟨x2,y2,⟨w,w2,rfl⟩,rfl,rfl⟩,rfl⟩:=h
 exact ⟨(v,w),⟨(wf_u32 w1).1,(wf_u32 w2).1⟩,rfl⟩
theorem rd_clksD {B d : Nat} {a : AV} (h : RdA tt B (d + 5) 24 a) : ∃ l : CV,(∀ x ∈ l,0≤x.1∧0≤x.2)∧l.length≤B∧∀ (L : Nat→Value) (hp : Hp) v,DenA L hp a v→DenA L hp (ckS_V l) v:=by
 obtain ⟨c,⟨n,f,hn,hf,e⟩,rfl⟩:=h
 cases e
 obtain ⟨l,hl,hf2,hR⟩:=list_of (enc:=ckF) (R:=fun x : Int × Int=>0≤x.1∧0≤x.2) (0,0) (fun k hk=>rd_clkD (hf k hk))
 refine ⟨l,fun x hx=>?_,by omega,fun L hp v hd=>?_⟩
 ·obtain ⟨j,hj,rfl⟩:=mem_getDD (d:=(0,0)) hx
  exact hR j (by omega)
 ·subst hl
  exact den_sl_ext hd (fun k hk=>(hf2 k hk).symm)
theorem docPlays_law : ∀ avs,RdArgs tt 1048576 30 [22,22,23,24] avs→CallV Tryz.prog 3 avs [] (fun r own'=>own' = []∧r = vcb true):=by
 rintro avs ⟨a0,r0,h0,⟨a1,r1,h1,⟨a2,r2,h2,⟨a3,r3,h3,rfl,rfl⟩,rfl⟩,rfl⟩,rfl⟩
 obtain ⟨c0,⟨v0,w0,e0⟩,rfl⟩:=h0
 cases e0
 obtain ⟨c1,⟨v1,w1,e1⟩,rfl⟩:=h1
 cases e1
 obtain ⟨ds,hd,hok,hdd⟩:=rd_dds h2
 obtain ⟨u,hu,hul,huu⟩:=rd_clksD h3
 refine callV_args (argsLe_same (argsLe_same (argsLe_cons hdd (argsLe_cons huu (argsLe_refl _))))) ?_
 have k0:=wf_u32 w0
 have k1:=wf_u32 w1
 exact docPlays_c v0 v1 k0.1 k0.2 k1.1 k1.2 ds hd hok u hul hu
end Go.Eng
