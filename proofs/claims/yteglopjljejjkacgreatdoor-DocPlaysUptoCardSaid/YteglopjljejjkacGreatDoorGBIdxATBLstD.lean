/- A part of the proof. -/
import Derived.Test.YteglopjljejjkacGreatDoorGBTyTBIdxM
set_option linter.unusedVariables false
set_option linter.unusedSimpArgs false
set_option maxRecDepth 100000
set_option maxHeartbeats 4000000
namespace Go.Eng
open Go Go.RowKit Go.Proofs
abbrev enF (e : En) : List IC:=[vu e.id.1,vu e.id.2,vr e.ch,.v (.bool e.gone)]
abbrev enR (l : List En) : Nat→List IC:=fun k=>enF (l.getD k en0)
abbrev enS (l : List En) : AV:=.c (.sl 4 l.length (enR l))
abbrev chF (c : List En) : List IC:=[.sl 4 c.length (enR c),vi (shn c : Int)]
abbrev chR (cs : Ck) : Nat→List IC:=fun k=>chF (cs.getD k [])
abbrev chS (cs : Ck) : AV:=.c (.sl 2 cs.length (chR cs))
abbrev ixF (cs : Ck) : List IC:=[.sl 2 cs.length (chR cs),vi (sumL cs : Int),vi (shnC cs : Int)]
abbrev ixA (cs : Ck) : AV:=.agg (ixF cs)
theorem e64 {k : Nat} (hk : k≤1000000000000) : IntKind.i64.wrap ((k : Int) + 1) = ((k + 1 : Nat) : Int):=by rw [w_i64 (by omega) (by omega)];omega
theorem take_snocE {l : List En} {k : Nat} (h : k < l.length) : l.take (k + 1) = l.take k ++ [l.getD k en0]:=by
 rw [List.take_add_one,List.getD_eq_getElem?_getD,List.getElem?_eq_getElem h];rfl
theorem shn_snoc (l : List En) (e : En) : shn (l ++ [e]) = shn l + if e.gone = true then 0 else 1:=by
 unfold shn
 rw [List.countP_append]
 cases h : e.gone <;> simp [h]
theorem shn_len (l : List En) : shn l≤l.length:=List.countP_le_length
def pkI (l : List En) (n : Nat) (st : St) : Prop:=∃ k : Nat,n = l.length - k∧k≤l.length ∧
 st = ⟨23,0,[(2,.c (.own 0 0)),(3,.c (.own 1 0)),(8,enS l),(9,vci .i64 (l.length : Int)),(10,vci .i64 (k : Int))],[some (.cells 225 [.v (.slice none 0 0),vi 0]),some (.cells 225 [.sl 4 l.length (enR l),vi (shn (l.take k) : Int)])]⟩
theorem pack_c (l : List En) (hl : l.length≤100000000) : CallV Tryz.prog 244 [enS l] [] (fun r own'=>own' = []∧r = .agg (chF l)):=by
 refine callV_pure Tryz.func244 rfl ttok ftok rfl rfl rfl (Nat.le_of_ble_eq_true rfl) ?_
 conv=>whnf
 refine loopV ttok ftok (pkI l) (norm_weak [2,3,8,9,10] [some 0,some 1] rfl rfl) ⟨0,rfl,Nat.zero_le _,rfl⟩ ?_
 rintro n st ⟨k,rfl,hk,rfl⟩
 have e1:=e64 (k:=k) (by omega)
 conv=>whnf
 refine onB_intro (fun h=>?_) (fun h=>?_)
 ·have h:=of_decide_eq_true h
  have hkl : k < l.length:=by omega
  have hs:=shn_snoc (l.take k) (l.getD k en0)
  rw [←take_snocE hkl] at hs
  have hsl:=shn_len (l.take k)
  rw [List.length_take] at hsl
  conv=>whnf
  refine ⟨⟨by omega,by omega⟩,?_⟩
  conv=>whnf
  rw [ti_nat]
  cases hg : (l.getD k en0).gone with
  | true =>
   rw [hg,if_pos rfl,Nat.add_zero] at hs
   conv=>whnf
   rw [e1]
   refine ⟨l.length - (k + 1),_,by omega,norm_weak [2,3,8,9,10] [some 0,some 1] rfl rfl,k + 1,rfl,by omega,?_⟩
   rw [hs]
   all_goals rfl
  | false =>
   rw [hg,if_neg (by decide)] at hs
   conv=>whnf
   rw [e1,e64 (by omega),←hs]
   refine ⟨l.length - (k + 1),_,by omega,norm_weak [2,3,8,9,10] [some 0,some 1] rfl rfl,k + 1,rfl,by omega,rfl⟩
 ·have h:=of_decide_eq_false h
  have hk2 : k = l.length:=by omega
  subst hk2
  rw [List.take_length]
  conv=>whnf
  all_goals first | rfl | exact ⟨rfl,rfl⟩
theorem take_snocC {cs : Ck} {k : Nat} (h : k < cs.length) : cs.take (k + 1) = cs.take k ++ [cs.getD k []]:=by
 rw [List.take_add_one,List.getD_eq_getElem?_getD,List.getElem?_eq_getElem h];rfl
theorem sumL_le (cs : Ck) (k : Nat) : sumL (cs.take k)≤sumL cs:=by
 conv=>rhs;rw [←List.take_append_drop k cs]
 rw [sumL_append];omega
theorem shnC_le (cs : Ck) : shnC cs≤sumL cs:=shn_len _
theorem sumL_at {cs : Ck} {k : Nat} (h : k < cs.length) : sumL (cs.take (k + 1)) = sumL (cs.take k) + (cs.getD k []).length:=by
 rw [take_snocC h,sumL_append];simp [sumL]
theorem shnC_at {cs : Ck} {k : Nat} (h : k < cs.length) : shnC (cs.take (k + 1)) = shnC (cs.take k) + shn (cs.getD k []):=by
 rw [take_snocC h,shnC_append];simp [shnC]
def wiI (cs : Ck) (n : Nat) (st : St) : Prop:=∃ k : Nat,n = cs.length - k∧k≤cs.length ∧
 st = ⟨29,0,[(2,.c (.own 0 0)),(3,.c (.own 1 0)),(8,chS cs),(9,vci .i64 (cs.length : Int)),(10,vci .i64 (k : Int))],[some (.cells 114 [.v (.slice none 0 0),vi 0,vi 0]),some (.cells 114 [.sl 2 cs.length (chR cs),vi (sumL (cs.take k) : Int),vi (shnC (cs.take k) : Int)])]⟩
theorem with_c (cs : Ck) (hl : cs.length≤100000000) (hs : sumL cs≤100000000) : CallV Tryz.prog 266 [chS cs] [] (fun r own'=>own' = []∧r = ixA cs):=by
 refine callV_pure Tryz.func266 rfl ttok ftok rfl rfl rfl (Nat.le_of_ble_eq_true rfl) ?_
 conv=>whnf
 refine loopV ttok ftok (wiI cs) (norm_weak [2,3,8,9,10] [some 0,some 1] rfl rfl) ⟨0,rfl,Nat.zero_le _,rfl⟩ ?_
 rintro n st ⟨k,rfl,hk,rfl⟩
 have e1:=e64 (k:=k) (by omega)
 conv=>whnf
 refine onB_intro (fun h=>?_) (fun h=>?_)
 ·have h:=of_decide_eq_true h
  have hkl : k < cs.length:=by omega
  have s1:=sumL_at hkl
  have s2:=shnC_at hkl
  have s3:=sumL_le cs (k + 1)
  have s4:=shnC_le (cs.take (k + 1))
  conv=>whnf
  refine ⟨⟨by omega,by omega⟩,?_⟩
  conv=>whnf
  rw [ti_nat]
  rw [e1,show IntKind.i64.wrap ((sumL (cs.take k) : Int) + ((cs.getD k []).length : Int)) = (sumL (cs.take (k + 1)) : Int) from by rw [w_i64 (by omega) (by omega)];omega]
  rw [show IntKind.i64.wrap ((shnC (cs.take k) : Int) + (shn (cs.getD k []) : Int)) = (shnC (cs.take (k + 1)) : Int) from by rw [w_i64 (by omega) (by omega)];omega]
  exact ⟨cs.length - (k + 1),_,by omega,norm_weak [2,3,8,9,10] [some 0,some 1] rfl rfl,k + 1,rfl,by omega,rfl⟩
 ·have h:=of_decide_eq_false h
  have hk2 : k = cs.length:=by omega
  subst hk2
  rw [List.take_length]
  conv=>whnf
  all_goals first | rfl | exact ⟨rfl,rfl⟩
theorem len_c (cs : Ck) : CallV Tryz.prog 260 [ixA cs] [] (fun r own'=>own' = []∧r = vci .i64 (sumL cs : Int)):=by
 refine callV_pure Tryz.func260 rfl ttok ftok rfl rfl rfl (Nat.le_of_ble_eq_true rfl) ?_
 conv=>whnf
 all_goals first | rfl | exact ⟨rfl,rfl⟩
theorem shown_c (cs : Ck) : CallV Tryz.prog 132 [ixA cs] [] (fun r own'=>own' = []∧r = vci .i64 (shnC cs : Int)):=by
 refine callV_pure Tryz.func132 rfl ttok ftok rfl rfl rfl (Nat.le_of_ble_eq_true rfl) ?_
 conv=>whnf
 all_goals first | rfl | exact ⟨rfl,rfl⟩
def alI (cs : Ck) (n : Nat) (st : St) : Prop:=∃ k : Nat,n = cs.length - k∧k≤cs.length ∧
 st = ⟨19,0,[(3,.c (.row 0)),(7,chS cs),(8,vci .i64 (cs.length : Int)),(9,vci .i64 (k : Int))],[some (.row 142 4 (cs.take k).flatten.length (enR (cs.take k).flatten))]⟩
theorem all_c (cs : Ck) (hl : cs.length≤1000000) (hs : sumL cs≤1000000) : CallV Tryz.prog 58 [ixA cs] [] (fun r own'=>own' = []∧r = enS cs.flatten):=by
 refine callV_pure Tryz.func58 rfl ttok ftok rfl rfl rfl (Nat.le_of_ble_eq_true rfl) ?_
 conv=>whnf
 refine loopV ttok ftok (alI cs) ((nil_row 3 142 4 (enR []) rfl).trans (norm_weak [3,7,8,9] [some 1] rfl rfl)) ⟨0,rfl,Nat.zero_le _,rfl⟩ ?_
 rintro n st ⟨k,rfl,hk,rfl⟩
 have e1:=e64 (k:=k) (by omega)
 conv=>whnf
 refine onB_intro (fun h=>?_) (fun h=>?_)
 ·have h:=of_decide_eq_true h
  have hkl : k < cs.length:=by omega
  have s1:=sumL_at hkl
  have s3:=sumL_le cs (k + 1)
  have hf : (cs.take (k + 1)).flatten = (cs.take k).flatten ++ cs.getD k []:=by rw [take_snocC hkl];simp
  unfold sumL at s1 s3 hs
  conv=>whnf
  refine ⟨⟨by omega,by omega⟩,?_⟩
  conv=>whnf
  rw [ti_nat]
  refine ⟨⟨by omega,by show ((cs.take k).flatten.length + (cs.getD k []).length) * 16≤_;omega⟩,?_⟩
  conv=>whnf
  refine app_list (enc:=enF) (d:=en0) (l:=(cs.take k).flatten) (b:=cs.getD k []) (fun k hk=>rfl) (fun k hk=>rfl) ?_
  conv=>whnf
  rw [e1,←hf]
  exact ⟨cs.length - (k + 1),_,by omega,norm_weak [3,7,8,9] [some 2] rfl rfl,k + 1,rfl,by omega,rfl⟩
 ·have h:=of_decide_eq_false h
  have hk2 : k = cs.length:=by omega
  subst hk2
  rw [List.take_length]
  conv=>whnf
  refine ⟨fun _ _=>rfl,?_⟩
  conv=>whnf
  all_goals first | rfl | exact ⟨rfl,rfl⟩
end Go.Eng
namespace Go.Eng
open Go Go.RowKit Go.Proofs
def enIndexCI (O : List (Option Ob)) (l : List En) (p : En→Bool) (caps : List (Bool × List IC)) (n : Nat) (st : St) : Prop:=∃ k : Nat,n = l.length - k∧k≤l.length∧(∀ j,j < k→p (l.getD j en0) = false) ∧
 st = ⟨19,O.length,[(0,.c (.sl 4 l.length fun k=>enF (l.getD k en0))),(1,.c (.fn 265 caps)),(7,vci .i64 l.length),(8,vci .i64 (k : Int))],O⟩
theorem enIndexC (O : List (Option Ob)) (l : List En) (hl : l.length≤1000000000) (caps : List (Bool × List IC)) (p : En→Bool)
  (hp : ∀ k,k < l.length→CallV Tryz.prog 265 (.agg (enF (l.getD k en0)) :: capsA caps) O (fun r own'=>r = vcb (p (l.getD k en0))∧own' = O)) :
  CallV Tryz.prog 264 [.c (.sl 4 l.length fun k=>enF (l.getD k en0)),.c (.fn 265 caps)] O (fun r own'=>(∃ k : Nat,k < l.length∧p (l.getD k en0) = true∧(∀ j,j < k→p (l.getD j en0) = false)∧r = vci .i64 k∧own' = O) ∨
   ((∀ j,j < l.length→p (l.getD j en0) = false)∧r = vci .i64 (-1)∧own' = O)):=by
 refine callV_same Tryz.func264 rfl ttok ftok rfl rfl rfl (Nat.le_of_ble_eq_true rfl) ?_
 conv=>whnf
 refine loopV ttok ftok (enIndexCI O l p caps) (env_weak [0,1,7,8] rfl) ⟨0,rfl,Nat.zero_le _,fun j hj=>by omega,rfl⟩ ?_
 rintro n st ⟨k,rfl,hk,hj,rfl⟩
 conv=>whnf
 refine onB_intro (fun h=>?_) (fun h=>?_)
 ·have h:=of_decide_eq_true h
  have hkl : k < l.length:=by omega
  conv=>whnf
  rw [forceL_eq]
  conv=>whnf
  refine ⟨⟨by omega,by omega⟩,?_⟩
  conv=>whnf
  refine (hp k hkl).mono ?_
  rintro r own2 ⟨rfl,rfl⟩
  conv=>whnf
  cases hpk : p (l.getD k en0) with
  | true =>
   conv=>whnf
   refine ⟨_,Weak.refl _,?_⟩
   conv=>whnf
   exact .inl ⟨k,hkl,hpk,hj,rfl,rfl⟩
  | false =>
   conv=>whnf
   refine ⟨l.length - (k + 1),_,by omega,env_weak [0,1,7,8] rfl,k + 1,rfl,by omega,fun j hj2=>?_,?_⟩
   ·rcases Nat.lt_succ_iff_lt_or_eq.1 hj2 with h2 | rfl
    ·exact hj j h2
    ·exact hpk
   rw [show (((k + 1 : Nat)) : Int) = IntKind.i64.wrap ((k : Int) + 1) from by rw [w_i64 (by omega) (by omega)];omega]
   all_goals rfl
 ·have h:=of_decide_eq_false h
  conv=>whnf
  refine ⟨_,Weak.refl _,?_⟩
  conv=>whnf
  exact .inr ⟨fun j hj2=>hj j (by omega),rfl,rfl⟩
theorem id_beq (x a : I2) : (x.1 == a.1 && (x.2 == a.2 && true)) = (x == a):=by
 rw [Bool.and_true,Bool.eq_iff_iff,Bool.and_eq_true,beq_iff_eq,beq_iff_eq,beq_iff_eq]
 exact ⟨fun e=>Prod.ext e.1 e.2,fun e=>by rw [e];exact ⟨rfl,rfl⟩⟩
theorem pl1_c (a : I2) (e : En) : CallV Tryz.prog 265 [.agg (enF e),.c (.own 0 0)] [some (.cells 136 (idF a))] (fun r own'=>r = vcb (e.id == a)∧own' = [some (.cells 136 (idF a))]):=by
 refine callV_own Tryz.func265 rfl ttok ftok rfl rfl rfl (Nat.le_of_ble_eq_true rfl) rfl ?_
 conv=>whnf
 refine ⟨_,Weak.refl _,?_⟩
 conv=>whnf
 refine ⟨[some 0],rfl,rfl,?_,rfl⟩
 show vcb _ = _
 rw [←id_beq]
theorem findE_some {l : List En} {p : En→Bool} {k : Nat} (hk : k < l.length) (h1 : p (l.getD k en0) = true) (h2 : ∀ j,j < k→p (l.getD j en0) = false) : l.findIdx? p = some k:=by
 have hg : ∀ j (hj : j < l.length),l.getD j en0 = l[j]:=fun j hj=>by rw [List.getD_eq_getElem?_getD,List.getElem?_eq_getElem hj];rfl
 rw [List.findIdx?_eq_some_iff_getElem]
 refine ⟨hk,by rw [←hg k hk];exact h1,fun j hj=>?_⟩
 have:=h2 j hj
 rw [hg j (by omega)] at this
 simp [this]
theorem findE_none {l : List En} {p : En→Bool} (h : ∀ j,j < l.length→p (l.getD j en0) = false) : l.findIdx? p = none:=by
 rw [List.findIdx?_eq_none_iff]
 intro x hx
 obtain ⟨j,hj,rfl⟩:=List.getElem_of_mem hx
 have:=h j hj
 rwa [List.getD_eq_getElem?_getD,List.getElem?_eq_getElem hj] at this
theorem plcC_hit : ∀ {cs : Ck} {a : I2} {k q : Nat},(∀ j,j < k→(cs.getD j []).findIdx? (fun e=>e.id == a) = none)→k < cs.length→(cs.getD k []).findIdx? (fun e=>e.id == a) = some q→plcC cs a = some (k,q)
 | [],a,k,q,_,h,_=>by simp at h
 | c :: cs,a,0,q,_,_,h=>by
  have h : c.findIdx? (fun e=>e.id == a) = some q:=h
  rw [plcC_cons,h]
 | c :: cs,a,k + 1,q,hj,hk,h=>by
  have h0 : c.findIdx? (fun e=>e.id == a) = none:=hj 0 (by omega)
  have:=plcC_hit (cs:=cs) (a:=a) (k:=k) (q:=q) (fun j hj2=>by have:=hj (j + 1) (by omega);simpa using this) (by simpa using hk) (by simpa using h)
  rw [plcC_cons,h0,this]
  rfl
theorem plcC_miss : ∀ {cs : Ck} {a : I2},(∀ j,j < cs.length→(cs.getD j []).findIdx? (fun e=>e.id == a) = none)→plcC cs a = none
 | [],a,_=>rfl
 | c :: cs,a,hj=>by
  have h0 : c.findIdx? (fun e=>e.id == a) = none:=hj 0 (by simp)
  have:=plcC_miss (cs:=cs) (a:=a) (fun j hj2=>by have:=hj (j + 1) (by simp;omega);simpa using this)
  rw [plcC_cons,h0,this]
  rfl
def plI (cs : Ck) (a : I2) (n : Nat) (st : St) : Prop:=∃ k : Nat,n = cs.length - k∧k≤cs.length∧(∀ j,j < k→(cs.getD j []).findIdx? (fun e=>e.id == a) = none) ∧
 st = ⟨27,0,[(3,.c (.own 0 0)),(11,chS cs),(12,vci .i64 (cs.length : Int)),(13,vci .i64 (k : Int))],[some (.cells 136 (idF a))]⟩
def plV (o : Option (Nat × Nat)) : AV:=match o with
 | some (i,k)=>.tup [vci .i64 (i : Int),vci .i64 (k : Int),vcb true]
 | none=>.tup [vci .i64 0,vci .i64 0,vcb false]
theorem place_c (cs : Ck) (hl : cs.length≤1000000) (hs : sumL cs≤1000000) (a : I2) : CallV Tryz.prog 241 [ixA cs,idA a] [] (fun r own'=>own' = []∧r = plV (plcC cs a)):=by
 refine callV_pure Tryz.func241 rfl ttok ftok rfl rfl rfl (Nat.le_of_ble_eq_true rfl) ?_
 conv=>whnf
 refine loopV ttok ftok (plI cs a) (norm_weak [3,11,12,13] [some 1] rfl rfl) ⟨0,rfl,Nat.zero_le _,fun j hj=>by omega,rfl⟩ ?_
 rintro n st ⟨k,rfl,hk,hj,rfl⟩
 have e1:=e64 (k:=k) (by omega)
 conv=>whnf
 refine onB_intro (fun h=>?_) (fun h=>?_)
 ·have h:=of_decide_eq_true h
  have hkl : k < cs.length:=by omega
  have s1:=sumL_at hkl
  have s3:=sumL_le cs (k + 1)
  conv=>whnf
  refine ⟨⟨by omega,by omega⟩,?_⟩
  conv=>whnf
  rw [ti_nat]
  refine (enIndexC _ (cs.getD k []) (by omega) [(false,[.own 0 0])] (fun e=>e.id == a) (fun q hq=>?_)).mono ?_
  ·refine call_frame2 [some 0] rfl rfl rfl rfl (pl1_c a _) ?_
   rintro r own2 ⟨rfl,rfl⟩
   exact ⟨_,_,rfl,rfl,rfl,rfl⟩
  rintro r own2 (⟨q,hq,h1,h2,rfl,rfl⟩ | ⟨h1,rfl,rfl⟩)
  ·have hp:=plcC_hit hj hkl (findE_some hq h1 h2)
   conv=>whnf
   rw [hp]
   all_goals first | rfl | exact ⟨rfl,rfl⟩
  ·conv=>whnf
   rw [e1]
   refine ⟨cs.length - (k + 1),_,by omega,norm_weak [3,11,12,13] [some 0] rfl rfl,k + 1,rfl,by omega,fun j h2=>?_,rfl⟩
   rcases Nat.lt_succ_iff_lt_or_eq.1 h2 with h3 | rfl
   ·exact hj j h3
   ·exact findE_none h1
 ·have h:=of_decide_eq_false h
  conv=>whnf
  rw [plcC_miss (fun j hj2=>hj j (by omega))]
  all_goals first | rfl | exact ⟨rfl,rfl⟩
end Go.Eng
namespace Go.Eng
open Go Go.RowKit Go.Proofs
abbrev erC (k : Int) : AV:=.c (.v (.iface 111 (.int .i64 k)))
def fnV (o : Option Nat) : AV:=match o with
 | some n=>.tup [vci .i64 (n : Int),vcb true]
 | none=>.tup [vci .i64 0,vcb false]
def fnE (l : List En) (a : I2) : Option Nat:=l.findIdx? (fun e=>e.id == a)
def fnI (cs : Ck) (i k : Nat) (n : Nat) (st : St) : Prop:=∃ j : Nat,n = i - j∧j≤i ∧
 st = ⟨36,0,[(7,vci .i64 ((k + sumL (cs.take j) : Nat) : Int)),(23,.c (.sl 2 i (chR cs))),(24,vci .i64 (i : Int)),(25,vci .i64 (j : Int))],[]⟩
theorem find_c (cs : Ck) (hl : cs.length≤1000000) (hs : sumL cs≤1000000) (a : I2) : CallV Tryz.prog 256 [ixA cs,idA a] [] (fun r own'=>own' = []∧r = fnV (fnE cs.flatten a)):=by
 have hpf : (plcC cs a).map (fun p=>sumL (cs.take p.1) + p.2) = fnE cs.flatten a:=plcC_find cs a
 refine callV_pure Tryz.func256 rfl ttok ftok rfl rfl rfl (Nat.le_of_ble_eq_true rfl) ?_
 conv=>whnf
 refine call_pure (place_c cs hl hs a) rfl ?_
 rintro _ rfl
 cases hp : plcC cs a with
 | none =>
  rw [hp] at hpf
  rw [←hpf]
  conv=>whnf
  all_goals first | rfl | exact ⟨rfl,rfl⟩
 | some p =>
 obtain ⟨i,k⟩:=p
 rw [hp] at hpf
 rw [←hpf]
 obtain ⟨hi,hk⟩:=plcC_lt hp
 have s3:=sumL_le cs (i + 1)
 have s4:=sumL_at hi
 conv=>whnf
 refine ⟨⟨by omega,by omega,by omega,by omega⟩,?_⟩
 refine ⟨i,chR cs,by rw [ti_nat];rfl,fun q hq=>by show chF _ = chF (cs.getD (Int.toNat 0 + q) []);rw [show Int.toNat 0 + q = q from Nat.zero_add q],?_⟩
 conv=>whnf
 refine loopV ttok ftok (fnI cs i k) (norm_weak [7,23,24,25] [] rfl rfl) ⟨0,rfl,Nat.zero_le _,rfl⟩ ?_
 rintro n st ⟨j,rfl,hj,rfl⟩
 have e1:=e64 (k:=j) (by omega)
 conv=>whnf
 refine onB_intro (fun h=>?_) (fun h=>?_)
 ·have h:=of_decide_eq_true h
  have s5:=sumL_at (show j < cs.length by omega)
  have s6:=sumL_le cs (j + 1)
  conv=>whnf
  refine ⟨⟨by omega,by omega⟩,?_⟩
  conv=>whnf
  rw [ti_nat,e1,show IntKind.i64.wrap (((k + sumL (cs.take j) : Nat) : Int) + ((cs.getD j []).length : Int)) = ((k + sumL (cs.take (j + 1)) : Nat) : Int) from by rw [w_i64 (by omega) (by omega)];omega]
  exact ⟨i - (j + 1),_,by omega,norm_weak [7,23,24,25] [] rfl rfl,j + 1,rfl,by omega,rfl⟩
 ·have h:=of_decide_eq_false h
  obtain rfl : j = i:=by omega
  conv=>whnf
  rw [Nat.add_comm k]
  all_goals first | rfl | exact ⟨rfl,rfl⟩
def enV (l : List En) (n : Int) : AV:=if 0≤n∧n < l.length then .tup [.agg (enF (l.getD n.toNat en0)),.c (.v .nilIface)] else .tup [.agg (enF en0),erC 3]
def eyI (cs : Ck) (N : Nat) (n : Nat) (st : St) : Prop:=∃ j : Nat,n = cs.length - j∧j≤cs.length∧sumL (cs.take j)≤N ∧
 st = ⟨43,0,[(1,vci .i64 ((N - sumL (cs.take j) : Nat) : Int)),(4,.c (.own 0 0)),(19,chS cs),(20,vci .i64 (cs.length : Int)),(21,vci .i64 (j : Int))],[some (.cells 142 (enF en0))]⟩
theorem flat_getD {cs : Ck} {j q : Nat} (hj : j < cs.length) (hq : q < (cs.getD j []).length) : cs.flatten.getD (sumL (cs.take j) + q) en0 = (cs.getD j []).getD q en0:=by
 have g : cs = cs.take j ++ (cs.getD j [] :: cs.drop (j + 1)):=by
  rw [List.getD_eq_getElem?_getD,List.getElem?_eq_getElem hj]
  exact (List.take_append_drop j cs).symm.trans (by rw [List.drop_eq_getElem_cons hj];rfl)
 have f : cs.flatten = (cs.take j).flatten ++ (cs.getD j [] ++ (cs.drop (j + 1)).flatten):=by
  conv=>lhs;rw [g]
  rw [List.flatten_append,List.flatten_cons]
 rw [f]
 unfold sumL
 rw [List.getD_eq_getElem?_getD,List.getElem?_append_right (Nat.le_add_right _ _),Nat.add_sub_cancel_left,List.getElem?_append_left hq,←List.getD_eq_getElem?_getD]
theorem entry_c (cs : Ck) (hl : cs.length≤1000000) (hs : sumL cs≤1000000) (n : Int) : CallV Tryz.prog 134 [ixA cs,vci .i64 n] [] (fun r own'=>own' = []∧r = enV cs.flatten n):=by
 have hfl : cs.flatten.length = sumL cs:=rfl
 refine callV_pure Tryz.func134 rfl ttok ftok rfl rfl rfl (Nat.le_of_ble_eq_true rfl) ?_
 conv=>whnf
 refine onB_intro (fun h=>?_) (fun h=>?_)
 ·have h : ¬ (0≤n∧n < cs.flatten.length):=by
   rw [hfl]
   simp only [pickB,isLit,Bool.or_eq_true,decide_eq_true_eq] at h
   omega
  conv=>whnf
  rw [show enV cs.flatten n = .tup [.agg (enF en0),erC 3] from if_neg h]
  all_goals first | rfl | exact ⟨rfl,rfl⟩
 have h : 0≤n∧n < cs.flatten.length:=by
  rw [hfl]
  simp only [pickB,isLit,Bool.or_eq_false_iff,decide_eq_false_iff_not] at h
  omega
 rw [show enV cs.flatten n = .tup [.agg (enF (cs.flatten.getD n.toNat en0)),.c (.v .nilIface)] from if_pos h]
 obtain ⟨N,rfl⟩ : ∃ N : Nat,n = (N : Int):=⟨n.toNat,(Int.toNat_of_nonneg h.1).symm⟩
 rw [ti_nat]
 have hN : N < sumL cs:=by rw [←hfl];omega
 conv=>whnf
 refine loopV ttok ftok (eyI cs N) (norm_weak [1,4,19,20,21] [some 1] rfl rfl) ⟨0,rfl,Nat.zero_le _,by simp [sumL],rfl⟩ ?_
 rintro m st ⟨j,rfl,hj,hjN,rfl⟩
 have e1:=e64 (k:=j) (by omega)
 conv=>whnf
 refine onB_intro (fun h=>?_) (fun h=>?_)
 ·have h:=of_decide_eq_true h
  have hjl : j < cs.length:=by omega
  have s5:=sumL_at hjl
  have s6:=sumL_le cs (j + 1)
  conv=>whnf
  refine ⟨⟨by omega,by omega⟩,?_⟩
  conv=>whnf
  rw [ti_nat]
  refine onB_intro (fun g=>?_) (fun g=>?_)
  ·have g:=of_decide_eq_true g
   have hfg:=flat_getD hjl (q:=N - sumL (cs.take j)) (by omega)
   rw [show sumL (cs.take j) + (N - sumL (cs.take j)) = N by omega] at hfg
   conv=>whnf
   refine ⟨⟨by omega,by omega⟩,?_⟩
   conv=>whnf
   rw [ti_nat,hfg]
   all_goals first | rfl | exact ⟨rfl,rfl⟩
  ·have g:=of_decide_eq_false g
   conv=>whnf
   rw [e1,show IntKind.i64.wrap (((N - sumL (cs.take j) : Nat) : Int) - ((cs.getD j []).length : Int)) = ((N - sumL (cs.take (j + 1)) : Nat) : Int) from by rw [w_i64 (by omega) (by omega)];omega]
   exact ⟨cs.length - (j + 1),_,by omega,norm_weak [1,4,19,20,21] [some 0] rfl rfl,j + 1,rfl,by omega,by omega,rfl⟩
 ·have h:=of_decide_eq_false h
  obtain rfl : j = cs.length:=by omega
  rw [List.take_length] at hjN
  omega
end Go.Eng
namespace Go.Eng
open Go Go.RowKit Go.Proofs
def atV (l : List En) (k : Int) : AV:=if 0≤k∧k < shn l then .tup [vci .i64 (((shp l 0).getD k.toNat 0 : Nat) : Int),.c (.v .nilIface)] else .tup [vci .i64 0,erC 3]
theorem shp_at {cs : Ck} {i : Nat} (hi : i < cs.length) {K : Nat} (h1 : shnC (cs.take i)≤K) (h2 : K < shnC (cs.take i) + shn (cs.getD i [])) : (shp cs.flatten 0).getD K 0 = (shp (cs.getD i []) (sumL (cs.take i))).getD (K - shnC (cs.take i)) 0:=by
 have g : cs = cs.take i ++ (cs.getD i [] :: cs.drop (i + 1)):=by
  rw [List.getD_eq_getElem?_getD,List.getElem?_eq_getElem hi]
  exact (List.take_append_drop i cs).symm.trans (by rw [List.drop_eq_getElem_cons hi];rfl)
 have f : cs.flatten = (cs.take i).flatten ++ (cs.getD i [] ++ (cs.drop (i + 1)).flatten):=by
  conv=>lhs;rw [g]
  rw [List.flatten_append,List.flatten_cons]
 have e1 : (shp (cs.take i).flatten 0).length = shnC (cs.take i):=shp_len _ _
 have e2:=shp_len (cs.getD i []) (sumL (cs.take i))
 rw [f,shp_append,shp_append,Nat.zero_add]
 show (shp (cs.take i).flatten 0 ++ (shp (cs.getD i []) (sumL (cs.take i)) ++ _)).getD K 0 = _
 rw [List.getD_eq_getElem?_getD,List.getElem?_append_right (by omega),e1,List.getElem?_append_left (by omega),←List.getD_eq_getElem?_getD]
def aoI (cs : Ck) (K : Nat) (n : Nat) (st : St) : Prop:=∃ i : Nat,n = cs.length - i∧i≤cs.length∧shnC (cs.take i)≤K ∧
 st = ⟨60,0,[(1,vci .i64 ((K - shnC (cs.take i) : Nat) : Int)),(6,vci .i64 (sumL (cs.take i) : Int)),(21,chS cs),(22,vci .i64 (cs.length : Int)),(23,vci .i64 (i : Int))],[]⟩
def aiI (c : List En) (A R : Nat) (n : Nat) (st : St) : Prop:=∃ j k : Nat,n = c.length - j∧j≤c.length∧k < shn (c.drop j)∧(shp (c.drop j) (A + j)).getD k 0 = R ∧
 st = ⟨60,0,[(1,vci .i64 (k : Int)),(6,vci .i64 ((A + j : Nat) : Int)),(41,enS c),(42,vci .i64 (c.length : Int)),(43,vci .i64 (j : Int))],[]⟩
theorem at_c (cs : Ck) (hl : cs.length≤1000000) (hs : sumL cs≤1000000) (k : Int) : CallV Tryz.prog 133 [ixA cs,vci .i64 k] [] (fun r own'=>own' = []∧r = atV cs.flatten k):=by
 have hfl : shn cs.flatten = shnC cs:=rfl
 have hsl:=shnC_le cs
 refine callV_pure Tryz.func133 rfl ttok ftok rfl rfl rfl (Nat.le_of_ble_eq_true rfl) ?_
 conv=>whnf
 refine onB_intro (fun h=>?_) (fun h=>?_)
 ·have h : ¬ (0≤k∧k < shn cs.flatten):=by
   rw [hfl]
   simp only [pickB,isLit,Bool.or_eq_true,decide_eq_true_eq] at h
   omega
  conv=>whnf
  rw [show atV cs.flatten k = .tup [vci .i64 0,erC 3] from if_neg h]
  all_goals first | rfl | exact ⟨rfl,rfl⟩
 have h : 0≤k∧k < shn cs.flatten:=by
  rw [hfl]
  simp only [pickB,isLit,Bool.or_eq_false_iff,decide_eq_false_iff_not] at h
  omega
 rw [show atV cs.flatten k = .tup [vci .i64 (((shp cs.flatten 0).getD k.toNat 0 : Nat) : Int),.c (.v .nilIface)] from if_pos h]
 obtain ⟨K,rfl⟩ : ∃ K : Nat,k = (K : Int):=⟨k.toNat,(Int.toNat_of_nonneg h.1).symm⟩
 rw [ti_nat]
 have hK : K < shnC cs:=by rw [←hfl];omega
 obtain ⟨R,hR⟩ : ∃ R,(shp cs.flatten 0).getD K 0 = R:=⟨_,rfl⟩
 rw [hR]
 conv=>whnf
 refine loopV ttok ftok (aoI cs K) (norm_weak [1,6,21,22,23] [] rfl rfl) ⟨0,rfl,Nat.zero_le _,by simp [shnC,shn],rfl⟩ ?_
 rintro m st ⟨i,rfl,hi,hiK,rfl⟩
 have e1:=e64 (k:=i) (by omega)
 conv=>whnf
 refine onB_intro (fun h=>?_) (fun h=>?_)
 ·have h:=of_decide_eq_true h
  have hil : i < cs.length:=by omega
  have s5:=sumL_at hil
  have s6:=sumL_le cs (i + 1)
  have s7:=shnC_at hil
  conv=>whnf
  refine ⟨⟨by omega,by omega⟩,?_⟩
  conv=>whnf
  rw [ti_nat]
  refine onB_intro (fun g=>?_) (fun g=>?_)
  ·have g:=of_decide_eq_true g
   conv=>whnf
   rw [e1,show IntKind.i64.wrap (((K - shnC (cs.take i) : Nat) : Int) - (shn (cs.getD i []) : Int)) = ((K - shnC (cs.take (i + 1)) : Nat) : Int) from by rw [w_i64 (by omega) (by omega)];omega]
   rw [show IntKind.i64.wrap ((sumL (cs.take i) : Int) + ((cs.getD i []).length : Int)) = (sumL (cs.take (i + 1)) : Int) from by rw [w_i64 (by omega) (by omega)];omega]
   exact ⟨cs.length - (i + 1),_,by omega,norm_weak [1,6,21,22,23] [] rfl rfl,i + 1,rfl,by omega,by omega,rfl⟩
  ·have g:=of_decide_eq_false g
   have hat:=shp_at hil hiK (by omega)
   rw [hR] at hat
   generalize hc : cs.getD i [] = c at *
   generalize hA : sumL (cs.take i) = A at *
   conv=>whnf
   refine loopV ttok ftok (aiI c A R) (norm_weak [1,6,41,42,43] [] rfl rfl) ⟨0,K - shnC (cs.take i),rfl,Nat.zero_le _,by rw [List.drop_zero];omega,by rw [List.drop_zero];exact hat.symm,rfl⟩ ?_
   rintro m st ⟨j,k,rfl,hj,hk,hkR,rfl⟩
   have e2:=e64 (k:=j) (by omega)
   conv=>whnf
   refine onB_intro (fun h=>?_) (fun h=>?_)
   ·have h:=of_decide_eq_true h
    have hjl : j < c.length:=by omega
    have hd : c.drop j = c.getD j en0 :: c.drop (j + 1):=by
     rw [List.drop_eq_getElem_cons hjl,List.getD_eq_getElem?_getD,List.getElem?_eq_getElem hjl];rfl
    rw [hd] at hk hkR
    rw [shp] at hkR
    have hsc : shn (c.getD j en0 :: c.drop (j + 1)) = shn (c.drop (j + 1)) + if (c.getD j en0).gone = true then 0 else 1:=by
     unfold shn
     rw [List.countP_cons]
     cases (c.getD j en0).gone <;> simp
    rw [hsc] at hk
    have hsl2:=shn_len (c.drop (j + 1))
    rw [List.length_drop] at hsl2
    have hcl : c.length≤1000000:=by omega
    conv=>whnf
    refine ⟨⟨by omega,by omega⟩,?_⟩
    conv=>whnf
    rw [ti_nat]
    cases hg : (c.getD j en0).gone with
    | true =>
     rw [hg,if_pos rfl] at hk hkR
     conv=>whnf
     rw [e2,e64 (by omega)]
     exact ⟨c.length - (j + 1),_,by omega,norm_weak [1,6,41,42,43] [] rfl rfl,j + 1,k,rfl,by omega,by omega,hkR,rfl⟩
    | false =>
     rw [hg,if_neg (by decide)] at hk hkR
     conv=>whnf
     by_cases hk0 : k = 0
     ·subst hk0
      have hkR : A + j = R:=hkR
      conv=>whnf
      rw [hkR]
      all_goals first | rfl | exact ⟨rfl,rfl⟩
     ·rw [show (((k : Nat) : Int) == 0) = false from beq_eq_false_iff_ne.2 (by omega)]
      obtain ⟨k,rfl⟩ : ∃ q,k = q + 1:=⟨k - 1,by omega⟩
      conv=>whnf
      rw [e2,e64 (by omega),show IntKind.i64.wrap (((k + 1 : Nat) : Int) - 1) = (k : Int) from by rw [w_i64 (by omega) (by omega)];omega]
      exact ⟨c.length - (j + 1),_,by omega,norm_weak [1,6,41,42,43] [] rfl rfl,j + 1,k,rfl,by omega,by omega,hkR,rfl⟩
   ·have h:=of_decide_eq_false h
    obtain rfl : j = c.length:=by omega
    rw [List.drop_length] at hk
    simp [shn] at hk
 ·have h:=of_decide_eq_false h
  obtain rfl : i = cs.length:=by omega
  rw [List.take_length] at hiK
  omega
end Go.Eng
namespace Go.Eng
open Go Go.RowKit Go.Proofs
theorem chClone (l : List (List En)) (hl : l.length≤1000000000) : CallV Tryz.prog 268 [.c (.sl 2 l.length fun k=>chF (l.getD k []))] []
  (fun r own'=>r = .c (.row 0)∧own' = [some (.row 225 2 l.length fun k=>chF (l.getD k []))]):=by
 refine callV_own Tryz.func268 rfl ttok ftok rfl rfl rfl (Nat.le_of_ble_eq_true rfl) rfl ?_
 conv=>whnf
 intro b hb
 cases b with
 | true =>
  have h0:=hb rfl
  obtain rfl : l = []:=List.eq_nil_of_length_eq_zero h0
  conv=>whnf
  refine ⟨_,nil_row 2 225 2 (fun k=>chF (([] : List (List En)).getD k [])) rfl,?_⟩
  conv=>whnf
  exact ⟨[some 0],rfl,rfl,rfl,rfl⟩
 | false =>
  clear hb
  conv=>whnf
  refine ⟨⟨by omega,by show (0 + l.length) * 32≤_;omega⟩,?_⟩
  conv=>whnf
  refine ⟨l.length,fun k=>chF (l.getD k []),by omega,fun k hk=>by omega,fun k hk=>by rw [Nat.zero_add],?_⟩
  conv=>whnf
  refine ⟨_,Weak.refl _,?_⟩
  conv=>whnf
  exact ⟨[some 1],rfl,rfl,rfl,rfl⟩
def repL (cs : Ck) (i : Nat) (m : Ck) : Ck:=cs.take i ++ m ++ cs.drop (i + 1)
theorem repL_len {cs : Ck} {i : Nat} (m : Ck) (hi : i < cs.length) : (repL cs i m).length = cs.length - 1 + m.length:=by
 unfold repL;rw [List.length_append,List.length_append,List.length_take,List.length_drop];omega
theorem repL_get {cs : Ck} {i : Nat} (m : Ck) (hi : i < cs.length) (q : Nat) : (repL cs i m).getD q [] = if q < i then cs.getD q [] else if q < i + m.length then m.getD (q - i) [] else cs.getD (q + 1 - m.length) []:=by
 unfold repL
 have htl : (cs.take i).length = i:=by rw [List.length_take];omega
 split
 ·rename_i h
  rw [List.append_assoc,List.getD_eq_getElem?_getD,List.getElem?_append_left (by omega),←List.getD_eq_getElem?_getD,getD_take _ _ _ _ h]
 ·rename_i h
  rw [List.append_assoc,List.getD_eq_getElem?_getD,List.getElem?_append_right (by omega),htl]
  split
  ·rename_i h2
   rw [List.getElem?_append_left (by omega),←List.getD_eq_getElem?_getD]
  ·rename_i h2
   rw [List.getElem?_append_right (by omega),←List.getD_eq_getElem?_getD,getD_drop]
   congr 1
   omega
theorem rep_c (cs : Ck) (i : Nat) (hi : i < cs.length) (hl : cs.length≤1000000) (m : Ck) (hm : 1≤m.length) (hm2 : m.length≤2) : CallV Tryz.prog 267 [.c (.row 0),vci .i64 i,vci .i64 ((i + 1 : Nat) : Int),chS m] [some (.row 225 2 cs.length (chR cs))]
  (fun r own'=>r = .c (.row 2)∧own' = [none,none,some (.row 225 2 (repL cs i m).length (chR (repL cs i m)))]):=by
 have hget:=repL_get m hi
 have hlen:=repL_len m hi
 have hlt : i + (m.length + (cs.length - (i + 1))) = (repL cs i m).length:=by omega
 generalize hl' : repL cs i m = L at hget hlen hlt
 refine callV_view 0 rfl (fun h0=>by omega) (fun c hc hc2=>?_)
 show CallV Tryz.prog 267 [.c (.view 1 2 0 cs.length c),vci .i64 i,vci .i64 ((i + 1 : Nat) : Int),chS m] [none,some (.arr 225 2 c cs.length (chR cs))] _
 refine callV_own Tryz.func267 rfl ttok ftok rfl rfl rfl (Nat.le_of_ble_eq_true rfl) rfl ?_
 conv=>whnf
 refine ⟨⟨by omega,by omega,by omega,by omega⟩,?_⟩
 conv=>whnf
 rw [show (((i : Nat) : Int) == ((i + 1 : Nat) : Int)) = false from beq_eq_false_iff_ne.2 (by omega)]
 conv=>whnf
 refine onB_intro (fun h=>?_) (fun h=>?_)
 ·have e : ((i + 1 : Nat) : Int) = cs.length:=by simpa using h
  have e : i + 1 = cs.length:=by omega
  conv=>whnf
  refine ⟨⟨by omega,by omega,by omega,by omega⟩,?_⟩
  conv=>whnf
  refine ⟨trivial,⟨by omega,by omega⟩,fun h1=>?_,fun h1=>?_⟩
  ·refine ⟨L.length,chR L,fun q hq=>?_,?_⟩
   ·rcases Nat.lt_or_ge q i with h2 | h2
    ·refine .inr ⟨.inl (by omega),by omega,?_⟩
     show chF (L.getD q []) = chF (cs.getD q [])
     rw [hget,if_pos h2]
    ·refine .inl ⟨by omega,by omega,?_⟩
     show chF (L.getD q []) = chF (m.getD _ [])
     rw [hget,if_neg (by omega),if_pos (by omega)]
     congr 2
     omega
   conv=>whnf
   rw [decide_eq_false (by omega)]
   conv=>whnf
   refine ⟨_,view_row 8 1 (n:=L.length) rfl rfl (by omega) (by omega) (by omega) (by omega),?_⟩
   conv=>whnf
   exact ⟨[none,none,some 2],rfl,rfl,rfl,rfl⟩
  ·refine ⟨⟨by omega,by show (((i : Int).toNat - Int.toNat 0) + m.length) * 32≤_;omega⟩,chR L,fun q hq=>?_,fun q hq=>?_,fun cap' hcap=>?_⟩
   ·show chF (L.getD q []) = chF (cs.getD _ [])
    rw [hget,if_pos (by omega)]
    congr 2
    omega
   ·show chF (L.getD _ []) = chF (m.getD q [])
    rw [hget,if_neg (by omega),if_pos (by omega)]
    congr 2
    omega
   conv=>whnf
   rw [decide_eq_false (by omega)]
   conv=>whnf
   refine ⟨_,view_row 8 2 (n:=L.length) rfl rfl rfl (by omega) (by omega) rfl,?_⟩
   conv=>whnf
   exact ⟨[none,none,some 3],rfl,rfl,rfl,rfl⟩
 have hne : i + 1 < cs.length:=by
  have : i + 1≠cs.length:=fun e=>by rw [e] at h;simp at h
  omega
 clear h
 conv=>whnf
 refine drawV_mix 12 mixed (by kernel_rfl) ttok ftok ?_
 conv=>whnf
 refine ⟨⟨by omega,by omega,by omega,by omega⟩,?_⟩
 conv=>whnf
 refine ⟨⟨by omega,by omega,by omega,by omega⟩,?_⟩
 conv=>whnf
 rw [show IntKind.i64.wrap (IntKind.i64.wrap ((((i : Int).toNat - Int.toNat 0 : Nat) : Int) + (m.length : Int)) + (((cs.length : Int).toNat - ((i + 1 : Nat) : Int).toNat : Nat) : Int)) = (L.length : Int) from by rw [w_i64 (x:=((((i : Int).toNat - Int.toNat 0 : Nat) : Int) + (m.length : Int))) (by omega) (by omega),w_i64 (by omega) (by omega)];omega]
 have w3 : IntKind.i64.wrap ((i : Int) + (m.length : Int)) = ((i + m.length : Nat) : Int):=by rw [w_i64 (by omega) (by omega)];omega
 refine onB_intro (fun h=>?_) (fun h=>?_)
 ·have h:=of_decide_eq_true h
  conv=>whnf
  refine ⟨⟨by omega,by omega,by omega,by omega⟩,?_⟩
  conv=>whnf
  rw [show IntKind.i64.wrap ((L.length : Int) - (i : Int)) = ((L.length - i : Nat) : Int) from by rw [w_i64 (by omega) (by omega)];omega]
  refine ⟨by omega,⟨by omega,by omega,by omega,by show _ * (((32 : Nat)) : Int)≤_;omega⟩,fun q=>if q < i then chF (cs.getD q []) else [.v (.slice none 0 0),vi 0],fun q hq=>?_,fun q hq=>?_,fun cap' hcap=>?_⟩
  ·show (if q < i then chF (cs.getD q []) else [.v (.slice none 0 0),vi 0]) = chF (cs.getD _ [])
   rw [if_pos (by omega)]
   congr 2
   omega
  ·dsimp only
   rw [if_neg (by omega)]
   rfl
  conv=>whnf
  refine ⟨⟨by omega,by omega,by omega,by omega⟩,?_⟩
  conv=>whnf
  refine ⟨trivial,by omega,L.length,fun q=>if q < i then chF (cs.getD q []) else if q < i + m.length then chF (m.getD (q - i) []) else [.v (.slice none 0 0),vi 0],fun q hq=>?_,?_⟩
  ·rcases Nat.lt_or_ge q i with h2 | h2
   ·exact .inr ⟨.inl (by omega),by omega,by dsimp only;rw [if_pos h2,if_pos h2]⟩
   ·rcases Nat.lt_or_ge q (i + m.length) with h3 | h3
    ·refine .inl ⟨by omega,by omega,?_⟩
     dsimp only
     rw [if_neg (by omega),if_pos h3]
     show _ = chF (m.getD _ [])
     congr 2
     omega
    ·exact .inr ⟨.inr (by omega),by omega,by dsimp only;rw [if_neg (by omega),if_neg (by omega),if_neg (by omega)]⟩
  conv=>whnf
  refine drawV_mix 9 mixed (by kernel_rfl) ttok ftok ?_
  conv=>whnf
  rw [w3]
  refine ⟨⟨by omega,by omega,by omega,by omega⟩,?_⟩
  conv=>whnf
  refine ⟨⟨by omega,by omega,by omega,by omega⟩,?_⟩
  conv=>whnf
  refine ⟨by omega,by omega,L.length,chR L,fun q hq=>?_,?_⟩
  ·rcases Nat.lt_or_ge q i with h2 | h2
   ·refine .inr ⟨.inl (by omega),by omega,?_⟩
    show chF (L.getD q []) = if q < i then _ else _
    rw [hget,if_pos h2,if_pos h2]
   ·rcases Nat.lt_or_ge q (i + m.length) with h3 | h3
    ·refine .inr ⟨.inl (by omega),by omega,?_⟩
     show chF (L.getD q []) = if q < i then _ else (if q < i + m.length then _ else _)
     rw [hget,if_neg (show ¬ q < i by omega),if_neg (show ¬ q < i by omega),if_pos h3,if_pos h3]
    ·refine .inl ⟨by omega,by omega,?_⟩
     show chF (L.getD q []) = chF (cs.getD _ [])
     rw [hget,if_neg (by omega),if_neg (by omega)]
     congr 2
     omega
  conv=>whnf
  refine ⟨_,view_row 8 2 (n:=L.length) rfl rfl (by omega) (by omega) (by omega) (by omega),?_⟩
  conv=>whnf
  exact ⟨[none,none,some 3],rfl,rfl,rfl,rfl⟩
 have h:=of_decide_eq_false h
 conv=>whnf
 refine ⟨⟨by omega,by omega,by omega,by omega⟩,?_⟩
 conv=>whnf
 rw [w3]
 refine onB_intro (fun g=>?_) (fun g=>?_)
 ·have g:=of_decide_eq_true g
  have hm1 : m.length = 1:=by omega
  conv=>whnf
  refine ⟨⟨by omega,by omega,by omega,by omega⟩,?_⟩
  conv=>whnf
  refine ⟨trivial,by omega,L.length,chR L,fun q hq=>?_,?_⟩
  ·rcases Nat.lt_trichotomy q i with h2 | h2 | h2
   ·refine .inr ⟨.inl (by omega),by omega,?_⟩
    show chF (L.getD q []) = chF (cs.getD q [])
    rw [hget,if_pos h2]
   ·refine .inl ⟨by omega,by omega,?_⟩
    show chF (L.getD q []) = chF (m.getD _ [])
    rw [hget,if_neg (by omega),if_pos (by omega)]
    congr 2
    omega
   ·refine .inr ⟨.inr (by omega),by omega,?_⟩
    show chF (L.getD q []) = chF (cs.getD q [])
    rw [hget,if_neg (by omega),if_neg (by omega)]
    congr 2
    omega
  conv=>whnf
  refine drawV_mix 9 mixed (by kernel_rfl) ttok ftok ?_
  conv=>whnf
  rw [w3]
  refine ⟨⟨by omega,by omega,by omega,by omega⟩,?_⟩
  conv=>whnf
  refine ⟨⟨by omega,by omega,by omega,by omega⟩,?_⟩
  conv=>whnf
  refine ⟨by omega,by omega,L.length,chR L,fun q hq=>?_,?_⟩
  ·rcases Nat.lt_or_ge q (i + 1) with h2 | h2
   ·exact .inr ⟨.inl (by omega),by omega,rfl⟩
   ·refine .inl ⟨by omega,by omega,?_⟩
    show chF (L.getD q []) = chF (L.getD _ [])
    congr 2
    omega
  conv=>whnf
  refine ⟨⟨by omega,by omega,by omega,by omega⟩,?_⟩
  conv=>whnf
  refine ⟨by omega,L.length,chR L,fun q hq=>.inr ⟨.inl (by omega),by omega,rfl⟩,?_⟩
  conv=>whnf
  refine ⟨_,view_row 8 1 (n:=L.length) rfl rfl (by omega) (by omega) (by omega) (by omega),?_⟩
  conv=>whnf
  exact ⟨[none,none,some 2],rfl,rfl,rfl,rfl⟩
 have g:=of_decide_eq_false g
 conv=>whnf
 rw [w3]
 refine ⟨⟨by omega,by omega,by omega,by omega⟩,?_⟩
 conv=>whnf
 refine ext_overlaps (t:=112) (r:=4) (ti:=ti225) Tryz.func276 (by kernel_rfl) rfl (by kernel_rfl) (by kernel_rfl) tf225 Tryz.underlying112 (apart_view_sl rfl (by omega) (by omega) (by omega) (by decide)) ?_
 conv=>whnf
 refine drawV_mix 9 mixed (by kernel_rfl) ttok ftok ?_
 conv=>whnf
 rw [w3]
 refine ⟨⟨by omega,by omega,by omega,by omega⟩,?_⟩
 conv=>whnf
 refine ⟨⟨by omega,by omega,by omega,by omega⟩,?_⟩
 conv=>whnf
 refine ⟨by omega,by omega,L.length,fun q=>if q < i + m.length then chF (cs.getD q []) else chF (L.getD q []),fun q hq=>?_,?_⟩
 ·rcases Nat.lt_or_ge q (i + m.length) with h2 | h2
  ·refine .inr ⟨.inl (by omega),by omega,?_⟩
   show (if q < i + m.length then _ else _) = _
   rw [if_pos h2]
  ·refine .inl ⟨by omega,by omega,?_⟩
   show (if q < i + m.length then _ else chF (L.getD q [])) = chF (cs.getD _ [])
   rw [if_neg (by omega),hget,if_neg (by omega),if_neg (by omega)]
   congr 2
   omega
 conv=>whnf
 refine ⟨⟨by omega,by omega,by omega,by omega⟩,?_⟩
 conv=>whnf
 refine ⟨trivial,by omega,L.length,chR L,fun q hq=>?_,?_⟩
 ·rcases Nat.lt_or_ge q i with h2 | h2
  ·refine .inr ⟨.inl (by omega),by omega,?_⟩
   show chF (L.getD q []) = if q < i + m.length then chF (cs.getD q []) else _
   rw [if_pos (show q < i + m.length by omega),hget,if_pos h2]
  ·rcases Nat.lt_or_ge q (i + m.length) with h3 | h3
   ·refine .inl ⟨by omega,by omega,?_⟩
    show chF (L.getD q []) = chF (m.getD _ [])
    rw [hget,if_neg (show ¬ q < i by omega),if_pos h3]
    congr 2
    omega
   ·refine .inr ⟨.inr (by omega),by omega,?_⟩
    show chF (L.getD q []) = if q < i + m.length then _ else chF (L.getD q [])
    rw [if_neg (show ¬ q < i + m.length by omega)]
 conv=>whnf
 refine ⟨_,view_row 8 1 (n:=L.length) rfl rfl (by omega) (by omega) (by omega) (by omega),?_⟩
 conv=>whnf
 exact ⟨[none,none,some 2],rfl,rfl,rfl,rfl⟩
end Go.Eng
namespace Go.Eng
open Go Go.RowKit Go.Proofs
theorem repL_sum {cs : Ck} {i : Nat} (m : Ck) (hi : i < cs.length) : sumL (repL cs i m)≤sumL cs + sumL m:=by
 have h1:=sumL_le cs i
 have h2 : sumL (cs.take i) + sumL (cs.drop i) = sumL cs:=by rw [←sumL_append,List.take_append_drop]
 have h3 : sumL (cs.drop i) = (cs.getD i []).length + sumL (cs.drop (i + 1)):=by
  rw [List.drop_eq_getElem_cons hi,sumL_cons,List.getD_eq_getElem?_getD,List.getElem?_eq_getElem hi];rfl
 unfold repL
 rw [sumL_append,sumL_append]
 omega
theorem replace_c (cs : Ck) (i : Nat) (hi : i < cs.length) (hl : cs.length≤100000) (hs : sumL cs≤100000) (m : Ck) (hm : 1≤m.length) (hm2 : m.length≤2) (hms : sumL m≤100000) : CallV Tryz.prog 243 [ixA cs,vci .i64 (i : Int),chS m] []
  (fun r own'=>own' = []∧r = ixA (repL cs i m)):=by
 have hrl:=repL_len m hi
 have hrs:=repL_sum m hi
 refine callV_pure Tryz.func243 rfl ttok ftok rfl rfl rfl (Nat.le_of_ble_eq_true rfl) ?_
 conv=>whnf
 refine call_frame2 [] rfl rfl rfl rfl (chClone cs (by omega)) ?_
 rintro r own2 ⟨rfl,rfl⟩
 refine ⟨.c (.row 2),[some (.cells 114 (ixF cs)),some (.cells 114 [.v (.slice none 0 0),vi 0,vi 0]),some (.row 225 2 cs.length (chR cs))],rfl,rfl,?_⟩
 conv=>whnf
 rw [e64 (by omega)]
 refine call_frame2 [some 2] rfl rfl rfl rfl (rep_c cs i hi (by omega) m hm hm2) ?_
 rintro r own2 ⟨rfl,rfl⟩
 refine ⟨.c (.row 4),[some (.cells 114 (ixF cs)),some (.cells 114 [.v (.slice none 0 0),vi 0,vi 0]),none,none,some (.row 225 2 (repL cs i m).length (chR (repL cs i m)))],rfl,rfl,?_⟩
 conv=>whnf
 refine ⟨fun _ _=>rfl,?_⟩
 conv=>whnf
 refine call_pure (with_c (repL cs i m) (by omega) (by omega)) rfl ?_
 rintro _ rfl
 conv=>whnf
 all_goals first | rfl | exact ⟨rfl,rfl⟩
theorem enClone (l : List En) (hl : l.length≤1000000000) : CallV Tryz.prog 242 [.c (.sl 4 l.length fun k=>enF (l.getD k en0))] []
  (fun r own'=>r = .c (.row 0)∧own' = [some (.row 142 4 l.length fun k=>enF (l.getD k en0))]):=by
 refine callV_own Tryz.func242 rfl ttok ftok rfl rfl rfl (Nat.le_of_ble_eq_true rfl) rfl ?_
 conv=>whnf
 intro b hb
 cases b with
 | true =>
  have h0:=hb rfl
  obtain rfl : l = []:=List.eq_nil_of_length_eq_zero h0
  conv=>whnf
  refine ⟨_,nil_row 2 142 4 (fun k=>enF (([] : List En).getD k en0)) rfl,?_⟩
  conv=>whnf
  exact ⟨[some 0],rfl,rfl,rfl,rfl⟩
 | false =>
  clear hb
  conv=>whnf
  refine ⟨⟨by omega,by show (0 + l.length) * 16≤_;omega⟩,?_⟩
  conv=>whnf
  refine ⟨l.length,fun k=>enF (l.getD k en0),by omega,fun k hk=>by omega,fun k hk=>by rw [Nat.zero_add],?_⟩
  conv=>whnf
  refine ⟨_,Weak.refl _,?_⟩
  conv=>whnf
  exact ⟨[some 1],rfl,rfl,rfl,rfl⟩
theorem enInsert_get (l : List En) (x : En) (i : Nat) (hi : i≤l.length) (q : Nat) : (l.take i ++ x :: l.drop i).getD q en0 = if q < i then l.getD q en0 else if q = i then x else l.getD (q - 1) en0:=by
 split
 ·rename_i h
  rw [List.getD_eq_getElem?_getD,List.getElem?_append_left (by rw [List.length_take];omega),←List.getD_eq_getElem?_getD,getD_take _ _ _ _ h]
 ·rename_i h
  rw [List.getD_eq_getElem?_getD,List.getElem?_append_right (by rw [List.length_take];omega),←List.getD_eq_getElem?_getD,List.length_take,Nat.min_eq_left hi]
  split
  ·rename_i e
   subst e
   simp
  ·rename_i e
   obtain ⟨r,hr⟩ : ∃ r,q - i = r + 1:=⟨q - i - 1,by omega⟩
   rw [hr,List.getD_cons_succ,getD_drop]
   congr 1
   omega
theorem enInsert_len (l : List En) (x : En) (i : Nat) (hi : i≤l.length) : (l.take i ++ x :: l.drop i).length = l.length + 1:=by
 rw [List.length_append,List.length_cons,List.length_take,List.length_drop];omega
theorem enInsert (l : List En) (x : En) (i : Nat) (hi : i≤l.length) (hl : l.length≤1000000000) (g : Nat→List IC) (hg : g 0 = enF x) : CallV Tryz.prog 257 [.c (.row 0),vci .i64 i,.c (.row 1)] [some (.row 142 4 l.length fun k=>enF (l.getD k en0)),some (.row 142 4 1 g)]
  (fun r own'=>r = .c (.row 3)∧own' = [none,none,none,some (.row 142 4 (l.take i ++ x :: l.drop i).length fun k=>enF ((l.take i ++ x :: l.drop i).getD k en0))]):=by
 have hget:=enInsert_get l x i hi
 have hlen:=enInsert_len l x i hi
 have hg0 : ∀ q,q < 1→g q = enF x:=fun q hq=>by
  obtain rfl : q = 0:=by omega
  exact hg
 generalize hl' : l.take i ++ x :: l.drop i = l' at hget hlen
 refine callV_view 0 rfl (fun h0=>?_) (fun c hc hc2=>?_)
 ·obtain rfl : l = []:=List.eq_nil_of_length_eq_zero h0
  obtain rfl : i = 0:=by simpa using hi
  show CallV Tryz.prog 257 [.c (.v (.slice none 0 0)),vci .i64 (0 : Nat),.c (.row 1)] [none,some (.row 142 4 1 g)] _
  refine callV_own Tryz.func257 rfl ttok ftok rfl rfl rfl (Nat.le_of_ble_eq_true rfl) rfl ?_
  conv=>whnf
  refine ⟨⟨rfl,rfl,rfl⟩,?_⟩
  conv=>whnf
  refine ⟨by omega,?_⟩
  conv=>whnf
  refine ⟨⟨by omega,by show (0 + 1) * 16≤_;omega⟩,?_⟩
  conv=>whnf
  refine ⟨l'.length,fun k=>enF (l'.getD k en0),by rw [hlen];simp,fun k hk=>by omega,fun k hk=>?_,?_⟩
  ·obtain rfl : k = 0:=by omega
   rw [hg]
   show enF (l'.getD (0 + 0) en0) = _
   rw [hget]
   rfl
  conv=>whnf
  refine ⟨_,Weak.refl _,?_⟩
  conv=>whnf
  exact ⟨[none,none,none,some 2],rfl,rfl,rfl,rfl⟩
 show CallV Tryz.prog 257 [.c (.view 2 4 0 l.length c),vci .i64 i,.c (.row 1)] [none,some (.row 142 4 1 g),some (.arr 142 4 c l.length fun k=>enF (l.getD k en0))] _
 refine callV_own Tryz.func257 rfl ttok ftok rfl rfl rfl (Nat.le_of_ble_eq_true rfl) rfl ?_
 conv=>whnf
 refine ⟨⟨by omega,by omega,by omega,by omega⟩,?_⟩
 conv=>whnf
 refine onB_intro (fun h=>?_) (fun h=>?_)
 ·have e : (i : Int) = l.length:=by simpa using h
  have e : i = l.length:=by omega
  subst e
  conv=>whnf
  refine ⟨trivial,⟨by omega,by omega⟩,fun h1=>?_,fun h1=>?_⟩
  ·refine ⟨l'.length,fun k=>enF (l'.getD k en0),fun q hq=>?_,?_⟩
   rotate_left
   ·conv=>whnf
    refine ⟨_,view_row 6 2 (n:=l'.length) rfl rfl (by omega) (by omega) (by omega) (by omega),?_⟩
    conv=>whnf
    exact ⟨[none,none,none,some 3],rfl,rfl,rfl,rfl⟩
   ·rcases Nat.lt_or_ge q l.length with h2 | h2
    ·exact .inr ⟨.inl (by omega),h2,by simp only [hget,if_pos h2]⟩
    ·obtain rfl : q = l.length:=by omega
     refine .inl ⟨by omega,by omega,?_⟩
     rw [show l.length - (0 + l.length) = 0 by omega,hg]
     simp only [hget,if_neg (Nat.lt_irrefl _),if_true]
  ·refine ⟨⟨by omega,by show (l.length + 1) * 16≤_;omega⟩,fun k=>enF (l'.getD k en0),fun q hq=>by simp only [hget,if_pos hq,Nat.zero_add],fun q hq=>?_,fun cap' hcap=>?_⟩
   ·rw [hg0 q hq]
    obtain rfl : q = 0:=by omega
    simp only [Nat.add_zero,hget,if_neg (Nat.lt_irrefl _),if_true]
   ·conv=>whnf
    refine ⟨_,view_row 6 3 (n:=l'.length) rfl rfl rfl (by omega) (by omega) rfl,?_⟩
    conv=>whnf
    exact ⟨[none,none,none,some 4],rfl,rfl,rfl,rfl⟩
 have hne : i < l.length:=by
  have : i≠l.length:=fun e=>by rw [e] at h;simp at h
  omega
 clear h
 conv=>whnf
 have w1 : IntKind.i64.wrap ((l.length : Int) + (1 : Nat)) = (l.length : Int) + (1 : Nat):=w_i64 (by omega) (by omega)
 have w2 : IntKind.i64.wrap ((l.length : Int) + (1 : Nat) - i) = ((l.length + 1 - i : Nat) : Int):=by rw [w_i64 (by omega) (by omega)];omega
 have w3 : IntKind.i64.wrap ((i : Int) + (1 : Nat)) = ((i + 1 : Nat) : Int):=by rw [w_i64 (by omega) (by omega)];omega
 refine onB_intro (fun h=>?_) (fun h=>?_)
 ·have h:=of_decide_eq_true h
  rw [w1] at h
  conv=>whnf
  refine ⟨⟨by omega,by omega,by omega,by omega⟩,?_⟩
  conv=>whnf
  rw [w1,w2]
  refine ⟨by omega,⟨by omega,by omega,by omega,by show _ * (((16 : Nat)) : Int)≤_;omega⟩,fun q=>if q < i then enF (l.getD q en0) else [vu 0,vu 0,vr 0,.v (.bool false)],fun q hq=>?_,fun q hq=>?_,fun cap' hcap=>?_⟩
  ·dsimp only
   rw [if_pos (by omega),show 0 + Int.toNat 0 + q = q from by omega]
  ·dsimp only
   rw [if_neg (by omega)];rfl
  conv=>whnf
  refine ⟨⟨by omega,by omega,by omega,by omega⟩,?_⟩
  conv=>whnf
  refine ⟨trivial,by omega,l.length + 1,fun q=>if q < i then enF (l.getD q en0) else if q = i then enF x else [vu 0,vu 0,vr 0,.v (.bool false)],fun q hq=>?_,?_⟩
  ·rcases Nat.lt_trichotomy q i with h2 | h2 | h2
   ·exact .inr ⟨.inl (by omega),by omega,by dsimp only;rw [if_pos h2,if_pos h2]⟩
   ·subst h2
    exact .inl ⟨by omega,by omega,by dsimp only;rw [if_neg (Nat.lt_irrefl _),if_pos rfl,hg0 _ (by omega)]⟩
   ·exact .inr ⟨.inr (by omega),by omega,by dsimp only;rw [if_neg (by omega),if_neg (by omega),if_neg (by omega)]⟩
  conv=>whnf
  refine drawV_mix 8 mixed (by kernel_rfl) ttok ftok ?_
  conv=>whnf
  rw [w3]
  refine ⟨⟨by omega,by omega,by omega,by omega⟩,?_⟩
  conv=>whnf
  refine ⟨⟨by omega,by omega,by omega,by omega⟩,?_⟩
  conv=>whnf
  refine ⟨by omega,by omega,l'.length,fun k=>enF (l'.getD k en0),fun q hq=>?_,?_⟩
  ·rcases Nat.lt_trichotomy q i with h2 | h2 | h2
   ·exact .inr ⟨.inl (by omega),by omega,by simp only [hget,if_pos h2]⟩
   ·subst h2
    exact .inr ⟨.inl (by omega),by omega,by simp only [hget,if_neg (Nat.lt_irrefl _),if_true]⟩
   ·refine .inl ⟨by omega,by omega,?_⟩
    simp only [hget,if_neg (show ¬ q < i by omega),if_neg (show ¬ q = i by omega)]
    congr 2
    omega
  conv=>whnf
  refine ⟨_,view_row 6 3 (n:=l'.length) rfl rfl (by omega) (by omega) (by omega) (by omega),?_⟩
  conv=>whnf
  exact ⟨[none,none,none,some 4],rfl,rfl,rfl,rfl⟩
 ·have h:=of_decide_eq_false h
  rw [w1] at h
  conv=>whnf
  rw [w1]
  refine ⟨⟨by omega,by omega,by omega,by omega⟩,?_⟩
  conv=>whnf
  rw [w3]
  refine ⟨⟨by omega,by omega,by omega,by omega⟩,?_⟩
  conv=>whnf
  refine ext_overlaps (t:=133) (r:=4) (ti:=ti142) Tryz.func270 (by kernel_rfl) rfl (by kernel_rfl) (by kernel_rfl) tf142 Tryz.underlying133 (apart_row_view (by decide) rfl rfl (by omega) (by omega) (by omega) (by decide)) ?_
  conv=>whnf
  refine drawV_mix 8 mixed (by kernel_rfl) ttok ftok ?_
  conv=>whnf
  rw [w3]
  refine ⟨⟨by omega,by omega,by omega,by omega⟩,?_⟩
  conv=>whnf
  refine ⟨⟨by omega,by omega,by omega,by omega⟩,?_⟩
  conv=>whnf
  refine ⟨by omega,by omega,l'.length,fun q=>if q < i + 1 then enF (l.getD q en0) else enF (l.getD (q - 1) en0),fun q hq=>?_,?_⟩
  ·rcases Nat.lt_or_ge q (i + 1) with h2 | h2
   ·exact .inr ⟨.inl (by omega),by omega,by dsimp only;rw [if_pos h2]⟩
   ·refine .inl ⟨by omega,by omega,?_⟩
    dsimp only
    rw [if_neg (by omega)]
    congr 2
    omega
  conv=>whnf
  refine ⟨⟨by omega,by omega,by omega,by omega⟩,?_⟩
  conv=>whnf
  refine ⟨trivial,by omega,l'.length,fun k=>enF (l'.getD k en0),fun q hq=>?_,?_⟩
  ·rcases Nat.lt_trichotomy q i with h2 | h2 | h2
   ·exact .inr ⟨.inl (by omega),by omega,by dsimp only;rw [hget,if_pos h2,if_pos (by omega)]⟩
   ·subst h2
    exact .inl ⟨by omega,by omega,by dsimp only;rw [hget,if_neg (Nat.lt_irrefl _),if_pos rfl,hg0 _ (by omega)]⟩
   ·exact .inr ⟨.inr (by omega),by omega,by dsimp only;rw [hget,if_neg (by omega),if_neg (by omega),if_neg (by omega)]⟩
  conv=>whnf
  refine ⟨_,view_row 6 2 (n:=l'.length) rfl rfl (by omega) (by omega) (by omega) (by omega),?_⟩
  conv=>whnf
  exact ⟨[none,none,none,some 3],rfl,rfl,rfl,rfl⟩
end Go.Eng
namespace Go.Eng
open Go Go.RowKit Go.Proofs
abbrev ixZ : AV:=.agg [.v (.slice none 0 0),vi 0,vi 0]
def hdC (cs : Ck) (a : I2) : Option Ck:=(plcC cs a).map fun p=>repL cs p.1 [hideAt (cs.getD p.1 []) p.2]
def hdV (o : Option Ck) : AV:=match o with
 | some cs=>.tup [ixA cs,.c (.v .nilIface)]
 | none=>.tup [ixZ,erC 1]
theorem hide_c (cs : Ck) (hl : cs.length≤50000) (hs : sumL cs≤50000) (a : I2) : CallV Tryz.prog 195 [ixA cs,idA a] [] (fun r own'=>own' = []∧r = hdV (hdC cs a)):=by
 refine callV_pure Tryz.func195 rfl ttok ftok rfl rfl rfl (Nat.le_of_ble_eq_true rfl) ?_
 conv=>whnf
 refine call_pure (place_c cs (by omega) (by omega) a) rfl ?_
 rintro _ rfl
 unfold hdC
 cases hp : plcC cs a with
 | none =>
  conv=>whnf
  all_goals first | rfl | exact ⟨rfl,rfl⟩
 | some p =>
 obtain ⟨i,k⟩:=p
 obtain ⟨hi,hk⟩:=plcC_lt hp
 have s3:=sumL_le cs (i + 1)
 have s4:=sumL_at hi
 conv=>whnf
 refine ⟨⟨by omega,by omega⟩,?_⟩
 conv=>whnf
 rw [ti_nat]
 refine call_frame2 [] rfl rfl rfl rfl (enClone (cs.getD i []) (by omega)) ?_
 rintro r own2 ⟨rfl,rfl⟩
 generalize hc : cs.getD i [] = c at *
 refine ⟨.c (.row 3),[some (.cells 114 (ixF cs)),some (.cells 136 (idF a)),some (.cells 114 [.v (.slice none 0 0),vi 0,vi 0]),some (.row 142 4 c.length (enR c))],rfl,rfl,?_⟩
 conv=>whnf
 refine ⟨⟨by omega,by omega⟩,?_⟩
 conv=>whnf
 have hlen : (hideAt c k).length = c.length:=by unfold hideAt;rw [List.length_set]
 have hget : ∀ j,(hideAt c k).getD j en0 = if j = k then { c.getD k en0 with gone:=true } else c.getD j en0:=fun j=>by
  unfold hideAt
  rw [List.getD_eq_getElem?_getD,List.getElem?_set]
  by_cases h : k = j
  ·rw [if_pos h,if_pos h.symm,if_pos hk];rfl
  ·rw [if_neg h,if_neg (Ne.symm h),←List.getD_eq_getElem?_getD]
 have hpk:=pack_c (hideAt c k) (by omega)
 refine ⟨enR (hideAt c k),fun j hj=>?_,?_⟩
 ·show enF ((hideAt c k).getD j en0) = _
  rw [hget,ti_nat]
  by_cases h : j = k
  ·rw [if_pos h,if_pos h]
   rfl
  ·rw [if_neg h,if_neg h]
 conv=>whnf
 generalize hh : hideAt c k = h at hlen hpk
 rw [←hlen]
 refine drawV_sched (.rd 0 (.rd 1 (.rd 2 (.ef 3 (.ef 4 (.ef 5 (.ef 6 (.rd 7 (.nil))))))))) [2,3,4] mixed (by kernel_rfl) ttok ftok ?_
 conv=>whnf
 refine ⟨fun _ _=>rfl,?_⟩
 conv=>whnf
 refine call_pure hpk rfl ?_
 rintro _ rfl
 conv=>whnf
 refine ⟨chR [h],fun q hq=>?_,?_⟩
 ·obtain rfl : q = 0:=by omega
  rfl
 conv=>whnf
 refine ⟨fun _ _=>rfl,?_⟩
 conv=>whnf
 refine call_pure (replace_c cs i hi (by omega) (by omega) [h] (by simp) (by simp) (by simp [sumL];omega)) rfl ?_
 rintro _ rfl
 conv=>whnf
 show _ = hdV (some (repL cs i [hideAt (cs.getD i []) k]))
 rw [hc,hh]
 all_goals first | rfl | exact ⟨rfl,rfl⟩
end Go.Eng
namespace Go.Eng
open Go Go.RowKit Go.Proofs
def OfC : Prop:=∀ l : List En,l.length≤50000→CallV Tryz.prog 258 [enS l] [] (fun r own'=>own' = []∧∃ cs : Ck,cs.flatten = l∧cs.length≤l.length∧r = ixA cs)
structure putS (cs : Ck) (n : Int) (e : En) (r : AV) : Prop where
 out : if n < 0∨(sumL cs : Int) < n then r = .tup [ixZ,erC 3] else if (fnE cs.flatten e.id).isSome = true then r = .tup [ixZ,erC 1] else
  ∃ cs' : Ck,cs'.flatten = cs.flatten.take n.toNat ++ [e] ++ cs.flatten.drop n.toNat∧cs'.length≤cs.length + 1∧r = .tup [ixA cs',.c (.v .nilIface)]
def puI (cs : Ck) (N : Nat) (e : En) (n : Nat) (st : St) : Prop:=∃ i : Nat,n = cs.length - i∧i≤cs.length∧sumL (cs.take i)≤N∧(i = 0∨sumL (cs.take i) < N) ∧
 st = ⟨81,0,[(1,vci .i64 ((N - sumL (cs.take i) : Nat) : Int)),(3,.c (.own 0 0)),(5,.c (.own 1 0)),(6,.c (.own 2 0)),(34,chS cs),(35,vci .i64 (cs.length : Int)),(36,vci .i64 (i : Int))],[some (.cells 114 (ixF cs)),some (.cells 142 (enF e)),some (.cells 114 [.v (.slice none 0 0),vi 0,vi 0])]⟩
theorem put_c_X (hof : OfC) (cs : Ck) (hl : cs.length≤50000) (hs : sumL cs≤30000) (n : Int) (e : En) : CallV Tryz.prog 235 [ixA cs,vci .i64 n,.agg (enF e)] [] (fun r own'=>own' = []∧putS cs n e r):=by
 have hfl : cs.flatten.length = sumL cs:=rfl
 refine callV_pure Tryz.func235 rfl ttok ftok rfl rfl rfl (Nat.le_of_ble_eq_true rfl) ?_
 conv=>whnf
 refine onB_intro (fun h=>?_) (fun h=>?_)
 ·have h : n < 0∨(sumL cs : Int) < n:=by
   simp only [pickB,isLit,Bool.or_eq_true,decide_eq_true_eq] at h
   omega
  conv=>whnf
  exact ⟨by rw [if_pos h];rfl⟩
 have h : ¬ (n < 0∨(sumL cs : Int) < n):=by
  simp only [pickB,isLit,Bool.or_eq_false_iff,decide_eq_false_iff_not] at h
  omega
 obtain ⟨N,rfl⟩ : ∃ N : Nat,n = (N : Int):=⟨n.toNat,(Int.toNat_of_nonneg (by omega)).symm⟩
 have hN : N≤sumL cs:=by omega
 conv=>whnf
 refine call_pure (find_c cs (by omega) (by omega) e.id) rfl ?_
 rintro _ rfl
 cases hf : fnE cs.flatten e.id with
 | some q =>
  conv=>whnf
  exact ⟨by rw [if_neg h,hf,if_pos Option.isSome_some];rfl⟩
 | none =>
 have hput : ∀ r,(∃ cs' : Ck,cs'.flatten = cs.flatten.take N ++ [e] ++ cs.flatten.drop N∧cs'.length≤cs.length + 1∧r = .tup [ixA cs',.c (.v .nilIface)])→putS cs N e r:=fun r hr=>⟨by rw [if_neg h,hf,if_neg (by simp),ti_nat];exact hr⟩
 conv=>whnf
 refine loopV ttok ftok (puI cs N e) (norm_weak [1,3,5,6,34,35,36] [some 0,some 1,some 2] rfl rfl) ⟨0,rfl,Nat.zero_le _,by simp [sumL],.inl rfl,rfl⟩ ?_
 rintro m st ⟨i,rfl,hi,hiN,hi0,rfl⟩
 have e1:=e64 (k:=i) (by omega)
 conv=>whnf
 refine onB_intro (fun h=>?_) (fun h=>?_)
 ·have h:=of_decide_eq_true h
  have hil : i < cs.length:=by omega
  have s5:=sumL_at hil
  have s6:=sumL_le cs (i + 1)
  conv=>whnf
  refine ⟨⟨by omega,by omega⟩,?_⟩
  conv=>whnf
  rw [ti_nat]
  refine onB_intro (fun g=>?_) (fun g=>?_)
  ·have g:=of_decide_eq_true g
   conv=>whnf
   rw [e1,show IntKind.i64.wrap (((N - sumL (cs.take i) : Nat) : Int) - ((cs.getD i []).length : Int)) = ((N - sumL (cs.take (i + 1)) : Nat) : Int) from by rw [w_i64 (by omega) (by omega)];omega]
   exact ⟨cs.length - (i + 1),_,by omega,norm_weak [1,3,5,6,34,35,36] [some 0,some 1,some 2] rfl rfl,i + 1,rfl,by omega,by omega,.inr (by omega),rfl⟩
  ·have g:=of_decide_eq_false g
   obtain ⟨A,hA⟩ : ∃ A,A = N - sumL (cs.take i):=⟨_,rfl⟩
   have hAl : A≤(cs.getD i []).length:=by omega
   have hcl : (cs.getD i []).length≤30000:=by omega
   rw [←hA]
   conv=>whnf
   refine drawV_at ⟨81,0,[(3,.c (.own 0 0)),(6,.c (.own 1 0)),(10,vci .i64 (i : Int)),(12,.c (.row 2))],[some (.cells 114 (ixF cs)),some (.cells 114 [.v (.slice none 0 0),vi 0,vi 0]),some (.row 142 4 ((cs.getD i []).take A ++ e :: (cs.getD i []).drop A).length (enR ((cs.getD i []).take A ++ e :: (cs.getD i []).drop A)))]⟩ ?_ ?_
   ·generalize cs.getD i [] = c at hAl hcl
    refine drawV_sched (.rd 0 (.rd 1 (.rd 3 (.rd 4 (.alt (.ef 2 (.ef 5 (.ef 6 (.rd 7 (.nil))))) (.ef 5 (.ef 2 (.ef 6 (.rd 7 (.nil)))))))))) [4,5] mixed (by kernel_rfl) ttok ftok ?_
    conv=>whnf
    refine ⟨?_,?_⟩
    ·conv=>whnf
     refine call_frame2 [] rfl rfl rfl rfl (enClone c (by omega)) ?_
     rintro r own2 ⟨rfl,rfl⟩
     refine ⟨.c (.row 4),[none,none,none,none,some (.row 142 4 c.length (enR c))],rfl,rfl,?_⟩
     conv=>whnf
     refine ⟨fun _=>enF e,fun q hq=>?_,?_⟩
     ·obtain rfl : q = 0:=by omega
      rfl
     conv=>whnf
     refine call_frame2 [some 4,some 5] rfl rfl rfl rfl (enInsert c e A hAl (by omega) (fun _=>enF e) rfl) ?_
     rintro r own2 ⟨rfl,rfl⟩
     refine ⟨.c (.row 7),[none,none,none,none,none,none,none,some (.row 142 4 (c.take A ++ e :: c.drop A).length (enR (c.take A ++ e :: c.drop A)))],rfl,rfl,?_⟩
     conv=>whnf
     exact norm_weak [3,6,10,12] [some 0,some 2,some 7] rfl rfl
    ·conv=>whnf
     refine ⟨fun _=>enF e,fun q hq=>?_,?_⟩
     ·obtain rfl : q = 0:=by omega
      rfl
     conv=>whnf
     refine call_frame2 [] rfl rfl rfl rfl (enClone c (by omega)) ?_
     rintro r own2 ⟨rfl,rfl⟩
     refine ⟨.c (.row 5),[none,none,none,none,some (.row 142 4 1 fun _=>enF e),some (.row 142 4 c.length (enR c))],rfl,rfl,?_⟩
     conv=>whnf
     refine call_frame2 [some 5,some 4] rfl rfl rfl rfl (enInsert c e A hAl (by omega) (fun _=>enF e) rfl) ?_
     rintro r own2 ⟨rfl,rfl⟩
     refine ⟨.c (.row 7),[none,none,none,none,none,none,none,some (.row 142 4 (c.take A ++ e :: c.drop A).length (enR (c.take A ++ e :: c.drop A)))],rfl,rfl,?_⟩
     conv=>whnf
     exact norm_weak [3,6,10,12] [some 0,some 2,some 7] rfl rfl
   generalize hc : cs.getD i [] = c at *
   have hL : (c.take A ++ e :: c.drop A).length = c.length + 1:=by rw [List.length_append,List.length_cons,List.length_take,List.length_drop];omega
   obtain ⟨L,hLd⟩ : ∃ L,L = c.take A ++ e :: c.drop A:=⟨_,rfl⟩
   rw [←hLd] at hL ⊢
   conv=>whnf
   refine onB_intro (fun g2=>?_) (fun g2=>?_)
   ·have g2:=of_decide_eq_true g2
    conv=>whnf
    refine drawV_sched (.rd 0 (.rd 1 (.rd 2 (.ef 3 (.ef 4 (.ef 5 (.ef 6 (.rd 7 (.nil))))))))) [1,2,3] mixed (by kernel_rfl) ttok ftok ?_
    conv=>whnf
    refine ⟨fun _ _=>rfl,?_⟩
    conv=>whnf
    refine call_pure (pack_c L (by omega)) rfl ?_
    rintro _ rfl
    conv=>whnf
    refine ⟨chR [L],fun q hq=>?_,?_⟩
    ·obtain rfl : q = 0:=by omega
     rfl
    conv=>whnf
    refine ⟨fun _ _=>rfl,?_⟩
    conv=>whnf
    refine call_pure (replace_c cs i hil (by omega) (by omega) [L] (by simp) (by simp) (by simp [sumL];omega)) rfl ?_
    rintro _ rfl
    conv=>whnf
    refine hput _ ⟨repL cs i [L],?_,by rw [repL_len _ hil];show cs.length - 1 + 1≤_;omega,rfl⟩
    have:=flat_put hil (at_:=A) (by rw [hc];omega) [L] e (by rw [hc,hLd];simp)
    rw [show sumL (cs.take i) + A = N by omega] at this
    exact this
   have g2:=of_decide_eq_false g2
   conv=>whnf
   refine drawV_frz [2] ?_
   conv=>whnf
   refine ⟨fun _ _=>rfl,?_⟩
   conv=>whnf
   refine drawV_sched (.rd 0 (.rd 1 (.rd 2 (.rd 3 (.rd 5 (.rd 6 (.ef 4 (.ef 7 (.ef 8 (.ef 9 (.ef 10 (.rd 11 (.nil))))))))))))) [1,3] mixed (by kernel_rfl) ttok ftok ?_
   conv=>whnf
   have ht : (L.take 16).length = 16:=by rw [List.length_take];omega
   have hd : (L.drop 16).length = L.length - 16:=List.length_drop
   refine ⟨⟨by omega,by omega,by omega,by omega⟩,?_⟩
   refine ⟨(L.take 16).length,enR (L.take 16),by rw [ht];rfl,fun q hq=>?_,?_⟩
   ·show enF _ = enF (L.getD (Int.toNat 0 + q) en0)
    rw [getD_take _ _ _ _ (by omega),show Int.toNat 0 + q = q from Nat.zero_add q]
   conv=>whnf
   refine ⟨⟨by omega,by omega,by omega,by omega⟩,?_⟩
   refine ⟨(L.drop 16).length,enR (L.drop 16),by rw [hd];rfl,fun q hq=>?_,?_⟩
   ·show enF _ = enF (L.getD (Int.toNat 16 + q) en0)
    rw [getD_drop]
    rfl
   conv=>whnf
   refine call_pure (pack_c (L.take 16) (by omega)) rfl ?_
   rintro _ rfl
   conv=>whnf
   refine call_pure (pack_c (L.drop 16) (by omega)) rfl ?_
   rintro _ rfl
   conv=>whnf
   refine ⟨chR [L.take 16,L.drop 16],fun q hq=>?_,?_⟩
   ·match q,hq with
    | 0,_=>rfl
    | 1,_=>rfl
   conv=>whnf
   refine ⟨fun j hj=>?_,?_⟩
   ·rfl
   conv=>whnf
   refine call_pure (replace_c cs i hil (by omega) (by omega) [L.take 16,L.drop 16] (by simp) (by simp) (by simp [sumL];omega)) rfl ?_
   rintro _ rfl
   conv=>whnf
   refine hput _ ⟨repL cs i [L.take 16,L.drop 16],?_,by rw [repL_len _ hil];show cs.length - 1 + 2≤_;omega,rfl⟩
   have:=flat_put hil (at_:=A) (by rw [hc];omega) [L.take 16,L.drop 16] e (by rw [hc];simp only [List.flatten_cons,List.flatten_nil,List.append_nil];rw [List.take_append_drop,hLd];simp)
   rw [show sumL (cs.take i) + A = N by omega] at this
   exact this
 ·have h:=of_decide_eq_false h
  obtain rfl : i = cs.length:=by omega
  have hcs : cs = []:=by
   rw [List.take_length] at hi0
   rcases hi0 with h0 | h0
   ·exact List.eq_nil_of_length_eq_zero h0
   ·omega
  subst hcs
  have hN0 : N = 0:=by simpa [sumL] using hN
  subst hN0
  conv=>whnf
  refine ⟨enR [e],fun q hq=>?_,?_⟩
  ·obtain rfl : q = 0:=by omega
   rfl
  conv=>whnf
  refine ⟨fun _ _=>rfl,?_⟩
  conv=>whnf
  refine call_pure (hof [e] (by simp)) rfl ?_
  rintro _ ⟨cs',h1,h2,rfl⟩
  conv=>whnf
  exact hput _ ⟨cs',h1,by simpa using h2,rfl⟩
end Go.Eng
namespace Go.Eng
open Go Go.RowKit Go.Proofs
def ckAt (l : List En) (i : Nat) : List En:=(l.drop i).take 16
theorem ckAt_len (l : List En) (i : Nat) : (ckAt l i).length = min 16 (l.length - i):=by simp [ckAt]
theorem ckAt_get (l : List En) (i k : Nat) (hk : k < (ckAt l i).length) : enR (ckAt l i) k = enR l (i + k):=by
 have : k < 16:=by rw [ckAt_len] at hk;omega
 unfold enR ckAt
 rw [List.getD_eq_getElem?_getD,List.getD_eq_getElem?_getD,List.getElem?_take,if_pos this,List.getElem?_drop]
theorem take_ck (l : List En) (i : Nat) : l.take i ++ ckAt l i = l.take (i + 16):=by
 unfold ckAt
 rw [List.take_add]
def chBx (l : List En) : IC:=.fp [.sl 4 l.length (enR l)]
def n16 : IC:=.fp [.v (.int .i64 16)]
theorem chunk_c (l : List En) : CallV Tryz.prog 272 [enS l,vci .i64 16] [] (fun r own'=>own' = []∧r = .c (.fn 288 [(false,[chBx l]),(false,[n16])])):=by
 refine callV_pureL [0,1] Tryz.func272 rfl ttok ftok rfl rfl rfl (Nat.le_of_ble_eq_true rfl) ?_
 conv=>whnf
 all_goals first | rfl | exact ⟨rfl,rfl⟩
abbrev CkA (L : Nat→Value) (m : Nat→Option Obj):={ p : Value × List En // DenA L ⟨m,0⟩ (enS p.2) p.1∧p.2≠[]∧p.2.length≤16 }
def ckS (l : List En) (y : Value) (i : Nat) : St:=⟨31,0,[(0,.c (.v y)),(1,.c (chBx l)),(2,.c n16),(4,vci .i64 (i : Int))],[]⟩
theorem chunkg_stops (l : List En) (hl : l.length≤50000) {L : Nat→Value} {m : Nat→Option Obj} {v1 v2 : Value} (h1 : Den L ⟨m,0⟩ (chBx l) v1) (h2 : Den L ⟨m,0⟩ n16 v2) (w1 : World) (hf : FzIn m w1) (hgl : HasGl.ok Tryz.prog m) (n : Nat) :
  SeqStopsK Fence.wide n Tryz.prog 288 #[v1,v2] (fun x : CkA L m=>#[x.1.1]) (fun W W'=>FzIn m W→FzIn m W') (fun xs=>(xs.map (fun x=>x.1.2)).flatten = l) (fun _=>True) l.length w1:=by
 intro ln J Jx W hW hJ hJx hY h0
 have hfW : FzIn m W:=hf.below hW
 have hJb : ∀ pre A B,J pre A→Below A.heap.size A B→J pre B:=fun pre A B hs hb=>hJ pre A B none hs (below_grown hb) (fun r e=>by cases e)
 obtain ⟨y,hy⟩ : ∃ y,y = Value.func (.yield ln) #[] #[]:=⟨_,rfl⟩
 have ha : Agree L ⟨m,0⟩ ⟨31,0,[(0,.c (.v y)),(1,.c (chBx l)),(2,.c n16)],[]⟩ { tmps:=#[y,v1,v2] ++ Array.replicate (31 - 3) undef,defers:=[] } :=
  agree0 (args:=[.c (.v y),.c (chBx l),.c n16]) (vs:=[y,v1,v2]) (n:=31) (Nat.le_of_ble_eq_true rfl) ⟨rfl,fun j a v ha hv=>by
   match j with
   | 0=>cases ha;cases hv;exact Den.v _ (by rw [hy];rfl)
   | 1=>cases ha;cases hv;exact h1
   | 2=>cases ha;cases hv;exact h2
   | j + 3=>cases ha⟩ 0 []
 rw [←hy]
 refine callsIn_of_wp Tryz.func288 rfl trivial ?_ rfl
 refine wpIn_seq ?_
 refine wpIn_mono (wpIn_wide.2 (quietR (K:=fun st=>st.n = 31∧pickE st.env [0,1,2,4] = some (ckS l y 0).env) ttok hfW rfl ?_ ha)) ?_
 ·conv=>whnf
  all_goals first | rfl | exact ⟨rfl,rfl⟩
 rintro e a' w' ⟨rfl,rfl,st,ha',ho,hn,hp⟩
 have ha0:=agree_pick (k:=0) (own:=[]) ha' hn hp
 refine then_n ?_
 refine wpIn_block ?_
 refine wpIn_loop (fun a w=>∃ (pre : List (CkA L m)) (i : Nat),Agree L ⟨m,0⟩ (ckS l y i) a∧FzIn m w∧J pre w∧(pre.map (fun x=>x.1.2)).flatten = l.take i∧i = 16 * pre.length) (fun a _=>l.length + 16 - (RowKit.intOf (a.eval (.tmp 4))).toNat) ⟨[],0,ha0,hfW,h0,rfl,rfl⟩ ?_
 clear ha0 ho hp hn ha' ha h0 st a' hfW
 rintro a w ⟨pre,i,ha,hfw,hJp,hpre,hi⟩
 have e4 : a.eval (.tmp 4) = .int .i64 (i : Int):=ev_v (st:=ckS l y i) ha rfl
 refine wpIn_seq (wpIn_seq ?_)
 refine wpIn_mono (wpIn_wide.2 (quietR (K:=fun st=>st.n = 31∧pickE st.env [9,0,1,2,4] = some ((9,.c (.v (.bool (decide (i < l.length))))) :: (ckS l y i).env)) ttok hfw rfl ?_ ha)) ?_
 ·conv=>whnf
  rw [show decide ((i : Int) < (l.length : Int)) = decide (i < l.length) from by simp]
  exact ⟨rfl,rfl⟩
 rintro e a' w' ⟨rfl,rfl,st,ha',ho,hn,hp⟩
 have ha1:=agree_pick (k:=0) (own:=[]) ha' hn hp
 refine then_n ?_
 by_cases hil : i < l.length
 ·rw [decide_eq_true hil] at ha1
  refine wpIn_cond_true (ev_v ha1 rfl) (wpIn_skip (then_n ?_))
  refine wpIn_seq ?_
  refine wpIn_block ?_
  refine wpIn_seq ?_
  refine wpIn_mono (wpIn_wide.2 (quietD (K:=fun st=>st.n = 31∧pickE st.env [5,0,1,2,4] = some ((5,vci .i64 ((min 16 (l.length - i) : Nat) : Int)) :: (ckS l y i).env)) hgl mixed (by kernel_rfl) ttok ftok hfw rfl ?_ ha1)) ?_
  ·have hmin : minI 16 ((l.length - i : Nat) : Int) = ((min 16 (l.length - i) : Nat) : Int):=by unfold minI;split <;> omega
   conv=>whnf
   refine ⟨by omega,l.length - i,fun k=>enR l (i + k),by omega,fun k _=>by rw [ti_nat],?_⟩
   conv=>whnf
   rw [hmin]
   exact ⟨rfl,rfl⟩
  rintro e a2 w2 ⟨rfl,hb2,st2,ha2,ho2,hn2,hp2⟩
  have ha3:=agree_pick (k:=0) (own:=[]) ha2 hn2 hp2
  have hf2:=hfw.below hb2
  have hJ2:=hJb _ _ _ hJp hb2
  refine then_n (wpIn_seq ?_)
  refine region_pre 10 (R:=fun a' w'=>w' = w2∧∃ st',Agree L ⟨m,0⟩ st' a'∧st'.own = []∧(st'.n = 31∧pickE st'.env [19,28,0,1,2,4] = some ((19,.c (.v y)) :: (28,enS (ckAt l i)) :: (ckS l y i).env))) rfl (quietL_G ttok hf2 _ _ [] _ rfl ?_ ha3 gok_nil) ?_
  ·have hlen:=ckAt_len l i
   have hw : IntKind.i64.wrap ((i : Int) + ((min 16 (l.length - i) : Nat) : Int)) = ((i + min 16 (l.length - i) : Nat) : Int):=by rw [w_i64 (by omega) (by omega)];omega
   conv=>whnf
   rw [hw]
   refine ⟨by omega,(ckAt l i).length,enR (ckAt l i),by omega,fun k hk=>by rw [ti_nat];exact ckAt_get l i k hk,?_⟩
   conv=>whnf
   all_goals first | rfl | exact ⟨rfl,rfl⟩
  rintro a4 w4 ⟨rfl,st4,ha4,ho4,hn4,hp4⟩
  have ha5:=agree_pick (k:=0) (own:=[]) ha4 hn4 hp4
  have hx : DenA L ⟨m,0⟩ (enS (ckAt l i)) (a4.eval (.tmp 28)):=ha5.env 28 _ rfl
  have hlen:=ckAt_len l i
  have hne : ckAt l i≠[]:=fun e=>by rw [e] at hlen;simp at hlen;omega
  have hle : (ckAt l i).length≤16:=by omega
  have hyx:=hY pre ⟨(a4.eval (.tmp 28),ckAt l i),hx,hne,hle⟩ w4 hJ2 (by omega)
  show wpListIn _ _ _ _ _ (_ :: _ :: []) _ _
  refine wpListIn_plain rfl (fun K hK=>yield_op rfl ?_ hyx ?_)
  ·exact (ev_v ha5 rfl).trans hy
  rintro e W' (⟨rfl,hJ',hf'⟩ | ⟨rfl,hJx'⟩)
  ·refine ⟨_,rfl,hK _ _ ?_⟩
   have ha6:=agree_put (d:=29) ha5 (Nat.le_of_ble_eq_true rfl) (av:=vcb true) (Den.v _ rfl)
   refine list_in0 (l:=[_]) (l2:=[]) (R:=fun a' w'=>w' = W'∧∃ st',Agree L ⟨m,0⟩ st' a'∧st'.own = []∧(st'.n = 31∧pickE st'.env [30,0,1,2,4] = some ((30,vcb false) :: (ckS l y i).env))) rfl (quietL_G ttok (hf' hf2) [_] _ [] _ rfl ?_ ha6 gok_nil) ?_
   ·conv=>whnf
    all_goals first | rfl | exact ⟨rfl,rfl⟩
   rintro a7 w7 ⟨rfl,st7,ha7,ho7,hn7,hp7⟩
   have ha8:=agree_pick (k:=0) (own:=[]) ha7 hn7 hp7
   refine wpListIn_nil (then_n (wpIn_cond_false (ev_v ha8 rfl) (wpIn_skip (inb_n (then_n ?_)))))
   refine wpIn_mono (wpIn_wide.2 (quietR (K:=fun st=>st.n = 31∧pickE st.env [0,1,2,4] = some (ckS l y (i + 16)).env) ttok (hf' hf2) rfl ?_ ha8)) ?_
   ·have hw : IntKind.i64.wrap ((i : Int) + 16) = ((i + 16 : Nat) : Int):=by rw [w_i64 (by omega) (by omega)];omega
    conv=>whnf
    rw [hw]
    exact ⟨rfl,rfl⟩
   rintro e a9 w9 ⟨rfl,rfl,st9,ha9,ho9,hn9,hp9⟩
   have ha10:=agree_pick (k:=0) (own:=[]) ha9 hn9 hp9
   have e10 : a9.eval (.tmp 4) = .int .i64 ((i + 16 : Nat) : Int):=ev_v (st:=ckS l y (i + 16)) ha10 rfl
   refine then_n ⟨⟨_,i + 16,ha10,hf' hf2,hJ',?_,?_⟩,?_⟩
   ·rw [List.map_append,List.flatten_append,hpre]
    simp only [List.map_cons,List.map_nil,List.flatten_cons,List.flatten_nil,List.append_nil]
    exact take_ck l i
   ·rw [List.length_append];simp;omega
   ·rw [e10,e4]
    show l.length + 16 - ((i + 16 : Nat) : Int).toNat < l.length + 16 - (i : Int).toNat
    omega
  ·refine ⟨_,rfl,hK _ _ ?_⟩
   have ha50 : Agree L ⟨fun _=>none,0⟩ ⟨31,0,[],[]⟩ a4:=⟨ha5.size,fun t av ht=>by simp at ht,ha5.defers⟩
   have ha6:=agree_put (d:=29) ha50 (Nat.le_of_ble_eq_true rfl) (av:=vcb false) (Den.v _ rfl)
   have hf9 : FzIn (fun _=>none) W':=fun k o hk=>by cases hk
   refine list_in0 (l:=[_]) (l2:=[]) (R:=fun a' w'=>w' = W'∧∃ st',Agree L ⟨fun _=>none,0⟩ st' a'∧st'.own = []∧(st'.n = 31∧pickE st'.env [30] = some [(30,vcb true)])) rfl (quietL_G ttok hf9 [_] _ [] _ rfl ?_ ha6 gok_nil) ?_
   ·conv=>whnf
    all_goals first | rfl | exact ⟨rfl,rfl⟩
   rintro a7 w7 ⟨rfl,st7,ha7,ho7,hn7,hp7⟩
   have ha8:=agree_pick (k:=0) (own:=[]) ha7 hn7 hp7
   refine wpListIn_nil (then_n (wpIn_cond_true (ev_v ha8 rfl) (wpIn_ret (inb_r (then_r (then_r (inb_r ?_)))))))
   refine bodyPost_ret (results_none rfl _ _ _) ha8.defers ?_
   exact ⟨⟨_,rfl⟩,.inr ⟨_,trivial,hJx'⟩⟩
 ·rw [decide_eq_false hil] at ha1
  refine wpIn_cond_false (ev_v ha1 rfl) (wpIn_exit (then_e (then_e (inb_e ?_))))
  refine bodyPost_end (results_none rfl _ _ _) ha1.defers ?_
  exact ⟨⟨_,rfl⟩,.inl ⟨pre,hpre.trans (List.take_of_length_le (by omega)),hJp⟩⟩
end Go.Eng
namespace Go.Eng
open Go Go.RowKit Go.Proofs
def ofOwn (cs : Ck) : List (Option Ob):=[some (.cells 114 [.v (.slice none 0 0),vi 0,vi 0]),some (.cells 112 [.row 2]),some (.row 225 2 cs.length (chR cs))]
theorem of_c_X : OfC:=by
 intro l hl
 refine ⟨fun mine L F h w vs hgl hm hden=>?_⟩
 refine (callsIn_wide (n:=5)).1 ?_
 have hm0 : Mem (mineOf (footOf F []) w) L F h [] w:=hm.mine_mono (fun b hb=>.inl hb)
 have hs : Sat (footOf F []) w (⟨h,L,hgl⟩ : Base Tryz.prog) ⟨16,0,env0 [enS l],[]⟩ { tmps:=vs.toArray ++ Array.replicate (16 - vs.toArray.size) undef,defers:=[] } w :=
  ⟨⟨L,F,h,hm0,agree0 (Nat.le_of_ble_eq_true rfl) hden 0 [],⟨Sub.refl h,fun _ _=>rfl,hm.hn.symm⟩,fun k hk=>.inl hk⟩,Keep.refl _ w⟩
 refine callsIn_of_wp_marks Tryz.func258 rfl trivial ?_ rfl
 refine wpIn_seq (wpIn_mono (wpIn_wide.2 (vc_ok (Q:=fun e st=>e = .normal∧Weak st ⟨16,0,[(0,enS l),(2,.c (.own 0 0))],[some (.cells 114 [.v (.slice none 0 0),vi 0,vi 0])]⟩) ttok ftok _ _ _ _ ?_ hs)) ?_)
 ·conv=>whnf
  exact ⟨rfl,norm_weak [0,2] [some 0] rfl rfl⟩
 rintro e a1 w1 ⟨e1,st1,rfl,hs1,rfl,hw1⟩
 replace hs1:=hw1.out _ _ _ _ _ hs1
 refine then_n (wpIn_seq (wpIn_mono (wpIn_wide.2 (vc_ok (Q:=fun e st=>e = .normal∧Weak st ⟨16,0,[(0,enS l),(2,.c (.own 0 0)),(3,.c (.own 1 0))],[some (.cells 114 [.v (.slice none 0 0),vi 0,vi 0]),some (.cells 112 [.v (.slice none 0 0)])]⟩) ttok ftok _ _ _ _ ?_ hs1)) ?_))
 ·conv=>whnf
  exact ⟨rfl,norm_weak [0,2,3] [some 0,some 1] rfl rfl⟩
 rintro e a2 w2 ⟨e2,st2,rfl,hs2,rfl,hw2⟩
 replace hs2:=hw2.out _ _ _ _ _ hs2
 refine then_n (wpIn_seq (wpIn_seq (wpIn_mono (wpIn_wide.2 (vc_ok (Q:=fun e st=>e = .normal∧Weak st ⟨16,0,[(2,.c (.own 0 0)),(3,.c (.own 1 0)),(7,.c (.fn 288 [(false,[chBx l]),(false,[n16])]))],[some (.cells 114 [.v (.slice none 0 0),vi 0,vi 0]),some (.cells 112 [.v (.slice none 0 0)])]⟩) ttok ftok _ _ _ _ ?_ hs2)) ?_)))
 ·conv=>whnf
  refine call_frame2 [] rfl rfl rfl rfl (enClone l (by omega)) ?_
  rintro r own2 ⟨rfl,rfl⟩
  refine ⟨.c (.row 2),[some (.cells 114 [.v (.slice none 0 0),vi 0,vi 0]),some (.cells 112 [.v (.slice none 0 0)]),some (.row 142 4 l.length (enR l))],rfl,rfl,?_⟩
  conv=>whnf
  refine ⟨fun _ _=>rfl,?_⟩
  conv=>whnf
  refine call_pure (chunk_c l) rfl ?_
  rintro _ rfl
  conv=>whnf
  exact ⟨rfl,norm_weak [2,3,7] [some 0,some 1] rfl rfl⟩
 rintro e a3 w3 ⟨e3,st3,rfl,hs3,rfl,hw3⟩
 replace hs3:=hw3.out _ _ _ _ _ hs3
 obtain ⟨b,f,hfz,hbn,hab,hsr,hback⟩:=sat_rebase hs3
 clear hs3 hw3 hs2 hw2 hs1 hw1 hs hm0
 obtain ⟨v1,v2,hg,hv1,hv2⟩ : ∃ v1 v2,a3.eval (.tmp 7) = .func (.func 288) #[] #[v1,v2]∧Den b.L ⟨b.h.m,0⟩ (chBx l) v1∧Den b.L ⟨b.h.m,0⟩ n16 v2:=by
  have hd : Den b.L b.h (.fn 288 [(false,[chBx l]),(false,[n16])]) (a3.eval (.tmp 7)):=hab.env 7 _ rfl
  generalize a3.eval (.tmp 7) = z at hd
  cases hd with
  | fn _ _ vs g hl hv h1 hr =>
   match vs,hl with
   | [v1,v2],_ =>
    refine ⟨v1,v2,rfl,?_,?_⟩
    ·have:=hv 0 false [chBx l] v1 rfl rfl
     rw [this]
     exact Den.clo (hr 0 false [chBx l] rfl 0 _ rfl) 0 rfl
    ·have:=hv 1 false [n16] v2 rfl rfl
     rw [this]
     exact Den.clo (hr 1 false [n16] rfl 0 _ rfl) 0 rfl
 have hbB : ∀ x,b.h.m x≠none→x < w3.heap.size:=fun x hx=>by
  cases e : b.h.m x with
  | none=>exact absurd e hx
  | some o=>exact (Array.getElem?_eq_some_iff.1 (hfz x o e)).1
 have hsr2 : Sat f w3 b ⟨16,2,[],ofOwn []⟩ a3 w3:=((nil_cell 1 0 225 2 (chR []) rfl rfl).trans (norm_weak [] [some 0,some 1,some 2] rfl rfl)).out _ _ _ _ _ hsr
 have hR0 : RInv f w3 b 2 w3.heap.size (ofOwn []) w3:=RInv.of_sat hsr2 rfl hbB
 refine then_n (wpIn_block ?_)
 refine wpIn_rangeFunc_ownF rfl (by decide) (gf:=288) (lb:=#[v1,v2]) hg trivial (enters_of Tryz.func288 (by kernel_rfl) rfl)
  (chunkg_stops l hl hv1 hv2 w3 hfz b.gl 4) (fun h1 h2 h=>h2 (h1 h)) ?_ (Below.refl _ _) (fun _=>rfl)
  (fun pre W=>RInv f w3 b 2 w3.heap.size (ofOwn (pre.map (fun x=>x.1.2))) W) (fun _ _ _=>False) ?_ (fun _ _ _ _ _ hs _ _=>hs) hR0
  (fun x=>(a3.put (some 8) x.1.1).put (some 4) x.1.1) ?_ ?_ ?_ ?_
 ·intro W x o o' hx _ _ _ h k o2 hk
  rw [World.putObj_heap_other (by have:=hbB k (by rw [hk];simp);omega)]
  exact h k o2 hk
 ·exact fun s A B row hs hg hr=>hs.grown (Nat.le_refl _) hg hr
 ·intro lr x W K hK
  refine assign_in ?_
  have e : (a3.put (some 8) x.1.1).eval (.tmp 8) = x.1.1:=by
   have:=hab.size
   simp [Act.eval,Act.put,this]
  have hd0 : a3.defers = []:=hab.defers
  have ea : (⟨(#[8].zip #[x.1.1]).foldl (fun t (p,v)=>t.setIfInBounds p v) a3.tmps,[]⟩ : Act) = a3.put (some 8) x.1.1:=by
   obtain ⟨t,d⟩:=a3
   cases hd0
   simp [Act.put]
  show K ((⟨(#[8].zip #[x.1.1]).foldl (fun t (p,v)=>t.setIfInBounds p v) a3.tmps,[]⟩ : Act).put (some 4) ((⟨(#[8].zip #[x.1.1]).foldl (fun t (p,v)=>t.setIfInBounds p v) a3.tmps,[]⟩ : Act).eval (.tmp 8))) W
  rw [ea,e]
  exact hK
 ·rintro lr pre x W hI hlen
  have hd0 : a3.defers = []:=hab.defers
  have hlx : (x.1.2 : List En).length≤16:=x.2.2.2
  have hxl : pre.length < l.length:=hlen
  have hag : ∀ (L : Nat→Value) (h : Hp),Sub b.h h→(∀ i,i < b.h.n→L i = b.L i)→Agree L h ⟨16,2,[(4,enS x.1.2),(2,.c (.own 0 0)),(3,.c (.own 1 0))],ofOwn (pre.map (fun x=>x.1.2))⟩ ((a3.put (some 8) x.1.1).put (some 4) x.1.1):=fun L h h1 h2=>by
   have g1:=hab.mono2 (k:=2) (own:=ofOwn (pre.map (fun x=>x.1.2))) h1 h2
   have hx : DenA L h (enS x.1.2) x.1.1:=DenA.mono ⟨h1.m,Nat.zero_le _⟩ (fun i hi=>by cases hi) (h:=⟨b.h.m,0⟩) (L:=b.L) x.2.1
   have g2:=agree_put (d:=8) g1 (Nat.le_of_ble_eq_true rfl) hx
   have g3:=agree_put (d:=4) g2 (Nat.le_of_ble_eq_true rfl) hx
   exact agree_pick (ts:=[4,2,3]) g3 rfl rfl
  obtain ⟨b2,f2,hs2,hb2⟩:=hI.open (Nat.le_refl _) hag
  refine wpIn_block ?_
  refine wpIn_mono (round_loud 4 [0,1] [2,3] [2,3,4] (ro:=some lr) (K:=fun st=>Weak ⟨st.n,2,st.env,st.own⟩ ⟨16,2,[],ofOwn ((pre ++ [x]).map (fun x=>x.1.2))⟩) mixed (by kernel_rfl) (by kernel_rfl) ttok ftok ?_ hs2) ?_
  ·conv=>whnf
   refine call_pure (pack_c x.1.2 (by omega)) rfl ?_
   rintro _ rfl
   conv=>whnf
   refine ⟨chR [x.1.2],fun q hq=>?_,?_⟩
   ·obtain rfl : q = 0:=by omega
    rfl
   conv=>whnf
   refine ⟨rfl,?_⟩
   conv=>whnf
   have hml : (pre.map (fun x=>x.1.2)).length = pre.length:=List.length_map ..
   refine ⟨⟨by rw [hml];omega,by rw [hml];show (pre.length + 1) * 32≤_;omega⟩,?_⟩
   conv=>whnf
   refine app_list (enc:=chF) (d:=[]) (l:=pre.map (fun x=>x.1.2)) (b:=[x.1.2]) (fun k hk=>rfl) (fun k hk=>rfl) ?_
   conv=>whnf
   rw [List.map_append]
   exact norm_weak [] [some 0,some 1,some 4] rfl rfl
  ·rintro e a' W' ⟨rfl,st',hs',hw⟩
   obtain ⟨hko,hsb,_⟩:=hb2 _ a' W' hs'
   replace hsb:=hw.out _ _ _ _ _ hsb
   refine inb_n ⟨hko,fun _=>?_,RInv.of_sat hsb rfl hbB⟩
   obtain ⟨⟨L',F',h',hm',_,hsub',_⟩,_⟩:=hsb
   exact fun k o hk=>hm'.hsub k o (hsub'.sub.m k o hk)
 ·rintro D xs W hD hS hI hK
  obtain ⟨cs,hcs⟩ : ∃ cs : Ck,xs.map (fun x=>x.1.2) = cs:=⟨_,rfl⟩
  have hS : (xs.map (fun x=>x.1.2)).flatten = l:=hS
  have hI : RInv f w3 b 2 w3.heap.size (ofOwn (xs.map (fun x=>x.1.2))) W:=hI
  have hne : ∀ c,c ∈ cs→1≤c.length:=fun c hc=>by
   rw [←hcs] at hc
   obtain ⟨x,_,rfl⟩:=List.mem_map.1 hc
   exact List.length_pos_iff.2 x.2.2.1
  rw [hcs] at hS hI
  have hcl : cs.length≤l.length:=by
   rw [←hS]
   clear hS hI hcs
   induction cs with
   | nil=>exact Nat.zero_le _
   | cons c r ih =>
    have h1:=hne c (List.mem_cons_self ..)
    have h2:=ih (fun c hc=>hne c (List.mem_cons_of_mem _ hc))
    rw [List.flatten_cons,List.length_append,List.length_cons]
    omega
  have hsl : sumL cs = l.length:=by show cs.flatten.length = _;rw [hS]
  have hag : ∀ (L : Nat→Value) (h : Hp),Sub b.h h→(∀ i,i < b.h.n→L i = b.L i)→Agree L h ⟨16,2,[(2,.c (.own 0 0)),(3,.c (.own 1 0))],ofOwn cs⟩ a3:=fun L h h1 h2=>
   agree_pick (ts:=[2,3]) (hab.mono2 (k:=2) (own:=ofOwn cs) h1 h2) rfl rfl
  obtain ⟨b2,f2,hs2,hb2⟩:=hI.open (Nat.le_refl _) hag
  refine inb_n (then_n (wpIn_seq (wpIn_region_list ?_)))
  have hd0 : a3.defers = []:=hab.defers
  rw [addD_mark hd0]
  refine list_end (ro:=none) (Q:=fun e a' w'=>e = .normal∧∃ st,Sat f2 W b2 st a' w'∧Weak ⟨st.n,0,st.env,st.own⟩ ⟨16,0,[(2,.c (.own 0 0))],[some (.cells 114 (ixF cs))]⟩) (fun e a w h=>h.1) ?_ (by kernel_rfl)
   (ops_ok (K:=fun st=>Weak ⟨st.n,0,st.env,st.own⟩ ⟨16,0,[(2,.c (.own 0 0))],[some (.cells 114 (ixF cs))]⟩) ttok ftok (fun st a w h1 h2=>⟨rfl,st,h1,h2⟩) _ _ _ _ ?_ hs2)
  ·rintro a' W' ⟨_,st',hs',hw⟩
   obtain ⟨hko,_,hput⟩:=hb2 _ a' W' hs'
   have hK':=hko.same D _ hK rfl
   have hfin:=hw.out _ _ _ _ _ (hback ⟨st'.n,2,st'.env,st'.own⟩ _ _ (hput D _ (.deferred none) hD hK rfl))
   have hda : a'.defers = []:=by
    obtain ⟨⟨_,_,_,_,ha,_⟩,_⟩:=hfin
    exact ha.defers
   refine then_n (wpIn_ret ?_)
   show LeavesInM _ _ _ _ _ _ (a'.defers ++ [_]) _ _
   rw [hda]
   refine ⟨by simp,.inl ⟨D,_,rfl,run_takeDeferred hK',?_⟩⟩
   have hz:=sat_fin (fn:=Tryz.f258) (Q:=fun r=>∃ cs : Ck,cs.flatten = l∧cs.length≤l.length∧r = ixA cs) ttok hm.hn hfin (by
    conv=>whnf
    exact ⟨cs,hS,hcl,rfl⟩)
   exact hz
  ·conv=>whnf
   refine ⟨fun _ _=>rfl,?_⟩
   conv=>whnf
   refine call_pure (with_c cs (by omega) (by omega)) rfl ?_
   rintro _ rfl
   conv=>whnf
   exact norm_weak [2] [some 0] rfl rfl
 ·rintro D c pre W _ _ h _
  exact h.elim
end Go.Eng
namespace Go.Eng
open Go Go.RowKit Go.Proofs
abbrev Nd:=It × Hg
def nd0 : Nd:=(it0,⟨(0,0),false⟩)
abbrev hgF (h : Hg) : List IC:=[vu h.on.1,vu h.on.2,.v (.bool h.right)]
abbrev hgA (h : Hg) : AV:=.agg (hgF h)
abbrev ndF (p : Nd) : List IC:=[vu p.1.id.1,vu p.1.id.2,vu p.1.left.1,vu p.1.left.2,vu p.1.right.1,vu p.1.right.2,vr p.1.ch,vu p.2.on.1,vu p.2.on.2,.v (.bool p.2.right)]
abbrev ndR (l : List Nd) : Nat→List IC:=fun k=>ndF (l.getD k nd0)
abbrev liF (cs : Ck) (l : List Nd) : List IC:=[.sl 2 cs.length (chR cs),vi (sumL cs : Int),vi (shnC cs : Int),.sl 10 l.length (ndR l)]
abbrev liA (cs : Ck) (l : List Nd) : AV:=.agg (liF cs l)
def srtN (l : List Nd) : Prop:=l.Pairwise (fun p q=>il p.1.id q.1.id)
def hasN (l : List Nd) (a : I2) : Prop:=∃ p,p ∈ l∧p.1.id = a
instance (l : List Nd) (a : I2) : Decidable (hasN l a):=inferInstanceAs (Decidable (∃ p,p ∈ l∧p.1.id = a))
theorem srtN_lt {l : List Nd} (h : srtN l) {i j : Nat} (hij : i < j) (hj : j < l.length) : il (l.getD i nd0).1.id (l.getD j nd0).1.id:=by
 rw [List.getD_eq_getElem?_getD,List.getD_eq_getElem?_getD,List.getElem?_eq_getElem hj,List.getElem?_eq_getElem (by omega)]
 exact List.pairwise_iff_getElem.1 h i j (by omega) hj hij
structure fdP (l : List Nd) (a : I2) (i : Nat) : Prop where
 le : i≤l.length
 lo : ∀ j,j < i→il (l.getD j nd0).1.id a
 hi : ∀ j,i≤j→j < l.length→¬ il (l.getD j nd0).1.id a
theorem fdP_of {l : List Nd} (h : srtN l) {a : I2} {i : Nat} (hi : i≤l.length) (h1 : i = 0∨cmpII (l.getD (i - 1) nd0).1.id a < 0) (h2 : i = l.length∨0≤cmpII (l.getD i nd0).1.id a) : fdP l a i:=by
 refine ⟨hi,fun j hj=>?_,fun j hj hjl hlt=>?_⟩
 ·rcases h1 with h1 | h1
  ·omega
  ·have h3:=(cmpII_lt _ _).1 h1
   rcases Nat.lt_or_ge j (i - 1) with g | g
   ·exact il_tr (srtN_lt h g (by omega)) h3
   ·obtain rfl : j = i - 1:=by omega
    exact h3
 ·rcases h2 with h2 | h2
  ·omega
  ·have h3 : ¬ il (l.getD i nd0).1.id a:=fun g=>by have:=(cmpII_lt _ _).2 g;omega
   rcases Nat.lt_or_ge i j with g | g
   ·exact h3 (il_tr (srtN_lt h g hjl) hlt)
   ·obtain rfl : j = i:=by omega
    exact h3 hlt
theorem fdP_has {l : List Nd} {a : I2} {i : Nat} (hs : srtN l) (h : fdP l a i) : (i < l.length∧(l.getD i nd0).1.id = a)↔hasN l a:=by
 constructor
 ·rintro ⟨h1,h2⟩
  exact ⟨_,getD_mem h1,h2⟩
 ·rintro ⟨p,hp,e⟩
  obtain ⟨j,hj,rfl⟩:=List.getElem_of_mem hp
  have ej : l.getD j nd0 = l[j]:=by rw [List.getD_eq_getElem?_getD,List.getElem?_eq_getElem hj];rfl
  have hji : ¬ j < i:=fun g=>il_irr a (by have:=h.lo j g;rw [ej,e] at this;exact this)
  have hij : ¬ i < j:=fun g=>h.hi i (Nat.le_refl _) (by omega) (by have:=srtN_lt hs g hj;rw [ej,e] at this;exact this)
  obtain rfl : j = i:=by omega
  exact ⟨hj,by rw [ej];exact e⟩
theorem hasN_iff {l : List Nd} {hs : HS} (hp : l.Perm hs) (a : I2) : hasN l a↔hasI hs a:=by
 unfold hasN hasI
 constructor
 ·rintro ⟨p,h1,h2⟩;exact ⟨p,hp.mem_iff.1 h1,h2⟩
 ·rintro ⟨p,h1,h2⟩;exact ⟨p,hp.mem_iff.2 h1,h2⟩
def bel (hs : HS) (a b : I2) : Bool:=(und hs a ⟨b,false⟩).isSome || (und hs a ⟨b,true⟩).isSome
def belR (hs : HS) (a b : I2) : Bool:=b.1 == 0 || bel hs a b
def hgOf (hs : HS) (x : It) : Hg:=if (x.right.1 != 0 && belR hs x.right x.left) = true then ⟨x.right,false⟩ else if x.left.1 = 0 then rootH else ⟨x.left,true⟩
structure LSt (hs : HS) (l : List Nd) : Prop where
 ok : okH hs
 perm : l.Perm hs
 srt : srtN l
 len : l.length≤100000
theorem LSt.has {hs : HS} {l : List Nd} (h : LSt hs l) (a : I2) : hasN l a↔hasI hs a:=hasN_iff h.perm a
theorem LSt.at_ {hs : HS} {l : List Nd} (h : LSt hs l) {a : I2} {i : Nat} (hf : fdP l a i) (ha : hasI hs a) : i < l.length∧(l.getD i nd0).1.id = a∧((l.getD i nd0).1,(l.getD i nd0).2) ∈ hs:=by
 obtain ⟨h1,h2⟩:=(fdP_has h.srt hf).2 ((h.has a).2 ha)
 exact ⟨h1,h2,h.perm.mem_iff.1 (getD_mem h1)⟩
def undV (o : Option I2) : AV:=match o with
 | some k=>.tup [idA k,vcb true]
 | none=>.tup [idA (0,0),vcb false]
end Go.Eng
namespace Go.Eng
open Go Go.RowKit Go.Proofs
theorem find1_c (p : Nd) (a : I2) : CallV Tryz.prog 161 [.agg (ndF p),idA a] [] (fun r own'=>own' = []∧r = vci .i64 (cmpII p.1.id a)):=by
 refine callV_pure Tryz.func161 rfl ttok ftok rfl rfl rfl (Nat.le_of_ble_eq_true rfl) ?_
 conv=>whnf
 refine call_pure (cmp_c p.1.id a) rfl ?_
 rintro _ rfl
 conv=>whnf
 all_goals first | rfl | exact ⟨rfl,rfl⟩
def ndSearchI (l : List Nd) (t : I2) (c : Nd→Int) (m : Nat) (st : St) : Prop:=∃ i j : Nat,m = j - i∧i≤j∧j≤l.length∧(i = 0∨c (l.getD (i - 1) nd0) < 0)∧(j = l.length∨0≤c (l.getD j nd0)) ∧
 st = ⟨49,0,[(0,.c (.sl 10 l.length fun k=>ndF (l.getD k nd0))),(2,.c (.fn 161 [])),(4,.c (.own 0 0)),(8,vci .i64 l.length),(9,vci .i64 (i : Int)),(10,vci .i64 (j : Int))],[some (.cells 136 (idF t))]⟩
theorem ndSearch (l : List Nd) (hl : l.length≤1000000000) (t : I2) (c : Nd→Int)
  (hp : ∀ k,k < l.length→CallV Tryz.prog 161 [.agg (ndF (l.getD k nd0)),idA t] [] (fun r own'=>own' = []∧r = vci .i64 (c (l.getD k nd0)))) :
  CallV Tryz.prog 160 [.c (.sl 10 l.length fun k=>ndF (l.getD k nd0)),idA t,.c (.fn 161 [])] [] (fun r own'=>own' = []∧∃ i : Nat,i≤l.length∧(i = 0∨c (l.getD (i - 1) nd0) < 0)∧(i = l.length∨0≤c (l.getD i nd0)) ∧
   r = .tup [vci .i64 i,vcb (decide (i < l.length∧c (l.getD i nd0) = 0))]):=by
 refine callV_pure Tryz.func160 rfl ttok ftok rfl rfl rfl (Nat.le_of_ble_eq_true rfl) ?_
 conv=>whnf
 refine loopV ttok ftok (ndSearchI l t c) (norm_weak [0,2,4,8,9,10] [some 0] rfl rfl) ⟨0,l.length,rfl,Nat.zero_le _,Nat.le_refl _,.inl rfl,.inl rfl,rfl⟩ ?_
 rintro m st ⟨i,j,rfl,hij,hj,h1,h2,rfl⟩
 conv=>whnf
 refine onB_intro (fun h=>?_) (fun h=>?_)
 ·have h:=of_decide_eq_true h
  have hw : IntKind.i64.wrap (IntKind.u64.wrap (IntKind.i64.wrap ((i : Int) + j)) / 2 ^ Int.toNat 1) = (((i + j) / 2 : Nat) : Int):=by
   rw [w_i64 (x:=(i : Int) + j) (by omega) (by omega),w_u64,show (2 : Int) ^ Int.toNat 1 = 2 from rfl,w_i64 (by omega) (by omega)]
   omega
  have hil : (i + j) / 2 < l.length:=by omega
  have hpk:=hp ((i + j) / 2) hil
  conv=>whnf
  refine ⟨⟨by omega,by decide⟩,?_⟩
  conv=>whnf
  rw [hw]
  generalize hk : (i + j) / 2 = k at hil hpk
  refine drawV_quiet mixed (by kernel_rfl) ttok ftok ?_
  conv=>whnf
  refine ⟨⟨by omega,by omega⟩,?_⟩
  conv=>whnf
  rw [ti_nat]
  refine callQ hpk rfl rfl ?_
  conv=>whnf
  refine onB_intro (fun h3=>?_) (fun h3=>?_)
  ·have h3:=of_decide_eq_true h3
   conv=>whnf
   rw [show IntKind.i64.wrap ((k : Int) + 1) = ((k + 1 : Nat) : Int) from by rw [w_i64 (by omega) (by omega)];omega]
   exact ⟨j - (k + 1),_,by omega,norm_weak [0,2,4,8,9,10] [some 0] rfl rfl,k + 1,j,rfl,by omega,hj,.inr (by rw [Nat.add_sub_cancel];exact h3),h2,rfl⟩
  ·have h3:=of_decide_eq_false h3
   conv=>whnf
   exact ⟨k - i,_,by omega,norm_weak [0,2,4,8,9,10] [some 0] rfl rfl,i,k,rfl,by omega,by omega,h1,.inr (by omega),rfl⟩
 ·have h:=of_decide_eq_false h
  obtain rfl : i = j:=by omega
  conv=>whnf
  by_cases h3 : i < l.length
  ·have hpk:=hp i h3
   refine drawV_quiet mixed (by kernel_rfl) ttok ftok ?_
   conv=>whnf
   rw [show decide ((i : Int) < (l.length : Int)) = true from decide_eq_true (by omega)]
   conv=>whnf
   refine ⟨⟨by omega,by omega⟩,?_⟩
   conv=>whnf
   rw [ti_nat]
   refine callQ hpk rfl rfl ?_
   conv=>whnf
   refine ⟨i,hj,h1,h2,?_⟩
   rw [show decide (i < l.length∧c (l.getD i nd0) = 0) = (c (l.getD i nd0) == 0) from by rw [Bool.eq_iff_iff];simp [h3]]
   all_goals rfl
  ·refine drawV_quiet mixed (by kernel_rfl) ttok ftok ?_
   conv=>whnf
   rw [show decide ((i : Int) < (l.length : Int)) = false from decide_eq_false (by omega)]
   conv=>whnf
   refine ⟨i,hj,h1,h2,?_⟩
   rw [show decide (i < l.length∧c (l.getD i nd0) = 0) = false from decide_eq_false (by omega)]
   all_goals rfl
theorem lfind_c (cs : Ck) (l : List Nd) (hs : srtN l) (hl : l.length≤100000) (a : I2) : CallV Tryz.prog 103 [liA cs l,idA a] [] (fun r own'=>own' = []∧∃ i : Nat,fdP l a i∧r = .tup [vci .i64 (i : Int),vcb (decide (hasN l a))]):=by
 refine callV_pure Tryz.func103 rfl ttok ftok rfl rfl rfl (Nat.le_of_ble_eq_true rfl) ?_
 conv=>whnf
 refine call_pure (ndSearch l (by omega) a (fun p=>cmpII p.1.id a) (fun k hk=>find1_c _ _)) rfl ?_
 rintro _ ⟨i,hi,h1,h2,rfl⟩
 have hf:=fdP_of hs hi h1 h2
 have hd : decide (i < l.length∧cmpII (l.getD i nd0).1.id a = 0) = decide (hasN l a):=decide_eq_decide.2 (by rw [cmpII_eq];exact fdP_has hs hf)
 rw [hd]
 conv=>whnf
 exact ⟨i,hf,rfl⟩
theorem lknown_c (cs : Ck) (l : List Nd) (hs : srtN l) (hl : l.length≤100000) (a : I2) : CallV Tryz.prog 232 [liA cs l,idA a] [] (fun r own'=>own' = []∧r = vcb (decide (hasN l a) || a.1 == 0)):=by
 refine callV_pure Tryz.func232 rfl ttok ftok rfl rfl rfl (Nat.le_of_ble_eq_true rfl) ?_
 conv=>whnf
 refine call_pure (lfind_c cs l hs hl a) rfl ?_
 rintro _ ⟨i,_,rfl⟩
 cases decide (hasN l a) with
 | true =>
  conv=>whnf
  all_goals first | rfl | exact ⟨rfl,rfl⟩
 | false =>
  conv=>whnf
  refine call_pure (none_c a) rfl ?_
  rintro _ rfl
  conv=>whnf
  all_goals first | rfl | exact ⟨rfl,rfl⟩
theorem hg_beq (g h : Hg) : ((g.on.1 == h.on.1 && (g.on.2 == h.on.2 && true)) && (g.right == h.right && true)) = decide (g = h):=by
 rw [Bool.eq_iff_iff,decide_eq_true_iff]
 simp only [Bool.and_true,Bool.and_eq_true,beq_iff_eq]
 obtain ⟨⟨a,b⟩,c⟩:=g
 obtain ⟨⟨d,e⟩,f⟩:=h
 constructor
 ·rintro ⟨⟨h1,h2⟩,h3⟩
  simp only at h1 h2 h3
  rw [h1,h2,h3]
 ·intro e
  cases e
  exact ⟨⟨rfl,rfl⟩,rfl⟩
def unI (hs : HS) (cs : Ck) (l : List Nd) (a : I2) (h : Hg) (n : Nat) (st : St) : Prop:=∃ b : I2,n = (pth hs b).length∧und hs b h = und hs a h ∧
 st = ⟨38,0,[(3,.c (.own 0 0)),(4,.c (.own 1 0)),(5,.c (.own 2 0)),(6,.c (.own 3 0))],[some (.cells 117 (liF cs l)),some (.cells 136 (idF b)),some (.cells 229 (hgF h)),some (.cells 136 (idF (0,0)))]⟩
theorem under_c {hs : HS} {l : List Nd} (L : LSt hs l) (cs : Ck) (a : I2) (h : Hg) : CallV Tryz.prog 259 [liA cs l,idA a,hgA h] [] (fun r own'=>own' = []∧r = undV (und hs a h)):=by
 refine callV_pure Tryz.func259 rfl ttok ftok rfl rfl rfl (Nat.le_of_ble_eq_true rfl) ?_
 conv=>whnf
 refine loopV_cut 0 (fun st=>und hs a h = none∧st = ⟨38,0,[(6,.c (.own 0 0))],[some (.cells 136 (idF (0,0)))]⟩) ?_ ?_
 ·refine loopV ttok ftok (unI hs cs l a h) (norm_weak [3,4,5,6] [some 0,some 1,some 2,some 3] rfl rfl) ⟨a,rfl,rfl,rfl⟩ ?_
  rintro m st ⟨b,rfl,hb,rfl⟩
  conv=>whnf
  refine call_pure (none_c b) rfl ?_
  rintro _ rfl
  by_cases hz : b.1 = 0
  ·rw [beq_iff_eq.2 hz]
   have hn : und hs b h = none:=und_no (fun g=>okH_none L.ok g hz)
   conv=>whnf
   exact ⟨rfl,_,norm_weak [6] [some 3] rfl rfl,hb ▸ hn,rfl⟩
  rw [beq_eq_false_iff_ne.2 hz]
  conv=>whnf
  refine call_pure (lfind_c cs l L.srt L.len b) rfl ?_
  rintro _ ⟨i,hf,rfl⟩
  by_cases hh : hasI hs b
  rotate_left
  ·rw [decide_eq_false (fun g=>hh ((L.has b).1 g))]
   have hn : und hs b h = none:=und_no hh
   conv=>whnf
   exact ⟨rfl,_,norm_weak [6] [some 3] rfl rfl,hb ▸ hn,rfl⟩
  rw [decide_eq_true ((L.has b).2 hh)]
  obtain ⟨hil,hie,him⟩:=L.at_ hf hh
  have hua:=und_at (k:=h) L.ok him
  have hpa:=pth_at L.ok him
  rw [hie] at hua hpa
  conv=>whnf
  refine drawV_join mixed (by kernel_rfl) ttok ?_
  conv=>whnf
  refine ⟨⟨by omega,by omega⟩,?_⟩
  conv=>whnf
  rw [ti_nat]
  rw [hg_beq]
  by_cases hg : (l.getD i nd0).2 = h
  ·rw [if_pos hg,hb] at hua
   rw [decide_eq_true hg,hua]
   conv=>whnf
   all_goals first | rfl | exact ⟨rfl,rfl⟩
  ·rw [if_neg hg,hb] at hua
   rw [decide_eq_false hg]
   conv=>whnf
   refine ⟨⟨by omega,by omega⟩,?_⟩
   conv=>whnf
   rw [ti_nat]
   refine ⟨(pth hs (l.getD i nd0).2.on).length,_,?_,norm_weak [3,4,5,6] [some 0,some 1,some 2,some 3] rfl rfl,(l.getD i nd0).2.on,rfl,hua.symm,rfl⟩
   rw [hpa,List.length_append,List.length_singleton]
   omega
 ·rintro st ⟨hu,rfl⟩
  rw [hu]
  conv=>whnf
  all_goals first | rfl | exact ⟨rfl,rfl⟩
theorem und_belR {o1 o2 : Option I2} {hs : HS} {a b : I2} (h1 : und hs a ⟨b,false⟩ = o1) (h2 : und hs a ⟨b,true⟩ = o2) : bel hs a b = (o1.isSome || o2.isSome):=by unfold bel;rw [h1,h2]
theorem lbelow_c {hs : HS} {l : List Nd} (L : LSt hs l) (cs : Ck) (a b : I2) : CallV Tryz.prog 255 [liA cs l,idA a,idA b] [] (fun r own'=>own' = []∧r = vcb (belR hs a b)):=by
 refine callV_pure Tryz.func255 rfl ttok ftok rfl rfl rfl (Nat.le_of_ble_eq_true rfl) ?_
 conv=>whnf
 refine call_pure (none_c b) rfl ?_
 rintro _ rfl
 unfold belR
 by_cases hz : b.1 = 0
 ·rw [beq_iff_eq.2 hz]
  conv=>whnf
  all_goals first | rfl | exact ⟨rfl,rfl⟩
 rw [beq_eq_false_iff_ne.2 hz]
 conv=>whnf
 refine call_pure (under_c L cs a ⟨b,false⟩) rfl ?_
 rintro _ rfl
 cases h1 : und hs a ⟨b,false⟩ with
 | some k =>
  conv=>whnf
  refine call_pure (under_c L cs a ⟨b,true⟩) rfl ?_
  rintro _ rfl
  cases h2 : und hs a ⟨b,true⟩ with
  | some k2 =>
   conv=>whnf
   rw [und_belR h1 h2]
   all_goals first | rfl | exact ⟨rfl,rfl⟩
  | none =>
   conv=>whnf
   rw [und_belR h1 h2]
   all_goals first | rfl | exact ⟨rfl,rfl⟩
 | none =>
  conv=>whnf
  refine call_pure (under_c L cs a ⟨b,true⟩) rfl ?_
  rintro _ rfl
  cases h2 : und hs a ⟨b,true⟩ with
  | some k2 =>
   conv=>whnf
   rw [und_belR h1 h2]
   all_goals first | rfl | exact ⟨rfl,rfl⟩
  | none =>
   conv=>whnf
   rw [und_belR h1 h2]
   all_goals first | rfl | exact ⟨rfl,rfl⟩
theorem lhang_c {hs : HS} {l : List Nd} (L : LSt hs l) (cs : Ck) (x : It) : CallV Tryz.prog 234 [liA cs l,.agg (itF x)] [] (fun r own'=>own' = []∧r = hgA (hgOf hs x)):=by
 have tail : ∀ r,r = hgA (if x.left.1 = 0 then rootH else ⟨x.left,true⟩)→(x.right.1 != 0 && belR hs x.right x.left) = false→r = hgA (hgOf hs x):=fun r h1 h2=>by
  rw [h1];unfold hgOf;rw [h2,if_neg Bool.false_ne_true]
 refine callV_pure Tryz.func234 rfl ttok ftok rfl rfl rfl (Nat.le_of_ble_eq_true rfl) ?_
 conv=>whnf
 refine call_pure (none_c x.right) rfl ?_
 rintro _ rfl
 by_cases hz : x.right.1 = 0
 ·have ht:=fun r h1=>tail r h1 (by rw [hz];rfl)
  rw [beq_iff_eq.2 hz]
  conv=>whnf
  refine call_pure (none_c x.left) rfl ?_
  rintro _ rfl
  by_cases hw : x.left.1 = 0
  ·rw [if_pos hw] at ht
   rw [beq_iff_eq.2 hw]
   conv=>whnf
   exact ht _ rfl
  ·rw [if_neg hw] at ht
   rw [beq_eq_false_iff_ne.2 hw]
   conv=>whnf
   exact ht _ rfl
 rw [beq_eq_false_iff_ne.2 hz]
 conv=>whnf
 refine call_pure (lbelow_c L cs x.right x.left) rfl ?_
 rintro _ rfl
 cases hb : belR hs x.right x.left with
 | true =>
  conv=>whnf
  unfold hgOf
  rw [if_pos (by rw [hb,bne_iff_ne.2 hz];rfl)]
  all_goals first | rfl | exact ⟨rfl,rfl⟩
 | false =>
  have ht:=fun r h1=>tail r h1 (by rw [hb];simp)
  conv=>whnf
  refine call_pure (none_c x.left) rfl ?_
  rintro _ rfl
  by_cases hw : x.left.1 = 0
  ·rw [if_pos hw] at ht
   rw [beq_iff_eq.2 hw]
   conv=>whnf
   exact ht _ rfl
  ·rw [if_neg hw] at ht
   rw [beq_eq_false_iff_ne.2 hw]
   conv=>whnf
   exact ht _ rfl
end Go.Eng
namespace Go.Eng
open Go Go.RowKit Go.Proofs
def ixO (cs : Ck) (o : List I2) : Prop:=cs.flatten.map (fun e=>e.id) = o
theorem ixO_len {cs : Ck} {o : List I2} (h : ixO cs o) : cs.flatten.length = o.length:=by rw [←h,List.length_map]
theorem ixO_at {cs : Ck} {o : List I2} (h : ixO cs o) (j : Nat) : (cs.flatten.getD j en0).id = o.getD j (0,0):=by
 rw [←h,List.getD_eq_getElem?_getD,List.getD_eq_getElem?_getD,List.getElem?_map]
 cases cs.flatten[j]? <;> rfl
theorem ixO_find {cs : Ck} {o : List I2} (h : ixO cs o) {a : I2} (ha : a ∈ o) : ∃ q,fnE cs.flatten a = some q∧q < o.length∧o.getD q (0,0) = a:=by
 cases hf : fnE cs.flatten a with
 | some q =>
  have hq:=hf
  unfold fnE at hf
  rw [List.findIdx?_eq_some_iff_getElem] at hf
  obtain ⟨h1,h2,_⟩:=hf
  refine ⟨q,rfl,by rw [←ixO_len h];exact h1,?_⟩
  rw [←ixO_at h,List.getD_eq_getElem?_getD,List.getElem?_eq_getElem h1]
  exact beq_iff_eq.1 h2
 | none =>
  exfalso
  unfold fnE at hf
  rw [List.findIdx?_eq_none_iff] at hf
  rw [←h] at ha
  obtain ⟨e,he,rfl⟩:=List.mem_map.1 ha
  have:=hf e he
  simp at this
theorem ixO_none {cs : Ck} {o : List I2} (h : ixO cs o) {a : I2} (ha : a ∉ o) : fnE cs.flatten a = none:=by
 unfold fnE
 rw [List.findIdx?_eq_none_iff]
 intro e he
 refine beq_eq_false_iff_ne.2 (fun e2=>ha ?_)
 rw [←h,←e2]
 exact List.mem_map.2 ⟨e,he,rfl⟩
def plLI (hs : HS) (cs : Ck) (l : List Nd) (x : It) (h : Hg) (o : List I2) (q : Nat) (m : Nat) (st : St) : Prop:=∃ n : Nat,m = n∧n≤q∧(∀ j,n≤j→j < q→∃ k,und hs (o.getD j (0,0)) h = some k∧¬ il k x.id) ∧
 st = ⟨105,0,[(3,.c (.own 0 0)),(4,.c (.own 1 0)),(5,.c (.own 2 0)),(7,vci .i64 (n : Int))],[some (.cells 117 (liF cs l)),some (.cells 144 (itF x)),some (.cells 229 (hgF h))]⟩
def plRI (hs : HS) (cs : Ck) (l : List Nd) (x : It) (h : Hg) (o : List I2) (s : Nat) (m : Nat) (st : St) : Prop:=∃ n : Nat,m = o.length - n∧s≤n∧n≤o.length∧(∀ j,s≤j→j < n→∃ k,und hs (o.getD j (0,0)) h = some k∧¬ il x.id k) ∧
 st = ⟨105,0,[(3,.c (.own 0 0)),(4,.c (.own 1 0)),(5,.c (.own 2 0)),(7,vci .i64 (n : Int))],[some (.cells 117 (liF cs l)),some (.cells 144 (itF x)),some (.cells 229 (hgF h))]⟩
def plS (cs : Ck) (l : List Nd) (x : It) (h : Hg) (n : Nat) : St:=⟨105,0,[(3,.c (.own 0 0)),(4,.c (.own 1 0)),(5,.c (.own 2 0)),(7,vci .i64 (n : Int))],[some (.cells 117 (liF cs l)),some (.cells 144 (itF x)),some (.cells 229 (hgF h))]⟩
theorem lplace_c {hs : HS} {l : List Nd} (L : LSt hs l) (cs : Ck) (hl : cs.length≤100000) (hsz : sumL cs≤100000) {o : List I2} (hO : isOrd hs o) (hx : ixO cs o) (x : It) (h : Hg) (ho : okH ((x,h) :: hs)) :
  CallV Tryz.prog 236 [liA cs l,.agg (itF x),hgA h] [] (fun r own'=>own' = []∧∃ n : Nat,n≤o.length∧isOrd ((x,h) :: hs) (o.take n ++ [x.id] ++ o.drop n)∧r = vci .i64 (n : Int)):=by
 have hlen : o.length≤100000:=by rw [←ixO_len hx];exact hsz
 have hfl:=ixO_len hx
 obtain ⟨on,rt⟩:=h
 cases rt with
 | false =>
  obtain ⟨q,hf,hq,hqe⟩ : ∃ q,fnE cs.flatten on = some q∧q < o.length∧o.getD q (0,0) = on:=by
   rcases ho.2.2.2 with g | ⟨_,g⟩
   ·cases g
   ·exact ixO_find hx (hO.has.2 g)
  have hfc:=find_c cs (by omega) (by omega) on
  rw [hf] at hfc
  refine callV_pure Tryz.func236 rfl ttok ftok rfl rfl rfl (Nat.le_of_ble_eq_true rfl) ?_
  conv=>whnf
  refine call_pure hfc rfl ?_
  rintro _ rfl
  conv=>whnf
  refine loopV_cut 0 (fun st=>∃ n,n≤o.length∧isOrd ((x,⟨on,false⟩) :: hs) (o.take n ++ [x.id] ++ o.drop n)∧st = plS cs l x ⟨on,false⟩ n) ?_ ?_
  ·refine loopV ttok ftok (plLI hs cs l x ⟨on,false⟩ o q) (norm_weak [3,4,5,7] [some 0,some 1,some 2] rfl rfl) ⟨q,rfl,Nat.le_refl _,fun j h1 h2=>by omega,rfl⟩ ?_
   rintro m st ⟨n,rfl,hn,hj,rfl⟩
   have fin : (0 < m→und hs (o.getD (m - 1) (0,0)) ⟨on,false⟩ = none∨∃ k,und hs (o.getD (m - 1) (0,0)) ⟨on,false⟩ = some k∧il k x.id)→isOrd ((x,⟨on,false⟩) :: hs) (o.take m ++ [x.id] ++ o.drop m):=fun h2=>put_left ho hO rfl hq hqe hn hj h2
   conv=>whnf
   refine onB_intro (fun g=>?_) (fun g=>?_)
   ·have g : 0 < m:=by simp [pickB,isLit] at g;omega
    have hw : IntKind.i64.wrap ((m : Int) - 1) = ((m - 1 : Nat) : Int):=by rw [w_i64 (by omega) (by omega)];omega
    have hec:=entry_c cs (by omega) (by omega) ((m - 1 : Nat) : Int)
    unfold enV at hec
    rw [if_pos (by omega),ti_nat] at hec
    have hid:=ixO_at hx (m - 1)
    generalize cs.flatten.getD (m - 1) en0 = e at hec hid
    conv=>whnf
    rw [hw]
    refine call_pure hec rfl ?_
    rintro _ rfl
    conv=>whnf
    refine call_pure (under_c L cs e.id ⟨on,false⟩) rfl ?_
    rintro _ rfl
    rw [hid]
    cases hu : und hs (o.getD (m - 1) (0,0)) ⟨on,false⟩ with
    | none =>
     conv=>whnf
     exact ⟨rfl,_,norm_weak [3,4,5,7] [some 0,some 1,some 2] rfl rfl,m,by omega,fin (fun _=>.inl hu),rfl⟩
    | some k =>
     conv=>whnf
     refine call_pure (cmp_c k x.id) rfl ?_
     rintro _ rfl
     conv=>whnf
     refine onB_intro (fun g2=>?_) (fun g2=>?_)
     ·have g2:=(cmpII_lt _ _).1 (of_decide_eq_true g2)
      conv=>whnf
      exact ⟨rfl,_,norm_weak [3,4,5,7] [some 0,some 1,some 2] rfl rfl,m,by omega,fin (fun _=>.inr ⟨k,hu,g2⟩),rfl⟩
     ·have g2 : ¬ il k x.id:=fun g3=>of_decide_eq_false g2 ((cmpII_lt _ _).2 g3)
      conv=>whnf
      rw [hw]
      refine ⟨m - 1,_,by omega,norm_weak [3,4,5,7] [some 0,some 1,some 2] rfl rfl,m - 1,rfl,by omega,fun j h1 h2=>?_,rfl⟩
      rcases Nat.lt_or_ge j m with g4 | g4
      ·obtain rfl : j = m - 1:=by omega
       exact ⟨k,hu,g2⟩
      ·exact hj j g4 h2
   ·have g : m = 0:=by simp [pickB,isLit] at g;omega
    conv=>whnf
    exact ⟨rfl,_,norm_weak [3,4,5,7] [some 0,some 1,some 2] rfl rfl,m,by omega,fin (fun h=>by omega),rfl⟩
  ·rintro st ⟨n,hn,hord,rfl⟩
   conv=>whnf
   refine loop_rounds 1 ttok ftok ?_
   conv=>whnf
   exact ⟨n,hn,hord,rfl⟩
 | true =>
  obtain ⟨s,hs0,hfn⟩ : ∃ s : Nat,((on.1 = 0∧s = 0)∨∃ q,s = q + 1∧q < o.length∧o.getD q (0,0) = on)∧(fnE cs.flatten on = if s = 0 then none else some (s - 1)):=by
   rcases ho.2.2.2 with g | ⟨g0,g⟩
   ·cases g
    refine ⟨0,.inl ⟨rfl,rfl⟩,?_⟩
    rw [if_pos rfl]
    exact ixO_none hx (fun hm=>okH_none ho.1 (hO.has.1 hm) rfl)
   ·obtain ⟨q,h1,h2,h3⟩:=ixO_find hx (hO.has.2 g)
    exact ⟨q + 1,.inr ⟨q,rfl,h2,h3⟩,by rw [if_neg (by omega)];exact h1⟩
  have hsl : s≤o.length:=by
   rcases hs0 with ⟨_,rfl⟩ | ⟨q,rfl,hq,_⟩ <;> omega
  have hz : (on.1 == 0) = decide (s = 0):=by
   rcases hs0 with ⟨h1,rfl⟩ | ⟨q,rfl,hq,hqe⟩
   ·rw [h1];rfl
   ·have : on.1≠0:=by
     rw [←hqe]
     exact okH_none ho.1 (hO.has.1 (getD_mem hq))
    rw [beq_eq_false_iff_ne.2 this];rfl
  have hfc:=find_c cs (by omega) (by omega) on
  rw [hfn] at hfc
  rcases hs0 with ⟨h0,rfl⟩ | ⟨q,rfl,hq,hqe⟩
  ·have hs0 : (on.1 = 0∧0 = 0)∨∃ q,0 = q + 1∧q < o.length∧o.getD q (0,0) = on:=.inl ⟨h0,rfl⟩
   rw [if_pos rfl] at hfc
   refine callV_pure Tryz.func236 rfl ttok ftok rfl rfl rfl (Nat.le_of_ble_eq_true rfl) ?_
   conv=>whnf
   refine call_pure hfc rfl ?_
   rintro _ rfl
   conv=>whnf
   refine loop_rounds 1 ttok ftok ?_
   conv=>whnf
   refine call_pure (none_c on) rfl ?_
   rintro _ rfl
   rw [hz]
   conv=>whnf
   refine loopV_cut 2 (fun st=>∃ n,n≤o.length∧isOrd ((x,⟨on,true⟩) :: hs) (o.take n ++ [x.id] ++ o.drop n)∧st = plS cs l x ⟨on,true⟩ n) ?_ ?_
   ·refine loopV ttok ftok (plRI hs cs l x ⟨on,true⟩ o (0)) (norm_weak [3,4,5,7] [some 0,some 1,some 2] rfl rfl) ⟨0,rfl,Nat.le_refl _,hsl,fun j h1 h2=>by omega,rfl⟩ ?_
    rintro m st ⟨n,rfl,hsn,hn,hj,rfl⟩
    have fin : (n < o.length→und hs (o.getD n (0,0)) ⟨on,true⟩ = none∨∃ k,und hs (o.getD n (0,0)) ⟨on,true⟩ = some k∧il x.id k)→isOrd ((x,⟨on,true⟩) :: hs) (o.take n ++ [x.id] ++ o.drop n):=fun h2=>put_right ho hO rfl hs0 hsn hn hj h2
    conv=>whnf
    refine call_pure (len_c cs) rfl ?_
    rintro _ rfl
    conv=>whnf
    refine onB_intro (fun g=>?_) (fun g=>?_)
    ·have g : n < o.length:=by
      have:=of_decide_eq_true g
      have h9 : sumL cs = o.length:=hfl
      omega
     have e1:=e64 (k:=n) (by omega)
     have hec:=entry_c cs (by omega) (by omega) (n : Int)
     unfold enV at hec
     rw [if_pos (by omega),ti_nat] at hec
     have hid:=ixO_at hx n
     generalize cs.flatten.getD n en0 = e at hec hid
     conv=>whnf
     refine call_pure hec rfl ?_
     rintro _ rfl
     conv=>whnf
     refine call_pure (under_c L cs e.id ⟨on,true⟩) rfl ?_
     rintro _ rfl
     rw [hid]
     cases hu : und hs (o.getD n (0,0)) ⟨on,true⟩ with
     | none =>
      conv=>whnf
      exact ⟨rfl,_,norm_weak [3,4,5,7] [some 0,some 1,some 2] rfl rfl,n,hn,fin (fun _=>.inl hu),rfl⟩
     | some k =>
      conv=>whnf
      refine call_pure (cmp_c k x.id) rfl ?_
      rintro _ rfl
      conv=>whnf
      refine onB_intro (fun g2=>?_) (fun g2=>?_)
      ·have g2:=(cmpII_gt _ _).1 (of_decide_eq_true g2)
       conv=>whnf
       exact ⟨rfl,_,norm_weak [3,4,5,7] [some 0,some 1,some 2] rfl rfl,n,hn,fin (fun _=>.inr ⟨k,hu,g2⟩),rfl⟩
      ·have g2 : ¬ il x.id k:=fun g3=>of_decide_eq_false g2 ((cmpII_gt _ _).2 g3)
       conv=>whnf
       rw [e1]
       refine ⟨o.length - (n + 1),_,by omega,norm_weak [3,4,5,7] [some 0,some 1,some 2] rfl rfl,n + 1,rfl,by omega,by omega,fun j h1 h2=>?_,rfl⟩
       rcases Nat.lt_succ_iff_lt_or_eq.1 h2 with g4 | rfl
       ·exact hj j h1 g4
       ·exact ⟨k,hu,g2⟩
    ·have g : n = o.length:=by
      have:=of_decide_eq_false g
      have h9 : sumL cs = o.length:=hfl
      omega
     conv=>whnf
     exact ⟨rfl,_,norm_weak [3,4,5,7] [some 0,some 1,some 2] rfl rfl,n,hn,fin (fun h=>by omega),rfl⟩
   ·rintro st ⟨n,hn,hord,rfl⟩
    conv=>whnf
    exact ⟨n,hn,hord,rfl⟩
  ·have hs0 : (on.1 = 0∧q + 1 = 0)∨∃ p,q + 1 = p + 1∧p < o.length∧o.getD p (0,0) = on:=.inr ⟨q,rfl,hq,hqe⟩
   rw [if_neg (by omega),Nat.add_sub_cancel] at hfc
   have e1:=e64 (k:=q) (by omega)
   refine callV_pure Tryz.func236 rfl ttok ftok rfl rfl rfl (Nat.le_of_ble_eq_true rfl) ?_
   conv=>whnf
   refine call_pure hfc rfl ?_
   rintro _ rfl
   conv=>whnf
   refine loop_rounds 1 ttok ftok ?_
   conv=>whnf
   refine call_pure (none_c on) rfl ?_
   rintro _ rfl
   rw [hz,show decide (q + 1 = 0) = false from rfl]
   conv=>whnf
   rw [e1]
   refine loopV_cut 2 (fun st=>∃ n,n≤o.length∧isOrd ((x,⟨on,true⟩) :: hs) (o.take n ++ [x.id] ++ o.drop n)∧st = plS cs l x ⟨on,true⟩ n) ?_ ?_
   ·refine loopV ttok ftok (plRI hs cs l x ⟨on,true⟩ o (q + 1)) (norm_weak [3,4,5,7] [some 0,some 1,some 2] rfl rfl) ⟨q + 1,rfl,Nat.le_refl _,hsl,fun j h1 h2=>by omega,rfl⟩ ?_
    rintro m st ⟨n,rfl,hsn,hn,hj,rfl⟩
    have fin : (n < o.length→und hs (o.getD n (0,0)) ⟨on,true⟩ = none∨∃ k,und hs (o.getD n (0,0)) ⟨on,true⟩ = some k∧il x.id k)→isOrd ((x,⟨on,true⟩) :: hs) (o.take n ++ [x.id] ++ o.drop n):=fun h2=>put_right ho hO rfl hs0 hsn hn hj h2
    conv=>whnf
    refine call_pure (len_c cs) rfl ?_
    rintro _ rfl
    conv=>whnf
    refine onB_intro (fun g=>?_) (fun g=>?_)
    ·have g : n < o.length:=by
      have:=of_decide_eq_true g
      have h9 : sumL cs = o.length:=hfl
      omega
     have e1:=e64 (k:=n) (by omega)
     have hec:=entry_c cs (by omega) (by omega) (n : Int)
     unfold enV at hec
     rw [if_pos (by omega),ti_nat] at hec
     have hid:=ixO_at hx n
     generalize cs.flatten.getD n en0 = e at hec hid
     conv=>whnf
     refine call_pure hec rfl ?_
     rintro _ rfl
     conv=>whnf
     refine call_pure (under_c L cs e.id ⟨on,true⟩) rfl ?_
     rintro _ rfl
     rw [hid]
     cases hu : und hs (o.getD n (0,0)) ⟨on,true⟩ with
     | none =>
      conv=>whnf
      exact ⟨rfl,_,norm_weak [3,4,5,7] [some 0,some 1,some 2] rfl rfl,n,hn,fin (fun _=>.inl hu),rfl⟩
     | some k =>
      conv=>whnf
      refine call_pure (cmp_c k x.id) rfl ?_
      rintro _ rfl
      conv=>whnf
      refine onB_intro (fun g2=>?_) (fun g2=>?_)
      ·have g2:=(cmpII_gt _ _).1 (of_decide_eq_true g2)
       conv=>whnf
       exact ⟨rfl,_,norm_weak [3,4,5,7] [some 0,some 1,some 2] rfl rfl,n,hn,fin (fun _=>.inr ⟨k,hu,g2⟩),rfl⟩
      ·have g2 : ¬ il x.id k:=fun g3=>of_decide_eq_false g2 ((cmpII_gt _ _).2 g3)
       conv=>whnf
       rw [e1]
       refine ⟨o.length - (n + 1),_,by omega,norm_weak [3,4,5,7] [some 0,some 1,some 2] rfl rfl,n + 1,rfl,by omega,by omega,fun j h1 h2=>?_,rfl⟩
       rcases Nat.lt_succ_iff_lt_or_eq.1 h2 with g4 | rfl
       ·exact hj j h1 g4
       ·exact ⟨k,hu,g2⟩
    ·have g : n = o.length:=by
      have:=of_decide_eq_false g
      have h9 : sumL cs = o.length:=hfl
      omega
     conv=>whnf
     exact ⟨rfl,_,norm_weak [3,4,5,7] [some 0,some 1,some 2] rfl rfl,n,hn,fin (fun h=>by omega),rfl⟩
   ·rintro st ⟨n,hn,hord,rfl⟩
    conv=>whnf
    exact ⟨n,hn,hord,rfl⟩
end Go.Eng
namespace Go.Eng
open Go Go.RowKit Go.Proofs
theorem putS_ok {cs : Ck} {n : Nat} {e : En} {r : AV} (h : putS cs n e r) (hn : n≤sumL cs) (hf : fnE cs.flatten e.id = none) : ∃ cs' : Ck,cs'.flatten = cs.flatten.take n ++ [e] ++ cs.flatten.drop n∧cs'.length≤cs.length + 1∧r = .tup [ixA cs',.c (.v .nilIface)]:=by
 have:=h.out
 rw [if_neg (by omega),hf,if_neg (by simp),ti_nat] at this
 exact this
theorem hdC_some {cs : Ck} {a : I2} {j : Nat} (h : fnE cs.flatten a = some j) : ∃ cs2 : Ck,hdC cs a = some cs2∧cs2.flatten = hideAt cs.flatten j∧cs2.length = cs.length:=by
 have hpf : (plcC cs a).map (fun p=>sumL (cs.take p.1) + p.2) = fnE cs.flatten a:=plcC_find cs a
 rw [h] at hpf
 cases hp : plcC cs a with
 | none=>rw [hp] at hpf;cases hpf
 | some p =>
  obtain ⟨p,q⟩:=p
  rw [hp] at hpf
  obtain ⟨hpl,hql⟩:=plcC_lt hp
  have e : sumL (cs.take p) + q = j:=by simpa using hpf
  refine ⟨repL cs p [hideAt (cs.getD p []) q],by unfold hdC;rw [hp];rfl,?_,?_⟩
  ·rw [←e];exact flat_hide hpl hql
  ·rw [repL_len _ hpl];simp;omega
def chOf_L (hs : HS) (a : I2) : Int:=match hs.find? (fun p=>p.1.id == a) with
 | some p=>p.1.ch
 | none=>0
def enOf (hs : HS) (G : I2→Bool) (a : I2) : En:=⟨a,chOf_L hs a,G a⟩
def updG (G : I2→Bool) (a : I2) (b : Bool) : I2→Bool:=fun c=>if c = a then b else G c
structure LV (hs : HS) (G : I2→Bool) (cs : Ck) (l : List Nd) (N : Nat) : Prop where
 L : LSt hs l
 ord : ∃ o,isOrd hs o∧cs.flatten = o.map (enOf hs G)
 len : hs.length≤N
 ck : cs.length≤N
theorem LV.ixO {hs : HS} {G : I2→Bool} {cs : Ck} {o : List I2} (h : cs.flatten = o.map (enOf hs G)) : ixO cs o:=by
 unfold Go.Eng.ixO
 rw [h,List.map_map]
 conv=>rhs;rw [←List.map_id o]
 rfl
theorem isOrd.length {hs : HS} {o : List I2} (h : isOrd hs o) : o.length = hs.length:=by
 have:=h.perm.length_eq
 unfold idsH at this
 rw [this,List.length_map]
theorem LV.sum {hs : HS} {G : I2→Bool} {cs : Ck} {l : List Nd} {N : Nat} (h : LV hs G cs l N) : sumL cs = hs.length:=by
 obtain ⟨o,ho,hf⟩:=h.ord
 show cs.flatten.length = _
 rw [hf,List.length_map,ho.length]
theorem chOf_cons {x : It} {h : Hg} {r : HS} {a : I2} (ha : x.id≠a) : chOf_L ((x,h) :: r) a = chOf_L r a:=by
 unfold chOf_L
 rw [List.find?_cons_of_neg (by simpa using ha)]
theorem chOf_new {x : It} {h : Hg} {r : HS} : chOf_L ((x,h) :: r) x.id = x.ch:=by
 unfold chOf_L
 rw [List.find?_cons_of_pos (by simp)]
theorem ents_put {x : It} {h : Hg} {r : HS} {o : List I2} {G : I2→Bool} {gone : Bool} (ho : okH ((x,h) :: r)) (hO : isOrd r o) (n : Nat) :
  (o.take n ++ [x.id] ++ o.drop n).map (enOf ((x,h) :: r) (updG G x.id gone)) = (o.map (enOf r G)).take n ++ [⟨x.id,x.ch,gone⟩] ++ (o.map (enOf r G)).drop n:=by
 have key : ∀ a,a ∈ o→enOf ((x,h) :: r) (updG G x.id gone) a = enOf r G a:=fun a ha=>by
  have hne : x.id≠a:=fun e=>by
   obtain ⟨p,hp,hpe⟩:=hO.has.1 ha
   exact ho.2.2.1 p hp (hpe.trans e.symm)
  unfold enOf updG
  rw [chOf_cons hne,if_neg (Ne.symm hne)]
 have hnew : enOf ((x,h) :: r) (updG G x.id gone) x.id = ⟨x.id,x.ch,gone⟩:=by
  unfold enOf updG
  rw [chOf_new,if_pos rfl]
 rw [List.map_append,List.map_append,List.map_singleton,hnew,←List.map_take,←List.map_drop]
 congr 1
 ·congr 1
  exact List.map_congr_left (fun a ha=>key a (List.mem_of_mem_take ha))
 ·exact List.map_congr_left (fun a ha=>key a (List.mem_of_mem_drop ha))
theorem nd_put {hs : HS} {l : List Nd} (L : LSt hs l) {x : It} {h : Hg} (ho : okH ((x,h) :: hs)) {k : Nat} (hf : fdP l x.id k) (hlen : l.length < 100000) : LSt ((x,h) :: hs) (l.take k ++ (x,h) :: l.drop k):=by
 have hnot : ∀ p,p ∈ l→p.1.id≠x.id:=fun p hp=>ho.2.2.1 p (L.perm.mem_iff.1 hp)
 have hpw:=L.srt
 unfold srtN at hpw
 rw [←List.take_append_drop k l,List.pairwise_append] at hpw
 obtain ⟨p1,p2,p3⟩:=hpw
 have ht : ∀ a,a ∈ l.take k→il a.1.id x.id:=fun a ha=>by
  obtain ⟨j,hj,rfl⟩:=List.getElem_of_mem ha
  have:=hf.lo j (by simp at hj;omega)
  rw [List.getD_eq_getElem?_getD,List.getElem?_eq_getElem (by simp at hj;omega)] at this
  rw [List.getElem_take]
  exact this
 have hd : ∀ a,a ∈ l.drop k→il x.id a.1.id:=fun a ha=>by
  have hm:=hnot a (List.mem_of_mem_drop ha)
  obtain ⟨j,hj,rfl⟩:=List.getElem_of_mem ha
  have hj2 : k + j < l.length:=by simp at hj;omega
  have:=hf.hi (k + j) (by omega) hj2
  rw [List.getD_eq_getElem?_getD,List.getElem?_eq_getElem hj2] at this
  rw [List.getElem_drop] at hm ⊢
  rcases il_tri hm with g | g
  ·exact absurd g this
  ·exact g
 refine ⟨ho,?_,?_,?_⟩
 ·have h3 : (l.take k ++ (x,h) :: l.drop k).Perm ((x,h) :: (l.take k ++ l.drop k)):=List.perm_middle
  rw [List.take_append_drop] at h3
  exact h3.trans (L.perm.cons _)
 ·unfold srtN
  rw [List.pairwise_append]
  refine ⟨p1,List.pairwise_cons.2 ⟨hd,p2⟩,fun a ha b hb=>?_⟩
  rcases List.mem_cons.1 hb with rfl | hb
  ·exact ht a ha
  ·exact p3 a ha b hb
 ·rw [List.length_append,List.length_cons,List.length_take,List.length_drop];omega
def vldR (c : Int) : Bool:=(decide (0≤c) && decide (c < 55296)) || (decide (57343 < c) && decide (c≤1114111))
structure okA (hs : HS) (x : It) : Prop where
 new : ¬ hasI hs x.id
 nz : x.id.1≠0
 left : hasI hs x.left∨x.left.1 = 0
 right : hasI hs x.right∨x.right.1 = 0
 ch : vldR x.ch = true
theorem okA_okH {hs : HS} (ho : okH hs) {x : It} (h : okA hs x) : okH ((x,hgOf hs x) :: hs):=by
 refine ⟨ho,h.nz,fun p hp e=>h.new ⟨p,hp,e⟩,?_⟩
 unfold hgOf
 split
 ·rename_i g
  rw [Bool.and_eq_true,bne_iff_ne] at g
  exact .inr ⟨g.1,h.right.resolve_right g.1⟩
 ·split
  ·exact .inl rfl
  ·rename_i g
   exact .inr ⟨g,h.left.resolve_right g⟩
theorem hideAt_map {hs : HS} {G : I2→Bool} (o : List I2) (hnd : o.Nodup) {q : Nat} (hq : q < o.length) : hideAt (o.map (enOf hs G)) q = o.map (enOf hs (updG G (o.getD q (0,0)) true)):=by
 have e : (o.map (enOf hs G)).getD q en0 = enOf hs G o[q]:=by rw [List.getD_eq_getElem?_getD,List.getElem?_map,List.getElem?_eq_getElem hq];rfl
 have e2 : o.getD q (0,0) = o[q]:=by rw [List.getD_eq_getElem?_getD,List.getElem?_eq_getElem hq];rfl
 have hset : hideAt (o.map (enOf hs G)) q = (o.map (enOf hs G)).set q ⟨o[q],chOf_L hs o[q],true⟩:=by unfold hideAt;rw [e];rfl
 rw [hset,e2]
 apply List.ext_getElem
 ·rw [List.length_set,List.length_map,List.length_map]
 ·intro i h1 h2
  have hi : i < o.length:=by rw [List.length_map] at h2;exact h2
  rw [List.getElem_set,List.getElem_map,List.getElem_map]
  split
  ·rename_i g
   subst g
   unfold enOf updG
   rw [if_pos rfl]
  ·rename_i g
   have : o[i]≠o[q]:=fun e3=>g ((List.getElem_inj hnd).1 e3.symm)
   unfold enOf updG
   rw [if_neg this]
end Go.Eng
namespace Go.Eng
open Go Go.RowKit Go.Proofs
theorem ndClone (l : List Nd) (hl : l.length≤1000000000) : CallV Tryz.prog 238 [.c (.sl 10 l.length fun k=>ndF (l.getD k nd0))] []
  (fun r own'=>r = .c (.row 0)∧own' = [some (.row 231 10 l.length fun k=>ndF (l.getD k nd0))]):=by
 refine callV_own Tryz.func238 rfl ttok ftok rfl rfl rfl (Nat.le_of_ble_eq_true rfl) rfl ?_
 conv=>whnf
 intro b hb
 cases b with
 | true =>
  have h0:=hb rfl
  obtain rfl : l = []:=List.eq_nil_of_length_eq_zero h0
  conv=>whnf
  refine ⟨_,nil_row 2 231 10 (fun k=>ndF (([] : List Nd).getD k nd0)) rfl,?_⟩
  conv=>whnf
  exact ⟨[some 0],rfl,rfl,rfl,rfl⟩
 | false =>
  clear hb
  conv=>whnf
  refine ⟨⟨by omega,by show (0 + l.length) * 40≤_;omega⟩,?_⟩
  conv=>whnf
  refine ⟨l.length,fun k=>ndF (l.getD k nd0),by omega,fun k hk=>by omega,fun k hk=>by rw [Nat.zero_add],?_⟩
  conv=>whnf
  refine ⟨_,Weak.refl _,?_⟩
  conv=>whnf
  exact ⟨[some 1],rfl,rfl,rfl,rfl⟩
theorem ndInsert_get (l : List Nd) (x : Nd) (i : Nat) (hi : i≤l.length) (q : Nat) : (l.take i ++ x :: l.drop i).getD q nd0 = if q < i then l.getD q nd0 else if q = i then x else l.getD (q - 1) nd0:=by
 split
 ·rename_i h
  rw [List.getD_eq_getElem?_getD,List.getElem?_append_left (by rw [List.length_take];omega),←List.getD_eq_getElem?_getD,getD_take _ _ _ _ h]
 ·rename_i h
  rw [List.getD_eq_getElem?_getD,List.getElem?_append_right (by rw [List.length_take];omega),←List.getD_eq_getElem?_getD,List.length_take,Nat.min_eq_left hi]
  split
  ·rename_i e
   subst e
   simp
  ·rename_i e
   obtain ⟨r,hr⟩ : ∃ r,q - i = r + 1:=⟨q - i - 1,by omega⟩
   rw [hr,List.getD_cons_succ,getD_drop]
   congr 1
   omega
theorem ndInsert_len (l : List Nd) (x : Nd) (i : Nat) (hi : i≤l.length) : (l.take i ++ x :: l.drop i).length = l.length + 1:=by
 rw [List.length_append,List.length_cons,List.length_take,List.length_drop];omega
theorem ndInsert (l : List Nd) (x : Nd) (i : Nat) (hi : i≤l.length) (hl : l.length≤1000000000) (g : Nat→List IC) (hg : g 0 = ndF x) : CallV Tryz.prog 237 [.c (.row 0),vci .i64 i,.c (.row 1)] [some (.row 231 10 l.length fun k=>ndF (l.getD k nd0)),some (.row 231 10 1 g)]
  (fun r own'=>r = .c (.row 3)∧own' = [none,none,none,some (.row 231 10 (l.take i ++ x :: l.drop i).length fun k=>ndF ((l.take i ++ x :: l.drop i).getD k nd0))]):=by
 have hget:=ndInsert_get l x i hi
 have hlen:=ndInsert_len l x i hi
 have hg0 : ∀ q,q < 1→g q = ndF x:=fun q hq=>by
  obtain rfl : q = 0:=by omega
  exact hg
 generalize hl' : l.take i ++ x :: l.drop i = l' at hget hlen
 refine callV_view 0 rfl (fun h0=>?_) (fun c hc hc2=>?_)
 ·obtain rfl : l = []:=List.eq_nil_of_length_eq_zero h0
  obtain rfl : i = 0:=by simpa using hi
  show CallV Tryz.prog 237 [.c (.v (.slice none 0 0)),vci .i64 (0 : Nat),.c (.row 1)] [none,some (.row 231 10 1 g)] _
  refine callV_own Tryz.func237 rfl ttok ftok rfl rfl rfl (Nat.le_of_ble_eq_true rfl) rfl ?_
  conv=>whnf
  refine ⟨⟨rfl,rfl,rfl⟩,?_⟩
  conv=>whnf
  refine ⟨by omega,?_⟩
  conv=>whnf
  refine ⟨⟨by omega,by show (0 + 1) * 40≤_;omega⟩,?_⟩
  conv=>whnf
  refine ⟨l'.length,fun k=>ndF (l'.getD k nd0),by rw [hlen];simp,fun k hk=>by omega,fun k hk=>?_,?_⟩
  ·obtain rfl : k = 0:=by omega
   rw [hg]
   show ndF (l'.getD (0 + 0) nd0) = _
   rw [hget]
   rfl
  conv=>whnf
  refine ⟨_,Weak.refl _,?_⟩
  conv=>whnf
  exact ⟨[none,none,none,some 2],rfl,rfl,rfl,rfl⟩
 show CallV Tryz.prog 237 [.c (.view 2 10 0 l.length c),vci .i64 i,.c (.row 1)] [none,some (.row 231 10 1 g),some (.arr 231 10 c l.length fun k=>ndF (l.getD k nd0))] _
 refine callV_own Tryz.func237 rfl ttok ftok rfl rfl rfl (Nat.le_of_ble_eq_true rfl) rfl ?_
 conv=>whnf
 refine ⟨⟨by omega,by omega,by omega,by omega⟩,?_⟩
 conv=>whnf
 refine onB_intro (fun h=>?_) (fun h=>?_)
 ·have e : (i : Int) = l.length:=by simpa using h
  have e : i = l.length:=by omega
  subst e
  conv=>whnf
  refine ⟨trivial,⟨by omega,by omega⟩,fun h1=>?_,fun h1=>?_⟩
  ·refine ⟨l'.length,fun k=>ndF (l'.getD k nd0),fun q hq=>?_,?_⟩
   rotate_left
   ·conv=>whnf
    refine ⟨_,view_row 6 2 (n:=l'.length) rfl rfl (by omega) (by omega) (by omega) (by omega),?_⟩
    conv=>whnf
    exact ⟨[none,none,none,some 3],rfl,rfl,rfl,rfl⟩
   ·rcases Nat.lt_or_ge q l.length with h2 | h2
    ·exact .inr ⟨.inl (by omega),h2,by simp only [hget,if_pos h2]⟩
    ·obtain rfl : q = l.length:=by omega
     refine .inl ⟨by omega,by omega,?_⟩
     rw [show l.length - (0 + l.length) = 0 by omega,hg]
     simp only [hget,if_neg (Nat.lt_irrefl _),if_true]
  ·refine ⟨⟨by omega,by show (l.length + 1) * 40≤_;omega⟩,fun k=>ndF (l'.getD k nd0),fun q hq=>by simp only [hget,if_pos hq,Nat.zero_add],fun q hq=>?_,fun cap' hcap=>?_⟩
   ·rw [hg0 q hq]
    obtain rfl : q = 0:=by omega
    simp only [Nat.add_zero,hget,if_neg (Nat.lt_irrefl _),if_true]
   ·conv=>whnf
    refine ⟨_,view_row 6 3 (n:=l'.length) rfl rfl rfl (by omega) (by omega) rfl,?_⟩
    conv=>whnf
    exact ⟨[none,none,none,some 4],rfl,rfl,rfl,rfl⟩
 have hne : i < l.length:=by
  have : i≠l.length:=fun e=>by rw [e] at h;simp at h
  omega
 clear h
 conv=>whnf
 have w1 : IntKind.i64.wrap ((l.length : Int) + (1 : Nat)) = (l.length : Int) + (1 : Nat):=w_i64 (by omega) (by omega)
 have w2 : IntKind.i64.wrap ((l.length : Int) + (1 : Nat) - i) = ((l.length + 1 - i : Nat) : Int):=by rw [w_i64 (by omega) (by omega)];omega
 have w3 : IntKind.i64.wrap ((i : Int) + (1 : Nat)) = ((i + 1 : Nat) : Int):=by rw [w_i64 (by omega) (by omega)];omega
 refine onB_intro (fun h=>?_) (fun h=>?_)
 ·have h:=of_decide_eq_true h
  rw [w1] at h
  conv=>whnf
  refine ⟨⟨by omega,by omega,by omega,by omega⟩,?_⟩
  conv=>whnf
  rw [w1,w2]
  refine ⟨by omega,⟨by omega,by omega,by omega,by show _ * (((40 : Nat)) : Int)≤_;omega⟩,fun q=>if q < i then ndF (l.getD q nd0) else [vu 0,vu 0,vu 0,vu 0,vu 0,vu 0,vr 0,vu 0,vu 0,.v (.bool false)],fun q hq=>?_,fun q hq=>?_,fun cap' hcap=>?_⟩
  ·dsimp only
   rw [if_pos (by omega),show 0 + Int.toNat 0 + q = q from by omega]
  ·dsimp only
   rw [if_neg (by omega)];rfl
  conv=>whnf
  refine ⟨⟨by omega,by omega,by omega,by omega⟩,?_⟩
  conv=>whnf
  refine ⟨trivial,by omega,l.length + 1,fun q=>if q < i then ndF (l.getD q nd0) else if q = i then ndF x else [vu 0,vu 0,vu 0,vu 0,vu 0,vu 0,vr 0,vu 0,vu 0,.v (.bool false)],fun q hq=>?_,?_⟩
  ·rcases Nat.lt_trichotomy q i with h2 | h2 | h2
   ·exact .inr ⟨.inl (by omega),by omega,by dsimp only;rw [if_pos h2,if_pos h2]⟩
   ·subst h2
    exact .inl ⟨by omega,by omega,by dsimp only;rw [if_neg (Nat.lt_irrefl _),if_pos rfl,hg0 _ (by omega)]⟩
   ·exact .inr ⟨.inr (by omega),by omega,by dsimp only;rw [if_neg (by omega),if_neg (by omega),if_neg (by omega)]⟩
  conv=>whnf
  refine drawV_mix 8 mixed (by kernel_rfl) ttok ftok ?_
  conv=>whnf
  rw [w3]
  refine ⟨⟨by omega,by omega,by omega,by omega⟩,?_⟩
  conv=>whnf
  refine ⟨⟨by omega,by omega,by omega,by omega⟩,?_⟩
  conv=>whnf
  refine ⟨by omega,by omega,l'.length,fun k=>ndF (l'.getD k nd0),fun q hq=>?_,?_⟩
  ·rcases Nat.lt_trichotomy q i with h2 | h2 | h2
   ·exact .inr ⟨.inl (by omega),by omega,by simp only [hget,if_pos h2]⟩
   ·subst h2
    exact .inr ⟨.inl (by omega),by omega,by simp only [hget,if_neg (Nat.lt_irrefl _),if_true]⟩
   ·refine .inl ⟨by omega,by omega,?_⟩
    simp only [hget,if_neg (show ¬ q < i by omega),if_neg (show ¬ q = i by omega)]
    congr 2
    omega
  conv=>whnf
  refine ⟨_,view_row 6 3 (n:=l'.length) rfl rfl (by omega) (by omega) (by omega) (by omega),?_⟩
  conv=>whnf
  exact ⟨[none,none,none,some 4],rfl,rfl,rfl,rfl⟩
 ·have h:=of_decide_eq_false h
  rw [w1] at h
  conv=>whnf
  rw [w1]
  refine ⟨⟨by omega,by omega,by omega,by omega⟩,?_⟩
  conv=>whnf
  rw [w3]
  refine ⟨⟨by omega,by omega,by omega,by omega⟩,?_⟩
  conv=>whnf
  refine ext_overlaps (t:=115) (r:=4) (ti:=ti231) Tryz.func261 (by kernel_rfl) rfl (by kernel_rfl) (by kernel_rfl) tf231 Tryz.underlying115 (apart_row_view (by decide) rfl rfl (by omega) (by omega) (by omega) (by decide)) ?_
  conv=>whnf
  refine drawV_mix 8 mixed (by kernel_rfl) ttok ftok ?_
  conv=>whnf
  rw [w3]
  refine ⟨⟨by omega,by omega,by omega,by omega⟩,?_⟩
  conv=>whnf
  refine ⟨⟨by omega,by omega,by omega,by omega⟩,?_⟩
  conv=>whnf
  refine ⟨by omega,by omega,l'.length,fun q=>if q < i + 1 then ndF (l.getD q nd0) else ndF (l.getD (q - 1) nd0),fun q hq=>?_,?_⟩
  ·rcases Nat.lt_or_ge q (i + 1) with h2 | h2
   ·exact .inr ⟨.inl (by omega),by omega,by dsimp only;rw [if_pos h2]⟩
   ·refine .inl ⟨by omega,by omega,?_⟩
    dsimp only
    rw [if_neg (by omega)]
    congr 2
    omega
  conv=>whnf
  refine ⟨⟨by omega,by omega,by omega,by omega⟩,?_⟩
  conv=>whnf
  refine ⟨trivial,by omega,l'.length,fun k=>ndF (l'.getD k nd0),fun q hq=>?_,?_⟩
  ·rcases Nat.lt_trichotomy q i with h2 | h2 | h2
   ·exact .inr ⟨.inl (by omega),by omega,by dsimp only;rw [hget,if_pos h2,if_pos (by omega)]⟩
   ·subst h2
    exact .inl ⟨by omega,by omega,by dsimp only;rw [hget,if_neg (Nat.lt_irrefl _),if_pos rfl,hg0 _ (by omega)]⟩
   ·exact .inr ⟨.inr (by omega),by omega,by dsimp only;rw [hget,if_neg (by omega),if_neg (by omega),if_neg (by omega)]⟩
  conv=>whnf
  refine ⟨_,view_row 6 2 (n:=l'.length) rfl rfl (by omega) (by omega) (by omega) (by omega),?_⟩
  conv=>whnf
  exact ⟨[none,none,none,some 3],rfl,rfl,rfl,rfl⟩
abbrev liZ : AV:=.agg [.v (.slice none 0 0),vi 0,vi 0,.v (.slice none 0 0)]
theorem vr_c (c : Int) : CallV Tryz.prog 233 [vci .i32 c] [] (fun r own'=>own' = []∧r = vcb (vldR c)):=by
 refine callV_pure Tryz.func233 rfl ttok ftok rfl rfl rfl (Nat.le_of_ble_eq_true rfl) ?_
 conv=>whnf
 have hp : ∀ (a b : Bool) (x : Operand),pickB a x (.const (.bool false)) b false = (a && b):=fun a b x=>by cases a <;> cases b <;> rfl
 refine onB_intro (fun g=>?_) (fun g=>?_)
 ·have g : (decide (0≤c) && decide (c < 55296)) = true:=by
   cases h1 : decide (0≤c) <;> cases h2 : decide (c < 55296) <;> rw [h1,h2] at g <;> first | rfl | cases g
  conv=>whnf
  unfold vldR
  rw [g]
  all_goals first | rfl | exact ⟨rfl,rfl⟩
 ·have g : (decide (0≤c) && decide (c < 55296)) = false:=by
   cases h1 : decide (0≤c) <;> cases h2 : decide (c < 55296) <;> rw [h1,h2] at g <;> first | rfl | cases g
  conv=>whnf
  refine onB_intro (fun g2=>?_) (fun g2=>?_)
  ·have g2 : (decide (57343 < c) && decide (c≤1114111)) = true:=by
    cases h1 : decide (57343 < c) <;> cases h2 : decide (c≤1114111) <;> rw [h1,h2] at g2 <;> first | rfl | cases g2
   conv=>whnf
   unfold vldR
   rw [g2]
   simp
  ·have g2 : (decide (57343 < c) && decide (c≤1114111)) = false:=by
    cases h1 : decide (57343 < c) <;> cases h2 : decide (c≤1114111) <;> rw [h1,h2] at g2 <;> first | rfl | cases g2
   conv=>whnf
   unfold vldR
   rw [g,g2]
   all_goals first | rfl | exact ⟨rfl,rfl⟩
theorem litem_c {hs : HS} {l : List Nd} (L : LSt hs l) (cs : Ck) (a : I2) : CallV Tryz.prog 59 [liA cs l,idA a] [] (fun r own'=>own' = []∧((∃ p,p ∈ hs∧p.1.id = a∧r = .tup [.agg (itF p.1),vcb true])∨(¬ hasI hs a∧r = .tup [.agg (itF it0),vcb false]))):=by
 refine callV_pure Tryz.func59 rfl ttok ftok rfl rfl rfl (Nat.le_of_ble_eq_true rfl) ?_
 conv=>whnf
 refine call_pure (lfind_c cs l L.srt L.len a) rfl ?_
 rintro _ ⟨i,hf,rfl⟩
 by_cases hh : hasI hs a
 ·rw [decide_eq_true ((L.has a).2 hh)]
  obtain ⟨hil,hie,him⟩:=L.at_ hf hh
  conv=>whnf
  refine ⟨⟨by omega,by omega⟩,?_⟩
  conv=>whnf
  rw [ti_nat]
  exact .inl ⟨_,him,hie,rfl⟩
 ·rw [decide_eq_false (fun g=>hh ((L.has a).1 g))]
  conv=>whnf
  exact .inr ⟨hh,rfl⟩
theorem lindex_c (cs : Ck) (l : List Nd) : CallV Tryz.prog 57 [liA cs l] [] (fun r own'=>own' = []∧r = ixA cs):=by
 refine callV_pure Tryz.func57 rfl ttok ftok rfl rfl rfl (Nat.le_of_ble_eq_true rfl) ?_
 conv=>whnf
 all_goals first | rfl | exact ⟨rfl,rfl⟩
theorem ldel_c {hs : HS} {G : I2→Bool} {cs : Ck} {l : List Nd} {N : Nat} (V : LV hs G cs l N) (hN : N≤20000) (a : I2) : CallV Tryz.prog 135 [liA cs l,idA a] []
  (fun r own'=>own' = []∧((hasI hs a∧∃ cs2,LV hs (updG G a true) cs2 l N∧r = .tup [liA cs2 l,.c (.v .nilIface)])∨(¬ hasI hs a∧r = .tup [liZ,erC 1]))):=by
 have hs1:=V.sum
 have hc1:=V.ck
 have hl1:=V.len
 obtain ⟨o,hO,hf⟩:=V.ord
 have hix:=LV.ixO hf
 refine callV_pure Tryz.func135 rfl ttok ftok rfl rfl rfl (Nat.le_of_ble_eq_true rfl) ?_
 conv=>whnf
 refine call_pure (hide_c cs (by omega) (by omega) a) rfl ?_
 rintro _ rfl
 by_cases hh : hasI hs a
 ·obtain ⟨q,hq1,hq2,hq3⟩:=ixO_find hix (hO.has.2 hh)
  obtain ⟨cs2,h1,h2,h3⟩:=hdC_some hq1
  rw [h1]
  conv=>whnf
  refine .inl ⟨hh,cs2,⟨V.L,⟨o,hO,?_⟩,V.len,by omega⟩,rfl⟩
  rw [h2,hf,hideAt_map o (hO.nodup V.L.ok) hq2,hq3]
 ·have hn : hdC cs a = none:=by
   have:=ixO_none hix (fun g=>hh (hO.has.1 g))
   have hpf : (plcC cs a).map (fun p=>sumL (cs.take p.1) + p.2) = fnE cs.flatten a:=plcC_find cs a
   rw [this] at hpf
   unfold hdC
   cases hp : plcC cs a with
   | none=>rfl
   | some p=>rw [hp] at hpf;cases hpf
  rw [hn]
  conv=>whnf
  exact .inr ⟨hh,rfl⟩
end Go.Eng
namespace Go.Eng
open Go Go.RowKit Go.Proofs
theorem drawV_cut_L {P : Program} [HasGl P] (J : St→Prop) {id : Nat} {ops : Array Oper} {K : St→Prop} {st : St} (h : DrawV P id ops (fun st'=>∃ S,Weak st' S∧J S) st) (hK : ∀ S,J S→K S) : DrawV P id ops K st:=by
 refine ⟨fun may w0 h0 a w hs=>?_⟩
 refine Code.wp_mono (fun e a' w' hh=>?_) (h.out may w0 h0 a w hs)
 obtain ⟨h1,st',h2,S,h3,h4⟩:=hh
 exact ⟨h1,S,h3.out may w0 h0 a' w' h2,hK S h4⟩
def adV (hs : HS) (G : I2→Bool) (N : Nat) (x : It) (gone : Bool) (r : AV) : Prop :=
 (okA hs x∧∃ cs2 l2,LV ((x,hgOf hs x) :: hs) (updG G x.id gone) cs2 l2 (N + 1)∧r = .tup [liA cs2 l2,.c (.v .nilIface)])∨(¬ okA hs x∧r = .tup [liZ,erC 1])
theorem ladd_c {hs : HS} {G : I2→Bool} {cs : Ck} {l : List Nd} {N : Nat} (V : LV hs G cs l N) (hN : N≤20000) (x : It) (gone : Bool) : CallV Tryz.prog 192 [liA cs l,.agg (itF x),vcb gone] [] (fun r own'=>own' = []∧adV hs G N x gone r):=by
 have hs1:=V.sum
 have hc1:=V.ck
 have hl1:=V.len
 have L:=V.L
 obtain ⟨o,hO,hf⟩:=V.ord
 have hix:=LV.ixO hf
 have hlo:=hO.length
 refine callV_pure Tryz.func192 rfl ttok ftok rfl rfl rfl (Nat.le_of_ble_eq_true rfl) ?_
 conv=>whnf
 refine call_pure (lfind_c cs l L.srt L.len x.id) rfl ?_
 rintro _ ⟨i,hfd,rfl⟩
 by_cases hh : hasI hs x.id
 ·rw [decide_eq_true ((L.has _).2 hh)]
  conv=>whnf
  exact .inr ⟨fun h=>h.new hh,rfl⟩
 rw [decide_eq_false (fun g=>hh ((L.has _).1 g))]
 conv=>whnf
 refine call_pure (none_c x.id) rfl ?_
 rintro _ rfl
 by_cases hz : x.id.1 = 0
 ·rw [beq_iff_eq.2 hz]
  conv=>whnf
  exact .inr ⟨fun h=>h.nz hz,rfl⟩
 rw [beq_eq_false_iff_ne.2 hz]
 conv=>whnf
 have hkn : ∀ a,(decide (hasN l a) || a.1 == 0) = true↔(hasI hs a∨a.1 = 0):=fun a=>by
  rw [Bool.or_eq_true,decide_eq_true_iff,beq_iff_eq,L.has]
 refine call_pure (lknown_c cs l L.srt L.len x.left) rfl ?_
 rintro _ rfl
 by_cases hL : hasI hs x.left∨x.left.1 = 0
 rotate_left
 ·rw [Bool.eq_false_iff.2 (fun g=>hL ((hkn _).1 g))]
  conv=>whnf
  exact .inr ⟨fun h=>hL h.left,rfl⟩
 rw [(hkn _).2 hL]
 conv=>whnf
 refine call_pure (lknown_c cs l L.srt L.len x.right) rfl ?_
 rintro _ rfl
 by_cases hR : hasI hs x.right∨x.right.1 = 0
 rotate_left
 ·rw [Bool.eq_false_iff.2 (fun g=>hR ((hkn _).1 g))]
  conv=>whnf
  exact .inr ⟨fun h=>hR h.right,rfl⟩
 rw [(hkn _).2 hR]
 conv=>whnf
 refine call_pure (vr_c x.ch) rfl ?_
 rintro _ rfl
 cases hch : vldR x.ch with
 | false =>
  conv=>whnf
  exact .inr ⟨fun h=>(by rw [h.ch] at hch;cases hch),rfl⟩
 | true =>
 have hok : okA hs x:=⟨hh,hz,hL,hR,hch⟩
 have hoH:=okA_okH L.ok hok
 conv=>whnf
 refine call_pure (lhang_c L cs x) rfl ?_
 rintro _ rfl
 have hfn : fnE cs.flatten x.id = none:=ixO_none hix (fun g=>hh (hO.has.1 g))
 have hpl:=lplace_c L cs (by omega) (by omega) hO hix x (hgOf hs x) hoH
 obtain ⟨h,hhe⟩ : ∃ h,hgOf hs x = h:=⟨_,rfl⟩
 rw [hhe] at hoH hpl ⊢
 conv=>whnf
 refine drawV_cut_L (fun S=>∃ (n : Nat) (cs2 : Ck),n≤o.length∧isOrd ((x,h) :: hs) (o.take n ++ [x.id] ++ o.drop n)∧cs2.flatten = cs.flatten.take n ++ [⟨x.id,x.ch,gone⟩] ++ cs.flatten.drop n∧cs2.length≤cs.length + 1 ∧
  S = ⟨82,0,[(2,vcb gone),(3,.c (.own 0 0)),(4,.c (.own 1 0)),(6,.c (.own 2 0)),(8,vci .i64 (i : Int)),(10,.c (.own 3 0)),(11,.c (.own 4 0)),(12,.c (.v .nilIface))],
   [some (.cells 117 (liF cs l)),some (.cells 144 (itF x)),some (.cells 117 [.v (.slice none 0 0),vi 0,vi 0,.v (.slice none 0 0)]),some (.cells 229 (hgF h)),some (.cells 114 (ixF cs2))]⟩) ?_ ?_
 ·refine drawV_sched (.rd 0 (.rd 1 (.rd 2 (.rd 3 (.rd 4 (.rd 6 (.rd 7 (.rd 8 (.rd 9 (.rd 10 (.rd 11 (.alt (.ef 5 (.alt (.ef 12 (.rd 13 (.rd 14 (.rd 15 (.ef 16 (.ef 17 (.rd 18 (.nil)))))))) (.ef 16 (.ef 12 (.rd 13 (.rd 14 (.rd 15 (.ef 17 (.rd 18 (.nil)))))))))) (.ef 16 (.ef 5 (.ef 12 (.rd 13 (.rd 14 (.rd 15 (.ef 17 (.rd 18 (.nil))))))))))))))))))))) [4] mixed (by kernel_rfl) ttok ftok ?_
  conv=>whnf
  refine ⟨?_,?_⟩
  ·conv=>whnf
   refine call_pure hpl rfl ?_
   rintro _ ⟨n,hn,hO2,rfl⟩
   conv=>whnf
   refine ⟨?_,?_⟩
   ·conv=>whnf
    refine call_pure (put_c_X of_c_X cs (by omega) (by omega) (n : Int) ⟨x.id,x.ch,gone⟩) rfl ?_
    rintro _ hp
    obtain ⟨cs2,g1,g2,rfl⟩:=putS_ok (n:=n) hp (by omega) hfn
    conv=>whnf
    exact ⟨_,norm_weak [2,3,4,6,8,10,11,12] [some 0,some 1,some 2,some 3,some 4] rfl rfl,n,cs2,hn,hO2,g1,g2,rfl⟩
   ·conv=>whnf
    refine call_pure (put_c_X of_c_X cs (by omega) (by omega) (n : Int) ⟨x.id,x.ch,gone⟩) rfl ?_
    rintro _ hp
    obtain ⟨cs2,g1,g2,rfl⟩:=putS_ok (n:=n) hp (by omega) hfn
    conv=>whnf
    exact ⟨_,norm_weak [2,3,4,6,8,10,11,12] [some 0,some 1,some 2,some 3,some 4] rfl rfl,n,cs2,hn,hO2,g1,g2,rfl⟩
  ·conv=>whnf
   refine call_pure hpl rfl ?_
   rintro _ ⟨n,hn,hO2,rfl⟩
   conv=>whnf
   refine call_pure (put_c_X of_c_X cs (by omega) (by omega) (n : Int) ⟨x.id,x.ch,gone⟩) rfl ?_
   rintro _ hp
   obtain ⟨cs2,g1,g2,rfl⟩:=putS_ok (n:=n) hp (by omega) hfn
   conv=>whnf
   exact ⟨_,norm_weak [2,3,4,6,8,10,11,12] [some 0,some 1,some 2,some 3,some 4] rfl rfl,n,cs2,hn,hO2,g1,g2,rfl⟩
 ·rintro st ⟨n,cs2,hn,hO2,hc2,hl2,rfl⟩
  have hil:=hfd.le
  have hll : l.length≤20000:=by rw [L.perm.length_eq];omega
  conv=>whnf
  refine drawV_at ⟨82,0,[(6,.c (.own 0 0)),(7,.c (.v .nilIface))],[some (.cells 117 [.sl 2 cs2.length (chR cs2),vi (sumL cs2 : Int),vi (shnC cs2 : Int),.row 1]),some (.row 231 10 (l.take i ++ (x,h) :: l.drop i).length (ndR (l.take i ++ (x,h) :: l.drop i)))]⟩ ?_ ?_
  ·refine drawV_sched (.rd 0 (.rd 1 (.rd 2 (.rd 4 (.rd 5 (.rd 6 (.rd 7 (.alt (.ef 3 (.ef 8 (.ef 9 (.rd 10 (.ef 11 (.rd 12 (.nil))))))) (.ef 8 (.ef 3 (.ef 9 (.rd 10 (.ef 11 (.rd 12 (.nil))))))))))))))) [2,5,6] mixed (by kernel_rfl) ttok ftok ?_
   conv=>whnf
   refine ⟨?_,?_⟩
   ·conv=>whnf
    refine call_frame2 [] rfl rfl rfl rfl (ndClone l (by omega)) ?_
    rintro r own2 ⟨rfl,rfl⟩
    refine ⟨.c (.row 5),[none,none,some (.cells 117 [.v (.slice none 0 0),vi 0,vi 0,.v (.slice none 0 0)]),none,none,some (.row 231 10 l.length (ndR l))],rfl,rfl,?_⟩
    conv=>whnf
    refine ⟨fun _=>ndF (x,h),fun q hq=>?_,?_⟩
    ·obtain rfl : q = 0:=by omega
     rfl
    conv=>whnf
    refine call_frame2 [some 5,some 6] rfl rfl rfl rfl (ndInsert l (x,h) i hil (by omega) (fun _=>ndF (x,h)) rfl) ?_
    rintro r own2 ⟨rfl,rfl⟩
    refine ⟨.c (.row 8),[none,none,some (.cells 117 [.v (.slice none 0 0),vi 0,vi 0,.v (.slice none 0 0)]),none,none,none,none,none,some (.row 231 10 (l.take i ++ (x,h) :: l.drop i).length (ndR (l.take i ++ (x,h) :: l.drop i)))],rfl,rfl,?_⟩
    conv=>whnf
    exact norm_weak [6,7] [some 2,some 8] rfl rfl
   ·conv=>whnf
    refine ⟨fun _=>ndF (x,h),fun q hq=>?_,?_⟩
    ·obtain rfl : q = 0:=by omega
     rfl
    conv=>whnf
    refine call_frame2 [] rfl rfl rfl rfl (ndClone l (by omega)) ?_
    rintro r own2 ⟨rfl,rfl⟩
    refine ⟨.c (.row 6),[none,none,some (.cells 117 [.v (.slice none 0 0),vi 0,vi 0,.v (.slice none 0 0)]),none,none,some (.row 231 10 1 fun _=>ndF (x,h)),some (.row 231 10 l.length (ndR l))],rfl,rfl,?_⟩
    conv=>whnf
    refine call_frame2 [some 6,some 5] rfl rfl rfl rfl (ndInsert l (x,h) i hil (by omega) (fun _=>ndF (x,h)) rfl) ?_
    rintro r own2 ⟨rfl,rfl⟩
    refine ⟨.c (.row 8),[none,none,some (.cells 117 [.v (.slice none 0 0),vi 0,vi 0,.v (.slice none 0 0)]),none,none,none,none,none,some (.row 231 10 (l.take i ++ (x,h) :: l.drop i).length (ndR (l.take i ++ (x,h) :: l.drop i)))],rfl,rfl,?_⟩
    conv=>whnf
    exact norm_weak [6,7] [some 2,some 8] rfl rfl
  conv=>whnf
  refine ⟨fun _ _=>rfl,?_⟩
  conv=>whnf
  have hnd:=nd_put L hoH hfd (by omega)
  refine .inl ⟨hok,cs2,l.take i ++ (x,h) :: l.drop i,?_,rfl⟩
  rw [hhe]
  refine ⟨hnd,⟨_,hO2,?_⟩,by rw [List.length_cons];omega,by omega⟩
  rw [hc2,hf,ents_put hoH hO n]
end Go.Eng
