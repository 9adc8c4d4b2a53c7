/- A part of the proof. -/
import Derived.Test.YteglopjljejjkacGreatDoorGBIdxATBLstD
import Derived.Lib.Walk
import Derived.Shelf.SlSortCmp.WholeK
import Derived.WalkKit
import Derived.LoopN
import Derived.Test.YteglopjljejjkacGreatDoorProg
import Derived.Ground.NamesProg
import Derived.Ground.SlsfProg
import Derived.Shelf.SlLaysF0
import Derived.Shelf.Lays8
import Derived.Shelf.Lays
set_option linter.unusedVariables false
set_option linter.unusedSimpArgs false
set_option maxRecDepth 100000
set_option maxHeartbeats 4000000
namespace Go.Eng
open Go Go.RowKit Go.Proofs
def txL : List En→List Int
 | []=>[]
 | e :: l=>if e.gone = true then txL l else e.ch :: txL l
theorem txL_append : ∀ (a b : List En),txL (a ++ b) = txL a ++ txL b
 | [],b=>rfl
 | e :: a,b=>by
  rw [List.cons_append,txL,txL,txL_append a b]
  split <;> rfl
theorem txL_snoc {l : List En} {k : Nat} (hk : k < l.length) : txL (l.take (k + 1)) = txL (l.take k) ++ if (l.getD k en0).gone = true then [] else [(l.getD k en0).ch]:=by
 rw [take_snocE hk,txL_append]
 unfold txL
 split <;> rfl
theorem txL_len : ∀ (l : List En),(txL l).length≤l.length
 | []=>Nat.le_refl _
 | e :: l=>by
  have:=txL_len l
  unfold txL
  split
  ·rw [List.length_cons];omega
  ·rw [List.length_cons,List.length_cons];omega
def txS (es : List En) : ByteArray:=runesBytes (txL es)
def txI (cs : Ck) (l : List Nd) (n : Nat) (st : St) : Prop:=∃ k : Nat,n = cs.flatten.length - k∧k≤cs.flatten.length ∧
 st = ⟨25,0,[(3,.c (.row 0)),(8,enS cs.flatten),(9,vci .i64 (cs.flatten.length : Int)),(10,vci .i64 (k : Int))],[some (.row 21 1 (txL (cs.flatten.take k)).length (runeF (txL (cs.flatten.take k))))]⟩
theorem text_c (cs : Ck) (l : List Nd) (hl : cs.length≤100000) (hs : sumL cs≤100000) : CallV Tryz.prog 53 [liA cs l] [] (fun r own'=>own' = []∧r = vcs (txS cs.flatten)):=by
 have hfl : cs.flatten.length = sumL cs:=rfl
 refine callV_pure Tryz.func53 rfl ttok ftok rfl rfl rfl (Nat.le_of_ble_eq_true rfl) ?_
 conv=>whnf
 refine call_pure (all_c cs (by omega) (by omega)) rfl ?_
 rintro _ rfl
 conv=>whnf
 refine loopV ttok ftok (txI cs l) ((nil_row 3 21 1 (runeF []) rfl).trans (norm_weak [3,8,9,10] [some 1] rfl rfl)) ⟨0,rfl,Nat.zero_le _,rfl⟩ ?_
 rintro m st ⟨k,rfl,hk,rfl⟩
 have e1:=e64 (k:=k) (by omega)
 have hx:=txL_len (cs.flatten.take k)
 rw [List.length_take] at hx
 conv=>whnf
 refine onB_intro (fun h=>?_) (fun h=>?_)
 ·have h:=of_decide_eq_true h
  have hkl : k < cs.flatten.length:=by omega
  have hsn:=txL_snoc hkl
  conv=>whnf
  refine ⟨⟨by omega,by omega⟩,?_⟩
  conv=>whnf
  rw [ti_nat]
  cases hg : (cs.flatten.getD k en0).gone with
  | true =>
   rw [hg,if_pos rfl,List.append_nil] at hsn
   conv=>whnf
   rw [e1]
   refine ⟨cs.flatten.length - (k + 1),_,by omega,norm_weak [3,8,9,10] [some 0] rfl rfl,k + 1,rfl,by omega,?_⟩
   rw [hsn]
   all_goals rfl
  | false =>
   rw [hg,if_neg (by decide)] at hsn
   generalize cs.flatten.getD k en0 = e at hsn
   conv=>whnf
   refine ⟨fun _=>[vr e.ch],fun j hj2=>?_,?_⟩
   ·obtain rfl : j = 0:=by omega
    rfl
   conv=>whnf
   refine ⟨⟨by omega,by show (List.length (txL (cs.flatten.take k)) + 1) * 4≤_;omega⟩,?_⟩
   conv=>whnf
   refine app1 (enc:=fun n : Int=>[vr n]) (d:=0) (l:=txL (cs.flatten.take k)) e.ch (fun k hk=>rfl) rfl ?_
   conv=>whnf
   rw [e1,←hsn]
   exact ⟨cs.flatten.length - (k + 1),_,by omega,norm_weak [3,8,9,10] [some 3] rfl rfl,k + 1,rfl,by omega,rfl⟩
 ·have h:=of_decide_eq_false h
  have hk2 : k = cs.flatten.length:=by omega
  subst hk2
  rw [List.take_length]
  conv=>whnf
  refine ⟨fun _ _=>rfl,?_⟩
  conv=>whnf
  refine ⟨txL cs.flatten,rfl,fun _ _=>rfl,?_⟩
  conv=>whnf
  all_goals first | rfl | exact ⟨rfl,rfl⟩
theorem shp_mem' : ∀ (l : List En) (n p : Nat),p ∈ shp l n→n≤p∧p < n + l.length
 | [],n,p,h=>by cases h
 | e :: l,n,p,h=>by
  have ih:=shp_mem' l (n + 1) p
  unfold shp at h
  rw [List.length_cons]
  split at h
  ·have:=ih h;omega
  ·rcases List.mem_cons.1 h with rfl | h
   ·omega
   ·have:=ih h;omega
def btA (es : List En) (k : Nat) : Nat:=if k = 0 then 0 else (shp es 0).getD (k - 1) 0 + 1
def btL (es : List En) (k : Nat) : I2:=if k = 0 then (0,0) else (es.getD (btA es k - 1) en0).id
def btR (es : List En) (k : Nat) : I2:=if btA es k < es.length then (es.getD (btA es k) en0).id else (0,0)
def btV (es : List En) (k : Int) : AV:=if k < 0∨(shn es : Int) < k then .tup [idA (0,0),idA (0,0),erC 3] else .tup [idA (btL es k.toNat),idA (btR es k.toNat),.c (.v .nilIface)]
theorem between_c (cs : Ck) (l : List Nd) (hl : cs.length≤100000) (hs : sumL cs≤100000) (k : Int) : CallV Tryz.prog 128 [liA cs l,vci .i64 k] [] (fun r own'=>own' = []∧r = btV cs.flatten k):=by
 have hfl : cs.flatten.length = sumL cs:=rfl
 have hse : shn cs.flatten = shnC cs:=rfl
 have hsl:=shnC_le cs
 have hsh : (shp cs.flatten 0).length = shnC cs:=shp_len _ _
 refine callV_pure Tryz.func128 rfl ttok ftok rfl rfl rfl (Nat.le_of_ble_eq_true rfl) ?_
 conv=>whnf
 by_cases h0 : k < 0
 ·rw [decide_eq_true h0]
  conv=>whnf
  unfold btV
  rw [if_pos (.inl h0)]
  all_goals first | rfl | exact ⟨rfl,rfl⟩
 rw [decide_eq_false h0]
 conv=>whnf
 refine call_pure (shown_c cs) rfl ?_
 rintro _ rfl
 conv=>whnf
 refine onB_intro (fun h=>?_) (fun h=>?_)
 ·have h:=of_decide_eq_true h
  conv=>whnf
  unfold btV
  rw [if_pos (.inr (by omega))]
  all_goals first | rfl | exact ⟨rfl,rfl⟩
 have h:=of_decide_eq_false h
 obtain ⟨K,rfl⟩ : ∃ K : Nat,k = (K : Int):=⟨k.toNat,(Int.toNat_of_nonneg (by omega)).symm⟩
 have hres : ∀ r,r = .tup [idA (btL cs.flatten K),idA (btR cs.flatten K),.c (.v .nilIface)]→r = btV cs.flatten (K : Int):=fun r hr=>by
  unfold btV;rw [if_neg (by omega),ti_nat];exact hr
 conv=>whnf
 refine onB_intro (fun h2=>?_) (fun h2=>?_)
 ·have h2:=of_decide_eq_true h2
  have hK : 0 < K:=by omega
  have hw : IntKind.i64.wrap ((K : Int) - 1) = ((K - 1 : Nat) : Int):=by rw [w_i64 (by omega) (by omega)];omega
  have hca:=at_c cs (by omega) (by omega) ((K - 1 : Nat) : Int)
  unfold atV at hca
  rw [if_pos (by rw [hse];omega),ti_nat] at hca
  have hAp : btA cs.flatten K = (shp cs.flatten 0).getD (K - 1) 0 + 1:=by unfold btA;rw [if_neg (by omega)]
  have hpm : (shp cs.flatten 0).getD (K - 1) 0 < cs.flatten.length:=by
   have hin:=getD_mem (d:=0) (show K - 1 < (shp cs.flatten 0).length by omega)
   have:=(shp_mem' _ _ _ hin).2
   omega
  have hL : btL cs.flatten K = (cs.flatten.getD ((shp cs.flatten 0).getD (K - 1) 0) en0).id:=by unfold btL;rw [if_neg (by omega),hAp,Nat.add_sub_cancel]
  generalize (shp cs.flatten 0).getD (K - 1) 0 = p at hca hAp hpm hL
  have hce:=entry_c cs (by omega) (by omega) (p : Int)
  unfold enV at hce
  rw [if_pos (by omega),ti_nat] at hce
  have e1:=e64 (k:=p) (by omega)
  have hce2:=entry_c cs (by omega) (by omega) ((p + 1 : Nat) : Int)
  unfold enV at hce2
  generalize cs.flatten.getD p en0 = e at hce hL
  conv=>whnf
  rw [hw]
  refine call_pure hca rfl ?_
  rintro _ rfl
  conv=>whnf
  refine call_pure hce rfl ?_
  rintro _ rfl
  conv=>whnf
  rw [e1]
  refine call_pure hce2 rfl ?_
  rintro _ rfl
  by_cases h3 : p + 1 < cs.flatten.length
  ·have hR : btR cs.flatten K = (cs.flatten.getD (p + 1) en0).id:=by unfold btR;rw [hAp,if_pos h3]
   rw [if_pos (by omega),ti_nat]
   generalize cs.flatten.getD (p + 1) en0 = e2 at hR
   conv=>whnf
   refine drawV_sched (.rd 0 (.rd 1 (.ef 2 (.ef 3 (.rd 4 (.nil)))))) [1,2] mixed (by kernel_rfl) ttok ftok ?_
   conv=>whnf
   exact hres _ (by rw [hL,hR];rfl)
  ·have hR : btR cs.flatten K = (0,0):=by unfold btR;rw [hAp,if_neg h3]
   rw [if_neg (by omega)]
   conv=>whnf
   refine drawV_sched (.rd 0 (.rd 1 (.ef 2 (.ef 3 (.rd 4 (.nil)))))) [1,2] mixed (by kernel_rfl) ttok ftok ?_
   conv=>whnf
   exact hres _ (by rw [hL,hR];rfl)
 ·have h2:=of_decide_eq_false h2
  obtain rfl : K = 0:=by omega
  have hA0 : btA cs.flatten 0 = 0:=rfl
  have hce2:=entry_c cs (by omega) (by omega) 0
  unfold enV at hce2
  conv=>whnf
  refine call_pure hce2 rfl ?_
  rintro _ rfl
  by_cases h3 : 0 < cs.flatten.length
  ·have hR : btR cs.flatten 0 = (cs.flatten.getD 0 en0).id:=by unfold btR;rw [hA0,if_pos h3]
   rw [if_pos (by omega),show Int.toNat 0 = 0 from rfl]
   generalize cs.flatten.getD 0 en0 = e2 at hR
   conv=>whnf
   refine drawV_sched (.rd 0 (.rd 1 (.ef 2 (.ef 3 (.rd 4 (.nil)))))) [1,2] mixed (by kernel_rfl) ttok ftok ?_
   conv=>whnf
   exact hres _ (by rw [hR];rfl)
  ·have hR : btR cs.flatten 0 = (0,0):=by unfold btR;rw [hA0,if_neg h3]
   rw [if_neg (by omega)]
   conv=>whnf
   refine drawV_sched (.rd 0 (.rd 1 (.ef 2 (.ef 3 (.rd 4 (.nil)))))) [1,2] mixed (by kernel_rfl) ttok ftok ?_
   conv=>whnf
   exact hres _ (by rw [hR];rfl)
end Go.Eng
namespace Go.Eng
open Go Go.RowKit Go.Proofs
theorem tm_em (n b : Int) (hb : 0 < b) : (n.tmod b < 0→n % b = n.tmod b + b)∧(¬ n.tmod b < 0→n % b = n.tmod b):=by
 have h0:=Int.emod_nonneg n (show b≠0 by omega)
 have h1:=Int.emod_lt_of_pos n hb
 have h2 : (b.natAbs : Int) = b:=Int.natAbs_of_nonneg (by omega)
 rw [Int.tmod_eq_emod]
 split <;> constructor <;> intro h <;> omega
theorem pick_c_L (n by_ : Int) (hn : -9223372036854775808≤n∧n≤9223372036854775807) (hb : 0 < by_∧by_≤1000000) : CallV Tryz.prog 31 [vci .i64 n,vci .i64 by_] [] (fun r own'=>own' = []∧r = vci .i64 (n % by_)):=by
 refine callV_pure Tryz.func31 rfl ttok ftok rfl rfl rfl (Nat.le_of_ble_eq_true rfl) ?_
 conv=>whnf
 refine ⟨hb.1,?_⟩
 conv=>whnf
 obtain ⟨t1,t2⟩:=tm_em n by_ hb.1
 have h0:=Int.emod_nonneg n (show by_≠0 by omega)
 have h1:=Int.emod_lt_of_pos n hb.1
 by_cases h : n.tmod by_ < 0
 ·rw [decide_eq_true h]
  conv=>whnf
  rw [←t1 h,w_i64 (by omega) (by omega)]
  all_goals first | rfl | exact ⟨rfl,rfl⟩
 ·rw [decide_eq_false h]
  conv=>whnf
  rw [←t2 h]
  all_goals first | rfl | exact ⟨rfl,rfl⟩
abbrev inR (l : List Nat) : Nat→List IC:=fun k=>[vi ((l.getD k 0 : Nat) : Int)]
abbrev inS (l : List Nat) : AV:=.c (.sl 1 l.length (inR l))
def shI (l : List En) (n : Nat) (st : St) : Prop:=∃ k : Nat,n = l.length - k∧k≤l.length∧st = ⟨22,0,[(0,enS l),(3,.c (.row 0)),(4,vci .i64 (k : Int))],[some (.row 3 1 (shp (l.take k) 0).length (inR (shp (l.take k) 0)))]⟩
theorem shp_snoc {l : List En} {k : Nat} (hk : k < l.length) : shp (l.take (k + 1)) 0 = shp (l.take k) 0 ++ if (l.getD k en0).gone = true then [] else [k]:=by
 rw [take_snocE hk,shp_append,List.length_take,Nat.min_eq_left (by omega),Nat.zero_add]
 unfold shp
 split <;> rfl
theorem rshown_c (l : List En) (hl : l.length≤1000000) : CallV Tryz.prog 149 [enS l] [] (fun r own'=>own' = []∧r = inS (shp l 0)):=by
 refine callV_pure Tryz.func149 rfl ttok ftok rfl rfl rfl (Nat.le_of_ble_eq_true rfl) ?_
 conv=>whnf
 refine loopV ttok ftok (shI l) ((nil_row 3 3 1 (inR []) rfl).trans (norm_weak [0,3,4] [some 0] rfl rfl)) ⟨0,rfl,Nat.zero_le _,rfl⟩ ?_
 rintro n st ⟨k,rfl,hk,rfl⟩
 have e1:=e64 (k:=k) (by omega)
 conv=>whnf
 refine onB_intro (fun h=>?_) (fun h=>?_)
 ·have h:=of_decide_eq_true h
  have hk2 : k < l.length:=by omega
  have hs:=shp_snoc hk2
  have hsl : (shp (l.take k) 0).length≤k:=by rw [shp_len];have:=shn_len (l.take k);rw [List.length_take] at this;omega
  conv=>whnf
  refine ⟨⟨by omega,by omega⟩,?_⟩
  conv=>whnf
  rw [ti_nat]
  cases hg : (l.getD k en0).gone with
  | true =>
   rw [hg,if_pos rfl,List.append_nil] at hs
   conv=>whnf
   rw [e1]
   refine ⟨l.length - (k + 1),_,by omega,norm_weak [0,3,4] [some 0] rfl rfl,k + 1,rfl,by omega,?_⟩
   rw [hs]
   all_goals rfl
  | false =>
   rw [hg,if_neg (by decide)] at hs
   conv=>whnf
   refine ⟨fun _=>[vi (k : Int)],fun j hj2=>?_,?_⟩
   ·obtain rfl : j = 0:=by omega
    rfl
   conv=>whnf
   refine ⟨⟨by omega,by show (List.length (shp (l.take k) 0) + 1) * 8≤_;omega⟩,?_⟩
   conv=>whnf
   refine app1 (enc:=fun k : Nat=>[vi (k : Int)]) (d:=0) (l:=shp (l.take k) 0) k (fun k hk=>rfl) rfl ?_
   conv=>whnf
   rw [e1,←hs]
   exact ⟨l.length - (k + 1),_,by omega,norm_weak [0,3,4] [some 2] rfl rfl,k + 1,rfl,by omega,rfl⟩
 ·have h:=of_decide_eq_false h
  have hk2 : k = l.length:=by omega
  subst hk2
  rw [List.take_length]
  conv=>whnf
  refine ⟨fun _ _=>rfl,?_⟩
  conv=>whnf
  all_goals first | rfl | exact ⟨rfl,rfl⟩
def rtI (es : List En) (n : Nat) (st : St) : Prop:=∃ k : Nat,n = es.length - k∧k≤es.length ∧
 st = ⟨27,0,[(0,enS es),(3,.c (.row 0)),(4,vci .i64 (k : Int))],[some (.row 21 1 (txL (es.take k)).length (runeF (txL (es.take k))))]⟩
theorem rtext_c (es : List En) (hl : es.length≤100000) : CallV Tryz.prog 54 [enS es] [] (fun r own'=>own' = []∧r = vcs (txS es)):=by
 refine callV_pure Tryz.func54 rfl ttok ftok rfl rfl rfl (Nat.le_of_ble_eq_true rfl) ?_
 conv=>whnf
 refine loopV ttok ftok (rtI es) ((nil_row 3 21 1 (runeF []) rfl).trans (norm_weak [0,3,4] [some 0] rfl rfl)) ⟨0,rfl,Nat.zero_le _,rfl⟩ ?_
 rintro m st ⟨k,rfl,hk,rfl⟩
 have e1:=e64 (k:=k) (by omega)
 have hx:=txL_len (es.take k)
 rw [List.length_take] at hx
 conv=>whnf
 refine onB_intro (fun h=>?_) (fun h=>?_)
 ·have h:=of_decide_eq_true h
  have hkl : k < es.length:=by omega
  have hsn:=txL_snoc hkl
  conv=>whnf
  refine ⟨⟨by omega,by omega⟩,?_⟩
  conv=>whnf
  rw [ti_nat]
  cases hg : (es.getD k en0).gone with
  | true =>
   rw [hg,if_pos rfl,List.append_nil] at hsn
   conv=>whnf
   rw [e1]
   refine ⟨es.length - (k + 1),_,by omega,norm_weak [0,3,4] [some 0] rfl rfl,k + 1,rfl,by omega,?_⟩
   rw [hsn]
   all_goals rfl
  | false =>
   rw [hg,if_neg (by decide)] at hsn
   conv=>whnf
   refine ⟨⟨by omega,by omega⟩,?_⟩
   conv=>whnf
   rw [ti_nat]
   generalize es.getD k en0 = e at hsn
   refine ⟨fun _=>[vr e.ch],fun j hj2=>?_,?_⟩
   ·obtain rfl : j = 0:=by omega
    rfl
   conv=>whnf
   refine ⟨⟨by omega,by show (List.length (txL (es.take k)) + 1) * 4≤_;omega⟩,?_⟩
   conv=>whnf
   refine app1 (enc:=fun n : Int=>[vr n]) (d:=0) (l:=txL (es.take k)) e.ch (fun k hk=>rfl) rfl ?_
   conv=>whnf
   rw [e1,←hsn]
   exact ⟨es.length - (k + 1),_,by omega,norm_weak [0,3,4] [some 2] rfl rfl,k + 1,rfl,by omega,rfl⟩
 ·have h:=of_decide_eq_false h
  have hk2 : k = es.length:=by omega
  subst hk2
  rw [List.take_length]
  conv=>whnf
  refine ⟨fun _ _=>rfl,?_⟩
  conv=>whnf
  refine ⟨txL es,rfl,fun _ _=>rfl,?_⟩
  conv=>whnf
  all_goals first | rfl | exact ⟨rfl,rfl⟩
abbrev idR (l : List I2) : Nat→List IC:=fun k=>idF (l.getD k (0,0))
abbrev idS_L (l : List I2) : AV:=.c (.sl 2 l.length (idR l))
end Go.Eng
namespace Go.Eng
open Go Go.RowKit Go.Proofs
def rbV (es : List En) (k : Int) : AV:=if k < 0∨(shn es : Int) < k then .tup [idA (0,0),idA (0,0),vcb false] else .tup [idA (btL es k.toNat),idA (btR es k.toNat),vcb true]
theorem rbetween_c (es : List En) (hl : es.length≤100000) (k : Int) : CallV Tryz.prog 99 [enS es,vci .i64 k] [] (fun r own'=>own' = []∧r = rbV es k):=by
 have hsh : (shp es 0).length = shn es:=shp_len _ _
 have hsl:=shn_len es
 refine callV_pure Tryz.func99 rfl ttok ftok rfl rfl rfl (Nat.le_of_ble_eq_true rfl) ?_
 conv=>whnf
 refine call_pure (rshown_c es (by omega)) rfl ?_
 rintro _ rfl
 conv=>whnf
 refine onB_intro (fun h=>?_) (fun h=>?_)
 ·have h : k < 0∨(shn es : Int) < k:=by
   simp only [pickB,isLit,Bool.or_eq_true,decide_eq_true_eq] at h
   omega
  conv=>whnf
  unfold rbV
  rw [if_pos h]
  all_goals first | rfl | exact ⟨rfl,rfl⟩
 have h : ¬ (k < 0∨(shn es : Int) < k):=by
  simp only [pickB,isLit,Bool.or_eq_false_iff,decide_eq_false_iff_not] at h
  omega
 obtain ⟨K,rfl⟩ : ∃ K : Nat,k = (K : Int):=⟨k.toNat,(Int.toNat_of_nonneg (by omega)).symm⟩
 have hres : ∀ r,r = .tup [idA (btL es K),idA (btR es K),vcb true]→r = rbV es (K : Int):=fun r hr=>by
  unfold rbV;rw [if_neg h,ti_nat];exact hr
 conv=>whnf
 refine onB_intro (fun h2=>?_) (fun h2=>?_)
 ·have h2:=of_decide_eq_true h2
  have hK : 0 < K:=by omega
  have hw : IntKind.i64.wrap ((K : Int) - 1) = ((K - 1 : Nat) : Int):=by rw [w_i64 (by omega) (by omega)];omega
  have hAp : btA es K = (shp es 0).getD (K - 1) 0 + 1:=by unfold btA;rw [if_neg (by omega)]
  have hpm : (shp es 0).getD (K - 1) 0 < es.length:=by
   have hin:=getD_mem (d:=0) (show K - 1 < (shp es 0).length by omega)
   have:=(shp_mem' _ _ _ hin).2
   omega
  have hL : btL es K = (es.getD ((shp es 0).getD (K - 1) 0) en0).id:=by unfold btL;rw [if_neg (by omega),hAp,Nat.add_sub_cancel]
  have hk1 : K - 1 < (shp es 0).length:=by omega
  obtain ⟨p,hp⟩ : ∃ p,(shp es 0).getD (K - 1) 0 = p:=⟨_,rfl⟩
  rw [hp] at hAp hpm hL
  have e1:=e64 (k:=p) (by omega)
  conv=>whnf
  rw [hw]
  refine ⟨by omega,?_⟩
  conv=>whnf
  rw [ti_nat,hp]
  refine ⟨by omega,?_⟩
  conv=>whnf
  rw [ti_nat,hw]
  refine ⟨by omega,?_⟩
  conv=>whnf
  rw [ti_nat,hp,e1]
  by_cases h3 : p + 1 < es.length
  ·have hR : btR es K = (es.getD (p + 1) en0).id:=by unfold btR;rw [hAp,if_pos h3]
   rw [show (((p + 1 : Nat) : Int) == (es.length : Int)) = false from beq_eq_false_iff_ne.2 (by omega)]
   conv=>whnf
   refine drawV_sched (.rd 0 (.rd 1 (.rd 2 (.rd 3 (.rd 4 (.rd 5 (.ef 6 (.ef 7 (.rd 8 (.nil)))))))))) [0,1] mixed (by kernel_rfl) ttok ftok ?_
   conv=>whnf
   refine ⟨by omega,?_⟩
   conv=>whnf
   rw [ti_nat]
   exact hres _ (by rw [hL,hR];rfl)
  ·have hR : btR es K = (0,0):=by unfold btR;rw [hAp,if_neg h3]
   rw [show (((p + 1 : Nat) : Int) == (es.length : Int)) = true from beq_iff_eq.2 (by omega)]
   conv=>whnf
   exact hres _ (by rw [hL,hR];rfl)
 ·have h2:=of_decide_eq_false h2
  obtain rfl : K = 0:=by omega
  conv=>whnf
  by_cases h3 : 0 < es.length
  ·have hR : btR es 0 = (es.getD 0 en0).id:=by unfold btR;rw [show btA es 0 = 0 from rfl,if_pos h3]
   rw [show ((0 : Int) == (es.length : Int)) = false from beq_eq_false_iff_ne.2 (by omega)]
   conv=>whnf
   refine drawV_sched (.rd 0 (.rd 1 (.rd 2 (.rd 3 (.rd 4 (.rd 5 (.ef 6 (.ef 7 (.rd 8 (.nil)))))))))) [0,1] mixed (by kernel_rfl) ttok ftok ?_
   conv=>whnf
   refine ⟨by omega,?_⟩
   conv=>whnf
   exact hres _ (by rw [hR];rfl)
  ·have hR : btR es 0 = (0,0):=by unfold btR;rw [show btA es 0 = 0 from rfl,if_neg h3]
   rw [show ((0 : Int) == (es.length : Int)) = true from beq_iff_eq.2 (by omega)]
   conv=>whnf
   exact hres _ (by rw [hR];rfl)
def idsL (es : List En) (at_ n : Nat) : List I2:=(List.range n).map (fun k=>(es.getD ((shp es 0).getD (at_ + k) 0) en0).id)
theorem idsL_len (es : List En) (at_ n : Nat) : (idsL es at_ n).length = n:=by unfold idsL;rw [List.length_map,List.length_range]
theorem idsL_snoc (es : List En) (at_ n : Nat) : idsL es at_ (n + 1) = idsL es at_ n ++ [(es.getD ((shp es 0).getD (at_ + n) 0) en0).id]:=by
 unfold idsL
 rw [List.range_succ,List.map_append];rfl
def noPart (es : List En) (a n : Int) : Prop:=a < 0∨n < 0∨(shn es : Int) < a∨(shn es : Int) - a < n
instance (es : List En) (a n : Int) : Decidable (noPart es a n):=inferInstanceAs (Decidable (_∨_∨_∨_))
def riI_L (es : List En) (a n : Nat) (m : Nat) (st : St) : Prop:=∃ k : Nat,m = n - k∧k≤n ∧
 st = ⟨51,0,[(0,enS es),(1,vci .i64 (a : Int)),(2,vci .i64 (n : Int)),(8,inS (shp es 0)),(9,.c (.row 0)),(10,vci .i64 ((a + k : Nat) : Int))],[some (.row 136 2 (idsL es a k).length (idR (idsL es a k)))]⟩
theorem rids_c (es : List En) (hl : es.length≤100000) (a n : Int) (hn : n≤9223372036854775807) : CallV Tryz.prog 89 [enS es,vci .i64 a,vci .i64 n] []
  (fun r own'=>own' = []∧r = if noPart es a n then .tup [.c (.v (.slice none 0 0)),vcb false] else .tup [idS_L (idsL es a.toNat n.toNat),vcb true]):=by
 have hsh : (shp es 0).length = shn es:=shp_len _ _
 have hsl:=shn_len es
 refine callV_pure Tryz.func89 rfl ttok ftok rfl rfl rfl (Nat.le_of_ble_eq_true rfl) ?_
 conv=>whnf
 refine call_pure (rshown_c es (by omega)) rfl ?_
 rintro _ rfl
 have hbad : ∀ r : AV,noPart es a n→r = .tup [.c (.v (.slice none 0 0)),vcb false]→r = if noPart es a n then .tup [.c (.v (.slice none 0 0)),vcb false] else .tup [idS_L (idsL es a.toNat n.toNat),vcb true]:=fun r h1 h2=>by rw [if_pos h1];exact h2
 conv=>whnf
 refine onB_intro (fun h=>?_) (fun h=>?_)
 ·have h : noPart es a n:=by
   unfold noPart
   simp only [pickB,isLit,Bool.or_eq_true,decide_eq_true_eq] at h
   omega
  conv=>whnf
  exact hbad _ h rfl
 have h : ¬ a < 0∧¬ n < 0∧¬ (shn es : Int) < a:=by
  simp only [pickB,isLit,Bool.or_eq_false_iff,decide_eq_false_iff_not] at h
  omega
 obtain ⟨A,rfl⟩ : ∃ A : Nat,a = (A : Int):=⟨a.toNat,(Int.toNat_of_nonneg (by omega)).symm⟩
 obtain ⟨N,rfl⟩ : ∃ N : Nat,n = (N : Int):=⟨n.toNat,(Int.toNat_of_nonneg (by omega)).symm⟩
 have hw : IntKind.i64.wrap (((shp es 0).length : Int) - (A : Int)) = ((shp es 0).length : Int) - A:=w_i64 (by omega) (by omega)
 conv=>whnf
 rw [hw]
 refine onB_intro (fun g=>?_) (fun g=>?_)
 ·have g:=of_decide_eq_true g
  conv=>whnf
  exact hbad _ (.inr (.inr (.inr (by omega)))) rfl
 have g:=of_decide_eq_false g
 have hno : ¬ noPart es (A : Int) (N : Int):=by unfold noPart;omega
 rw [if_neg hno,ti_nat,ti_nat]
 have hAN : A + N≤(shp es 0).length:=by omega
 conv=>whnf
 refine loopV ttok ftok (riI_L es A N) ((nil_row 9 136 2 (idR []) rfl).trans (norm_weak [0,1,2,8,9,10] [some 0] rfl rfl)) ⟨0,rfl,Nat.zero_le _,rfl⟩ ?_
 rintro m st ⟨k,rfl,hk,rfl⟩
 have e1:=e64 (k:=A + k) (by omega)
 have hw2 : IntKind.i64.wrap ((A : Int) + (N : Int)) = ((A + N : Nat) : Int):=by rw [w_i64 (by omega) (by omega)];omega
 have hil:=idsL_len es A k
 conv=>whnf
 rw [hw2]
 refine onB_intro (fun g2=>?_) (fun g2=>?_)
 ·have g2:=of_decide_eq_true g2
  have hkN : k < N:=by omega
  have hpm : (shp es 0).getD (A + k) 0 < es.length:=by
   have hin:=getD_mem (d:=0) (show A + k < (shp es 0).length by omega)
   have:=(shp_mem' _ _ _ hin).2
   omega
  have hsn:=idsL_snoc es A k
  conv=>whnf
  refine ⟨by omega,?_⟩
  conv=>whnf
  rw [ti_nat]
  generalize (shp es 0).getD (A + k) 0 = p at hpm hsn
  refine ⟨by omega,?_⟩
  conv=>whnf
  rw [ti_nat]
  generalize (es.getD p en0) = e at hsn
  conv=>whnf
  refine ⟨fun _=>idF e.id,fun j hj2=>?_,?_⟩
  ·obtain rfl : j = 0:=by omega
   rfl
  conv=>whnf
  refine ⟨⟨by omega,by show (List.length (idsL es A k) + 1) * 8≤_;omega⟩,?_⟩
  conv=>whnf
  refine app1 (enc:=idF) (d:=(0,0)) (l:=idsL es A k) e.id (fun k hk=>rfl) rfl ?_
  conv=>whnf
  rw [e1,←hsn]
  exact ⟨N - (k + 1),_,by omega,norm_weak [0,1,2,8,9,10] [some 2] rfl rfl,k + 1,rfl,by omega,rfl⟩
 ·have g2:=of_decide_eq_false g2
  obtain rfl : k = N:=by omega
  conv=>whnf
  refine ⟨fun _ _=>rfl,?_⟩
  conv=>whnf
  all_goals first | rfl | exact ⟨rfl,rfl⟩
def lsI (cs : Ck) (l : List Nd) (a n : Nat) (m : Nat) (st : St) : Prop:=∃ k : Nat,m = n - k∧k≤n ∧
 st = ⟨64,0,[(1,vci .i64 (a : Int)),(3,.c (.own 0 0)),(8,.c (.row 1)),(37,vci .i64 (n : Int)),(38,vci .i64 (k : Int))],[some (.cells 117 (liF cs l)),some (.row 136 2 (idsL cs.flatten a k).length (idR (idsL cs.flatten a k)))]⟩
theorem lshown_c (cs : Ck) (l : List Nd) (hl : cs.length≤100000) (hs : sumL cs≤100000) (a n : Int) : CallV Tryz.prog 84 [liA cs l,vci .i64 a,vci .i64 n] []
  (fun r own'=>own' = []∧r = if noPart cs.flatten a n then .tup [.c (.v (.slice none 0 0)),erC 3] else .tup [idS_L (idsL cs.flatten a.toNat n.toNat),.c (.v .nilIface)]):=by
 have hfl : cs.flatten.length = sumL cs:=rfl
 have hse : shn cs.flatten = shnC cs:=rfl
 have hsl:=shnC_le cs
 have hsh : (shp cs.flatten 0).length = shnC cs:=shp_len _ _
 have hbad : ∀ r : AV,noPart cs.flatten a n→r = .tup [.c (.v (.slice none 0 0)),erC 3]→r = if noPart cs.flatten a n then .tup [.c (.v (.slice none 0 0)),erC 3] else .tup [idS_L (idsL cs.flatten a.toNat n.toNat),.c (.v .nilIface)]:=fun r h1 h2=>by rw [if_pos h1];exact h2
 refine callV_pure Tryz.func84 rfl ttok ftok rfl rfl rfl (Nat.le_of_ble_eq_true rfl) ?_
 conv=>whnf
 by_cases h1 : a < 0
 ·rw [decide_eq_true h1]
  conv=>whnf
  exact hbad _ (.inl h1) rfl
 rw [decide_eq_false h1]
 conv=>whnf
 by_cases h2 : n < 0
 ·rw [decide_eq_true h2]
  conv=>whnf
  exact hbad _ (.inr (.inl h2)) rfl
 rw [decide_eq_false h2]
 conv=>whnf
 refine call_pure (shown_c cs) rfl ?_
 rintro _ rfl
 conv=>whnf
 by_cases h3 : a > (shnC cs : Int)
 ·rw [decide_eq_true h3]
  conv=>whnf
  exact hbad _ (.inr (.inr (.inl (by omega)))) rfl
 rw [decide_eq_false h3]
 obtain ⟨A,rfl⟩ : ∃ A : Nat,a = (A : Int):=⟨a.toNat,(Int.toNat_of_nonneg (by omega)).symm⟩
 obtain ⟨N,rfl⟩ : ∃ N : Nat,n = (N : Int):=⟨n.toNat,(Int.toNat_of_nonneg (by omega)).symm⟩
 have hw : IntKind.i64.wrap ((shnC cs : Int) - (A : Int)) = (shnC cs : Int) - A:=w_i64 (by omega) (by omega)
 conv=>whnf
 refine call_pure (shown_c cs) rfl ?_
 rintro _ rfl
 conv=>whnf
 rw [hw]
 refine onB_intro (fun g=>?_) (fun g=>?_)
 ·have g:=of_decide_eq_true g
  conv=>whnf
  exact hbad _ (.inr (.inr (.inr (by omega)))) rfl
 have g:=of_decide_eq_false g
 have hno : ¬ noPart cs.flatten (A : Int) (N : Int):=by unfold noPart;omega
 rw [if_neg hno,ti_nat,ti_nat]
 have hAN : A + N≤shnC cs:=by omega
 conv=>whnf
 refine loopV ttok ftok (lsI cs l A N) ((nil_row 8 136 2 (idR []) rfl).trans (norm_weak [1,3,8,37,38] [some 0,some 1] rfl rfl)) ⟨0,rfl,Nat.zero_le _,rfl⟩ ?_
 rintro m st ⟨k,rfl,hk,rfl⟩
 have e1:=e64 (k:=k) (by omega)
 have hw2 : IntKind.i64.wrap ((A : Int) + (k : Int)) = ((A + k : Nat) : Int):=by rw [w_i64 (by omega) (by omega)];omega
 have hil:=idsL_len cs.flatten A k
 conv=>whnf
 refine onB_intro (fun g2=>?_) (fun g2=>?_)
 ·have g2:=of_decide_eq_true g2
  have hkN : k < N:=by omega
  have hpm : (shp cs.flatten 0).getD (A + k) 0 < cs.flatten.length:=by
   have hin:=getD_mem (d:=0) (show A + k < (shp cs.flatten 0).length by omega)
   have:=(shp_mem' _ _ _ hin).2
   omega
  have hsn:=idsL_snoc cs.flatten A k
  have hca:=at_c cs (by omega) (by omega) ((A + k : Nat) : Int)
  unfold atV at hca
  rw [if_pos (by rw [hse];omega),ti_nat] at hca
  generalize (shp cs.flatten 0).getD (A + k) 0 = p at hpm hsn hca
  have hce:=entry_c cs (by omega) (by omega) (p : Int)
  unfold enV at hce
  rw [if_pos (by omega),ti_nat] at hce
  generalize (cs.flatten.getD p en0) = e at hsn hce
  conv=>whnf
  rw [hw2]
  refine call_pure hca rfl ?_
  rintro _ rfl
  conv=>whnf
  refine call_pure hce rfl ?_
  rintro _ rfl
  conv=>whnf
  refine ⟨fun _=>idF e.id,fun j hj2=>?_,?_⟩
  ·obtain rfl : j = 0:=by omega
   rfl
  conv=>whnf
  refine ⟨⟨by omega,by show (List.length (idsL cs.flatten A k) + 1) * 8≤_;omega⟩,?_⟩
  conv=>whnf
  refine app1 (enc:=idF) (d:=(0,0)) (l:=idsL cs.flatten A k) e.id (fun k hk=>rfl) rfl ?_
  conv=>whnf
  rw [e1,←hsn]
  exact ⟨N - (k + 1),_,by omega,norm_weak [1,3,8,37,38] [some 0,some 4] rfl rfl,k + 1,rfl,by omega,rfl⟩
 ·have g2:=of_decide_eq_false g2
  obtain rfl : k = N:=by omega
  conv=>whnf
  refine ⟨fun _ _=>rfl,?_⟩
  conv=>whnf
  all_goals first | rfl | exact ⟨rfl,rfl⟩
end Go.Eng
namespace Go.Eng
open Go Go.RowKit Go.Proofs
abbrev itR (l : List It) : Nat→List IC:=fun k=>itF (l.getD k it0)
def hg0 : Hg:=⟨(0,0),false⟩
abbrev hgR (l : List Hg) : Nat→List IC:=fun k=>hgF (l.getD k hg0)
abbrev hgS (l : List Hg) : AV:=.c (.sl 3 l.length (hgR l))
def itsH (hs : HS) : List It:=(hs.map (fun p=>p.1)).reverse
def hgsH (hs : HS) : List Hg:=(hs.map (fun p=>p.2)).reverse
theorem itsH_len (hs : HS) : (itsH hs).length = hs.length:=by unfold itsH;rw [List.length_reverse,List.length_map]
theorem hgsH_len (hs : HS) : (hgsH hs).length = hs.length:=by unfold hgsH;rw [List.length_reverse,List.length_map]
theorem itsH_cons (x : It) (h : Hg) (r : HS) : itsH ((x,h) :: r) = itsH r ++ [x]:=by unfold itsH;rw [List.map_cons,List.reverse_cons]
theorem hgsH_cons (x : It) (h : Hg) (r : HS) : hgsH ((x,h) :: r) = hgsH r ++ [h]:=by unfold hgsH;rw [List.map_cons,List.reverse_cons]
theorem its_at {hs : HS} {i : Nat} (hi : i < hs.length) : ((itsH hs).getD i it0,(hgsH hs).getD i hg0) ∈ hs:=by
 have e1 : (itsH hs).getD i it0 = (hs[hs.length - 1 - i]).1:=by
  unfold itsH
  rw [List.getD_eq_getElem?_getD,List.getElem?_reverse (by simpa using hi),List.getElem?_map,List.length_map,List.getElem?_eq_getElem (by omega)];rfl
 have e2 : (hgsH hs).getD i hg0 = (hs[hs.length - 1 - i]).2:=by
  unfold hgsH
  rw [List.getD_eq_getElem?_getD,List.getElem?_reverse (by simpa using hi),List.getElem?_map,List.length_map,List.getElem?_eq_getElem (by omega)];rfl
 rw [e1,e2]
 exact List.getElem_mem _
theorem its_ex {hs : HS} {x : It} {h : Hg} (hm : (x,h) ∈ hs) : ∃ i,i < hs.length∧(itsH hs).getD i it0 = x∧(hgsH hs).getD i hg0 = h:=by
 obtain ⟨j,hj,e⟩:=List.getElem_of_mem hm
 refine ⟨hs.length - 1 - j,by omega,?_,?_⟩
 ·unfold itsH
  rw [List.getD_eq_getElem?_getD,List.getElem?_reverse (by simp;omega),List.getElem?_map,List.length_map,show hs.length - 1 - (hs.length - 1 - j) = j from by omega,List.getElem?_eq_getElem hj,e];rfl
 ·unfold hgsH
  rw [List.getD_eq_getElem?_getD,List.getElem?_reverse (by simp;omega),List.getElem?_map,List.length_map,show hs.length - 1 - (hs.length - 1 - j) = j from by omega,List.getElem?_eq_getElem hj,e];rfl
def fiE (l : List It) (a : I2) : Option Nat:=l.findIdx? (fun e=>e.id == a)
def fiN (l : List It) (a : I2) : Int:=match fiE l a with
 | some k=>(k : Int)
 | none=>-1
theorem fiE_at {l : List It} {a : I2} {k : Nat} (hk : k < l.length) (h : ∀ j,j < k→(l.getD j it0).id≠a) (e : (l.getD k it0).id = a) : fiE l a = some k:=by
 unfold fiE
 rw [List.findIdx?_eq_some_iff_getElem]
 refine ⟨hk,?_,fun j hj=>?_⟩
 ·rw [List.getD_eq_getElem?_getD,List.getElem?_eq_getElem hk] at e
  exact beq_iff_eq.2 e
 ·have:=h j hj
  rw [List.getD_eq_getElem?_getD,List.getElem?_eq_getElem (by omega)] at this
  simpa using this
theorem fiE_no {l : List It} {a : I2} (h : ∀ j,j < l.length→(l.getD j it0).id≠a) : fiE l a = none:=by
 unfold fiE
 rw [List.findIdx?_eq_none_iff]
 intro x hx
 obtain ⟨j,hj,rfl⟩:=List.getElem_of_mem hx
 have:=h j hj
 rw [List.getD_eq_getElem?_getD,List.getElem?_eq_getElem hj] at this
 simpa using this
theorem fiE_some {l : List It} {a : I2} {k : Nat} (h : fiE l a = some k) : k < l.length∧(l.getD k it0).id = a:=by
 unfold fiE at h
 rw [List.findIdx?_eq_some_iff_getElem] at h
 obtain ⟨h1,h2,_⟩:=h
 refine ⟨h1,?_⟩
 rw [List.getD_eq_getElem?_getD,List.getElem?_eq_getElem h1]
 exact beq_iff_eq.1 h2
theorem fiE_has {hs : HS} {a : I2} (ha : hasI hs a) : ∃ k,fiE (itsH hs) a = some k∧k < hs.length∧((itsH hs).getD k it0).id = a∧((itsH hs).getD k it0,(hgsH hs).getD k hg0) ∈ hs:=by
 cases hf : fiE (itsH hs) a with
 | some k =>
  obtain ⟨h1,h2⟩:=fiE_some hf
  rw [itsH_len] at h1
  exact ⟨k,rfl,h1,h2,its_at h1⟩
 | none =>
  exfalso
  obtain ⟨⟨x,h⟩,hm,rfl⟩:=ha
  obtain ⟨i,hi,e,_⟩:=its_ex hm
  unfold fiE at hf
  rw [List.findIdx?_eq_none_iff] at hf
  have:=hf _ (getD_mem (d:=it0) (show i < (itsH hs).length by rw [itsH_len];exact hi))
  rw [e] at this
  simp at this
theorem fiE_hasn {hs : HS} {a : I2} (ha : ¬ hasI hs a) : fiE (itsH hs) a = none:=by
 cases hf : fiE (itsH hs) a with
 | none=>rfl
 | some k =>
  obtain ⟨h1,h2⟩:=fiE_some hf
  rw [itsH_len] at h1
  exact absurd ⟨_,its_at h1,h2⟩ ha
def rfI_L (l : List It) (a : I2) (n : Nat) (st : St) : Prop:=∃ k : Nat,n = l.length - k∧k≤l.length∧(∀ j,j < k→(l.getD j it0).id≠a) ∧
 st = ⟨20,0,[(0,itS l),(3,.c (.own 0 0)),(5,vci .i64 (k : Int))],[some (.cells 136 (idF a))]⟩
theorem rfind_c (l : List It) (hl : l.length≤100000000) (a : I2) : CallV Tryz.prog 102 [itS l,idA a] [] (fun r own'=>own' = []∧r = vci .i64 (fiN l a)):=by
 refine callV_pure Tryz.func102 rfl ttok ftok rfl rfl rfl (Nat.le_of_ble_eq_true rfl) ?_
 conv=>whnf
 refine loopV ttok ftok (rfI_L l a) (norm_weak [0,3,5] [some 0] rfl rfl) ⟨0,rfl,Nat.zero_le _,fun j hj=>by omega,rfl⟩ ?_
 rintro n st ⟨k,rfl,hk,hj,rfl⟩
 have e1:=e64 (k:=k) (by omega)
 conv=>whnf
 refine onB_intro (fun h=>?_) (fun h=>?_)
 ·have h:=of_decide_eq_true h
  have hk2 : k < l.length:=by omega
  conv=>whnf
  refine drawV_join mixed (by kernel_rfl) ttok ?_
  conv=>whnf
  refine ⟨⟨by omega,by omega⟩,?_⟩
  conv=>whnf
  rw [ti_nat]
  refine onB_intro (fun g=>?_) (fun g=>?_)
  ·have g2 : (l.getD k it0).id = a:=by
    simp only [Bool.and_true,Bool.and_eq_true,beq_iff_eq] at g
    exact Prod.ext g.1 g.2
   have:=fiE_at hk2 hj g2
   conv=>whnf
   unfold fiN
   rw [this]
  ·have g2 : (l.getD k it0).id≠a:=fun e=>by
    rw [e] at g
    simp at g
   conv=>whnf
   rw [e1]
   refine ⟨l.length - (k + 1),_,by omega,norm_weak [0,3,5] [some 0] rfl rfl,k + 1,rfl,by omega,fun j h2=>?_,rfl⟩
   rcases Nat.lt_succ_iff_lt_or_eq.1 h2 with h3 | rfl
   ·exact hj j h3
   ·exact g2
 ·have h:=of_decide_eq_false h
  have:=fiE_no (l:=l) (a:=a) (fun j h2=>hj j (by omega))
  conv=>whnf
  unfold fiN
  rw [this]
theorem pth_len : ∀ (hs : HS) (a : I2),(pth hs a).length≤hs.length
 | [],a=>Nat.le_refl _
 | (x,h) :: r,a=>by
  unfold pth
  split
  ·have:=pth_len r h.on
   rw [List.length_append,List.length_singleton,List.length_cons]
   omega
  ·have:=pth_len r a
   rw [List.length_cons]
   omega
theorem bel_at {hs : HS} (ho : okH hs) {x : It} {h : Hg} (hm : (x,h) ∈ hs) (b : I2) : bel hs x.id b = (decide (h.on = b) || bel hs h.on b):=by
 unfold bel
 rw [und_at ho hm,und_at ho hm]
 by_cases e : h.on = b
 ·rw [decide_eq_true e,Bool.true_or]
  obtain ⟨o,s⟩:=h
  simp only at e
  subst e
  cases s
  ·rw [if_pos rfl];rfl
  ·rw [if_pos (show (⟨o,true⟩ : Hg) = ⟨o,true⟩ from rfl)]
   simp
 ·rw [decide_eq_false e,Bool.false_or,if_neg (fun g=>e (by rw [g])),if_neg (fun g=>e (by rw [g]))]
theorem bel_no {hs : HS} {a b : I2} (ha : ¬ hasI hs a) : bel hs a b = false:=by
 unfold bel
 rw [und_no ha,und_no ha];rfl
def rbI_L (hs : HS) (a b : I2) (m : Nat) (st : St) : Prop:=∃ (c : I2) (n : Nat),m = hs.length + 1 - n∧(pth hs c).length + n≤hs.length∧bel hs c b = bel hs a b ∧
 st = ⟨41,0,[(0,itS (itsH hs)),(1,hgS (hgsH hs)),(7,.c (.own 0 0)),(9,vci .i64 (fiN (itsH hs) c)),(10,vci .i64 (n : Int))],[some (.cells 136 (idF b))]⟩
theorem rbelow_c {hs : HS} (ho : okH hs) (hlen : hs.length≤100000) (a b : I2) : CallV Tryz.prog 253 [itS (itsH hs),hgS (hgsH hs),idA a,idA b] [] (fun r own'=>own' = []∧r = vcb (belR hs a b)):=by
 have hil:=itsH_len hs
 have hhl:=hgsH_len hs
 have hcase : ∀ c,(hasI hs c∧∃ k : Nat,fiN (itsH hs) c = (k : Int)∧k < hs.length∧((itsH hs).getD k it0).id = c∧((itsH hs).getD k it0,(hgsH hs).getD k hg0) ∈ hs)∨(¬ hasI hs c∧fiN (itsH hs) c = -1):=fun c=>by
  by_cases hc : hasI hs c
  ·obtain ⟨k,h1,h2,h3,h4⟩:=fiE_has hc
   exact .inl ⟨hc,k,by unfold fiN;rw [h1],h2,h3,h4⟩
  ·exact .inr ⟨hc,by unfold fiN;rw [fiE_hasn hc]⟩
 refine callV_pure Tryz.func253 rfl ttok ftok rfl rfl rfl (Nat.le_of_ble_eq_true rfl) ?_
 conv=>whnf
 unfold belR
 by_cases hz : b.1 = 0
 ·rw [beq_iff_eq.2 hz]
  conv=>whnf
  all_goals first | rfl | exact ⟨rfl,rfl⟩
 rw [beq_eq_false_iff_ne.2 hz]
 conv=>whnf
 refine call_pure (rfind_c (itsH hs) (by omega) a) rfl ?_
 rintro _ rfl
 conv=>whnf
 refine loopV ttok ftok (rbI_L hs a b) (norm_weak [0,1,7,9,10] [some 1] rfl rfl) ⟨a,0,rfl,pth_len hs a,rfl,rfl⟩ ?_
 rintro m st ⟨c,n,rfl,hn,hb,rfl⟩
 have e1:=e64 (k:=n) (by omega)
 rcases hcase c with ⟨hc,k,hk1,hk2,hk3,hk4⟩ | ⟨hc,hk1⟩
 ·have hpl : 0 < (pth hs c).length:=List.length_pos_iff.2 (pth_ne ho hc)
  have hba:=bel_at ho hk4 b
  have hpa:=pth_at ho hk4
  rw [hk3] at hba hpa
  rw [hk1]
  conv=>whnf
  refine onB_intro (fun g=>?_) (fun g=>?_)
  rotate_left
  ·exfalso
   simp [pickB,isLit,hil] at g
   omega
  conv=>whnf
  refine drawV_join mixed (by kernel_rfl) ttok ?_
  conv=>whnf
  refine ⟨⟨by omega,by omega⟩,?_⟩
  conv=>whnf
  rw [ti_nat]
  have hbe : (((hgsH hs).getD k hg0).on.1 == b.1 && (((hgsH hs).getD k hg0).on.2 == b.2 && true)) = decide (((hgsH hs).getD k hg0).on = b):=by
   rw [Bool.eq_iff_iff,decide_eq_true_iff,Bool.and_true,Bool.and_eq_true,beq_iff_eq,beq_iff_eq]
   exact ⟨fun e=>Prod.ext e.1 e.2,fun e=>by rw [e];exact ⟨rfl,rfl⟩⟩
  rw [hbe]
  by_cases he : ((hgsH hs).getD k hg0).on = b
  ·rw [decide_eq_true he] at hba ⊢
   conv=>whnf
   rw [←hb,hba]
   all_goals first | rfl | exact ⟨rfl,rfl⟩
  ·rw [decide_eq_false he] at hba ⊢
   rw [Bool.false_or,hb] at hba
   conv=>whnf
   refine ⟨⟨by omega,by omega⟩,?_⟩
   conv=>whnf
   rw [ti_nat]
   refine call_pure (rfind_c (itsH hs) (by omega) ((hgsH hs).getD k hg0).on) rfl ?_
   rintro _ rfl
   conv=>whnf
   rw [e1]
   refine ⟨hs.length + 1 - (n + 1),_,by omega,norm_weak [0,1,7,9,10] [some 0] rfl rfl,((hgsH hs).getD k hg0).on,n + 1,rfl,?_,hba.symm,rfl⟩
   rw [hpa] at hn
   rw [List.length_append,List.length_singleton] at hn
   omega
 ·rw [hk1]
  conv=>whnf
  refine onB_intro (fun g=>?_) (fun g=>?_)
  ·exfalso
   simp [pickB,isLit] at g
  conv=>whnf
  rw [←hb,bel_no hc]
  all_goals first | rfl | exact ⟨rfl,rfl⟩
theorem il_b (a b : I2) : (decide (a.1 < b.1) || (a.1 == b.1 && decide (a.2 < b.2))) = true↔il a b:=by
 unfold il
 rw [Bool.or_eq_true,Bool.and_eq_true,decide_eq_true_iff,decide_eq_true_iff,beq_iff_eq]
instance (a b : I2) : Decidable (il a b):=inferInstanceAs (Decidable (_∨_∧_))
theorem rbefore_c (a b : I2) : CallV Tryz.prog 110 [idA a,idA b] [] (fun r own'=>own' = []∧r = vcb (decide (il a b))):=by
 have hd : decide (il a b) = (decide (a.1 < b.1) || (a.1 == b.1 && decide (a.2 < b.2))):=by
  rw [Bool.eq_iff_iff,decide_eq_true_iff];exact (il_b a b).symm
 rw [hd]
 refine callV_pure Tryz.func110 rfl ttok ftok rfl rfl rfl (Nat.le_of_ble_eq_true rfl) ?_
 conv=>whnf
 cases h1 : decide (a.1 < b.1) <;> cases h2 : (a.1 == b.1)
 all_goals first | rfl | exact ⟨rfl,rfl⟩
def hgP (hs : HS) (x : It) : Hg:=if (x.right.1 != 0 && belR hs x.right x.left) = true then ⟨x.right,false⟩ else ⟨x.left,true⟩
theorem rplace_c {hs : HS} (ho : okH hs) (hlen : hs.length≤100000) (x : It) : CallV Tryz.prog 217 [itS (itsH hs),hgS (hgsH hs),.agg (itF x)] [] (fun r own'=>own' = []∧r = hgA (hgP hs x)):=by
 refine callV_pure Tryz.func217 rfl ttok ftok rfl rfl rfl (Nat.le_of_ble_eq_true rfl) ?_
 conv=>whnf
 refine call_pure (rbelow_c ho hlen x.right x.left) rfl ?_
 rintro _ rfl
 unfold hgP
 cases h1 : (x.right.1 != 0) <;> cases h2 : belR hs x.right x.left
 all_goals
  conv=>whnf
  rw [h1]
  conv=>whnf
  all_goals first | rfl | exact ⟨rfl,rfl⟩
def bldH : HS→Prop
 | []=>True
 | (x,h) :: r=>bldH r∧h = hgOf r x
theorem hgOf_raw (hs : HS) (x : It) : hgOf hs x = if x.left.1 = 0∧(hgP hs x).right = true then rootH else hgP hs x:=by
 unfold hgOf hgP
 by_cases h : (x.right.1 != 0 && belR hs x.right x.left) = true
 ·rw [if_pos h,if_pos h,if_neg (fun g=>by cases g.2)]
 ·rw [if_neg h,if_neg h]
  by_cases h2 : x.left.1 = 0
  ·rw [if_pos h2,if_pos ⟨h2,rfl⟩]
  ·rw [if_neg h2,if_neg (fun g=>h2 g.1)]
def firstH (hs : HS) (i : Nat) : HS:=hs.drop (hs.length - i)
theorem firstH_len {hs : HS} {i : Nat} (hi : i≤hs.length) : (firstH hs i).length = i:=by unfold firstH;rw [List.length_drop];omega
theorem firstH_its {hs : HS} {i : Nat} (hi : i≤hs.length) : itsH (firstH hs i) = (itsH hs).take i:=by
 unfold itsH firstH
 rw [List.map_drop,List.take_reverse,List.length_map]
theorem okH_drop : ∀ {hs : HS} (n : Nat),okH hs→okH (hs.drop n)
 | hs,0,h=>by rw [List.drop_zero];exact h
 | [],n + 1,h=>h
 | p :: r,n + 1,h=>by rw [List.drop_succ_cons];exact okH_drop n (by obtain ⟨x,g⟩:=p;exact h.1)
theorem bldH_drop : ∀ {hs : HS} (n : Nat),bldH hs→bldH (hs.drop n)
 | hs,0,h=>by rw [List.drop_zero];exact h
 | [],n + 1,h=>h
 | p :: r,n + 1,h=>by rw [List.drop_succ_cons];exact bldH_drop n (by obtain ⟨x,g⟩:=p;exact h.1)
theorem firstH_at {hs : HS} (hb : bldH hs) {i : Nat} (hi : i < hs.length) : (hgsH hs).getD i hg0 = hgOf (firstH hs i) ((itsH hs).getD i it0)∧firstH hs (i + 1) = ((itsH hs).getD i it0,(hgsH hs).getD i hg0) :: firstH hs i:=by
 have e1 : (itsH hs).getD i it0 = (hs[hs.length - 1 - i]).1:=by
  unfold itsH
  rw [List.getD_eq_getElem?_getD,List.getElem?_reverse (by simpa using hi),List.getElem?_map,List.length_map,List.getElem?_eq_getElem (by omega)];rfl
 have e2 : (hgsH hs).getD i hg0 = (hs[hs.length - 1 - i]).2:=by
  unfold hgsH
  rw [List.getD_eq_getElem?_getD,List.getElem?_reverse (by simpa using hi),List.getElem?_map,List.length_map,List.getElem?_eq_getElem (by omega)];rfl
 have e3 : firstH hs (i + 1) = hs[hs.length - 1 - i] :: firstH hs i:=by
  unfold firstH
  rw [List.drop_eq_getElem_cons (by omega)]
  congr 1
  ·congr 1;omega
  ·congr 1;omega
 have e4:=bldH_drop (hs.length - (i + 1)) hb
 have e5 : hs.drop (hs.length - (i + 1)) = hs[hs.length - 1 - i] :: firstH hs i:=e3
 rw [e5] at e4
 refine ⟨?_,by rw [e3,e1,e2]⟩
 rw [e1,e2]
 exact e4.2
def rhI (hs : HS) (n : Nat) (st : St) : Prop:=∃ i : Nat,n = hs.length - i∧i≤hs.length ∧
 st = ⟨39,0,[(0,itS (itsH hs)),(3,.c (.row 0)),(4,vci .i64 (i : Int))],[some (.row 295 3 (hgsH (firstH hs i)).length (hgR (hgsH (firstH hs i))))]⟩
theorem rhangs_c {hs : HS} (ho : okH hs) (hb : bldH hs) (hlen : hs.length≤100000) : CallV Tryz.prog 159 [itS (itsH hs)] [] (fun r own'=>own' = []∧r = hgS (hgsH hs)):=by
 have hil:=itsH_len hs
 have hhl:=hgsH_len hs
 refine callV_pure Tryz.func159 rfl ttok ftok rfl rfl rfl (Nat.le_of_ble_eq_true rfl) ?_
 conv=>whnf
 refine loopV ttok ftok (rhI hs) ((nil_row 3 295 3 (hgR []) rfl).trans (norm_weak [0,3,4] [some 0] rfl rfl)) ⟨0,rfl,Nat.zero_le _,by rw [show firstH hs 0 = [] from by unfold firstH;rw [Nat.sub_zero,List.drop_length]];rfl⟩ ?_
 rintro m st ⟨i,rfl,hi,rfl⟩
 have e1:=e64 (k:=i) (by omega)
 have hF:=firstH_len hi
 have hfi:=firstH_its hi
 have hfl : (hgsH (firstH hs i)).length = i:=by rw [hgsH_len,hF]
 have hoF : okH (firstH hs i):=okH_drop _ ho
 conv=>whnf
 refine onB_intro (fun h=>?_) (fun h=>?_)
 ·have h:=of_decide_eq_true h
  have hil2 : i < hs.length:=by omega
  obtain ⟨ha1,ha2⟩:=firstH_at hb hil2
  have hti : ((itsH hs).take i).length = i:=by rw [List.length_take];omega
  conv=>whnf
  refine drawV_at ⟨39,0,[(0,itS (itsH hs)),(3,.c (.row 0)),(4,vci .i64 (i : Int)),(5,.c (.own 1 0))],[some (.row 295 3 (hgsH (firstH hs i)).length (hgR (hgsH (firstH hs i)))),some (.cells 295 (hgF (hgP (firstH hs i) ((itsH hs).getD i it0))))]⟩ ?_ ?_
  ·refine drawV_sched (.rd 0 (.rd 1 (.rd 2 (.rd 3 (.rd 4 (.rd 5 (.rd 6 (.rd 7 (.alt (.ef 8 (.ef 9 (.ef 10 (.nil)))) (.ef 9 (.ef 8 (.ef 10 (.nil))))))))))))) [0,1] mixed (by kernel_rfl) ttok ftok ?_
   conv=>whnf
   have hpl:=rplace_c hoF (by omega) ((itsH hs).getD i it0)
   have hfil : (itsH (firstH hs i)).length = i:=by rw [hfi,hti]
   refine ⟨by omega,(itsH (firstH hs i)).length,itR (itsH (firstH hs i)),by omega,fun k hk=>?_,?_⟩
   ·show itF ((itsH (firstH hs i)).getD k it0) = itF ((itsH hs).getD (0 + k) it0)
    rw [Nat.zero_add,hfi,getD_take _ _ _ _ (by omega)]
   conv=>whnf
   refine ⟨by omega,?_⟩
   conv=>whnf
   rw [ti_nat]
   refine ⟨?_,?_⟩
   ·conv=>whnf
    refine (callV_lendS 0 rfl (fun j hj=>rfl) hpl rfl (fun r hr=>by subst hr;rfl)).mono ?_
    rintro r own2 ⟨rfl,rfl⟩
    conv=>whnf
    exact norm_weak [0,3,4,5] [some 0,some 1] rfl rfl
   ·conv=>whnf
    refine (callV_lendS 0 rfl (fun j hj=>rfl) hpl rfl (fun r hr=>by subst hr;rfl)).mono ?_
    rintro r own2 ⟨rfl,rfl⟩
    conv=>whnf
    exact norm_weak [0,3,4,5] [some 0,some 1] rfl rfl
  ·have hraw:=hgOf_raw (firstH hs i) ((itsH hs).getD i it0)
   rw [←ha1] at hraw
   generalize hgP (firstH hs i) ((itsH hs).getD i it0) = p at hraw
   have hsn : hgsH (firstH hs (i + 1)) = hgsH (firstH hs i) ++ [(hgsH hs).getD i hg0]:=by rw [ha2,hgsH_cons]
   conv=>whnf
   refine ⟨by omega,?_⟩
   conv=>whnf
   rw [ti_nat]
   by_cases hz : ((itsH hs).getD i it0).left.1 = 0∧p.right = true
   ·rw [if_pos hz] at hraw
    obtain ⟨po,pr⟩:=p
    obtain ⟨hz1,hz2⟩:=hz
    simp only at hz2
    subst hz2
    rw [beq_iff_eq.2 hz1]
    conv=>whnf
    refine ⟨fun _=>hgF rootH,fun j hj2=>?_,?_⟩
    ·obtain rfl : j = 0:=by omega
     rfl
    conv=>whnf
    refine ⟨⟨by omega,by show (List.length (hgsH (firstH hs i)) + 1) * 12≤_;omega⟩,?_⟩
    conv=>whnf
    refine app1 (enc:=hgF) (d:=hg0) (l:=hgsH (firstH hs i)) rootH (fun k hk=>rfl) rfl ?_
    conv=>whnf
    rw [hraw] at hsn
    rw [e1,←hsn]
    exact ⟨hs.length - (i + 1),_,by omega,norm_weak [0,3,4] [some 3] rfl rfl,i + 1,rfl,by omega,rfl⟩
   ·rw [if_neg hz] at hraw
    refine onB_intro (fun g=>?_) (fun g=>?_)
    ·exfalso
     refine hz ?_
     cases h1 : (((itsH hs).getD i it0).left.1 == 0) <;> cases h2 : p.right <;> rw [h1,h2] at g <;> first | (cases g;done) | exact ⟨beq_iff_eq.1 h1,rfl⟩
    conv=>whnf
    refine ⟨fun _=>hgF p,fun j hj2=>?_,?_⟩
    ·obtain rfl : j = 0:=by omega
     rfl
    conv=>whnf
    refine ⟨⟨by omega,by show (List.length (hgsH (firstH hs i)) + 1) * 12≤_;omega⟩,?_⟩
    conv=>whnf
    refine app1 (enc:=hgF) (d:=hg0) (l:=hgsH (firstH hs i)) p (fun k hk=>rfl) rfl ?_
    conv=>whnf
    rw [hraw] at hsn
    rw [e1,←hsn]
    exact ⟨hs.length - (i + 1),_,by omega,norm_weak [0,3,4] [some 3] rfl rfl,i + 1,rfl,by omega,rfl⟩
 ·have h:=of_decide_eq_false h
  have : i = hs.length:=by omega
  subst this
  rw [show firstH hs hs.length = hs from by unfold firstH;rw [Nat.sub_self,List.drop_zero]]
  conv=>whnf
  refine ⟨fun _ _=>rfl,?_⟩
  conv=>whnf
  all_goals first | rfl | exact ⟨rfl,rfl⟩
end Go.Eng
namespace Go.Eng
theorem nodup_len {α : Type} [BEq α] [LawfulBEq α] : ∀ {l m : List α},l.Nodup→(∀ a,a ∈ l→a ∈ m)→l.length≤m.length
 | [],m,_,_=>Nat.zero_le _
 | a :: l,m,hn,hs=>by
  rw [List.nodup_cons] at hn
  have ha:=hs a (List.mem_cons_self ..)
  have h1 : l.length≤(m.erase a).length:=nodup_len hn.2 (fun b hb=>(List.mem_erase_of_ne (fun e=>hn.1 (by rw [←e];exact hb))).2 (hs b (List.mem_cons_of_mem _ hb)))
  rw [List.length_erase_of_mem ha] at h1
  have : 0 < m.length:=List.length_pos_of_mem ha
  rw [List.length_cons]
  omega
structure wkP (hs : HS) (h : Hg) (w : List I2) : Prop where
 srt : w.Pairwise (fun a b=>klt (kyO hs a) (kyO hs b))
 mem : ∀ e,e ∈ w↔(und hs e h).isSome = true
theorem srt_nodup {hs : HS} {w : List I2} (h : w.Pairwise (fun a b=>klt (kyO hs a) (kyO hs b))) : w.Nodup:=by
 refine List.Pairwise.imp (fun {a b} hab=>?_) h
 intro e
 subst e
 exact klt_irr _ hab
theorem wkP.len {hs : HS} {h : Hg} {w : List I2} (k : wkP hs h w) : w.length≤hs.length:=by
 have:=nodup_len (m:=idsH hs) (srt_nodup k.srt) (fun a ha=>mem_idsH.2 (by
  have h1:=(k.mem a).1 ha
  by_cases g : hasI hs a
  ·exact g
  ·rw [und_no g] at h1;cases h1))
 unfold idsH at this
 rwa [List.length_map] at this
theorem okOn_kid {hs : HS} (ho : okH hs) {x : It} {h : Hg} (hm : (x,h) ∈ hs) (s : Bool) : okOn hs ⟨x.id,s⟩:=.inr ⟨okH_none ho ⟨_,hm,rfl⟩,_,hm,rfl⟩
theorem und_kid {hs : HS} (ho : okH hs) {x : It} {h : Hg} (hm : (x,h) ∈ hs) (e : I2) : und hs e h = some x.id↔((und hs e ⟨x.id,false⟩).isSome = true∨e = x.id∨(und hs e ⟨x.id,true⟩).isSome = true):=by
 have hoo:=on_ok ho hm
 have hp:=pth_at ho hm
 constructor
 ·intro hu
  obtain ⟨t,ht⟩:=(und_iff ho hoo _).1 hu
  have ht2 : pth hs e = pth hs x.id ++ t:=by rw [ht,hp,List.append_assoc];rfl
  cases t with
  | nil =>
   rw [List.append_nil] at ht2
   have hx : hasI hs x.id:=⟨_,hm,rfl⟩
   exact .inr (.inl (pth_inj ho (hasI_of (by rw [ht2];exact pth_ne ho hx)) hx ht2))
  | cons b t =>
   have hb:=pth_side hs e b (by rw [ht2];simp)
   rcases hb with hb | hb
   ·have:=(und_iff ho (okOn_kid ho hm false) b.2).2 ⟨t,by rw [ht2,show sideN ⟨x.id,false⟩ = 0 from rfl,←hb]⟩
    exact .inl (by rw [this];rfl)
   ·have:=(und_iff ho (okOn_kid ho hm true) b.2).2 ⟨t,by rw [ht2,show sideN ⟨x.id,true⟩ = 2 from rfl,←hb]⟩
    exact .inr (.inr (by rw [this];rfl))
 ·have key : ∀ s,(und hs e ⟨x.id,s⟩).isSome = true→und hs e h = some x.id:=fun s hi=>by
   obtain ⟨k,hk⟩:=Option.isSome_iff_exists.1 hi
   obtain ⟨t,ht⟩:=(und_iff ho (okOn_kid ho hm s) k).1 hk
   refine (und_iff ho hoo _).2 ⟨(sideN ⟨x.id,s⟩,k) :: t,?_⟩
   rw [ht]
   show pth hs x.id ++ _ = _
   rw [hp,List.append_assoc];rfl
  rintro (h1 | rfl | h1)
  ·exact key _ h1
  ·rw [und_at ho hm,if_pos rfl]
  ·exact key _ h1
theorem kid_lt {hs : HS} (ho : okH hs) {x : It} {h : Hg} (hm : (x,h) ∈ hs) {e : I2} (hi : (und hs e ⟨x.id,false⟩).isSome = true) : klt (kyO hs e) (kyO hs x.id):=by
 obtain ⟨k,hk⟩:=Option.isSome_iff_exists.1 hi
 obtain ⟨t,ht⟩:=(und_iff ho (okOn_kid ho hm false) k).1 hk
 unfold kyO
 rw [ht,List.append_assoc]
 exact klt_app _ (Or.inl (Or.inl (show (0 : Nat) < 1 by omega)))
theorem kid_gt {hs : HS} (ho : okH hs) {x : It} {h : Hg} (hm : (x,h) ∈ hs) {e : I2} (hi : (und hs e ⟨x.id,true⟩).isSome = true) : klt (kyO hs x.id) (kyO hs e):=by
 obtain ⟨k,hk⟩:=Option.isSome_iff_exists.1 hi
 obtain ⟨t,ht⟩:=(und_iff ho (okOn_kid ho hm true) k).1 hk
 unfold kyO
 rw [ht,List.append_assoc]
 exact klt_app _ (Or.inl (Or.inl (show (1 : Nat) < 2 by omega)))
theorem kids_lt {hs : HS} (ho : okH hs) {h : Hg} (hh : okOn hs h) {e1 e2 k1 k2 : I2} (h1 : und hs e1 h = some k1) (h2 : und hs e2 h = some k2) (hl : il k1 k2) : klt (kyO hs e1) (kyO hs e2):=by
 obtain ⟨t1,g1⟩:=(und_iff ho hh k1).1 h1
 obtain ⟨t2,g2⟩:=(und_iff ho hh k2).1 h2
 unfold kyO
 rw [g1,g2,List.append_assoc,List.append_assoc]
 exact klt_app _ (Or.inl (Or.inr ⟨rfl,hl⟩))
theorem its_inj {hs : HS} (ho : okH hs) {i j : Nat} (hi : i < hs.length) (hj : j < hs.length) (hne : i≠j) : ((itsH hs).getD i it0).id≠((itsH hs).getD j it0).id:=by
 have hn:=idsH_nodup ho
 have e : ∀ k,k < hs.length→((itsH hs).getD k it0).id = (idsH hs)[hs.length - 1 - k]'(by unfold idsH;rw [List.length_map];omega):=fun k hk=>by
  unfold itsH idsH
  rw [List.getD_eq_getElem?_getD,List.getElem?_reverse (by simpa using hk),List.getElem?_map,List.length_map,List.getElem?_eq_getElem (by omega),List.getElem_map];rfl
 rw [e i hi,e j hj]
 intro g
 have:=(List.getElem_inj hn).1 g
 omega
structure wkI (hs : HS) (h : Hg) (d : List Bool) (w : List I2) (n : Nat) : Prop where
 dl : d.length = hs.length
 dk : ∀ i,i < hs.length→d.getD i false = true→(hgsH hs).getD i hg0 = h
 ws : w.Pairwise (fun a b=>klt (kyO hs a) (kyO hs b))
 wm : ∀ e,e ∈ w↔∃ i,i < hs.length∧d.getD i false = true∧und hs e h = some ((itsH hs).getD i it0).id
 lo : ∀ i j,i < hs.length→j < hs.length→d.getD i false = true→d.getD j false = false→(hgsH hs).getD j hg0 = h→il ((itsH hs).getD i it0).id ((itsH hs).getD j it0).id
 ct : d.countP (fun b=>b) = n
theorem countP_set : ∀ {d : List Bool} {b : Nat},b < d.length→d.getD b false = false→(d.set b true).countP (fun b=>b) = d.countP (fun b=>b) + 1
 | [],b,hb,_=>by cases hb
 | x :: d,0,_,hx=>by
  have : x = false:=by simpa using hx
  subst this
  simp
 | x :: d,b + 1,hb,hx=>by
  have h1 : (d.set b true).countP (fun b=>b) = d.countP (fun b=>b) + 1:=countP_set (by simpa using hb) (by simpa using hx)
  rw [List.set_cons_succ,List.countP_cons,List.countP_cons,h1]
  omega
theorem set_getD {d : List Bool} {b i : Nat} (hb : b < d.length) : (d.set b true).getD i false = if i = b then true else d.getD i false:=by
 rw [List.getD_eq_getElem?_getD,List.getElem?_set]
 by_cases h : i = b
 ·subst h;simp [hb]
 ·rw [if_neg (Ne.symm h),if_neg h,←List.getD_eq_getElem?_getD]
theorem wkI.step {hs : HS} (ho : okH hs) {h : Hg} {d : List Bool} {w : List I2} {n : Nat} (k : wkI hs h d w n) {b : Nat} (hb : b < hs.length) (hbk : (hgsH hs).getD b hg0 = h) (hbd : d.getD b false = false)
  (hmin : ∀ j,j < hs.length→(hgsH hs).getD j hg0 = h→d.getD j false = false→¬ il ((itsH hs).getD j it0).id ((itsH hs).getD b it0).id)
  {wl wr : List I2} (hl : wkP hs ⟨((itsH hs).getD b it0).id,false⟩ wl) (hr : wkP hs ⟨((itsH hs).getD b it0).id,true⟩ wr) :
  wkI hs h (d.set b true) (w ++ wl ++ [((itsH hs).getD b it0).id] ++ wr) (n + 1):=by
 have hm : ((itsH hs).getD b it0,h) ∈ hs:=by have:=its_at hb;rwa [hbk] at this
 have hoo:=on_ok ho hm
 have hbl : b < d.length:=by rw [k.dl];exact hb
 have hlt : ∀ e,e ∈ w→∀ e2,und hs e2 h = some ((itsH hs).getD b it0).id→klt (kyO hs e) (kyO hs e2):=fun e he e2 h2=>by
  obtain ⟨i,hi,hd,hu⟩:=(k.wm e).1 he
  exact kids_lt ho hoo hu h2 (k.lo i b hi hb hd hbd hbk)
 have hul : ∀ e,e ∈ wl→und hs e h = some ((itsH hs).getD b it0).id:=fun e he=>(und_kid ho hm e).2 (.inl ((hl.mem e).1 he))
 have hur : ∀ e,e ∈ wr→und hs e h = some ((itsH hs).getD b it0).id:=fun e he=>(und_kid ho hm e).2 (.inr (.inr ((hr.mem e).1 he)))
 have hub : und hs ((itsH hs).getD b it0).id h = some ((itsH hs).getD b it0).id:=(und_kid ho hm _).2 (.inr (.inl rfl))
 refine ⟨by rw [List.length_set];exact k.dl,fun i hi hd=>?_,?_,fun e=>?_,fun i j hi hj hd1 hd2 hk2=>?_,by rw [countP_set hbl hbd,k.ct]⟩
 ·rw [set_getD hbl] at hd
  split at hd
  ·rename_i e;rw [e];exact hbk
  ·exact k.dk i hi hd
 ·rw [List.pairwise_append]
  refine ⟨?_,hr.srt,fun a ha c hc=>?_⟩
  ·rw [List.pairwise_append]
   refine ⟨?_,List.pairwise_singleton _ _,fun a ha c hc=>?_⟩
   ·rw [List.pairwise_append]
    exact ⟨k.ws,hl.srt,fun a ha c hc=>hlt a ha c (hul c hc)⟩
   ·rw [List.mem_singleton] at hc
    subst hc
    rcases List.mem_append.1 ha with ha | ha
    ·exact hlt a ha _ hub
    ·exact kid_lt ho hm ((hl.mem a).1 ha)
  ·have hg:=kid_gt ho hm ((hr.mem c).1 hc)
   rcases List.mem_append.1 ha with ha | ha
   ·rcases List.mem_append.1 ha with ha | ha
    ·exact hlt a ha c (hur c hc)
    ·exact klt_tr (kid_lt ho hm ((hl.mem a).1 ha)) hg
   ·rw [List.mem_singleton] at ha
    subst ha
    exact hg
 ·rw [List.mem_append,List.mem_append,List.mem_append,List.mem_singleton,k.wm e,hl.mem e,hr.mem e]
  constructor
  ·rintro (((⟨i,hi,hd,hu⟩ | h1) | h1) | h1)
   ·refine ⟨i,hi,?_,hu⟩
    rw [set_getD hbl]
    split
    ·rfl
    ·exact hd
   ·exact ⟨b,hb,by rw [set_getD hbl,if_pos rfl],(und_kid ho hm e).2 (.inl h1)⟩
   ·exact ⟨b,hb,by rw [set_getD hbl,if_pos rfl],(und_kid ho hm e).2 (.inr (.inl h1))⟩
   ·exact ⟨b,hb,by rw [set_getD hbl,if_pos rfl],(und_kid ho hm e).2 (.inr (.inr h1))⟩
  ·rintro ⟨i,hi,hd,hu⟩
   rw [set_getD hbl] at hd
   split at hd
   ·rename_i e2
    subst e2
    rcases (und_kid ho hm e).1 hu with h1 | h1 | h1
    ·exact .inl (.inl (.inr h1))
    ·exact .inl (.inr h1)
    ·exact .inr h1
   ·exact .inl (.inl (.inl ⟨i,hi,hd,hu⟩))
 ·rw [set_getD hbl] at hd1 hd2
  split at hd2
  ·cases hd2
  ·rename_i hjb
   split at hd1
   ·rename_i e
    subst e
    rcases il_tri (its_inj ho hj hi hjb) with g | g
    ·exact absurd g (hmin j hj hk2 hd2)
    ·exact g
   ·exact k.lo i j hi hj hd1 hd2 hk2
theorem wkI.done {hs : HS} (ho : okH hs) {h : Hg} {d : List Bool} {w : List I2} {n : Nat} (k : wkI hs h d w n) (hall : ∀ j,j < hs.length→(hgsH hs).getD j hg0 = h→d.getD j false = true) : wkP hs h w:=by
 refine ⟨k.ws,fun e=>?_⟩
 rw [k.wm e]
 constructor
 ·rintro ⟨i,_,_,hu⟩
  rw [hu];rfl
 ·intro hi
  obtain ⟨q,hq⟩:=Option.isSome_iff_exists.1 hi
  obtain ⟨x,hx,rfl,_⟩:=und_some ho _ e h q rfl hq
  obtain ⟨i,hi,e1,e2⟩:=its_ex hx
  exact ⟨i,hi,hall i hi e2,by rw [hq,e1]⟩
theorem wkI.len {hs : HS} {h : Hg} {d : List Bool} {w : List I2} {n : Nat} (k : wkI hs h d w n) : w.length≤hs.length:=by
 have:=nodup_len (m:=idsH hs) (srt_nodup k.ws) (fun a ha=>mem_idsH.2 (by
  obtain ⟨i,_,_,hu⟩:=(k.wm a).1 ha
  by_cases g : hasI hs a
  ·exact g
  ·rw [und_no g] at hu;cases hu))
 unfold idsH at this
 rwa [List.length_map] at this
theorem wkI.full {hs : HS} {h : Hg} {d : List Bool} {w : List I2} (k : wkI hs h d w hs.length) : ∀ j,j < hs.length→d.getD j false = true:=fun j hj=>by
 have h1 : d.countP (fun b=>b) = d.length:=by rw [k.ct,k.dl]
 have h2:=List.countP_eq_length.1 h1
 have hjl : j < d.length:=by rw [k.dl];exact hj
 exact h2 _ (getD_mem hjl)
theorem wkP.ord {hs : HS} (ho : okH hs) {w : List I2} (k : wkP hs rootH w) : isOrd hs w:=by
 refine ⟨?_,k.srt⟩
 have key : ∀ n (y : It) (g : Hg),(pth hs y.id).length = n→(y,g) ∈ hs→(und hs y.id rootH).isSome = true:=by
  intro n
  induction n with
  | zero=>intro y g hn hm;exact absurd (List.eq_nil_of_length_eq_zero hn) (pth_ne ho ⟨(y,g),hm,rfl⟩)
  | succ n ih =>
   intro y g hn hm
   rw [und_at ho hm]
   split
   ·rfl
   ·rename_i hg
    rcases on_ok ho hm with h1 | ⟨_,⟨z,k⟩,hz,hze⟩
    ·exact absurd h1 hg
    ·rw [pth_at ho hm] at hn
     simp at hn
     rw [←hze]
     exact ih z k (by rw [hze];exact hn) hz
 refine (List.perm_ext_iff_of_nodup (srt_nodup k.srt) (idsH_nodup ho)).2 (fun a=>?_)
 rw [k.mem a,mem_idsH]
 constructor
 ·intro h
  by_cases g : hasI hs a
  ·exact g
  ·rw [und_no g] at h;cases h
 ·rintro ⟨⟨y,g⟩,hm,rfl⟩
  exact key _ y g rfl hm
end Go.Eng
namespace Go.Eng
open Go Go.RowKit Go.Proofs
abbrev blR (d : List Bool) : Nat→List IC:=fun k=>[.v (.bool (d.getD k false))]
def rwI (hs : HS) (h : Hg) (m : Nat) (st : St) : Prop:=∃ (n : Nat) (d : List Bool) (w : List I2),m = hs.length - n∧n≤hs.length∧wkI hs h d w n ∧
 st = ⟨92,0,[(0,itS (itsH hs)),(1,hgS (hgsH hs)),(5,.c (.own 0 0)),(7,.c (.row 1)),(8,.c (.row 2)),(9,vci .i64 (n : Int))],[some (.cells 295 (hgF h)),some (.row 136 2 w.length (idR w)),some (.row 4 1 hs.length (blR d))]⟩
def bsP (hs : HS) (h : Hg) (d : List Bool) (q : Nat) (b : Int) : Prop:=(b = -1∧∀ j,j < q→(hgsH hs).getD j hg0 = h→d.getD j false = true) ∨
 (∃ p : Nat,b = (p : Int)∧p < q∧(hgsH hs).getD p hg0 = h∧d.getD p false = false∧∀ j,j < q→(hgsH hs).getD j hg0 = h→d.getD j false = false→¬ il ((itsH hs).getD j it0).id ((itsH hs).getD p it0).id)
def rwQ (hs : HS) (h : Hg) (d : List Bool) (w : List I2) (n : Nat) (m : Nat) (st : St) : Prop:=∃ (q : Nat) (b : Int),m = hs.length - q∧q≤hs.length∧bsP hs h d q b ∧
 st = ⟨92,0,[(0,itS (itsH hs)),(1,hgS (hgsH hs)),(5,.c (.own 0 0)),(7,.c (.row 1)),(8,.c (.row 2)),(9,vci .i64 (n : Int)),(10,vci .i64 b),(11,vci .i64 (q : Int))],[some (.cells 295 (hgF h)),some (.row 136 2 w.length (idR w)),some (.row 4 1 hs.length (blR d))]⟩
def wkC (hs : HS) (h : Hg) : Prop:=CallV Tryz.prog 158 [itS (itsH hs),hgS (hgsH hs),hgA h] [] (fun r own'=>∃ w : List I2,wkP hs h w∧r = .c (.row 0)∧own' = [some (.row 136 2 w.length (idR w))])
theorem rwalk_step {hs : HS} (ho : okH hs) (hlen : hs.length≤100000) (h : Hg) (ih : ∀ x,(x,h) ∈ hs→∀ s,wkC hs ⟨x.id,s⟩) : wkC hs h:=by
 have hil:=itsH_len hs
 have hhl:=hgsH_len hs
 unfold wkC
 refine callV_own Tryz.func158 rfl ttok ftok rfl rfl rfl (Nat.le_of_ble_eq_true rfl) rfl ?_
 conv=>whnf
 have hN : ((itsH hs).length : Int).toNat = hs.length:=by rw [ti_nat,hil]
 refine ⟨⟨by omega,rfl,by show ((itsH hs).length : Int) * 1≤_;omega,by omega⟩,hs.length,blR (List.replicate hs.length false),hN.symm,fun k hk=>?_,?_⟩
 ·show [IC.v (.bool ((List.replicate hs.length false).getD k false))] = [IC.v (.bool false)]
  rw [List.getD_eq_getElem?_getD,List.getElem?_replicate]
  split <;> rfl
 conv=>whnf
 refine loopV_cut 0 (fun st=>∃ w,wkP hs h w∧st = ⟨92,0,[(7,.c (.row 0))],[some (.row 136 2 w.length (idR w))]⟩) ?_ ?_
 ·refine loopV ttok ftok (rwI hs h) ((nil_row 7 136 2 (idR []) rfl).trans (norm_weak [0,1,5,7,8,9] [some 0,some 2,some 1] rfl rfl)) ⟨0,List.replicate hs.length false,[],rfl,Nat.zero_le _,?_,rfl⟩ ?_
  ·have hd0 : ∀ i,(List.replicate hs.length false).getD i false = false:=fun i=>by
    rw [List.getD_eq_getElem?_getD,List.getElem?_replicate]
    split <;> rfl
   refine ⟨List.length_replicate ..,fun i hi hd=>?_,List.Pairwise.nil,fun e=>⟨fun he=>(by cases he),fun ⟨i,hi,hd,_⟩=>?_⟩,fun i j hi hj hd=>?_,?_⟩
   ·rw [hd0] at hd;cases hd
   ·rw [hd0] at hd;cases hd
   ·rw [hd0] at hd;cases hd
   ·rw [List.countP_eq_zero]
    intro a ha
    rw [List.eq_of_mem_replicate ha]
    simp
  rintro m st ⟨n,d,w,rfl,hn,hW,rfl⟩
  have e1:=e64 (k:=n) (by omega)
  have hwl:=hW.len
  conv=>whnf
  refine onB_intro (fun g=>?_) (fun g=>?_)
  rotate_left
  ·have g:=of_decide_eq_false g
   obtain rfl : n = hs.length:=by omega
   conv=>whnf
   exact ⟨rfl,_,norm_weak [7] [some 1] rfl rfl,w,hW.done ho (fun j hj _=>hW.full j hj),rfl⟩
  have g:=of_decide_eq_true g
  have hnl : n < hs.length:=by omega
  conv=>whnf
  refine loopV_cut 2 (fun st=>∃ b,bsP hs h d hs.length b∧st = ⟨92,0,[(0,itS (itsH hs)),(1,hgS (hgsH hs)),(5,.c (.own 0 0)),(7,.c (.row 1)),(8,.c (.row 2)),(9,vci .i64 (n : Int)),(10,vci .i64 b)],[some (.cells 295 (hgF h)),some (.row 136 2 w.length (idR w)),some (.row 4 1 hs.length (blR d))]⟩) ?_ ?_
  ·refine loopV ttok ftok (rwQ hs h d w n) (norm_weak [0,1,5,7,8,9,10,11] [some 0,some 1,some 2] rfl rfl) ⟨0,-1,rfl,Nat.zero_le _,.inl ⟨rfl,fun j hj=>by omega⟩,rfl⟩ ?_
   rintro m st ⟨q,b,rfl,hq,hb,rfl⟩
   have e2:=e64 (k:=q) (by omega)
   conv=>whnf
   refine onB_intro (fun g2=>?_) (fun g2=>?_)
   rotate_left
   ·have g2:=of_decide_eq_false g2
    obtain rfl : q = hs.length:=by omega
    conv=>whnf
    exact ⟨rfl,_,norm_weak [0,1,5,7,8,9,10] [some 0,some 1,some 2] rfl rfl,b,hb,rfl⟩
   have g2:=of_decide_eq_true g2
   have hql : q < hs.length:=by omega
   conv=>whnf
   refine drawV_join mixed (by kernel_rfl) ttok ?_
   conv=>whnf
   refine ⟨⟨by omega,by omega⟩,?_⟩
   conv=>whnf
   refine ⟨?_,?_⟩
   ·conv=>whnf
    intro g1
    conv=>whnf
    omega
   conv=>whnf
   rw [ti_nat,hg_beq]
   refine onB_intro (fun g3=>?_) (fun g3=>?_)
   ·have g3 : (hgsH hs).getD q hg0 = h→d.getD q false = true:=fun e=>by
     rw [decide_eq_true e] at g3
     simpa [pickB,isLit] using g3
    conv=>whnf
    rw [e2]
    refine ⟨hs.length - (q + 1),_,by omega,norm_weak [0,1,5,7,8,9,10,11] [some 0,some 1,some 2] rfl rfl,q + 1,b,rfl,by omega,?_,rfl⟩
    rcases hb with ⟨rfl,h1⟩ | ⟨p,rfl,h1,h2,h3,h4⟩
    ·refine .inl ⟨rfl,fun j hj hk=>?_⟩
     rcases Nat.lt_succ_iff_lt_or_eq.1 hj with g4 | rfl
     ·exact h1 j g4 hk
     ·exact g3 hk
    ·refine .inr ⟨p,rfl,by omega,h2,h3,fun j hj hk hd=>?_⟩
     rcases Nat.lt_succ_iff_lt_or_eq.1 hj with g4 | rfl
     ·exact h4 j g4 hk hd
     ·rw [g3 hk] at hd;cases hd
   have g4 : (hgsH hs).getD q hg0 = h∧d.getD q false = false:=by
    by_cases e : (hgsH hs).getD q hg0 = h
    ·rw [decide_eq_true e] at g3
     exact ⟨e,by simpa [pickB,isLit] using g3⟩
    ·rw [decide_eq_false e] at g3
     simp [pickB,isLit] at g3
   obtain ⟨hqk,hqd⟩:=g4
   rcases hb with ⟨rfl,h1⟩ | ⟨p,rfl,h1,h2,h3,h4⟩
   ·conv=>whnf
    refine drawV_quiet mixed (by kernel_rfl) ttok ftok ?_
    conv=>whnf
    refine ⟨⟨by omega,by omega⟩,?_⟩
    conv=>whnf
    rw [ti_nat]
    refine ⟨⟨by omega,by omega⟩,?_⟩
    conv=>whnf
    (try rw [ti_nat])
    refine callQ (rbefore_c ((itsH hs).getD q it0).id ((itsH hs).getD q it0).id) rfl rfl ?_
    rw [decide_eq_false (il_irr _)]
    conv=>whnf
    rw [e2]
    refine ⟨hs.length - (q + 1),_,by omega,norm_weak [0,1,5,7,8,9,10,11] [some 0,some 1,some 2] rfl rfl,q + 1,(q : Int),rfl,by omega,?_,rfl⟩
    refine .inr ⟨q,rfl,by omega,hqk,hqd,fun j hj hk hd=>?_⟩
    rcases Nat.lt_succ_iff_lt_or_eq.1 hj with g5 | rfl
    ·rw [h1 j g5 hk] at hd;cases hd
    ·exact il_irr _
   ·conv=>whnf
    refine drawV_quiet mixed (by kernel_rfl) ttok ftok ?_
    conv=>whnf
    refine ⟨⟨by omega,by omega⟩,?_⟩
    conv=>whnf
    rw [ti_nat]
    refine ⟨⟨by omega,by omega⟩,?_⟩
    conv=>whnf
    rw [ti_nat]
    refine callQ (rbefore_c ((itsH hs).getD q it0).id ((itsH hs).getD p it0).id) rfl rfl ?_
    by_cases hB : il ((itsH hs).getD q it0).id ((itsH hs).getD p it0).id
    ·rw [decide_eq_true hB]
     conv=>whnf
     rw [e2]
     refine ⟨hs.length - (q + 1),_,by omega,norm_weak [0,1,5,7,8,9,10,11] [some 0,some 1,some 2] rfl rfl,q + 1,(q : Int),rfl,by omega,?_,rfl⟩
     refine .inr ⟨q,rfl,by omega,hqk,hqd,fun j hj hk hd=>?_⟩
     rcases Nat.lt_succ_iff_lt_or_eq.1 hj with g5 | rfl
     ·exact fun g6=>h4 j g5 hk hd (il_tr g6 hB)
     ·exact il_irr _
    ·rw [decide_eq_false hB]
     conv=>whnf
     rw [e2]
     refine ⟨hs.length - (q + 1),_,by omega,norm_weak [0,1,5,7,8,9,10,11] [some 0,some 1,some 2] rfl rfl,q + 1,(p : Int),rfl,by omega,?_,rfl⟩
     refine .inr ⟨p,rfl,by omega,h2,h3,fun j hj hk hd=>?_⟩
     rcases Nat.lt_succ_iff_lt_or_eq.1 hj with g5 | rfl
     ·exact h4 j g5 hk hd
     ·exact hB
  ·rintro st ⟨b,hb,rfl⟩
   rcases hb with ⟨rfl,h1⟩ | ⟨p,rfl,h1,h2,h3,h4⟩
   ·conv=>whnf
    exact ⟨rfl,_,norm_weak [7] [some 1] rfl rfl,w,hW.done ho h1,rfl⟩
   have hm : ((itsH hs).getD p it0,h) ∈ hs:=by have:=its_at h1;rwa [h2] at this
   have ihl:=ih _ hm false
   have ihr:=ih _ hm true
   have hst:=fun {wl wr} hl hr=>hW.step ho h1 h2 h3 h4 (wl:=wl) (wr:=wr) hl hr
   have hpl : p < (itsH hs).length:=by omega
   unfold wkC at ihl ihr
   conv=>whnf
   refine ⟨by omega,?_⟩
   conv=>whnf
   have hdl : d.length = hs.length:=hW.dl
   refine ⟨blR (d.set p true),fun j hj=>?_,?_⟩
   ·show [IC.v (.bool ((d.set p true).getD j false))] = _
    rw [set_getD (by omega),ti_nat]
    split <;> rfl
   conv=>whnf
   refine ⟨by omega,?_⟩
   conv=>whnf
   rw [ti_nat]
   refine call_frame2 [] rfl rfl rfl rfl ihl ?_
   rintro r own2 ⟨wl,hwL,rfl,rfl⟩
   have hwL2:=hwL.len
   refine ⟨.c (.row 3),[some (.cells 295 (hgF h)),some (.row 136 2 w.length (idR w)),some (.row 4 1 hs.length (blR (d.set p true))),some (.row 136 2 wl.length (idR wl))],rfl,rfl,?_⟩
   conv=>whnf
   refine ⟨⟨by omega,by show (w.length + wl.length) * 8≤_;omega⟩,?_⟩
   conv=>whnf
   refine app_list (enc:=idF) (d:=(0,0)) (l:=w) (b:=wl) (fun k hk=>rfl) (fun k hk=>rfl) ?_
   have hl1 : (w ++ wl).length = w.length + wl.length:=List.length_append ..
   conv=>whnf
   refine ⟨by omega,?_⟩
   conv=>whnf
   rw [ti_nat]
   refine ⟨fun _=>idF ((itsH hs).getD p it0).id,fun j hj2=>?_,?_⟩
   ·obtain rfl : j = 0:=by omega
    rfl
   conv=>whnf
   refine ⟨⟨by omega,by show ((w ++ wl).length + 1) * 8≤_;omega⟩,?_⟩
   conv=>whnf
   refine app1 (enc:=idF) (d:=(0,0)) (l:=w ++ wl) ((itsH hs).getD p it0).id (fun k hk=>rfl) rfl ?_
   have hl2 : (w ++ wl ++ [((itsH hs).getD p it0).id]).length = w.length + wl.length + 1:=by rw [List.length_append,hl1];rfl
   conv=>whnf
   refine ⟨by omega,?_⟩
   conv=>whnf
   rw [ti_nat]
   refine call_frame2 [] rfl rfl rfl rfl ihr ?_
   rintro r own2 ⟨wr,hwR,rfl,rfl⟩
   have hwR2:=hwR.len
   refine ⟨.c (.row 7),[some (.cells 295 (hgF h)),none,some (.row 4 1 hs.length (blR (d.set p true))),some (.row 136 2 wl.length (idR wl)),none,some (.row 136 2 1 fun _=>idF ((itsH hs).getD p it0).id),some (.row 136 2 (w ++ wl ++ [((itsH hs).getD p it0).id]).length (idR (w ++ wl ++ [((itsH hs).getD p it0).id]))),some (.row 136 2 wr.length (idR wr))],rfl,rfl,?_⟩
   conv=>whnf
   refine ⟨⟨by omega,by show ((w ++ wl ++ [((itsH hs).getD p it0).id]).length + wr.length) * 8≤_;omega⟩,?_⟩
   conv=>whnf
   refine app_list (enc:=idF) (d:=(0,0)) (l:=w ++ wl ++ [((itsH hs).getD p it0).id]) (b:=wr) (fun k hk=>rfl) (fun k hk=>rfl) ?_
   conv=>whnf
   rw [e1]
   exact ⟨hs.length - (n + 1),_,by omega,norm_weak [0,1,5,7,8,9] [some 0,some 8,some 2] rfl rfl,n + 1,_,_,rfl,by omega,hst hwL hwR,rfl⟩
 ·rintro st ⟨w,hw,rfl⟩
  conv=>whnf
  refine ⟨_,Weak.refl _,?_⟩
  conv=>whnf
  exact ⟨[some 0],rfl,rfl,w,hw,rfl,rfl⟩
end Go.Eng
namespace Go.Eng
open Go Go.RowKit Go.Proofs
theorem rwalk_all {hs : HS} (ho : okH hs) (hlen : hs.length≤100000) : ∀ (n : Nat) (h : Hg),hs.length < n + (pth hs h.on).length→wkC hs h:=by
 intro n
 induction n with
 | zero=>intro h hn;have:=pth_len hs h.on;omega
 | succ n ih =>
  intro h hn
  refine rwalk_step ho hlen h (fun x hm s=>ih _ ?_)
  show hs.length < n + (pth hs x.id).length
  rw [pth_at ho hm,List.length_append,List.length_singleton]
  omega
theorem rorder_c {hs : HS} (ho : okH hs) (hb : bldH hs) (hlen : hs.length≤100000) : CallV Tryz.prog 101 [itS (itsH hs)] [] (fun r own'=>∃ o : List I2,isOrd hs o∧r = .c (.row 0)∧own' = [some (.row 136 2 o.length (idR o))]):=by
 have hw : wkC hs rootH:=rwalk_all ho hlen (hs.length + 1) rootH (by omega)
 unfold wkC at hw
 refine callV_own Tryz.func101 rfl ttok ftok rfl rfl rfl (Nat.le_of_ble_eq_true rfl) rfl ?_
 conv=>whnf
 refine call_pure (rhangs_c ho hb hlen) rfl ?_
 rintro _ rfl
 conv=>whnf
 refine call_frame2 [] rfl rfl rfl rfl hw ?_
 rintro r own2 ⟨w,hwk,rfl,rfl⟩
 refine ⟨.c (.row 0),[some (.row 136 2 w.length (idR w))],rfl,rfl,?_⟩
 conv=>whnf
 refine ⟨_,Weak.refl _,?_⟩
 conv=>whnf
 exact ⟨[some 0],rfl,rfl,w,hwk.ord ho,rfl,rfl⟩
theorem valid_c_L (c : Int) : CallV Tryz.prog 157 [vci .i32 c] [] (fun r own'=>own' = []∧r = vcb (vldR c)):=by
 have hv : vldR c = (decide (c ≥ 0) && decide (c≤1114111) && (decide (c < 55296) || decide (c > 57343))):=by
  unfold vldR
  rw [Bool.eq_iff_iff]
  simp only [Bool.or_eq_true,Bool.and_eq_true,decide_eq_true_eq]
  omega
 rw [hv]
 refine callV_pure Tryz.func157 rfl ttok ftok rfl rfl rfl (Nat.le_of_ble_eq_true rfl) ?_
 conv=>whnf
 cases h1 : decide (c ≥ 0) <;> cases h2 : decide (c≤1114111) <;> cases h3 : decide (c < 55296) <;> cases h4 : decide (c > 57343)
 all_goals first | rfl | exact ⟨rfl,rfl⟩ | (rw [h1] ; skip)
 all_goals
  conv=>whnf
  all_goals first | rfl | exact ⟨rfl,rfl⟩
instance (hs : HS) (a : I2) : Decidable (hasI hs a):=inferInstanceAs (Decidable (∃ p,p ∈ hs∧p.1.id = a))
theorem fiN_neg (hs : HS) (a : I2) : decide (fiN (itsH hs) a < 0) = !decide (hasI hs a):=by
 by_cases h : hasI hs a
 ·obtain ⟨k,h1,h2,_⟩:=fiE_has h
  have : fiN (itsH hs) a = (k : Int):=by unfold fiN;rw [h1]
  rw [this,decide_eq_true h,decide_eq_false (by omega)];rfl
 ·have : fiN (itsH hs) a = -1:=by unfold fiN;rw [fiE_hasn h]
  rw [this,decide_eq_false h];rfl
theorem fiN_ge (hs : HS) (a : I2) : decide (fiN (itsH hs) a ≥ 0) = decide (hasI hs a):=by
 have h1:=fiN_neg hs a
 have h2 : decide (fiN (itsH hs) a ≥ 0) = !decide (fiN (itsH hs) a < 0):=by
  by_cases h : fiN (itsH hs) a < 0
  ·rw [decide_eq_true h,decide_eq_false (by omega)];rfl
  ·rw [decide_eq_false h,decide_eq_true (by omega)];rfl
 rw [h2,h1,Bool.not_not]
end Go.Eng
namespace Go.Eng
open Go Go.RowKit Go.Proofs
def Gof (gs : List I2) : I2→Bool:=fun a=>decide (a ∈ gs)
theorem rorder_l {hs : HS} (ho : okH hs) (hb : bldH hs) (hlen : hs.length≤100000) : CallV Tryz.prog 101 [itS (itsH hs)] [] (fun r own'=>∃ n g2,r = .c (.row 0)∧own' = [some (.row 136 2 n g2)]∧(∀ k,k < n→(g2 k).all scalC = true)∧∃ o : List I2,isOrd hs o∧n = o.length∧g2 = idR o) :=
 (rorder_c ho hb hlen).mono (fun r own' ⟨o,h1,h2,h3⟩=>⟨_,_,h2,h3,fun k hk=>rfl,o,h1,rfl,rfl⟩)
abbrev entL (hs : HS) (gs : List I2) (o : List I2) : List En:=o.map (enOf hs (Gof gs))
theorem chOf_mem : ∀ {hs : HS} {x : It} {h : Hg},okH hs→(x,h) ∈ hs→chOf_L hs x.id = x.ch
 | (y,g) :: r,x,h,ho,hm=>by
  rcases List.mem_cons.1 hm with e | hm
  ·cases e;exact chOf_new
  ·rw [chOf_cons (fun e=>ho.2.2.1 _ hm e.symm)]
   exact chOf_mem ho.1 hm
theorem Gof_snoc {gs : List I2} {j : Nat} (hj : j < gs.length) (a : I2) : Gof (gs.take (j + 1)) a = (Gof (gs.take j) a || decide (gs.getD j (0,0) = a)):=by
 have e : gs.take (j + 1) = gs.take j ++ [gs.getD j (0,0)]:=by
  rw [List.getD_eq_getElem?_getD,List.getElem?_eq_getElem hj]
  exact (List.take_append_getElem hj).symm
 unfold Gof
 rw [e,Bool.eq_iff_iff,Bool.or_eq_true,decide_eq_true_iff,decide_eq_true_iff,decide_eq_true_iff,List.mem_append,List.mem_singleton]
 exact ⟨fun h=>h.imp id Eq.symm,fun h=>h.imp id Eq.symm⟩
theorem entL_snoc (hs : HS) (gs o : List I2) {k : Nat} (hk : k < o.length) : entL hs gs (o.take (k + 1)) = entL hs gs (o.take k) ++ [enOf hs (Gof gs) (o.getD k (0,0))]:=by
 have e : o.take (k + 1) = o.take k ++ [o.getD k (0,0)]:=by
  rw [List.getD_eq_getElem?_getD,List.getElem?_eq_getElem hk]
  exact (List.take_append_getElem hk).symm
 unfold entL
 rw [e,List.map_append,List.map_singleton]
end Go.Eng
namespace Go.Eng
def hasR (v : CV) (a : I2) : Bool:=a.1 == 0 || decide (a.2 < nxt v a.1)
def rdyR (v : CV) (x : It) : Bool:=x.id.2 == nxt v x.id.1 && (hasR v x.left && hasR v x.right)
def putR (v : CV) (x : It) : CV:=setR v x.id.1 (x.id.2 + 1)
def delA (l : List It) (k : Nat) : List It:=l.take k ++ l.drop (k + 1)
def takeL : Nat→CV→List It→List It × List It × CV
 | 0,v,r=>([],r,v)
 | n + 1,v,r=>match r.findIdx? (rdyR v) with
  | none=>([],r,v)
  | some k=>(r.getD k it0 :: (takeL n (putR v (r.getD k it0)) (delA r k)).1,(takeL n (putR v (r.getD k it0)) (delA r k)).2)
def Tk : CV→List It→CV→Prop
 | v,[],w=>w = v
 | v,x :: T,w=>rdyR v x = true∧Tk (putR v x) T w
theorem putR_may {v : CV} {x : It} (hv : mayV v) (h : 0 < x.id.1∧0≤x.id.2∧x.id.2≤4294967294) : mayV (putR v x):=setR_may hv (by omega) (by omega)
theorem nxt_put {v : CV} {x : It} (hv : mayV v) (h : 0 < x.id.1) (c : Int) : nxt (putR v x) c = if c = x.id.1 then x.id.2 + 1 else nxt v c:=nxt_set hv (by omega) c
theorem rdy_id {v : CV} {x : It} (h : rdyR v x = true) : x.id.2 = nxt v x.id.1:=by
 unfold rdyR at h
 simp only [Bool.and_eq_true,beq_iff_eq] at h
 exact h.1
theorem getD_split {l : List It} {k : Nat} (hk : k < l.length) : l = l.take k ++ l.getD k it0 :: l.drop (k + 1):=by
 rw [List.getD_eq_getElem?_getD,List.getElem?_eq_getElem hk]
 exact (List.take_append_drop k l).symm.trans (by rw [List.drop_eq_getElem_cons hk];rfl)
theorem delA_perm {l : List It} {k : Nat} (hk : k < l.length) : (l.getD k it0 :: delA l k).Perm l:=by
 conv=>rhs;rw [getD_split hk]
 exact List.perm_middle.symm
theorem delA_sub (l : List It) (k : Nat) : (delA l k).Sublist l:=by
 unfold delA
 conv=>rhs;rw [←List.take_append_drop k l]
 exact List.Sublist.append (List.Sublist.refl _) (by rw [show k + 1 = k + 1 from rfl,←List.drop_drop];exact List.drop_sublist _ _)
theorem delA_len {l : List It} {k : Nat} (hk : k < l.length) : (delA l k).length + 1 = l.length:=by
 unfold delA;rw [List.length_append,List.length_take,List.length_drop];omega
structure tkS (v : CV) (r : List It) (t : List It × List It × CV) : Prop where
 run : Tk v t.1 t.2.2
 perm : (t.1 ++ t.2.1).Perm r
 sub : t.2.1.Sublist r
 stop : ∀ x,x ∈ t.2.1→rdyR t.2.2 x = false
theorem findIdx_some {l : List It} {p : It→Bool} {k : Nat} (h : l.findIdx? p = some k) : k < l.length∧p (l.getD k it0) = true∧∀ j,j < k→p (l.getD j it0) = false:=by
 rw [List.findIdx?_eq_some_iff_getElem] at h
 obtain ⟨hk,h1,h2⟩:=h
 have hg : ∀ j (hj : j < l.length),l.getD j it0 = l[j]:=fun j hj=>by rw [List.getD_eq_getElem?_getD,List.getElem?_eq_getElem hj];rfl
 refine ⟨hk,by rw [hg k hk];exact h1,fun j hj=>?_⟩
 rw [hg j (by omega)]
 simpa using h2 j hj
theorem findIdx_none {l : List It} {p : It→Bool} (h : l.findIdx? p = none) : ∀ x,x ∈ l→p x = false:=by
 rw [List.findIdx?_eq_none_iff] at h
 exact h
theorem takeL_ok : ∀ (n : Nat) (v : CV) (r : List It),r.length≤n→tkS v r (takeL n v r)
 | 0,v,r,h=>by
  obtain rfl : r = []:=List.eq_nil_of_length_eq_zero (by omega)
  exact ⟨rfl,.refl _,.refl _,fun x hx=>by cases hx⟩
 | n + 1,v,r,h=>by
  unfold takeL
  cases hf : r.findIdx? (rdyR v) with
  | none=>exact ⟨rfl,.refl _,.refl _,findIdx_none hf⟩
  | some k =>
   obtain ⟨h1,h2,h3⟩:=findIdx_some hf
   have hl:=delA_len h1
   obtain ⟨g1,g2,g3,g4⟩:=takeL_ok n (putR v (r.getD k it0)) (delA r k) (by omega)
   exact ⟨⟨h2,g1⟩,((List.perm_cons _).2 g2).trans (delA_perm h1),g3.trans (delA_sub r k),g4⟩
def ltI (a b : I2) : Prop:=a.1 < b.1∨a.1 = b.1∧a.2 < b.2
def risI (l : List It) : Prop:=l.Pairwise fun x y=>ltI x.id y.id
theorem rs_ext : ∀ {a b : List It},risI a→risI b→a.Perm b→a = b
 | [],b,_,_,h=>(List.nil_perm.1 h).symm
 | x :: a,[],_,_,h=>absurd h.length_eq (by simp)
 | x :: a,y :: b,ha,hb,h=>by
  have hxy : x = y:=by
   rcases List.mem_cons.1 (h.mem_iff.1 (List.mem_cons_self)) with e | hx
   ·exact e
   ·rcases List.mem_cons.1 (h.mem_iff.2 (List.mem_cons_self (a:=y))) with e | hy
    ·exact e.symm
    ·have h1:=(List.pairwise_cons.1 hb).1 x hx
     have h2:=(List.pairwise_cons.1 ha).1 y hy
     unfold ltI at h1 h2
     omega
  subst hxy
  rw [rs_ext (List.pairwise_cons.1 ha).2 (List.pairwise_cons.1 hb).2 ((List.perm_cons _).1 h)]
end Go.Eng
namespace Go.Proofs
open Go.Shelf Go.RowKit Go.Lib Go.Sort Go.Eng
def cmpI' (x y : Int) : Int:=if x < y then -1 else if y < x then 1 else 0
theorem isNaN_w (x : Int) (w : World) : Calls Tryz.prog 174 #[.int .u32 x] w fun e w'=>e = .returned (.bool false)∧w' = w:=by
 go_enter Tryz.func174,(show Tryz.f174.ntmps = 6 from rfl)
 go_wp2
 go_ret
 exact ⟨by simp,rfl⟩
theorem compare_w (x y : Int) (w : World) : Calls Tryz.prog 108 #[.int .u32 x,.int .u32 y] w fun e w'=>e = .returned (.int .i64 (cmpI' x y))∧w' = w:=by
 have e7 : ∀ args w,(callFunc 174 args).run Tryz.prog w = .ok (.enter 174 args) w:=enters_of Tryz.func174 (by kernel_rfl) rfl
 go_enter Tryz.func108,(show Tryz.f108.ntmps = 20 from rfl)
 go_wp2_with (go_at_fn 174;refine (isNaN_w _ _).mono ?_;rintro e w' ⟨rfl,hw⟩;rw [hw])
 all_goals (go_ret;refine ⟨?_,rfl⟩;unfold cmpI';(repeat' split) <;> first | rfl | (exfalso;omega))
theorem compare_g (x y : Int) (w : World) : Calls Tryz.prog 108 #[.int .u32 x,.int .u32 y] w fun e w'=>e = .returned (.int .i64 (cmpI' x y))∧∃ q os',w' = grow (w.drewN q) os' :=
 (compare_w x y w).mono fun e w' ⟨h1,h2⟩=>⟨h1,0,#[],by rw [h2,grow_empty];rfl⟩
theorem or_w (a b : Int) (blk : Nat) (w : World) (h0 : w.cell? ⟨blk,0,none⟩ = some (.int .i64 a)) (h1 : w.cell? ⟨blk,1,none⟩ = some (.int .i64 b)) :
  Calls Tryz.prog 107 #[.slice (some ⟨blk,0,none⟩) 2 2] w fun e w'=>e = .returned (.int .i64 (if a = 0 then b else a))∧w' = w:=by
 obtain ⟨r,hr⟩ : ∃ r,(if a = 0 then b else a) = r:=⟨_,rfl⟩
 rw [hr]
 go_enter Tryz.func107,(show Tryz.f107.ntmps = 18 from rfl)
 go_wp2
 refine wp_loop_rounds 3 ?_
 unfold Code.rounds
 by_cases ha : a = 0
 ·rw [if_pos ha] at hr
  subst ha
  subst hr
  have e0 : (((0 : Int) != 0)) = false:=rfl
  go_wp2
  unfold Code.rounds
  by_cases hb : b = 0
  ·subst hb
   go_wp2
   unfold Code.rounds
   go_wp2
   go_ret
   exact ⟨rfl,rfl⟩
  ·have e1 : (b != 0) = true:=bne_iff_ne.2 hb
   go_wp2
   go_ret
   exact ⟨rfl,rfl⟩
 ·rw [if_neg ha] at hr
  subst hr
  have e0 : (a != 0) = true:=bne_iff_ne.2 ha
  go_wp2
  go_ret
  exact ⟨rfl,rfl⟩
theorem ofc_w (x y : Int × Int × Int) (W : World) : Calls Tryz.prog 248 #[.agg #[.int .u32 x.1,.int .u32 x.2.1,.int .u32 x.2.2],.agg #[.int .u32 y.1,.int .u32 y.2.1,.int .u32 y.2.2]] W fun e w'=>e = .returned (.int .i64 (if cmpI' x.1 y.1 = 0 then cmpI' x.2.1 y.2.1 else cmpI' x.1 y.1))∧∃ q os',w' = grow (W.drewN q) os':=by
 have e7 : ∀ args w,(callFunc 108 args).run Tryz.prog w = .ok (.enter 108 args) w:=enters_of Tryz.func108 (by kernel_rfl) rfl
 have e8 : ∀ args w,(callFunc 107 args).run Tryz.prog w = .ok (.enter 107 args) w:=enters_of Tryz.func107 (by kernel_rfl) rfl
 have mixed : Tryz.prog.follows .mixedOrders = true:=by kernel_rfl
 obtain ⟨r,hr⟩ : ∃ r,(if cmpI' x.1 y.1 = 0 then cmpI' x.2.1 y.2.1 else cmpI' x.1 y.1) = r:=⟨_,rfl⟩
 rw [hr]
 go_enter Tryz.func248,(show Tryz.f248.ntmps = 17 from rfl)
 go_wp2
 obtain ⟨W2,hW2⟩ : ∃ W2,W2 = ((W.alloc (Obj.cells #[.int .u32 x.1,.int .u32 x.2.1,.int .u32 x.2.2] 154)).alloc (Obj.cells #[.int .u32 y.1,.int .u32 y.2.1,.int .u32 y.2.2] 154)):=⟨_,rfl⟩
 have c0 : ∀ n os,(grow (W2.drewN n) os).cell? ⟨W.heap.size,0,none⟩ = some (.int .u32 x.1):=fun n os=>cell_grown (by subst hW2;simp <;> omega) (by subst hW2;simp) n os
 have c1 : ∀ n os,(grow (W2.drewN n) os).cell? ⟨W.heap.size,1,none⟩ = some (.int .u32 x.2.1):=fun n os=>cell_grown (by subst hW2;simp <;> omega) (by subst hW2;simp) n os
 have c2 : ∀ n os,(grow (W2.drewN n) os).cell? ⟨W.heap.size + 1,0,none⟩ = some (.int .u32 y.1):=fun n os=>cell_grown (by subst hW2;simp <;> omega) (by subst hW2;simp) n os
 have c3 : ∀ n os,(grow (W2.drewN n) os).cell? ⟨W.heap.size + 1,1,none⟩ = some (.int .u32 y.2.1):=fun n os=>cell_grown (by subst hW2;simp <;> omega) (by subst hW2;simp) n os
 have hfin : ∃ q os',W2 = grow (W.drewN q) os':=⟨0,_,by rw [hW2,alloc_eq_grow,alloc_eq_grow,grow_grow];rfl⟩
 rw [←hW2]
 clear hW2
 refine wp_region_mix (k:=10) (C:=fun w'=>∃ p : GrownBy,w' = grow (W2.drewN p.n) p.os) mixed (by kernel_rfl) ⟨⟨1,#[]⟩,by rw [grow_empty];rfl⟩ ?_
 simp only [List.take_succ_cons,List.take_zero,List.drop_succ_cons,List.drop_zero]
 repeat (quiet_step (exact Calls.grown_of (compare_g _ _ _)))
 refine wpQuiet_nil ?_
 intro _ hw'
 obtain ⟨⟨nq,osq⟩,rfl⟩:=hw'
 obtain ⟨q1,os1,hfin⟩:=hfin
 have hfin3 : ∃ q os',grow (W2.drewN nq) osq = grow (W.drewN q) os':=⟨q1 + nq,os1 ++ osq,by rw [hfin];show grow (grow ((W.drewN q1).drewN nq) os1) osq = _;rw [grow_grow,World.drewN_drewN]⟩
 clear hfin c0 c1 c2 c3
 show wpList _ _ _ _ _ (grow (W2.drewN nq) osq)
 generalize grow (W2.drewN nq) osq = W3 at hfin3 ⊢
 generalize cmpI' x.1 y.1 = a at hr ⊢
 generalize cmpI' x.2.1 y.2.1 = b at hr ⊢
 go_wp2_with (go_at_fn 107;refine (or_w a b W3.heap.size _ (by simp) (by simp)).mono ?_;rintro e w' ⟨rfl,hw⟩;rw [hw,hr])
 go_ret
 obtain ⟨q,os',rfl⟩:=hfin3
 exact ⟨rfl,q,os' ++ #[_],by rw [alloc_eq_grow,grow_grow]⟩
theorem idc_w (x y : Int × Int) (W : World) : Calls Tryz.prog 63 #[.agg #[.int .u32 x.1,.int .u32 x.2],.agg #[.int .u32 y.1,.int .u32 y.2]] W fun e w'=>e = .returned (.int .i64 (if cmpI' x.1 y.1 = 0 then cmpI' x.2 y.2 else cmpI' x.1 y.1))∧∃ q os',w' = grow (W.drewN q) os':=by
 have e7 : ∀ args w,(callFunc 108 args).run Tryz.prog w = .ok (.enter 108 args) w:=enters_of Tryz.func108 (by kernel_rfl) rfl
 have e8 : ∀ args w,(callFunc 107 args).run Tryz.prog w = .ok (.enter 107 args) w:=enters_of Tryz.func107 (by kernel_rfl) rfl
 have mixed : Tryz.prog.follows .mixedOrders = true:=by kernel_rfl
 obtain ⟨r,hr⟩ : ∃ r,(if cmpI' x.1 y.1 = 0 then cmpI' x.2 y.2 else cmpI' x.1 y.1) = r:=⟨_,rfl⟩
 rw [hr]
 go_enter Tryz.func63,(show Tryz.f63.ntmps = 17 from rfl)
 go_wp2
 obtain ⟨W2,hW2⟩ : ∃ W2,W2 = ((W.alloc (Obj.cells #[.int .u32 x.1,.int .u32 x.2] 136)).alloc (Obj.cells #[.int .u32 y.1,.int .u32 y.2] 136)):=⟨_,rfl⟩
 have c0 : ∀ n os,(grow (W2.drewN n) os).cell? ⟨W.heap.size,0,none⟩ = some (.int .u32 x.1):=fun n os=>cell_grown (by subst hW2;simp <;> omega) (by subst hW2;simp) n os
 have c1 : ∀ n os,(grow (W2.drewN n) os).cell? ⟨W.heap.size,1,none⟩ = some (.int .u32 x.2):=fun n os=>cell_grown (by subst hW2;simp <;> omega) (by subst hW2;simp) n os
 have c2 : ∀ n os,(grow (W2.drewN n) os).cell? ⟨W.heap.size + 1,0,none⟩ = some (.int .u32 y.1):=fun n os=>cell_grown (by subst hW2;simp <;> omega) (by subst hW2;simp) n os
 have c3 : ∀ n os,(grow (W2.drewN n) os).cell? ⟨W.heap.size + 1,1,none⟩ = some (.int .u32 y.2):=fun n os=>cell_grown (by subst hW2;simp <;> omega) (by subst hW2;simp) n os
 have hfin : ∃ q os',W2 = grow (W.drewN q) os':=⟨0,_,by rw [hW2,alloc_eq_grow,alloc_eq_grow,grow_grow];rfl⟩
 rw [←hW2]
 clear hW2
 refine wp_region_mix (k:=10) (C:=fun w'=>∃ p : GrownBy,w' = grow (W2.drewN p.n) p.os) mixed (by kernel_rfl) ⟨⟨1,#[]⟩,by rw [grow_empty];rfl⟩ ?_
 simp only [List.take_succ_cons,List.take_zero,List.drop_succ_cons,List.drop_zero]
 repeat (quiet_step (exact Calls.grown_of (compare_g _ _ _)))
 refine wpQuiet_nil ?_
 intro _ hw'
 obtain ⟨⟨nq,osq⟩,rfl⟩:=hw'
 obtain ⟨q1,os1,hfin⟩:=hfin
 have hfin3 : ∃ q os',grow (W2.drewN nq) osq = grow (W.drewN q) os':=⟨q1 + nq,os1 ++ osq,by rw [hfin];show grow (grow ((W.drewN q1).drewN nq) os1) osq = _;rw [grow_grow,World.drewN_drewN]⟩
 clear hfin c0 c1 c2 c3
 show wpList _ _ _ _ _ (grow (W2.drewN nq) osq)
 generalize grow (W2.drewN nq) osq = W3 at hfin3 ⊢
 generalize cmpI' x.1 y.1 = a at hr ⊢
 generalize cmpI' x.2 y.2 = b at hr ⊢
 go_wp2_with (go_at_fn 107;refine (or_w a b W3.heap.size _ (by simp) (by simp)).mono ?_;rintro e w' ⟨rfl,hw⟩;rw [hw,hr])
 go_ret
 obtain ⟨q,os',rfl⟩:=hfin3
 exact ⟨rfl,q,os' ++ #[_],by rw [alloc_eq_grow,grow_grow]⟩
theorem lt_lex {α : Type} (f g : α→Int) (x y : α) : ltOf (fun x y : α=>if cmpI' (f x) (f y) = 0 then cmpI' (g x) (g y) else cmpI' (f x) (f y)) x y = decide (f x < f y∨f x = f y∧g x < g y):=by
 simp only [ltOf,cmpI']
 congr 1
 repeat' split
 all_goals (simp only [eq_iff_iff];omega)
theorem swo_lex {α : Type} (f g : α→Int) : SWO (ltOf fun x y : α=>if cmpI' (f x) (f y) = 0 then cmpI' (g x) (g y) else cmpI' (f x) (f y)):=by
 refine ⟨fun x=>?_,fun x y z h1 h2=>?_,fun x y z h1 h2=>?_⟩
 all_goals
  rw [lt_lex] at *
  try rw [lt_lex] at h1
  try rw [lt_lex] at h2
  simp only [decide_eq_true_eq,decide_eq_false_iff_not] at *
  omega
end Go.Proofs
namespace Go.Proofs
open Go.Shelf
def Tryz.laysValid_ren : Go.Shelf.Ren:=⟨fun | 196=>127 | 259=>191 | n=>n,fun | 9=>9 | 4=>4 | 3=>3 | 5=>5 | 12=>12 | 119=>325 | 0=>0 | 46=>235 | 139=>328 | 138=>327 | 53=>253 | n=>n,fun | 3=>1 | 4=>2 | n=>n⟩
theorem Tryz.laysValid : Go.Proofs.Lays.n196 Tryz.prog Tryz.laysValid_ren:={
 mixed:=by kernel_rfl
 f196:=Tryz.func127.trans (congrArg some (by kernel_rfl))
 f259:=Tryz.func191.trans (congrArg some (by kernel_rfl))
 t0:=Tryz.underlying0
 a0:=Tryz.isAgg0
 z0:=Tryz.sizeOf0
 v0:=Tryz.zeroValue0
 t3:=Tryz.underlying3
 a3:=Tryz.isAgg3
 z3:=Tryz.sizeOf3
 v3:=Tryz.zeroValue3
 t4:=Tryz.underlying4
 a4:=Tryz.isAgg4
 z4:=Tryz.sizeOf4
 v4:=Tryz.zeroValue4
 t5:=Tryz.underlying5
 a5:=Tryz.isAgg5
 z5:=Tryz.sizeOf5
 v5:=Tryz.zeroValue5
 t9:=Tryz.underlying9
 a9:=Tryz.isAgg9
 z9:=Tryz.sizeOf9
 v9:=Tryz.zeroValue9
 t12:=Tryz.underlying12
 a12:=Tryz.isAgg12
 z12:=Tryz.sizeOf12
 v12:=Tryz.zeroValue12
 t46:=Tryz.underlying235
 a46:=Tryz.isAgg235
 z46:=Tryz.sizeOf235
 v46:=Tryz.zeroValue235
 t53:=Tryz.underlying253
 a53:=Tryz.isAgg253
 z53:=Tryz.sizeOf253
 v53:=Tryz.zeroValue253
 t119:=Tryz.underlying325
 a119:=Tryz.isAgg325
 z119:=Tryz.sizeOf325
 t138:=Tryz.underlying327
 a138:=Tryz.isAgg327
 z138:=Tryz.sizeOf327
 v138:=Tryz.zeroValue327
 t139:=Tryz.underlying328
 a139:=Tryz.isAgg328
 z139:=Tryz.sizeOf328
 v139:=Tryz.zeroValue328
 g3:=by kernel_rfl
 g4:=by kernel_rfl }
def Tryz.laysCount_ren : Go.Shelf.Ren:=⟨fun | 195=>129 | n=>n,fun | 9=>9 | 3=>3 | 0=>0 | 4=>4 | n=>n,fun | n=>n⟩
theorem Tryz.laysCount : Go.Proofs.Lays.n195 Tryz.prog Tryz.laysCount_ren:={
 mixed:=by kernel_rfl
 f195:=Tryz.func129.trans (congrArg some (by kernel_rfl))
 t0:=Tryz.underlying0
 a0:=Tryz.isAgg0
 z0:=Tryz.sizeOf0
 v0:=Tryz.zeroValue0
 t3:=Tryz.underlying3
 a3:=Tryz.isAgg3
 z3:=Tryz.sizeOf3
 v3:=Tryz.zeroValue3
 t4:=Tryz.underlying4
 a4:=Tryz.isAgg4
 z4:=Tryz.sizeOf4
 v4:=Tryz.zeroValue4
 t9:=Tryz.underlying9
 a9:=Tryz.isAgg9
 z9:=Tryz.sizeOf9
 v9:=Tryz.zeroValue9 }
def Tryz.sortItem_ren : Go.Shelf.Ren:=⟨fun | 6=>61 | 15=>106 | 14=>105 | 28=>172 | 29=>173 | 20=>164 | 21=>165 | 22=>166 | 23=>167 | 24=>168 | 25=>169 | 26=>170 | 27=>171 | 46=>218 | 47=>219 | 48=>220 | 49=>221 | 50=>222 | 57=>254 | n=>n,fun | 22=>46 | 24=>144 | 25=>150 | 3=>3 | 39=>235 | 0=>0 | 53=>22 | 55=>253 | 4=>4 | 46=>302 | 45=>301 | 50=>226 | 5=>5 | 9=>9 | 66=>362 | 70=>366 | 76=>394 | 77=>127 | n=>n,fun | n=>n⟩
theorem Tryz.sortItem : Go.Proofs.SlLaysF0.n6 Tryz.prog Tryz.sortItem_ren:={
 mixed:=by kernel_rfl
 f6:=⟨Tryz.f61.name,by decide,Tryz.func61.trans (congrArg some (by kernel_rfl))⟩
 f14:=⟨Tryz.f105.name,by decide,Tryz.func105.trans (congrArg some (by kernel_rfl))⟩
 f15:=Tryz.func106.trans (congrArg some (by kernel_rfl))
 f20:=⟨Tryz.f164.name,by decide,Tryz.func164.trans (congrArg some (by kernel_rfl))⟩
 f21:=⟨Tryz.f165.name,by decide,Tryz.func165.trans (congrArg some (by kernel_rfl))⟩
 f22:=⟨Tryz.f166.name,by decide,Tryz.func166.trans (congrArg some (by kernel_rfl))⟩
 f23:=⟨Tryz.f167.name,by decide,Tryz.func167.trans (congrArg some (by kernel_rfl))⟩
 f24:=⟨Tryz.f168.name,by decide,Tryz.func168.trans (congrArg some (by kernel_rfl))⟩
 f25:=⟨Tryz.f169.name,by decide,Tryz.func169.trans (congrArg some (by kernel_rfl))⟩
 f26:=⟨Tryz.f170.name,by decide,Tryz.func170.trans (congrArg some (by kernel_rfl))⟩
 f27:=⟨Tryz.f171.name,by decide,Tryz.func171.trans (congrArg some (by kernel_rfl))⟩
 f28:=Tryz.func172.trans (congrArg some (by kernel_rfl))
 f29:=Tryz.func173.trans (congrArg some (by kernel_rfl))
 f46:=⟨Tryz.f218.name,by decide,Tryz.func218.trans (congrArg some (by kernel_rfl))⟩
 f47:=Tryz.func219.trans (congrArg some (by kernel_rfl))
 f48:=Tryz.func220.trans (congrArg some (by kernel_rfl))
 f49:=⟨Tryz.f221.name,by decide,Tryz.func221.trans (congrArg some (by kernel_rfl))⟩
 f50:=⟨Tryz.f222.name,by decide,Tryz.func222.trans (congrArg some (by kernel_rfl))⟩
 f57:=⟨Tryz.f254.name,by decide,Tryz.func254.trans (congrArg some (by kernel_rfl))⟩
 t0:=Tryz.underlying0
 a0:=Tryz.isAgg0
 z0:=Tryz.sizeOf0
 v0:=Tryz.zeroValue0
 t3:=Tryz.underlying3
 a3:=Tryz.isAgg3
 z3:=Tryz.sizeOf3
 v3:=Tryz.zeroValue3
 t4:=Tryz.underlying4
 a4:=Tryz.isAgg4
 z4:=Tryz.sizeOf4
 v4:=Tryz.zeroValue4
 t5:=Tryz.underlying5
 a5:=Tryz.isAgg5
 z5:=Tryz.sizeOf5
 v5:=Tryz.zeroValue5
 t9:=Tryz.underlying9
 a9:=Tryz.isAgg9
 z9:=Tryz.sizeOf9
 v9:=Tryz.zeroValue9
 t22:=Tryz.underlying46
 a22:=Tryz.isAgg46
 z22:=Tryz.sizeOf46
 v22:=Tryz.zeroValue46
 t25:=Tryz.underlying150
 a25:=Tryz.isAgg150
 z25:=Tryz.sizeOf150
 v25:=Tryz.zeroValue150
 t39:=Tryz.underlying235
 a39:=Tryz.isAgg235
 z39:=Tryz.sizeOf235
 v39:=Tryz.zeroValue235
 t45:=Tryz.underlying301
 a45:=Tryz.isAgg301
 z45:=Tryz.sizeOf301
 v45:=Tryz.zeroValue301
 t46:=Tryz.underlying302
 a46:=Tryz.isAgg302
 z46:=Tryz.sizeOf302
 v46:=Tryz.zeroValue302
 t50:=Tryz.underlying226
 a50:=Tryz.isAgg226
 z50:=Tryz.sizeOf226
 v50:=Tryz.zeroValue226
 t53:=Tryz.underlying22
 a53:=Tryz.isAgg22
 z53:=Tryz.sizeOf22
 v53:=Tryz.zeroValue22
 t55:=Tryz.underlying253
 a55:=Tryz.isAgg253
 z55:=Tryz.sizeOf253
 v55:=Tryz.zeroValue253
 t66:=Tryz.underlying362
 a66:=Tryz.isAgg362
 z66:=Tryz.sizeOf362
 v66:=Tryz.zeroValue362
 t70:=Tryz.underlying366
 a70:=Tryz.isAgg366
 z70:=Tryz.sizeOf366
 v70:=Tryz.zeroValue366
 t76:=Tryz.underlying394
 a76:=Tryz.isAgg394
 z76:=Tryz.sizeOf394
 v76:=Tryz.zeroValue394
 t77:=Tryz.underlying127
 a77:=Tryz.isAgg127
 z77:=Tryz.sizeOf127
 v77:=Tryz.zeroValue127 }
def Tryz.sortSpan_ren : Go.Shelf.Ren:=⟨fun | 6=>247 | 15=>106 | 14=>269 | 28=>172 | 29=>173 | 20=>279 | 21=>280 | 22=>281 | 23=>282 | 24=>283 | 25=>284 | 26=>285 | 27=>286 | 46=>291 | 47=>219 | 48=>220 | 49=>292 | 50=>293 | 57=>296 | n=>n,fun | 22=>50 | 24=>154 | 25=>387 | 3=>3 | 39=>235 | 0=>0 | 53=>22 | 55=>253 | 4=>4 | 46=>302 | 45=>301 | 50=>226 | 5=>5 | 9=>9 | 66=>362 | 70=>366 | 76=>394 | 77=>127 | n=>n,fun | n=>n⟩
theorem Tryz.sortSpan : Go.Proofs.SlLaysF0.n6 Tryz.prog Tryz.sortSpan_ren:={
 mixed:=by kernel_rfl
 f6:=⟨Tryz.f247.name,by decide,Tryz.func247.trans (congrArg some (by kernel_rfl))⟩
 f14:=⟨Tryz.f269.name,by decide,Tryz.func269.trans (congrArg some (by kernel_rfl))⟩
 f15:=Tryz.func106.trans (congrArg some (by kernel_rfl))
 f20:=⟨Tryz.f279.name,by decide,Tryz.func279.trans (congrArg some (by kernel_rfl))⟩
 f21:=⟨Tryz.f280.name,by decide,Tryz.func280.trans (congrArg some (by kernel_rfl))⟩
 f22:=⟨Tryz.f281.name,by decide,Tryz.func281.trans (congrArg some (by kernel_rfl))⟩
 f23:=⟨Tryz.f282.name,by decide,Tryz.func282.trans (congrArg some (by kernel_rfl))⟩
 f24:=⟨Tryz.f283.name,by decide,Tryz.func283.trans (congrArg some (by kernel_rfl))⟩
 f25:=⟨Tryz.f284.name,by decide,Tryz.func284.trans (congrArg some (by kernel_rfl))⟩
 f26:=⟨Tryz.f285.name,by decide,Tryz.func285.trans (congrArg some (by kernel_rfl))⟩
 f27:=⟨Tryz.f286.name,by decide,Tryz.func286.trans (congrArg some (by kernel_rfl))⟩
 f28:=Tryz.func172.trans (congrArg some (by kernel_rfl))
 f29:=Tryz.func173.trans (congrArg some (by kernel_rfl))
 f46:=⟨Tryz.f291.name,by decide,Tryz.func291.trans (congrArg some (by kernel_rfl))⟩
 f47:=Tryz.func219.trans (congrArg some (by kernel_rfl))
 f48:=Tryz.func220.trans (congrArg some (by kernel_rfl))
 f49:=⟨Tryz.f292.name,by decide,Tryz.func292.trans (congrArg some (by kernel_rfl))⟩
 f50:=⟨Tryz.f293.name,by decide,Tryz.func293.trans (congrArg some (by kernel_rfl))⟩
 f57:=⟨Tryz.f296.name,by decide,Tryz.func296.trans (congrArg some (by kernel_rfl))⟩
 t0:=Tryz.underlying0
 a0:=Tryz.isAgg0
 z0:=Tryz.sizeOf0
 v0:=Tryz.zeroValue0
 t3:=Tryz.underlying3
 a3:=Tryz.isAgg3
 z3:=Tryz.sizeOf3
 v3:=Tryz.zeroValue3
 t4:=Tryz.underlying4
 a4:=Tryz.isAgg4
 z4:=Tryz.sizeOf4
 v4:=Tryz.zeroValue4
 t5:=Tryz.underlying5
 a5:=Tryz.isAgg5
 z5:=Tryz.sizeOf5
 v5:=Tryz.zeroValue5
 t9:=Tryz.underlying9
 a9:=Tryz.isAgg9
 z9:=Tryz.sizeOf9
 v9:=Tryz.zeroValue9
 t22:=Tryz.underlying50
 a22:=Tryz.isAgg50
 z22:=Tryz.sizeOf50
 v22:=Tryz.zeroValue50
 t25:=Tryz.underlying387
 a25:=Tryz.isAgg387
 z25:=Tryz.sizeOf387
 v25:=Tryz.zeroValue387
 t39:=Tryz.underlying235
 a39:=Tryz.isAgg235
 z39:=Tryz.sizeOf235
 v39:=Tryz.zeroValue235
 t45:=Tryz.underlying301
 a45:=Tryz.isAgg301
 z45:=Tryz.sizeOf301
 v45:=Tryz.zeroValue301
 t46:=Tryz.underlying302
 a46:=Tryz.isAgg302
 z46:=Tryz.sizeOf302
 v46:=Tryz.zeroValue302
 t50:=Tryz.underlying226
 a50:=Tryz.isAgg226
 z50:=Tryz.sizeOf226
 v50:=Tryz.zeroValue226
 t53:=Tryz.underlying22
 a53:=Tryz.isAgg22
 z53:=Tryz.sizeOf22
 v53:=Tryz.zeroValue22
 t55:=Tryz.underlying253
 a55:=Tryz.isAgg253
 z55:=Tryz.sizeOf253
 v55:=Tryz.zeroValue253
 t66:=Tryz.underlying362
 a66:=Tryz.isAgg362
 z66:=Tryz.sizeOf362
 v66:=Tryz.zeroValue362
 t70:=Tryz.underlying366
 a70:=Tryz.isAgg366
 z70:=Tryz.sizeOf366
 v70:=Tryz.zeroValue366
 t76:=Tryz.underlying394
 a76:=Tryz.isAgg394
 z76:=Tryz.sizeOf394
 v76:=Tryz.zeroValue394
 t77:=Tryz.underlying127
 a77:=Tryz.isAgg127
 z77:=Tryz.sizeOf127
 v77:=Tryz.zeroValue127 }
def Tryz.growItem_ren : Go.Shelf.Ren:=⟨fun | 4=>211 | n=>n,fun | 22=>46 | 25=>144 | 3=>3 | 4=>4 | 9=>9 | 20=>20 | 0=>0 | n=>n,fun | n=>n⟩
theorem Tryz.growItem : Go.Proofs.Lays8.n4 Tryz.prog Tryz.growItem_ren:={
 mixed:=by kernel_rfl
 f4:=⟨Tryz.f211.name,by decide,Tryz.func211.trans (congrArg some (by kernel_rfl))⟩
 t0:=Tryz.underlying0
 a0:=Tryz.isAgg0
 z0:=Tryz.sizeOf0
 v0:=Tryz.zeroValue0
 t3:=Tryz.underlying3
 a3:=Tryz.isAgg3
 z3:=Tryz.sizeOf3
 v3:=Tryz.zeroValue3
 t4:=Tryz.underlying4
 a4:=Tryz.isAgg4
 z4:=Tryz.sizeOf4
 v4:=Tryz.zeroValue4
 t9:=Tryz.underlying9
 a9:=Tryz.isAgg9
 z9:=Tryz.sizeOf9
 v9:=Tryz.zeroValue9
 t20:=Tryz.underlying20
 a20:=Tryz.isAgg20
 z20:=Tryz.sizeOf20
 v20:=Tryz.zeroValue20
 t22:=Tryz.underlying46
 a22:=Tryz.isAgg46
 z22:=Tryz.sizeOf46
 v22:=Tryz.zeroValue46 }
def Tryz.growSpan_ren : Go.Shelf.Ren:=⟨fun | 4=>249 | n=>n,fun | 22=>50 | 25=>154 | 3=>3 | 4=>4 | 9=>9 | 20=>20 | 0=>0 | n=>n,fun | n=>n⟩
theorem Tryz.growSpan : Go.Proofs.Lays8.n4 Tryz.prog Tryz.growSpan_ren:={
 mixed:=by kernel_rfl
 f4:=⟨Tryz.f249.name,by decide,Tryz.func249.trans (congrArg some (by kernel_rfl))⟩
 t0:=Tryz.underlying0
 a0:=Tryz.isAgg0
 z0:=Tryz.sizeOf0
 v0:=Tryz.zeroValue0
 t3:=Tryz.underlying3
 a3:=Tryz.isAgg3
 z3:=Tryz.sizeOf3
 v3:=Tryz.zeroValue3
 t4:=Tryz.underlying4
 a4:=Tryz.isAgg4
 z4:=Tryz.sizeOf4
 v4:=Tryz.zeroValue4
 t9:=Tryz.underlying9
 a9:=Tryz.isAgg9
 z9:=Tryz.sizeOf9
 v9:=Tryz.zeroValue9
 t20:=Tryz.underlying20
 a20:=Tryz.isAgg20
 z20:=Tryz.sizeOf20
 v20:=Tryz.zeroValue20
 t22:=Tryz.underlying50
 a22:=Tryz.isAgg50
 z22:=Tryz.sizeOf50
 v22:=Tryz.zeroValue50 }
end Go.Proofs
namespace Go.Eng
open Go Go.RowKit Go.Proofs Go.Sort Go.Shelf Go.Lib
def encIt (x : It) : List Value:=[.int .u32 x.id.1,.int .u32 x.id.2,.int .u32 x.left.1,.int .u32 x.left.2,.int .u32 x.right.1,.int .u32 x.right.2,.int .i32 x.ch]
theorem two_alloc (W : World) (o1 o2 : Obj) (q : Nat) (os' : Array Obj) : ∃ os2,grow (((W.alloc o1).alloc o2).drewN q) os' = grow (W.drewN q) os2 :=
 ⟨(#[o1] ++ #[o2]) ++ os',by rw [alloc_eq_grow,alloc_eq_grow,grow_grow];exact grow_grow (W.drewN q) _ os'⟩
theorem itc_w (x y : It) (W : World) : Calls Tryz.prog 207 #[.agg (encIt x).toArray,.agg (encIt y).toArray] W fun e w'=>e = .returned (.int .i64 (if cmpI' x.id.1 y.id.1 = 0 then cmpI' x.id.2 y.id.2 else cmpI' x.id.1 y.id.1))∧∃ q os',w' = grow (W.drewN q) os':=by
 have e7 : ∀ args w,(callFunc 63 args).run Tryz.prog w = .ok (.enter 63 args) w:=enters_of Tryz.func63 (by kernel_rfl) rfl
 have mixed : Tryz.prog.follows .mixedOrders = true:=by kernel_rfl
 obtain ⟨⟨x1,x2⟩,⟨x3,x4⟩,⟨x5,x6⟩,x7⟩:=x
 obtain ⟨⟨y1,y2⟩,⟨y3,y4⟩,⟨y5,y6⟩,y7⟩:=y
 unfold encIt
 have hc:=fun W=>idc_w (x1,x2) (y1,y2) W
 simp only at hc ⊢
 obtain ⟨r,hr⟩ : ∃ r,(if cmpI' x1 y1 = 0 then cmpI' x2 y2 else cmpI' x1 y1) = r:=⟨_,rfl⟩
 rw [hr] at hc ⊢
 go_enter Tryz.func207,(show Tryz.f207.ntmps = 10 from rfl)
 go_wp2_with (go_at_fn 63;refine (hc _).mono ?_;rintro e w' ⟨rfl,q,os',hw⟩)
 go_ret
 refine ⟨rfl,q,?_⟩
 exact two_alloc W _ _ q os'
instance : Inhabited It:=⟨it0⟩
theorem item_sort (l : List It) (hl : l.length≤1000000) : CallV Tryz.prog 61 [.c (.row 0),.c (.fn 207 [])] [some (.row 144 7 l.length (itR l))]
  (fun r own'=>∃ ys : List It,ys.Perm l∧ys.Pairwise (fun x y=>¬ ltI y.id x.id)∧r = .tup []∧own' = [some (.row 144 7 ys.length (itR ys))]):=by
 have h:=callV_sort (α:=It) Tryz.sortItem 7 (fun _=>by kernel_rfl) (fun _=>by kernel_rfl) encIt (fun _=>rfl) (fun x v hv=>by
   simp only [encIt,List.mem_cons,List.not_mem_nil,or_false] at hv
   rcases hv with rfl | rfl | rfl | rfl | rfl | rfl | rfl <;> rfl) _ (swo_lex (fun x : It=>x.id.1) (fun x : It=>x.id.2)) 207 (enters_of Tryz.func207 (by kernel_rfl) rfl) (fun x y W=>itc_w x y W) 144 l (by omega)
 refine CallV.mono h ?_
 rintro r own' ⟨ys,h1,h2,h3,h4⟩
 refine ⟨ys,h1,List.pairwise_iff_getElem.2 fun i j hi hj hij=>?_,h3,h4⟩
 have:=h2 i j hij hj
 rw [lt_lex,List.getD_eq_getElem?_getD,List.getD_eq_getElem?_getD,List.getElem?_eq_getElem hi,List.getElem?_eq_getElem hj] at this
 simp only [Option.getD_some,decide_eq_false_iff_not] at this
 exact this
end Go.Eng
namespace Go.Eng
open Go Go.RowKit Go.Proofs
abbrev ckF (c : Int × Int) : List IC:=[vu c.1,vu c.2]
theorem ckDelete (l : List (Int × Int)) (i j : Nat) (hij : i≤j) (hj : j≤l.length) (hl : l.length≤1000000000) : CallV Tryz.prog 193 [.c (.row 0),vci .i64 i,vci .i64 j] [some (.row 109 2 l.length fun k=>ckF (l.getD k (0,0)))]
  (fun r own'=>r = .c (.row 2)∧own' = [none,none,some (.row 109 2 (l.take i ++ l.drop j).length fun k=>ckF ((l.take i ++ l.drop j).getD k (0,0)))]):=by
 refine callV_view 0 rfl (fun h0=>?_) (fun c hc hc2=>?_)
 ·obtain rfl : l = []:=List.eq_nil_of_length_eq_zero h0
  obtain rfl : j = 0:=by simpa using hj
  obtain rfl : i = 0:=by omega
  show CallV Tryz.prog 193 [.c (.v (.slice none 0 0)),vci .i64 (0 : Nat),vci .i64 (0 : Nat)] [none] _
  refine callV_own Tryz.func193 rfl ttok ftok rfl rfl rfl (Nat.le_of_ble_eq_true rfl) rfl ?_
  conv=>whnf
  refine ⟨by omega,?_⟩
  conv=>whnf
  refine ⟨⟨rfl,rfl,rfl⟩,?_⟩
  conv=>whnf
  refine ⟨_,nil_row 6 109 2 (fun k=>ckF ([].getD k (0,0))) rfl,?_⟩
  conv=>whnf
  exact ⟨[none,none,some 1],rfl,rfl,rfl,rfl⟩
 show CallV Tryz.prog 193 [.c (.view 1 2 0 l.length c),vci .i64 i,vci .i64 j] [none,some (.arr 109 2 c l.length fun k=>ckF (l.getD k (0,0)))] _
 refine callV_own Tryz.func193 rfl ttok ftok rfl rfl rfl (Nat.le_of_ble_eq_true rfl) rfl ?_
 conv=>whnf
 refine ⟨⟨by omega,by omega,by omega,by omega⟩,?_⟩
 conv=>whnf
 refine onB_intro (fun h=>?_) (fun h=>?_)
 ·have e : (i : Int) = j:=by simpa using h
  have e : i = j:=by omega
  subst e
  conv=>whnf
  refine ⟨_,view_row 6 1 (n:=l.length) rfl rfl rfl rfl (Nat.le_refl _) rfl,?_⟩
  conv=>whnf
  refine ⟨[none,none,some 2],rfl,rfl,rfl,?_⟩
  rw [List.take_append_drop]
  rfl
 have hne : i≠j:=fun e=>by rw [e] at h;simp at h
 conv=>whnf
 refine drawV_mix 6 mixed (by kernel_rfl) ttok ftok ?_
 conv=>whnf
 refine ⟨⟨by omega,by omega,by omega,by omega⟩,?_⟩
 conv=>whnf
 refine ⟨⟨by omega,by omega,by omega,by omega⟩,?_⟩
 conv=>whnf
 refine ⟨by omega,⟨by omega,by omega⟩,fun h1=>?_,fun h1=>absurd h1 (by omega)⟩
 have hlen : (l.take i ++ l.drop j).length = i + (l.length - j):=by rw [List.length_append,List.length_take,List.length_drop];omega
 have hget : ∀ q,q < (l.take i ++ l.drop j).length→(i≤q∧(l.take i ++ l.drop j).getD q (0,0) = l.getD (j + (q - i)) (0,0))∨(q < i∧(l.take i ++ l.drop j).getD q (0,0) = l.getD q (0,0)):=fun q hq=>by
  rcases Nat.lt_or_ge q i with h2 | h2
  ·exact .inr ⟨h2,by rw [List.getD_eq_getElem?_getD,List.getElem?_append_left (by rw [List.length_take];omega),←List.getD_eq_getElem?_getD,getD_take _ _ _ _ h2]⟩
  ·exact .inl ⟨h2,by rw [List.getD_eq_getElem?_getD,List.getElem?_append_right (by rw [List.length_take];omega),←List.getD_eq_getElem?_getD,getD_drop,List.length_take,Nat.min_eq_left (by omega)]⟩
 refine ⟨(l.take i ++ l.drop j).length,fun k=>ckF ((l.take i ++ l.drop j).getD k (0,0)),fun q hq=>?_,?_⟩
 rotate_left
 ·conv=>whnf
  refine ⟨⟨by omega,by omega,by omega,by omega⟩,?_⟩
  conv=>whnf
  refine ⟨by omega,(l.take i ++ l.drop j).length,fun k=>ckF ((l.take i ++ l.drop j).getD k (0,0)),fun q hq=>.inr ⟨.inl (by omega),hq,rfl⟩,?_⟩
  conv=>whnf
  refine ⟨_,view_row 6 1 (n:=(l.take i ++ l.drop j).length) rfl rfl (by omega) (by omega) (by omega) (by omega),?_⟩
  conv=>whnf
  exact ⟨[none,none,some 2],rfl,rfl,rfl,rfl⟩
 ·rcases hget q hq with ⟨h2,h3⟩ | ⟨h2,h3⟩
  ·refine .inl ⟨by omega,by omega,?_⟩
   simp only [h3]
   congr 2
   omega
  ·exact .inr ⟨.inl (by omega),by omega,by simp only [h3]⟩
theorem ckInsert_get (l : List (Int × Int)) (x : (Int × Int)) (i : Nat) (hi : i≤l.length) (q : Nat) : (l.take i ++ x :: l.drop i).getD q (0,0) = if q < i then l.getD q (0,0) else if q = i then x else l.getD (q - 1) (0,0):=by
 split
 ·rename_i h
  rw [List.getD_eq_getElem?_getD,List.getElem?_append_left (by rw [List.length_take];omega),←List.getD_eq_getElem?_getD,getD_take _ _ _ _ h]
 ·rename_i h
  rw [List.getD_eq_getElem?_getD,List.getElem?_append_right (by rw [List.length_take];omega),←List.getD_eq_getElem?_getD,List.length_take,Nat.min_eq_left hi]
  split
  ·rename_i e
   subst e
   simp
  ·rename_i e
   obtain ⟨r,hr⟩ : ∃ r,q - i = r + 1:=⟨q - i - 1,by omega⟩
   rw [hr,List.getD_cons_succ,getD_drop]
   congr 1
   omega
theorem ckInsert_len (l : List (Int × Int)) (x : (Int × Int)) (i : Nat) (hi : i≤l.length) : (l.take i ++ x :: l.drop i).length = l.length + 1:=by
 rw [List.length_append,List.length_cons,List.length_take,List.length_drop];omega
theorem ckInsert (l : List (Int × Int)) (x : (Int × Int)) (i : Nat) (hi : i≤l.length) (hl : l.length≤1000000000) (g : Nat→List IC) (hg : g 0 = ckF x) : CallV Tryz.prog 194 [.c (.row 0),vci .i64 i,.c (.row 1)] [some (.row 109 2 l.length fun k=>ckF (l.getD k (0,0))),some (.row 109 2 1 g)]
  (fun r own'=>r = .c (.row 3)∧own' = [none,none,none,some (.row 109 2 (l.take i ++ x :: l.drop i).length fun k=>ckF ((l.take i ++ x :: l.drop i).getD k (0,0)))]):=by
 have hget:=ckInsert_get l x i hi
 have hlen:=ckInsert_len l x i hi
 have hg0 : ∀ q,q < 1→g q = ckF x:=fun q hq=>by
  obtain rfl : q = 0:=by omega
  exact hg
 generalize hl' : l.take i ++ x :: l.drop i = l' at hget hlen
 refine callV_view 0 rfl (fun h0=>?_) (fun c hc hc2=>?_)
 ·obtain rfl : l = []:=List.eq_nil_of_length_eq_zero h0
  obtain rfl : i = 0:=by simpa using hi
  show CallV Tryz.prog 194 [.c (.v (.slice none 0 0)),vci .i64 (0 : Nat),.c (.row 1)] [none,some (.row 109 2 1 g)] _
  refine callV_own Tryz.func194 rfl ttok ftok rfl rfl rfl (Nat.le_of_ble_eq_true rfl) rfl ?_
  conv=>whnf
  refine ⟨⟨rfl,rfl,rfl⟩,?_⟩
  conv=>whnf
  refine ⟨by omega,?_⟩
  conv=>whnf
  refine ⟨⟨by omega,by show (0 + 1) * 8≤_;omega⟩,?_⟩
  conv=>whnf
  refine ⟨l'.length,fun k=>ckF (l'.getD k (0,0)),by rw [hlen];simp,fun k hk=>by omega,fun k hk=>?_,?_⟩
  ·obtain rfl : k = 0:=by omega
   rw [hg]
   show ckF (l'.getD (0 + 0) (0,0)) = _
   rw [hget]
   rfl
  conv=>whnf
  refine ⟨_,Weak.refl _,?_⟩
  conv=>whnf
  exact ⟨[none,none,none,some 2],rfl,rfl,rfl,rfl⟩
 show CallV Tryz.prog 194 [.c (.view 2 2 0 l.length c),vci .i64 i,.c (.row 1)] [none,some (.row 109 2 1 g),some (.arr 109 2 c l.length fun k=>ckF (l.getD k (0,0)))] _
 refine callV_own Tryz.func194 rfl ttok ftok rfl rfl rfl (Nat.le_of_ble_eq_true rfl) rfl ?_
 conv=>whnf
 refine ⟨⟨by omega,by omega,by omega,by omega⟩,?_⟩
 conv=>whnf
 refine onB_intro (fun h=>?_) (fun h=>?_)
 ·have e : (i : Int) = l.length:=by simpa using h
  have e : i = l.length:=by omega
  subst e
  conv=>whnf
  refine ⟨trivial,⟨by omega,by omega⟩,fun h1=>?_,fun h1=>?_⟩
  ·refine ⟨l'.length,fun k=>ckF (l'.getD k (0,0)),fun q hq=>?_,?_⟩
   rotate_left
   ·conv=>whnf
    refine ⟨_,view_row 6 2 (n:=l'.length) rfl rfl (by omega) (by omega) (by omega) (by omega),?_⟩
    conv=>whnf
    exact ⟨[none,none,none,some 3],rfl,rfl,rfl,rfl⟩
   ·rcases Nat.lt_or_ge q l.length with h2 | h2
    ·exact .inr ⟨.inl (by omega),h2,by simp only [hget,if_pos h2]⟩
    ·obtain rfl : q = l.length:=by omega
     refine .inl ⟨by omega,by omega,?_⟩
     rw [show l.length - (0 + l.length) = 0 by omega,hg]
     simp only [hget,if_neg (Nat.lt_irrefl _),if_true]
  ·refine ⟨⟨by omega,by show (l.length + 1) * 8≤_;omega⟩,fun k=>ckF (l'.getD k (0,0)),fun q hq=>by simp only [hget,if_pos hq,Nat.zero_add],fun q hq=>?_,fun cap' hcap=>?_⟩
   ·rw [hg0 q hq]
    obtain rfl : q = 0:=by omega
    simp only [Nat.add_zero,hget,if_neg (Nat.lt_irrefl _),if_true]
   ·conv=>whnf
    refine ⟨_,view_row 6 3 (n:=l'.length) rfl rfl rfl (by omega) (by omega) rfl,?_⟩
    conv=>whnf
    exact ⟨[none,none,none,some 4],rfl,rfl,rfl,rfl⟩
 have hne : i < l.length:=by
  have : i≠l.length:=fun e=>by rw [e] at h;simp at h
  omega
 clear h
 conv=>whnf
 have w1 : IntKind.i64.wrap ((l.length : Int) + (1 : Nat)) = (l.length : Int) + (1 : Nat):=w_i64 (by omega) (by omega)
 have w2 : IntKind.i64.wrap ((l.length : Int) + (1 : Nat) - i) = ((l.length + 1 - i : Nat) : Int):=by rw [w_i64 (by omega) (by omega)];omega
 have w3 : IntKind.i64.wrap ((i : Int) + (1 : Nat)) = ((i + 1 : Nat) : Int):=by rw [w_i64 (by omega) (by omega)];omega
 refine onB_intro (fun h=>?_) (fun h=>?_)
 ·have h:=of_decide_eq_true h
  rw [w1] at h
  conv=>whnf
  refine ⟨⟨by omega,by omega,by omega,by omega⟩,?_⟩
  conv=>whnf
  rw [w1,w2]
  refine ⟨by omega,⟨by omega,by omega,by omega,by show _ * (((8 : Nat)) : Int)≤_;omega⟩,fun q=>if q < i then ckF (l.getD q (0,0)) else [vu 0,vu 0],fun q hq=>?_,fun q hq=>?_,fun cap' hcap=>?_⟩
  ·dsimp only
   rw [if_pos (by omega),show 0 + Int.toNat 0 + q = q from by omega]
  ·dsimp only
   rw [if_neg (by omega)];rfl
  conv=>whnf
  refine ⟨⟨by omega,by omega,by omega,by omega⟩,?_⟩
  conv=>whnf
  refine ⟨trivial,by omega,l.length + 1,fun q=>if q < i then ckF (l.getD q (0,0)) else if q = i then ckF x else [vu 0,vu 0],fun q hq=>?_,?_⟩
  ·rcases Nat.lt_trichotomy q i with h2 | h2 | h2
   ·exact .inr ⟨.inl (by omega),by omega,by dsimp only;rw [if_pos h2,if_pos h2]⟩
   ·subst h2
    exact .inl ⟨by omega,by omega,by dsimp only;rw [if_neg (Nat.lt_irrefl _),if_pos rfl,hg0 _ (by omega)]⟩
   ·exact .inr ⟨.inr (by omega),by omega,by dsimp only;rw [if_neg (by omega),if_neg (by omega),if_neg (by omega)]⟩
  conv=>whnf
  refine drawV_mix 8 mixed (by kernel_rfl) ttok ftok ?_
  conv=>whnf
  rw [w3]
  refine ⟨⟨by omega,by omega,by omega,by omega⟩,?_⟩
  conv=>whnf
  refine ⟨⟨by omega,by omega,by omega,by omega⟩,?_⟩
  conv=>whnf
  refine ⟨by omega,by omega,l'.length,fun k=>ckF (l'.getD k (0,0)),fun q hq=>?_,?_⟩
  ·rcases Nat.lt_trichotomy q i with h2 | h2 | h2
   ·exact .inr ⟨.inl (by omega),by omega,by simp only [hget,if_pos h2]⟩
   ·subst h2
    exact .inr ⟨.inl (by omega),by omega,by simp only [hget,if_neg (Nat.lt_irrefl _),if_true]⟩
   ·refine .inl ⟨by omega,by omega,?_⟩
    simp only [hget,if_neg (show ¬ q < i by omega),if_neg (show ¬ q = i by omega)]
    congr 2
    omega
  conv=>whnf
  refine ⟨_,view_row 6 3 (n:=l'.length) rfl rfl (by omega) (by omega) (by omega) (by omega),?_⟩
  conv=>whnf
  exact ⟨[none,none,none,some 4],rfl,rfl,rfl,rfl⟩
 ·have h:=of_decide_eq_false h
  rw [w1] at h
  conv=>whnf
  rw [w1]
  refine ⟨⟨by omega,by omega,by omega,by omega⟩,?_⟩
  conv=>whnf
  rw [w3]
  refine ⟨⟨by omega,by omega,by omega,by omega⟩,?_⟩
  conv=>whnf
  refine ext_overlaps (t:=24) (r:=4) (ti:=ti109) Tryz.func239 (by kernel_rfl) rfl (by kernel_rfl) (by kernel_rfl) tf109 Tryz.underlying24 (apart_row_view (by decide) rfl rfl (by omega) (by omega) (by omega) (by decide)) ?_
  conv=>whnf
  refine drawV_mix 8 mixed (by kernel_rfl) ttok ftok ?_
  conv=>whnf
  rw [w3]
  refine ⟨⟨by omega,by omega,by omega,by omega⟩,?_⟩
  conv=>whnf
  refine ⟨⟨by omega,by omega,by omega,by omega⟩,?_⟩
  conv=>whnf
  refine ⟨by omega,by omega,l'.length,fun q=>if q < i + 1 then ckF (l.getD q (0,0)) else ckF (l.getD (q - 1) (0,0)),fun q hq=>?_,?_⟩
  ·rcases Nat.lt_or_ge q (i + 1) with h2 | h2
   ·exact .inr ⟨.inl (by omega),by omega,by dsimp only;rw [if_pos h2]⟩
   ·refine .inl ⟨by omega,by omega,?_⟩
    dsimp only
    rw [if_neg (by omega)]
    congr 2
    omega
  conv=>whnf
  refine ⟨⟨by omega,by omega,by omega,by omega⟩,?_⟩
  conv=>whnf
  refine ⟨trivial,by omega,l'.length,fun k=>ckF (l'.getD k (0,0)),fun q hq=>?_,?_⟩
  ·rcases Nat.lt_trichotomy q i with h2 | h2 | h2
   ·exact .inr ⟨.inl (by omega),by omega,by dsimp only;rw [hget,if_pos h2,if_pos (by omega)]⟩
   ·subst h2
    exact .inl ⟨by omega,by omega,by dsimp only;rw [hget,if_neg (Nat.lt_irrefl _),if_pos rfl,hg0 _ (by omega)]⟩
   ·exact .inr ⟨.inr (by omega),by omega,by dsimp only;rw [hget,if_neg (by omega),if_neg (by omega),if_neg (by omega)]⟩
  conv=>whnf
  refine ⟨_,view_row 6 2 (n:=l'.length) rfl rfl (by omega) (by omega) (by omega) (by omega),?_⟩
  conv=>whnf
  exact ⟨[none,none,none,some 3],rfl,rfl,rfl,rfl⟩
end Go.Eng
namespace Go.Eng
open Go Go.RowKit Go.Proofs
theorem ckClone (l : List (Int × Int)) (hl : l.length≤1000000000) : CallV Tryz.prog 52 [.c (.sl 2 l.length fun k=>ckF (l.getD k (0,0)))] []
  (fun r own'=>r = .c (.row 0)∧own' = [some (.row 109 2 l.length fun k=>ckF (l.getD k (0,0)))]):=by
 refine callV_own Tryz.func52 rfl ttok ftok rfl rfl rfl (Nat.le_of_ble_eq_true rfl) rfl ?_
 conv=>whnf
 intro b hb
 cases b with
 | true =>
  have h0:=hb rfl
  obtain rfl : l = []:=List.eq_nil_of_length_eq_zero h0
  conv=>whnf
  refine ⟨_,nil_row 2 109 2 (fun k=>ckF (([] : List (Int × Int)).getD k (0,0))) rfl,?_⟩
  conv=>whnf
  exact ⟨[some 0],rfl,rfl,rfl,rfl⟩
 | false =>
  clear hb
  conv=>whnf
  refine ⟨⟨by omega,by show (0 + l.length) * 8≤_;omega⟩,?_⟩
  conv=>whnf
  refine ⟨l.length,fun k=>ckF (l.getD k (0,0)),by omega,fun k hk=>by omega,fun k hk=>by rw [Nat.zero_add],?_⟩
  conv=>whnf
  refine ⟨_,Weak.refl _,?_⟩
  conv=>whnf
  exact ⟨[some 1],rfl,rfl,rfl,rfl⟩
def ckSearchI (O : List (Option Ob)) (l : List (Int × Int)) (ta : AV) (c : (Int × Int)→Int) (caps : List (Bool × List IC)) (m : Nat) (st : St) : Prop:=∃ i j : Nat,m = j - i∧i≤j∧j≤l.length∧(i = 0∨c (l.getD (i - 1) (0,0)) < 0)∧(j = l.length∨0≤c (l.getD j (0,0))) ∧
 st = ⟨49,O.length,[(0,.c (.sl 2 l.length fun k=>ckF (l.getD k (0,0)))),(1,ta),(2,.c (.fn 163 caps)),(8,vci .i64 l.length),(9,vci .i64 (i : Int)),(10,vci .i64 (j : Int))],O⟩
theorem ckSearch (O : List (Option Ob)) (l : List (Int × Int)) (hl : l.length≤1000000000) (caps : List (Bool × List IC)) (t : Int) (c : (Int × Int)→Int)
  (hp : ∀ k,k < l.length→CallV Tryz.prog 163 (.agg (ckF (l.getD k (0,0))) :: (vci .u32 t) :: capsA caps) O (fun r own'=>r = vci .i64 (c (l.getD k (0,0)))∧own' = O)) :
  CallV Tryz.prog 162 [.c (.sl 2 l.length fun k=>ckF (l.getD k (0,0))),vci .u32 t,.c (.fn 163 caps)] O (fun r own'=>∃ i : Nat,i≤l.length∧(i = 0∨c (l.getD (i - 1) (0,0)) < 0)∧(i = l.length∨0≤c (l.getD i (0,0))) ∧
   r = .tup [vci .i64 i,vcb (decide (i < l.length∧c (l.getD i (0,0)) = 0))]∧own' = O):=by
 refine callV_same Tryz.func162 rfl ttok ftok rfl rfl rfl (Nat.le_of_ble_eq_true rfl) ?_
 conv=>whnf
 refine loopV ttok ftok (ckSearchI O l (vci .u32 t) c caps) (env_weak [0,1,2,8,9,10] rfl) ⟨0,l.length,rfl,Nat.zero_le _,Nat.le_refl _,.inl rfl,.inl rfl,rfl⟩ ?_
 rintro m st ⟨i,j,rfl,hij,hj,h1,h2,rfl⟩
 conv=>whnf
 refine onB_intro (fun h=>?_) (fun h=>?_)
 ·have h:=of_decide_eq_true h
  have hw : IntKind.i64.wrap (IntKind.u64.wrap (IntKind.i64.wrap ((i : Int) + j)) / 2 ^ Int.toNat 1) = (((i + j) / 2 : Nat) : Int):=by
   rw [w_i64 (x:=(i : Int) + j) (by omega) (by omega),w_u64,show (2 : Int) ^ Int.toNat 1 = 2 from rfl,w_i64 (by omega) (by omega)]
   omega
  conv=>whnf
  refine ⟨⟨by omega,by decide⟩,?_⟩
  conv=>whnf
  rw [forceL_eq]
  conv=>whnf
  rw [hw]
  refine ⟨⟨by omega,by omega⟩,?_⟩
  conv=>whnf
  refine (hp ((i + j) / 2) (by omega)).mono ?_
  rintro r own2 ⟨rfl,rfl⟩
  conv=>whnf
  refine onB_intro (fun h3=>?_) (fun h3=>?_)
  ·have h3:=of_decide_eq_true h3
   conv=>whnf
   refine ⟨j - ((i + j) / 2 + 1),_,by omega,env_weak [0,1,2,8,9,10] rfl,(i + j) / 2 + 1,j,rfl,by omega,hj,.inr (by rw [Nat.add_sub_cancel];exact h3),h2,?_⟩
   rw [show ((((i + j) / 2 + 1 : Nat)) : Int) = IntKind.i64.wrap ((((i + j) / 2 : Nat) : Int) + 1) from by rw [w_i64 (by omega) (by omega)];omega,←hw]
   all_goals rfl
  ·have h3:=of_decide_eq_false h3
   conv=>whnf
   refine ⟨(i + j) / 2 - i,_,by omega,env_weak [0,1,2,8,9,10] rfl,i,(i + j) / 2,rfl,by omega,by omega,h1,.inr (by omega),?_⟩
   rw [←hw]
   all_goals rfl
 ·have h:=of_decide_eq_false h
  obtain rfl : i = j:=by omega
  conv=>whnf
  by_cases h3 : i < l.length
  ·rw [show decide ((i : Int) < (l.length : Int)) = true from decide_eq_true (by omega)]
   conv=>whnf
   rw [forceL_eq]
   conv=>whnf
   refine ⟨⟨by omega,by omega⟩,?_⟩
   conv=>whnf
   refine (hp i (by omega)).mono ?_
   rintro r own2 ⟨rfl,rfl⟩
   conv=>whnf
   refine ⟨_,Weak.refl _,?_⟩
   conv=>whnf
   refine ⟨i,hj,h1,h2,?_,rfl⟩
   rw [show decide (i < l.length∧c (l.getD i (0,0)) = 0) = (c (l.getD i (0,0)) == 0) from by rw [Bool.eq_iff_iff];simp [h3]]
   all_goals rfl
  ·rw [show decide ((i : Int) < (l.length : Int)) = false from decide_eq_false (by omega)]
   conv=>whnf
   refine ⟨_,Weak.refl _,?_⟩
   conv=>whnf
   refine ⟨i,hj,h1,h2,?_,rfl⟩
   rw [show decide (i < l.length∧c (l.getD i (0,0)) = 0) = false from decide_eq_false (by omega)]
   all_goals rfl
end Go.Eng
namespace Go.Eng
open Go Go.RowKit Go.Proofs
abbrev ckR (l : CV) (k : Nat) : List IC:=ckF (l.getD k (0,0))
abbrev ckS_V (l : CV) : AV:=.c (.sl 2 l.length (ckR l))
theorem cmpI_neg {x y : Int} : cmpI x y < 0↔x < y:=by unfold cmpI;split <;> (try split) <;> omega
theorem cmpI_nn {x y : Int} : 0≤cmpI x y↔y≤x:=by unfold cmpI;split <;> (try split) <;> omega
theorem cmpI_zero {x y : Int} : cmpI x y = 0↔x = y:=by unfold cmpI;split <;> (try split) <;> omega
theorem find1_c_V (x : Int × Int) (t : Int) : CallV Tryz.prog 163 [.agg (ckF x),vci .u32 t] [] (fun r own'=>own' = []∧r = vci .i64 (cmpI x.1 t)):=by
 refine callV_pure Tryz.func163 rfl ttok ftok rfl rfl rfl (Nat.le_of_ble_eq_true rfl) ?_
 conv=>whnf
 refine call_pure (cmpU_c _ _) rfl ?_
 rintro _ rfl
 conv=>whnf
 all_goals rfl
theorem find_c_V (l : CV) (hl : l.length≤1000000000) (hs : srt l) (t : Int) : CallV Tryz.prog 104 [ckS_V l,vci .u32 t] [] (fun r own'=>own' = []∧∃ i,At l t i∧r = .tup [vci .i64 (i : Int),vcb (decide (i < l.length∧(l.getD i (0,0)).1 = t))]):=by
 refine callV_pure Tryz.func104 rfl ttok ftok rfl rfl rfl (Nat.le_of_ble_eq_true rfl) ?_
 conv=>whnf
 refine (ckSearch [] l hl [] t (fun x=>cmpI x.1 t) (fun k hk=>call_pure (find1_c_V _ t) rfl (fun r h=>⟨h,rfl⟩))).mono ?_
 rintro r own2 ⟨i,hi,h1,h2,rfl,rfl⟩
 conv=>whnf
 refine ⟨i,At.of hs hi (h1.imp_right cmpI_neg.1) (h2.imp_right cmpI_nn.1),?_⟩
 rw [show decide (i < l.length∧(l.getD i (0,0)).1 = t) = decide (i < l.length∧cmpI (l.getD i (0,0)).1 t = 0) from by rw [Bool.eq_iff_iff];simp only [decide_eq_true_eq,cmpI_zero]]
theorem next_c (l : CV) (hl : l.length≤1000000000) (hs : srt l) (t : Int) : CallV Tryz.prog 60 [ckS_V l,vci .u32 t] [] (fun r own'=>own' = []∧r = vci .u32 (nxt l t)):=by
 refine callV_pure Tryz.func60 rfl ttok ftok rfl rfl rfl (Nat.le_of_ble_eq_true rfl) ?_
 conv=>whnf
 refine call_pure (find_c_V l hl hs t) rfl ?_
 rintro _ ⟨i,h,rfl⟩
 conv=>whnf
 refine onB_intro (fun h2=>?_) (fun h2=>?_)
 ·have h2:=of_decide_eq_true h2
  conv=>whnf
  refine ⟨⟨by omega,by omega⟩,?_⟩
  conv=>whnf
  rw [nxt_hit h h2.1 h2.2]
  all_goals rfl
 ·have h2:=of_decide_eq_false h2
  conv=>whnf
  rw [nxt_miss hs h h2]
theorem set_c (l : CV) (hl : l.length≤1000000) (hs : srt l) (t n : Int) (ht : 0≤t) (hn : 0≤n) : CallV Tryz.prog 131 [ckS_V l,vci .u32 t,vci .u32 n] [] (fun r own'=>own' = []∧r = ckS_V (setR l t n)):=by
 refine callV_pure Tryz.func131 rfl ttok ftok rfl rfl rfl (Nat.le_of_ble_eq_true rfl) ?_
 conv=>whnf
 refine call_frame2 [] rfl rfl rfl rfl (ckClone l (by omega)) ?_
 rintro r own2 ⟨rfl,rfl⟩
 refine ⟨.c (.row 0),[some (.row 109 2 l.length (ckR l))],rfl,rfl,?_⟩
 conv=>whnf
 refine call_pure (find_c_V l (by omega) hs t) rfl ?_
 rintro _ ⟨i,h,rfl⟩
 conv=>whnf
 by_cases h0 : t = 0
 ·subst h0
  conv=>whnf
  refine ⟨fun k hk=>rfl,?_⟩
  conv=>whnf
  rw [show setR l 0 n = l from by unfold setR;rw [if_pos rfl]]
 rw [show (t == 0) = false from by simpa using h0]
 conv=>whnf
 by_cases hh : i < l.length∧(l.getD i (0,0)).1 = t
 ·rw [show decide (i < l.length∧(l.getD i (0,0)).1 = t) = true from decide_eq_true hh]
  conv=>whnf
  by_cases hn0 : n = 0
  ·subst hn0
   conv=>whnf
   rw [show IntKind.i64.wrap ((i : Int) + 1) = ((i + 1 : Nat) : Int) from by rw [w_i64 (by omega) (by omega)];omega]
   refine call_frame2 [some 0] rfl rfl rfl rfl (ckDelete l i (i + 1) (by omega) (by omega) (by omega)) ?_
   rintro r own2 ⟨rfl,rfl⟩
   refine ⟨.c (.row 2),[none,none,some (.row 109 2 (l.take i ++ l.drop (i + 1)).length (ckR (l.take i ++ l.drop (i + 1))))],rfl,rfl,?_⟩
   conv=>whnf
   refine ⟨fun k hk=>rfl,?_⟩
   conv=>whnf
   rw [setR_hit hs h h0 hh.1 hh.2,if_pos rfl,List.append_nil]
  ·rw [show (n == 0) = false from by simpa using hn0]
   conv=>whnf
   have hlen : (l.take i ++ [(t,n)] ++ l.drop (i + 1)).length = l.length:=by simp;omega
   refine ⟨⟨by omega,by omega⟩,?_⟩
   conv=>whnf
   refine ⟨ckR (l.take i ++ [(t,n)] ++ l.drop (i + 1)),fun j hj=>?_,?_⟩
   ·show ckF _ = _
    rw [List.append_assoc]
    rcases Nat.lt_trichotomy j i with h3 | h3 | h3
    ·rw [if_neg (by omega),List.getD_eq_getElem?_getD,List.getElem?_append_left (by rw [List.length_take];omega),←List.getD_eq_getElem?_getD,getD_take _ _ _ _ h3]
    ·subst h3
     rw [if_pos (by omega),List.getD_eq_getElem?_getD,List.getElem?_append_right (by rw [List.length_take];omega),List.length_take,Nat.min_eq_left (by omega),Nat.sub_self]
     show [vu t,vu n] = [vu (l.getD j (0,0)).1,vu n]
     rw [hh.2]
    ·rw [if_neg (by omega),List.getD_eq_getElem?_getD,List.getElem?_append_right (by rw [List.length_take];omega),List.length_take,Nat.min_eq_left (by omega),List.singleton_append]
     obtain ⟨q,hq⟩ : ∃ q,j - i = q + 1:=⟨j - i - 1,by omega⟩
     rw [hq,←List.getD_eq_getElem?_getD,List.getD_cons_succ,getD_drop,show i + 1 + q = j by omega]
   conv=>whnf
   refine ⟨fun k hk=>rfl,?_⟩
   conv=>whnf
   rw [setR_hit hs h h0 hh.1 hh.2,if_neg hn0]
   show _ = AV.c (IC.sl 2 _ _)
   rw [hlen]
 ·rw [show decide (i < l.length∧(l.getD i (0,0)).1 = t) = false from decide_eq_false hh]
  conv=>whnf
  refine onB_intro (fun h3=>?_) (fun h3=>?_)
  ·have h3:=of_decide_eq_true h3
   conv=>whnf
   refine ⟨fun _=>ckF (t,n),fun j hj=>?_,?_⟩
   ·obtain rfl : j = 0:=by omega
    rfl
   conv=>whnf
   refine call_frame2 [some 0,some 1] rfl rfl rfl rfl (ckInsert l (t,n) i h.le (by omega) (fun _=>ckF (t,n)) rfl) ?_
   rintro r own2 ⟨rfl,rfl⟩
   refine ⟨.c (.row 3),[none,none,none,some (.row 109 2 (l.take i ++ (t,n) :: l.drop i).length (ckR (l.take i ++ (t,n) :: l.drop i)))],rfl,rfl,?_⟩
   conv=>whnf
   refine ⟨fun k hk=>rfl,?_⟩
   conv=>whnf
   rw [setR_miss hs h h0 hh,if_neg (by omega),List.append_assoc,List.singleton_append]
  ·have h3:=of_decide_eq_false h3
   conv=>whnf
   refine ⟨fun k hk=>rfl,?_⟩
   conv=>whnf
   rw [setR_miss hs h h0 hh,if_pos (by omega),List.append_nil,List.take_append_drop]
theorem setR_len (l : CV) (c n : Int) : (setR l c n).length≤l.length + 1:=by
 unfold setR
 split
 ·omega
 ·suffices ∀ (l : CV) (p : Bool),(rset c n l p).length≤l.length + (if p then 0 else 1) by
   have:=this l (n == 0);split at this <;> omega
  intro l
  induction l with
  | nil=>intro p;rw [rset];cases p <;> simp
  | cons x r ih =>
   intro p
   rw [rset]
   have h1:=ih (p || decide (c≤x.1))
   generalize decide (c≤x.1) = q at h1 ⊢
   cases p <;> cases q <;> simp at h1 ⊢ <;> split <;> simp <;> omega
theorem may_of {l : CV} (h : ∀ j,j < l.length→0 < (l.getD j (0,0)).1∧0 < (l.getD j (0,0)).2∧(0 < j→(l.getD (j - 1) (0,0)).1 < (l.getD j (0,0)).1)) : mayV l:=by
 refine ⟨List.pairwise_iff_getElem.2 ?_,fun x hx=>?_⟩
 ·have key : ∀ d i,i + d + 1 < l.length→(l.getD i (0,0)).1 < (l.getD (i + d + 1) (0,0)).1:=by
   intro d
   induction d with
   | zero=>intro i hi;have:=(h (i + 1) (by omega)).2.2 (by omega);simpa using this
   | succ d ih =>
    intro i hi
    have h1:=ih i (by omega)
    have h2:=(h (i + (d + 1) + 1) hi).2.2 (by omega)
    rw [show i + (d + 1) + 1 - 1 = i + d + 1 by omega] at h2
    omega
  intro i j hi hj hij
  have:=key (j - i - 1) i (by omega)
  rw [show i + (j - i - 1) + 1 = j by omega,List.getD_eq_getElem?_getD,List.getElem?_eq_getElem hi,List.getD_eq_getElem?_getD,List.getElem?_eq_getElem hj] at this
  exact this
 ·obtain ⟨j,hj,rfl⟩:=mem_getD (d:=(0,0)) hx
  exact ⟨(h j hj).1,(h j hj).2.1⟩
theorem may_at {l : CV} (hm : mayV l) {j : Nat} (hj : j < l.length) : 0 < (l.getD j (0,0)).1∧0 < (l.getD j (0,0)).2∧(0 < j→(l.getD (j - 1) (0,0)).1 < (l.getD j (0,0)).1):=by
 have:=hm.2 _ (getD_mem (d:=(0,0)) hj)
 exact ⟨this.1,this.2,fun h0=>srt_get hm.1 (by omega) hj⟩
end Go.Eng
namespace Go.Eng
open Go Go.RowKit Go.Proofs
theorem i64_succ {k : Nat} (h : k < 9223372036854775807) : IntKind.i64.wrap ((k : Int) + 1) = ((k + 1 : Nat) : Int):=by rw [w_i64 (by omega) (by omega)];omega
theorem ck_ext {x y : CV} (hl : x.length = y.length) (h : ∀ j,j < x.length→x.getD j (0,0) = y.getD j (0,0)) : x = y:=by
 refine List.ext_getElem hl (fun i h1 h2=>?_)
 have:=h i h1
 rw [List.getD_eq_getElem?_getD,List.getD_eq_getElem?_getD,List.getElem?_eq_getElem h1,List.getElem?_eq_getElem h2] at this
 exact this
def smI (x y : CV) (m : Nat) (st : St) : Prop:=∃ k : Nat,m = x.length - k∧k≤x.length∧(∀ j,j < k→x.getD j (0,0) = y.getD j (0,0))∧st = ⟨26,0,[(0,ckS_V x),(1,ckS_V y),(5,vci .i64 (k : Int))],[]⟩
theorem same_c_V (x y : CV) (hx : x.length≤1000000000) (hy : y.length≤1000000000) : CallV Tryz.prog 18 [ckS_V x,ckS_V y] [] (fun r own'=>own' = []∧r = vcb (decide (x = y))):=by
 refine callV_pure Tryz.func18 rfl ttok ftok rfl rfl rfl (Nat.le_of_ble_eq_true rfl) ?_
 conv=>whnf
 refine onB_intro (fun h=>?_) (fun h=>?_)
 ·conv=>whnf
  rw [show decide (x = y) = false from decide_eq_false (fun e=>by rw [e] at h;simp at h)]
 ·have hlen : x.length = y.length:=by
   have h : ((x.length : Int) != y.length) = false:=h
   simp at h
   omega
  conv=>whnf
  refine loopV ttok ftok (smI x y) (norm_weak [0,1,5] [] rfl rfl) ⟨0,rfl,Nat.zero_le _,fun j hj=>by omega,rfl⟩ ?_
  rintro m st ⟨k,rfl,hk,hj,rfl⟩
  conv=>whnf
  refine onB_intro (fun h=>?_) (fun h=>?_)
  ·have h:=of_decide_eq_true h
   conv=>whnf
   refine drawV_join mixed (by kernel_rfl) ttok ?_
   conv=>whnf
   refine ⟨⟨by omega,by omega⟩,?_⟩
   conv=>whnf
   refine ⟨⟨by omega,by omega⟩,?_⟩
   conv=>whnf
   refine onB_intro (fun h2=>?_) (fun h2=>?_)
   ·have h2 : (!((x.getD k (0,0)).1 == (y.getD k (0,0)).1 && ((x.getD k (0,0)).2 == (y.getD k (0,0)).2 && true))) = true:=h2
    conv=>whnf
    rw [show decide (x = y) = false from decide_eq_false (fun e=>by rw [e] at h2;simp at h2)]
   ·have h2 : (!((x.getD k (0,0)).1 == (y.getD k (0,0)).1 && ((x.getD k (0,0)).2 == (y.getD k (0,0)).2 && true))) = false:=h2
    have h3 : x.getD k (0,0) = y.getD k (0,0):=by
     simp only [Bool.not_eq_false',Bool.and_true,Bool.and_eq_true,beq_iff_eq] at h2
     exact Prod.ext h2.1 h2.2
    conv=>whnf
    refine ⟨x.length - (k + 1),_,by omega,norm_weak [0,1,5] [] rfl rfl,k + 1,rfl,by omega,fun j hj2=>?_,?_⟩
    ·rcases Nat.lt_succ_iff_lt_or_eq.1 hj2 with h4 | rfl
     ·exact hj j h4
     ·exact h3
    rw [←i64_succ (by omega)]
    all_goals rfl
  ·have h:=of_decide_eq_false h
   conv=>whnf
   rw [show decide (x = y) = true from decide_eq_true (ck_ext hlen (fun j hj2=>hj j (by omega)))]
end Go.Eng

namespace Go.Eng
open Go Go.RowKit Go.Proofs
theorem find_first : ∀ {l : CV} {t : Int} {k : Nat}, (∀ j, j < k → (l.getD j (0, 0)).1 ≠ t) → k < l.length → (l.getD k (0, 0)).1 = t → nxt l t = (l.getD k (0, 0)).2
  | [], t, k, _, h, _ => by simp at h
  | x :: r, t, 0, _, _, h => by
    have h : x.1 = t := h
    show (match (x :: r).find? (fun x => x.1 == t) with | some x => x.2 | none => 0) = x.2
    rw [List.find?_cons_of_pos (by rw [h]; exact beq_self_eq_true t)]
  | x :: r, t, k + 1, hj, hk, h => by
    have h0 : x.1 ≠ t := hj 0 (by omega)
    have := find_first (l := r) (t := t) (k := k) (fun j hj2 => by have := hj (j + 1) (by omega); simpa using this) (by simpa using hk) (by simpa using h)
    rw [List.getD_cons_succ, ← this]
    unfold nxt
    rw [List.find?_cons_of_neg (by simpa using h0)]
theorem nxt_none {l : CV} {t : Int} (h : ∀ j, j < l.length → (l.getD j (0, 0)).1 ≠ t) : nxt l t = 0 := by
  unfold nxt
  rw [find_none (fun x hx => by obtain ⟨j, hj, rfl⟩ := mem_getD (d := (0, 0)) hx; exact h j hj)]
def rnI_V (l : CV) (t : Int) (m : Nat) (st : St) : Prop := ∃ k : Nat, m = l.length - k ∧ k ≤ l.length ∧ (∀ j, j < k → (l.getD j (0, 0)).1 ≠ t) ∧ st = ⟨24, 0, [(0, ckS_V l), (1, vci .u32 t), (5, vci .i64 (k : Int))], []⟩
theorem rnext_c (l : CV) (hl : l.length ≤ 1000000000) (t : Int) : CallV Tryz.prog 67 [ckS_V l, vci .u32 t] [] (fun r own' => own' = [] ∧ r = vci .u32 (nxt l t)) := by
  refine callV_pure Tryz.func67 rfl ttok ftok rfl rfl rfl (Nat.le_of_ble_eq_true rfl) ?_
  conv => whnf
  refine loopV ttok ftok (rnI_V l t) (norm_weak [0, 1, 5] [] rfl rfl) ⟨0, rfl, Nat.zero_le _, fun j hj => by omega, rfl⟩ ?_
  rintro m st ⟨k, rfl, hk, hj, rfl⟩
  conv => whnf
  refine onB_intro (fun h => ?_) (fun h => ?_)
  · have h := of_decide_eq_true h
    conv => whnf
    refine ⟨⟨by omega, by omega⟩, ?_⟩
    conv => whnf
    refine onB_intro (fun h2 => ?_) (fun h2 => ?_)
    · have h2 : (l.getD k (0, 0)).1 = t := by simpa only [ti_nat, beq_iff_eq] using h2
      conv => whnf
      refine ⟨⟨by omega, by omega⟩, ?_⟩
      conv => whnf
      rw [find_first hj (by omega) h2]
      all_goals rfl
    · have h2 : (l.getD k (0, 0)).1 ≠ t := by simpa only [ti_nat, beq_eq_false_iff_ne] using h2
      conv => whnf
      refine ⟨l.length - (k + 1), _, by omega, norm_weak [0, 1, 5] [] rfl rfl, k + 1, rfl, by omega, fun j hj2 => ?_, ?_⟩
      · rcases Nat.lt_succ_iff_lt_or_eq.1 hj2 with h3 | rfl
        · exact hj j h3
        · exact h2
      rw [← i64_succ (by omega)]
      all_goals rfl
  · have h := of_decide_eq_false h
    conv => whnf
    rw [nxt_none (fun j hj2 => hj j (by omega))]
def rsI_V (l : CV) (t n : Int) (m : Nat) (st : St) : Prop := ∃ (k : Nat) (put : Bool) (X : CV), m = l.length - k ∧ k ≤ l.length ∧ X.length ≤ 2 * k ∧ rset t n l (n == 0) = X ++ rset t n (l.drop k) put ∧
  st = ⟨61, 0, [(0, ckS_V l), (1, vci .u32 t), (2, vci .u32 n), (7, .c (.row 0)), (8, vcb put), (9, vci .i64 (k : Int))], [some (.row 109 2 X.length (ckR X))]⟩
theorem rset_c (l : CV) (hl : l.length ≤ 1000000) (t n : Int) : CallV Tryz.prog 100 [ckS_V l, vci .u32 t, vci .u32 n] [] (fun r own' => own' = [] ∧ r = ckS_V (setR l t n)) := by
  refine callV_pure Tryz.func100 rfl ttok ftok rfl rfl rfl (Nat.le_of_ble_eq_true rfl) ?_
  conv => whnf
  by_cases h0 : t = 0
  · subst h0
    conv => whnf
    rw [show setR l 0 n = l from by unfold setR; rw [if_pos rfl]]
  rw [show (t == 0) = false from by simpa using h0]
  conv => whnf
  refine loopV ttok ftok (rsI_V l t n) ((nil_row 7 109 2 (ckR []) rfl).trans (norm_weak [0, 1, 2, 7, 8, 9] [some 0] rfl rfl)) ⟨0, (n == 0), [], rfl, Nat.zero_le _, Nat.zero_le _, rfl, rfl⟩ ?_
  rintro m st ⟨k, put, X, rfl, hk, hX, hj, rfl⟩
  conv => whnf
  refine onB_intro (fun h => ?_) (fun h => ?_)
  · have h := of_decide_eq_true h
    have hkl : k < l.length := by omega
    rw [drop_getD (d := (0, 0)) hkl, rset] at hj
    conv => whnf
    refine ⟨?_, ?_⟩
    · conv => whnf
      intro g1
      conv => whnf
      omega
    conv => whnf
    generalize hx : l.getD k (0, 0) = x at hj
    rw [ti_nat, hx, show pickB (!put) (Operand.tmp 30) (.const (.bool false)) (decide (x.1 ≥ t)) false = (!put && decide (t ≤ x.1)) from rfl]
    by_cases hp : put = false ∧ t ≤ x.1
    · have e1 : (!put && decide (t ≤ x.1)) = true := by rw [hp.1, decide_eq_true hp.2]; rfl
      have e2 : (put || decide (t ≤ x.1)) = true := by rw [hp.1, decide_eq_true hp.2]; rfl
      rw [e1, e2] at hj
      rw [e1]
      conv => whnf
      refine ⟨fun _ => ckF (t, n), fun j hj2 => ?_, ?_⟩
      · obtain rfl : j = 0 := by omega
        rfl
      conv => whnf
      refine ⟨⟨by (try simp only [List.length_append, List.length_singleton]); omega, by show (List.length X + 1) * 8 ≤ _; (try simp only [List.length_append, List.length_singleton]); omega⟩, ?_⟩
      conv => whnf
      refine app1 (enc := ckF) (d := (0, 0)) (l := X) (t, n) (fun k hk => rfl) rfl ?_
      conv => whnf
      refine ⟨⟨by omega, by omega⟩, ?_⟩
      conv => whnf
      rw [ti_nat, hx]
      by_cases hxt : x.1 = t
      · rw [show (x.1 != t) = false from by simpa using hxt]
        rw [if_pos hxt] at hj
        conv => whnf
        · refine ⟨l.length - (k + 1), _, by omega, norm_weak [0, 1, 2, 7, 8, 9] [some 2] rfl rfl, k + 1, true, X ++ [(t, n)], rfl, by omega, by (try simp only [List.length_append, List.length_singleton]); omega, by rw [hj]; simp, ?_⟩
          rw [← i64_succ (by omega)]
          all_goals rfl
      · rw [show (x.1 != t) = true from by simpa using hxt]
        rw [if_neg hxt] at hj
        conv => whnf
        refine ⟨⟨by omega, by omega⟩, ?_⟩
        conv => whnf
        rw [ti_nat, hx]
        refine ⟨fun _ => ckF x, fun j hj2 => ?_, ?_⟩
        · obtain rfl : j = 0 := by omega
          rfl
        conv => whnf
        refine ⟨⟨by (try simp only [List.length_append, List.length_singleton]); omega, by show (List.length (X ++ [(t, n)]) + 1) * 8 ≤ _; (try simp only [List.length_append, List.length_singleton]); omega⟩, ?_⟩
        conv => whnf
        refine app1 (enc := ckF) (d := (0, 0)) (l := (X ++ [(t, n)])) x (fun k hk => rfl) rfl ?_
        conv => whnf
        · refine ⟨l.length - (k + 1), _, by omega, norm_weak [0, 1, 2, 7, 8, 9] [some 4] rfl rfl, k + 1, true, X ++ [(t, n)] ++ [x], rfl, by omega, by (try simp only [List.length_append, List.length_singleton]); omega, by rw [hj]; simp, ?_⟩
          rw [← i64_succ (by omega)]
          all_goals rfl
    · have e1 : (!put && decide (t ≤ x.1)) = false := by
        cases put with
        | true => rfl
        | false => have : ¬ t ≤ x.1 := fun h => hp ⟨rfl, h⟩
                   rw [decide_eq_false this]; rfl
      have e2 : (put || decide (t ≤ x.1)) = put := by
        cases put with
        | true => rfl
        | false => have : ¬ t ≤ x.1 := fun h => hp ⟨rfl, h⟩
                   rw [decide_eq_false this]; rfl
      rw [e1, e2] at hj
      rw [e1]
      conv => whnf
      refine ⟨⟨by omega, by omega⟩, ?_⟩
      conv => whnf
      rw [ti_nat, hx]
      by_cases hxt : x.1 = t
      · rw [show (x.1 != t) = false from by simpa using hxt]
        rw [if_pos hxt] at hj
        conv => whnf
        · refine ⟨l.length - (k + 1), _, by omega, norm_weak [0, 1, 2, 7, 8, 9] [some 0] rfl rfl, k + 1, put, X, rfl, by omega, by (try simp only [List.length_append, List.length_singleton]); omega, by rw [hj]; simp, ?_⟩
          rw [← i64_succ (by omega)]
          all_goals rfl
      · rw [show (x.1 != t) = true from by simpa using hxt]
        rw [if_neg hxt] at hj
        conv => whnf
        refine ⟨⟨by omega, by omega⟩, ?_⟩
        conv => whnf
        rw [ti_nat, hx]
        refine ⟨fun _ => ckF x, fun j hj2 => ?_, ?_⟩
        · obtain rfl : j = 0 := by omega
          rfl
        conv => whnf
        refine ⟨⟨by (try simp only [List.length_append, List.length_singleton]); omega, by show (List.length X + 1) * 8 ≤ _; (try simp only [List.length_append, List.length_singleton]); omega⟩, ?_⟩
        conv => whnf
        refine app1 (enc := ckF) (d := (0, 0)) (l := X) x (fun k hk => rfl) rfl ?_
        conv => whnf
        · refine ⟨l.length - (k + 1), _, by omega, norm_weak [0, 1, 2, 7, 8, 9] [some 2] rfl rfl, k + 1, put, X ++ [x], rfl, by omega, by (try simp only [List.length_append, List.length_singleton]); omega, by rw [hj]; simp, ?_⟩
          rw [← i64_succ (by omega)]
          all_goals rfl
  · have h := of_decide_eq_false h
    obtain rfl : k = l.length := by omega
    rw [List.drop_length, rset] at hj
    conv => whnf
    cases put with
    | true =>
      conv => whnf
      refine ⟨fun k hk => rfl, ?_⟩
      conv => whnf
      unfold setR
      rw [if_neg h0, hj]
      simp
    | false =>
      conv => whnf
      refine ⟨fun _ => ckF (t, n), fun j hj2 => ?_, ?_⟩
      · obtain rfl : j = 0 := by omega
        rfl
      conv => whnf
      refine ⟨⟨by (try simp only [List.length_append, List.length_singleton]); omega, by show (List.length X + 1) * 8 ≤ _; (try simp only [List.length_append, List.length_singleton]); omega⟩, ?_⟩
      conv => whnf
      refine app1 (enc := ckF) (d := (0, 0)) (l := X) (t, n) (fun k hk => rfl) rfl ?_
      conv => whnf
      refine ⟨fun k hk => rfl, ?_⟩
      conv => whnf
      unfold setR
      rw [if_neg h0, hj]
      all_goals rfl
def rmI_V (l : CV) (m : Nat) (st : St) : Prop := ∃ k : Nat, m = l.length - k ∧ k ≤ l.length ∧ (∀ j, j < k → 0 < (l.getD j (0, 0)).1 ∧ 0 < (l.getD j (0, 0)).2 ∧ (0 < j → (l.getD (j - 1) (0, 0)).1 < (l.getD j (0, 0)).1)) ∧
  st = ⟨40, 0, [(0, ckS_V l), (3, vci .i64 (k : Int))], []⟩
theorem rmay_c_V (l : CV) (hl : l.length ≤ 1000000000) (hn : ∀ x ∈ l, 0 ≤ x.1 ∧ 0 ≤ x.2) : CallV Tryz.prog 11 [ckS_V l] [] (fun r own' => own' = [] ∧ ∃ b : Bool, (b = true ↔ mayV l) ∧ r = vcb b) := by
  refine callV_pure Tryz.func11 rfl ttok ftok rfl rfl rfl (Nat.le_of_ble_eq_true rfl) ?_
  conv => whnf
  refine loopV ttok ftok (rmI_V l) (norm_weak [0, 3] [] rfl rfl) ⟨0, rfl, Nat.zero_le _, fun j hj => by omega, rfl⟩ ?_
  rintro m st ⟨k, rfl, hk, hj, rfl⟩
  conv => whnf
  refine onB_intro (fun h => ?_) (fun h => ?_)
  · have h := of_decide_eq_true h
    have hkl : k < l.length := by omega
    have hx := hn _ (getD_mem (d := (0, 0)) hkl)
    conv => whnf
    refine ⟨⟨by omega, by omega⟩, ?_⟩
    conv => whnf
    refine ⟨?_, ?_⟩
    · conv => whnf
      intro g1
      conv => whnf
      omega
    conv => whnf
    refine onB_intro (fun h2 => ?_) (fun h2 => ?_)
    · simp only [pickB, isLit, Bool.or_eq_true, beq_iff_eq, ti_nat] at h2
      conv => whnf
      refine ⟨false, ⟨fun e => (by cases e), fun hm => ?_⟩, rfl⟩
      have h3 := may_at hm hkl
      omega
    · simp only [pickB, isLit, Bool.or_eq_false_iff, beq_eq_false_iff_ne, ti_nat] at h2
      conv => whnf
      refine drawV_join mixed (by kernel_rfl) ttok ?_
      conv => whnf
      refine ⟨?_, ?_⟩
      · conv => whnf
        intro g1
        conv => whnf
        omega
      conv => whnf
      refine ⟨?_, ?_⟩
      · conv => whnf
        intro g1
        have g1 := of_decide_eq_true g1
        conv => whnf
        rw [w_i64 (by omega) (by omega)]
        omega
      conv => whnf
      refine onB_intro (fun h3 => ?_) (fun h3 => ?_)
      · simp only [pickB, isLit, Bool.and_eq_true, decide_eq_true_eq, ti_nat] at h3
        conv => whnf
        refine ⟨false, ⟨fun e => (by cases e), fun hm => ?_⟩, rfl⟩
        have h4 := may_at hm hkl
        rw [show (IntKind.i64.wrap ((k : Int) - 1)).toNat = k - 1 from by rw [w_i64 (by omega) (by omega)]; omega] at h3
        have := h4.2.2 (by omega)
        omega
      · simp only [pickB, isLit, Bool.and_eq_false_iff, decide_eq_false_iff_not, ti_nat] at h3
        conv => whnf
        refine ⟨l.length - (k + 1), _, by omega, norm_weak [0, 3] [] rfl rfl, k + 1, rfl, by omega, fun j hj2 => ?_, ?_⟩
        · rcases Nat.lt_succ_iff_lt_or_eq.1 hj2 with h4 | rfl
          · exact hj j h4
          · refine ⟨by omega, by omega, fun h0 => ?_⟩
            rcases h3 with h4 | h4
            · omega
            · rw [show (IntKind.i64.wrap ((j : Int) - 1)).toNat = j - 1 from by rw [w_i64 (by omega) (by omega)]; omega] at h4
              omega
        rw [← i64_succ (by omega)]
        all_goals rfl
  · have h := of_decide_eq_false h
    conv => whnf
    exact ⟨true, ⟨fun _ => may_of (fun j hj2 => hj j (by omega)), fun _ => rfl⟩, rfl⟩
end Go.Eng
