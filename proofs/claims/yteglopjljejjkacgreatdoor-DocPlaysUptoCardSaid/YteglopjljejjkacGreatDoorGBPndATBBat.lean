/- A part of the proof. -/
import Derived.Test.YteglopjljejjkacGreatDoorGBLstETBVecR
import Derived.Shelf.Unicode.ValidAny
import Derived.Lib.MapLaws
import Derived.Lib.ValidLaws
import Derived.Shelf.Utf8.RuneCount
set_option linter.unusedVariables false
set_option linter.unusedSimpArgs false
set_option maxRecDepth 100000
set_option maxHeartbeats 4000000
namespace Go.Eng
open Go Go.RowKit Go.Proofs
theorem has1_c (v : CV) (hl : v.length≤1000000) (hs : srt v) (a : I2) : CallV Tryz.prog 251 [idA a,.c (.fp [.sl 2 v.length (ckR v)])] [] (fun r own'=>own' = []∧r = vcb (hasR v a)):=by
 refine callV_pure Tryz.func251 rfl ttok ftok rfl rfl rfl (Nat.le_of_ble_eq_true rfl) ?_
 conv=>whnf
 refine drawV_quiet mixed (by kernel_rfl) ttok ftok ?_
 conv=>whnf
 refine callQ (none_c a) rfl rfl ?_
 conv=>whnf
 by_cases h : a.1 = 0
 ·rw [show (a.1 == 0) = true from beq_iff_eq.2 h]
  conv=>whnf
  rw [show hasR v a = true from by unfold hasR;rw [beq_iff_eq.2 h];rfl]
  all_goals first | rfl | exact ⟨rfl,rfl⟩
 ·rw [show (a.1 == 0) = false from beq_eq_false_iff_ne.2 h]
  conv=>whnf
  refine callQ (next_c v (by omega) hs a.1) rfl rfl ?_
  conv=>whnf
  rw [show hasR v a = decide (a.2 < nxt v a.1) from by unfold hasR;rw [beq_eq_false_iff_ne.2 h];rfl]
  all_goals first | rfl | exact ⟨rfl,rfl⟩
theorem ready_c (v : CV) (hl : v.length≤1000000) (hs : srt v) (x : It) : CallV Tryz.prog 209 [ckS_V v,.agg (itF x)] [] (fun r own'=>own' = []∧r = vcb (rdyR v x)):=by
 refine callV_pure Tryz.func209 rfl ttok ftok rfl rfl rfl (Nat.le_of_ble_eq_true rfl) ?_
 conv=>whnf
 refine drawV_frz [0] ?_
 conv=>whnf
 refine drawV_quiet mixed (by kernel_rfl) ttok ftok ?_
 conv=>whnf
 refine callQ (next_c v (by omega) hs x.id.1) rfl rfl ?_
 conv=>whnf
 by_cases h : x.id.2 = nxt v x.id.1
 rotate_left
 ·rw [show (x.id.2 == nxt v x.id.1) = false from beq_eq_false_iff_ne.2 h]
  conv=>whnf
  rw [show rdyR v x = false from by unfold rdyR;rw [beq_eq_false_iff_ne.2 h];rfl]
  all_goals first | rfl | exact ⟨rfl,rfl⟩
 rw [show (x.id.2 == nxt v x.id.1) = true from beq_iff_eq.2 h]
 conv=>whnf
 refine callQ (has1_c v hl hs x.left) rfl rfl ?_
 conv=>whnf
 cases h2 : hasR v x.left with
 | false =>
  conv=>whnf
  rw [show rdyR v x = false from by unfold rdyR;rw [h2];simp]
  all_goals first | rfl | exact ⟨rfl,rfl⟩
 | true =>
 conv=>whnf
 refine callQ (has1_c v hl hs x.right) rfl rfl ?_
 conv=>whnf
 rw [show rdyR v x = hasR v x.right from by unfold rdyR;rw [h2,beq_iff_eq.2 h];rfl]
 all_goals first | rfl | exact ⟨rfl,rfl⟩
theorem rready_c (v : CV) (hl : v.length≤1000000) (x : It) : CallV Tryz.prog 155 [ckS_V v,.agg (itF x)] [] (fun r own'=>own' = []∧r = vcb (rdyR v x)):=by
 refine callV_pure Tryz.func155 rfl ttok ftok rfl rfl rfl (Nat.le_of_ble_eq_true rfl) ?_
 conv=>whnf
 refine drawV_quiet mixed (by kernel_rfl) ttok ftok ?_
 conv=>whnf
 refine callQ (rnext_c v (by omega) x.id.1) rfl rfl ?_
 conv=>whnf
 by_cases h : x.id.2 = nxt v x.id.1
 rotate_left
 ·rw [show (x.id.2 == nxt v x.id.1) = false from beq_eq_false_iff_ne.2 h]
  conv=>whnf
  rw [show rdyR v x = false from by unfold rdyR;rw [beq_eq_false_iff_ne.2 h];rfl]
  all_goals first | rfl | exact ⟨rfl,rfl⟩
 rw [show (x.id.2 == nxt v x.id.1) = true from beq_iff_eq.2 h]
 have key : rdyR v x = (hasR v x.left && hasR v x.right):=by unfold rdyR;rw [beq_iff_eq.2 h];rfl
 rw [key]
 conv=>whnf
 by_cases h1 : x.left.1 = 0
 ·rw [show (x.left.1 == 0) = true from beq_iff_eq.2 h1,show hasR v x.left = true from by unfold hasR;rw [beq_iff_eq.2 h1];rfl]
  conv=>whnf
  by_cases h2 : x.right.1 = 0
  ·rw [show (x.right.1 == 0) = true from beq_iff_eq.2 h2,show hasR v x.right = true from by unfold hasR;rw [beq_iff_eq.2 h2];rfl]
   conv=>whnf
   all_goals first | rfl | exact ⟨rfl,rfl⟩
  ·rw [show (x.right.1 == 0) = false from beq_eq_false_iff_ne.2 h2,show hasR v x.right = decide (x.right.2 < nxt v x.right.1) from by unfold hasR;rw [beq_eq_false_iff_ne.2 h2];rfl]
   conv=>whnf
   refine callQ (rnext_c v (by omega) x.right.1) rfl rfl ?_
   conv=>whnf
   all_goals first | rfl | exact ⟨rfl,rfl⟩
 ·rw [show (x.left.1 == 0) = false from beq_eq_false_iff_ne.2 h1,show hasR v x.left = decide (x.left.2 < nxt v x.left.1) from by unfold hasR;rw [beq_eq_false_iff_ne.2 h1];rfl]
  conv=>whnf
  refine callQ (rnext_c v (by omega) x.left.1) rfl rfl ?_
  conv=>whnf
  cases h3 : decide (x.left.2 < nxt v x.left.1) with
  | false =>
   conv=>whnf
   all_goals first | rfl | exact ⟨rfl,rfl⟩
  | true =>
  conv=>whnf
  by_cases h2 : x.right.1 = 0
  ·rw [show (x.right.1 == 0) = true from beq_iff_eq.2 h2,show hasR v x.right = true from by unfold hasR;rw [beq_iff_eq.2 h2];rfl]
   conv=>whnf
   all_goals first | rfl | exact ⟨rfl,rfl⟩
  ·rw [show (x.right.1 == 0) = false from beq_eq_false_iff_ne.2 h2,show hasR v x.right = decide (x.right.2 < nxt v x.right.1) from by unfold hasR;rw [beq_eq_false_iff_ne.2 h2];rfl]
   conv=>whnf
   refine callQ (rnext_c v (by omega) x.right.1) rfl rfl ?_
   conv=>whnf
   all_goals first | rfl | exact ⟨rfl,rfl⟩
end Go.Eng
namespace Go.Eng
open Go Go.RowKit Go.Proofs
theorem itClone (l : List It) (hl : l.length≤1000000000) : CallV Tryz.prog 206 [.c (.sl 7 l.length fun k=>itF (l.getD k it0))] []
  (fun r own'=>r = .c (.row 0)∧own' = [some (.row 144 7 l.length fun k=>itF (l.getD k it0))]):=by
 refine callV_own Tryz.func206 rfl ttok ftok rfl rfl rfl (Nat.le_of_ble_eq_true rfl) rfl ?_
 conv=>whnf
 intro b hb
 cases b with
 | true =>
  have h0:=hb rfl
  obtain rfl : l = []:=List.eq_nil_of_length_eq_zero h0
  conv=>whnf
  refine ⟨_,nil_row 2 144 7 (fun k=>itF (([] : List It).getD k it0)) rfl,?_⟩
  conv=>whnf
  exact ⟨[some 0],rfl,rfl,rfl,rfl⟩
 | false =>
  clear hb
  conv=>whnf
  refine ⟨⟨by omega,by show (0 + l.length) * 28≤_;omega⟩,?_⟩
  conv=>whnf
  refine ⟨l.length,fun k=>itF (l.getD k it0),by omega,fun k hk=>by omega,fun k hk=>by rw [Nat.zero_add],?_⟩
  conv=>whnf
  refine ⟨_,Weak.refl _,?_⟩
  conv=>whnf
  exact ⟨[some 1],rfl,rfl,rfl,rfl⟩
theorem itDelete (l : List It) (i j : Nat) (hij : i≤j) (hj : j≤l.length) (hl : l.length≤1000000000) : CallV Tryz.prog 210 [.c (.row 0),vci .i64 i,vci .i64 j] [some (.row 144 7 l.length fun k=>itF (l.getD k it0))]
  (fun r own'=>r = .c (.row 2)∧own' = [none,none,some (.row 144 7 (l.take i ++ l.drop j).length fun k=>itF ((l.take i ++ l.drop j).getD k it0))]):=by
 refine callV_view 0 rfl (fun h0=>?_) (fun c hc hc2=>?_)
 ·obtain rfl : l = []:=List.eq_nil_of_length_eq_zero h0
  obtain rfl : j = 0:=by simpa using hj
  obtain rfl : i = 0:=by omega
  show CallV Tryz.prog 210 [.c (.v (.slice none 0 0)),vci .i64 (0 : Nat),vci .i64 (0 : Nat)] [none] _
  refine callV_own Tryz.func210 rfl ttok ftok rfl rfl rfl (Nat.le_of_ble_eq_true rfl) rfl ?_
  conv=>whnf
  refine ⟨by omega,?_⟩
  conv=>whnf
  refine ⟨⟨rfl,rfl,rfl⟩,?_⟩
  conv=>whnf
  refine ⟨_,nil_row 6 144 7 (fun k=>itF ([].getD k it0)) rfl,?_⟩
  conv=>whnf
  exact ⟨[none,none,some 1],rfl,rfl,rfl,rfl⟩
 show CallV Tryz.prog 210 [.c (.view 1 7 0 l.length c),vci .i64 i,vci .i64 j] [none,some (.arr 144 7 c l.length fun k=>itF (l.getD k it0))] _
 refine callV_own Tryz.func210 rfl ttok ftok rfl rfl rfl (Nat.le_of_ble_eq_true rfl) rfl ?_
 conv=>whnf
 refine ⟨⟨by omega,by omega,by omega,by omega⟩,?_⟩
 conv=>whnf
 refine onB_intro (fun h=>?_) (fun h=>?_)
 ·have e : (i : Int) = j:=by simpa using h
  have e : i = j:=by omega
  subst e
  conv=>whnf
  refine ⟨_,view_row 6 1 (n:=l.length) rfl rfl rfl rfl (Nat.le_refl _) rfl,?_⟩
  conv=>whnf
  refine ⟨[none,none,some 2],rfl,rfl,rfl,?_⟩
  rw [List.take_append_drop]
  rfl
 have hne : i≠j:=fun e=>by rw [e] at h;simp at h
 conv=>whnf
 refine drawV_mix 6 mixed (by kernel_rfl) ttok ftok ?_
 conv=>whnf
 refine ⟨⟨by omega,by omega,by omega,by omega⟩,?_⟩
 conv=>whnf
 refine ⟨⟨by omega,by omega,by omega,by omega⟩,?_⟩
 conv=>whnf
 refine ⟨by omega,⟨by omega,by omega⟩,fun h1=>?_,fun h1=>absurd h1 (by omega)⟩
 have hlen : (l.take i ++ l.drop j).length = i + (l.length - j):=by rw [List.length_append,List.length_take,List.length_drop];omega
 have hget : ∀ q,q < (l.take i ++ l.drop j).length→(i≤q∧(l.take i ++ l.drop j).getD q it0 = l.getD (j + (q - i)) it0)∨(q < i∧(l.take i ++ l.drop j).getD q it0 = l.getD q it0):=fun q hq=>by
  rcases Nat.lt_or_ge q i with h2 | h2
  ·exact .inr ⟨h2,by rw [List.getD_eq_getElem?_getD,List.getElem?_append_left (by rw [List.length_take];omega),←List.getD_eq_getElem?_getD,getD_take _ _ _ _ h2]⟩
  ·exact .inl ⟨h2,by rw [List.getD_eq_getElem?_getD,List.getElem?_append_right (by rw [List.length_take];omega),←List.getD_eq_getElem?_getD,getD_drop,List.length_take,Nat.min_eq_left (by omega)]⟩
 refine ⟨(l.take i ++ l.drop j).length,fun k=>itF ((l.take i ++ l.drop j).getD k it0),fun q hq=>?_,?_⟩
 rotate_left
 ·conv=>whnf
  refine ⟨⟨by omega,by omega,by omega,by omega⟩,?_⟩
  conv=>whnf
  refine ⟨by omega,(l.take i ++ l.drop j).length,fun k=>itF ((l.take i ++ l.drop j).getD k it0),fun q hq=>.inr ⟨.inl (by omega),hq,rfl⟩,?_⟩
  conv=>whnf
  refine ⟨_,view_row 6 1 (n:=(l.take i ++ l.drop j).length) rfl rfl (by omega) (by omega) (by omega) (by omega),?_⟩
  conv=>whnf
  exact ⟨[none,none,some 2],rfl,rfl,rfl,rfl⟩
 ·rcases hget q hq with ⟨h2,h3⟩ | ⟨h2,h3⟩
  ·refine .inl ⟨by omega,by omega,?_⟩
   simp only [h3]
   congr 2
   omega
  ·exact .inr ⟨.inl (by omega),by omega,by simp only [h3]⟩
abbrev vBox (v : CV) : Option Ob:=some (.cells 24 [.sl 2 v.length (ckR v)])
abbrev itRow_P (l : List It) : Option Ob:=some (.row 144 7 l.length (itR l))
theorem tk2_c (v : CV) (hl : v.length≤1000000) (hs : srt v) (x : It) : CallV Tryz.prog 208 [.agg (itF x),.c (.own 0 0)] [vBox v] (fun r own'=>r = vcb (rdyR v x)∧own' = [vBox v]):=by
 refine callV_own Tryz.func208 rfl ttok ftok rfl rfl rfl (Nat.le_of_ble_eq_true rfl) rfl ?_
 conv=>whnf
 refine call_pure (ready_c v hl hs x) rfl ?_
 rintro _ rfl
 conv=>whnf
 refine ⟨_,Weak.refl _,?_⟩
 conv=>whnf
 exact ⟨[some 0],rfl,rfl,rfl,rfl⟩
def ixrI (r : List It) (v : CV) (n : Nat) (st : St) : Prop:=∃ k : Nat,n = r.length - k∧k≤r.length∧(∀ j,j < k→rdyR v (r.getD j it0) = false) ∧
 st = ⟨19,2,[(0,.c (.row 0)),(1,.c (.fn 208 [(false,[.own 1 0])])),(7,vci .i64 r.length),(8,vci .i64 (k : Int))],[itRow_P r,vBox v]⟩
theorem i64_s {k : Nat} (hk : k≤1000000000000) : IntKind.i64.wrap ((k : Int) + 1) = ((k + 1 : Nat) : Int):=by rw [w_i64 (by omega) (by omega)];omega
theorem ixr_c (r : List It) (hr : r.length≤1000000) (v : CV) (hl : v.length≤1000000) (hs : srt v) : CallV Tryz.prog 204 [.c (.row 0),.c (.fn 208 [(false,[.own 1 0])])] [itRow_P r,vBox v]
  (fun rr own'=>((∃ k : Nat,k < r.length∧rdyR v (r.getD k it0) = true∧(∀ j,j < k→rdyR v (r.getD j it0) = false)∧rr = vci .i64 k)∨((∀ j,j < r.length→rdyR v (r.getD j it0) = false)∧rr = vci .i64 (-1)))∧own' = [itRow_P r,vBox v]):=by
 refine callV_own Tryz.func204 rfl ttok ftok rfl rfl rfl (Nat.le_of_ble_eq_true rfl) rfl ?_
 conv=>whnf
 refine loopV ttok ftok (ixrI r v) (norm_weak [0,1,7,8] [some 0,some 1] rfl rfl) ⟨0,rfl,Nat.zero_le _,fun j hj=>by omega,rfl⟩ ?_
 rintro n st ⟨k,rfl,hk,hj,rfl⟩
 have e1:=i64_s (k:=k) (by omega)
 conv=>whnf
 refine onB_intro (fun h=>?_) (fun h=>?_)
 ·have h:=of_decide_eq_true h
  have hkl : k < r.length:=by omega
  conv=>whnf
  refine ⟨⟨by omega,by omega⟩,?_⟩
  conv=>whnf
  rw [ti_nat]
  refine call_frame2 [some 1] rfl rfl rfl rfl (tk2_c v hl hs (r.getD k it0)) ?_
  rintro r2 own2 ⟨rfl,rfl⟩
  refine ⟨vcb (rdyR v (r.getD k it0)),[itRow_P r,vBox v],rfl,rfl,?_⟩
  conv=>whnf
  cases hv : rdyR v (r.getD k it0) with
  | true =>
   conv=>whnf
   refine ⟨_,Weak.refl _,?_⟩
   conv=>whnf
   exact ⟨[some 0,some 1],rfl,rfl,.inl ⟨k,hkl,hv,hj,rfl⟩,rfl⟩
  | false =>
   conv=>whnf
   rw [e1]
   refine ⟨r.length - (k + 1),_,by omega,norm_weak [0,1,7,8] [some 0,some 1] rfl rfl,k + 1,rfl,by omega,fun j h2=>?_,rfl⟩
   rcases Nat.lt_succ_iff_lt_or_eq.1 h2 with h3 | rfl
   ·exact hj j h3
   ·exact hv
 ·have h:=of_decide_eq_false h
  conv=>whnf
  refine ⟨_,Weak.refl _,?_⟩
  conv=>whnf
  exact ⟨[some 0,some 1],rfl,rfl,.inr ⟨fun j hj2=>hj j (by omega),rfl⟩,rfl⟩
def tkI (N : Nat) (v0 : CV) (r0 : List It) (m : Nat) (st : St) : Prop:=∃ (v : CV) (r out : List It),m = r.length∧mayV v∧(∀ x,x ∈ r→0 < x.id.1∧0≤x.id.2∧x.id.2≤4294967294)∧v.length + r.length≤200000∧out.length + r.length≤100000 ∧
 takeL N v0 r0 = (out ++ (takeL r.length v r).1,(takeL r.length v r).2) ∧
 st = ⟨47,0,[(2,.c (.own 0 0)),(7,.c (.row 1)),(8,.c (.row 2))],[vBox v,itRow_P r,itRow_P out]⟩
theorem takeL_none {v : CV} {r : List It} (h : ∀ j,j < r.length→rdyR v (r.getD j it0) = false) : takeL r.length v r = ([],r,v):=by
 cases hn : r.length with
 | zero=>rfl
 | succ n =>
  unfold takeL
  rw [List.findIdx?_eq_none_iff.2 fun x hx=>?_]
  obtain ⟨j,hj,rfl⟩:=List.getElem_of_mem hx
  have:=h j hj
  rwa [List.getD_eq_getElem?_getD,List.getElem?_eq_getElem hj] at this
theorem takeL_some {v : CV} {r : List It} {k : Nat} (hk : k < r.length) (h1 : rdyR v (r.getD k it0) = true) (h2 : ∀ j,j < k→rdyR v (r.getD j it0) = false) :
  takeL r.length v r = (r.getD k it0 :: (takeL (delA r k).length (putR v (r.getD k it0)) (delA r k)).1,(takeL (delA r k).length (putR v (r.getD k it0)) (delA r k)).2):=by
 have hl:=delA_len hk
 have hg : ∀ j (hj : j < r.length),r.getD j it0 = r[j]:=fun j hj=>by rw [List.getD_eq_getElem?_getD,List.getElem?_eq_getElem hj];rfl
 have hf : r.findIdx? (rdyR v) = some k:=by
  rw [List.findIdx?_eq_some_iff_getElem]
  refine ⟨hk,by rw [←hg k hk];exact h1,fun j hj=>?_⟩
  have:=h2 j hj
  rw [hg j (by omega)] at this
  simp [this]
 rw [←hl]
 conv=>lhs;unfold takeL
 rw [hf]
theorem take_c (v : CV) (l : List It) (hvl : v.length≤100000) (hll : l.length≤100000) (hv : mayV v) (hcl : ∀ x,x ∈ l→0 < x.id.1∧0≤x.id.2∧x.id.2≤4294967294) : CallV Tryz.prog 146 [ckS_V v,itS l] []
  (fun r own'=>own' = []∧∃ ys : List It,ys.Perm l∧ys.Pairwise (fun x y=>¬ ltI y.id x.id)∧r = .tup [itS (takeL ys.length v ys).1,itS (takeL ys.length v ys).2.1,ckS_V (takeL ys.length v ys).2.2]):=by
 refine callV_pure Tryz.func146 rfl ttok ftok rfl rfl rfl (Nat.le_of_ble_eq_true rfl) ?_
 conv=>whnf
 refine call_frame2 [] rfl rfl rfl rfl (itClone l (by omega)) ?_
 rintro r own2 ⟨rfl,rfl⟩
 refine ⟨.c (.row 1),[vBox v,itRow_P l],rfl,rfl,?_⟩
 conv=>whnf
 refine call_frame2 [some 1] rfl rfl rfl rfl (item_sort l (by omega)) ?_
 rintro r own2 ⟨ys,hp,hs,rfl,rfl⟩
 have hlen:=hp.length_eq
 refine ⟨.tup [],[vBox v,itRow_P ys],rfl,rfl,?_⟩
 conv=>whnf
 refine call_frame2 [] rfl rfl rfl rfl (ckClone v (by omega)) ?_
 rintro r own2 ⟨rfl,rfl⟩
 refine ⟨.c (.row 2),[vBox v,itRow_P ys,some (.row 109 2 v.length (ckR v))],rfl,rfl,?_⟩
 conv=>whnf
 refine loopV_frz [2] ?_
 conv=>whnf
 refine ⟨fun k hk=>rfl,?_⟩
 conv=>whnf
 refine loopV ttok ftok (tkI ys.length v ys) ((nil_row 8 144 7 (itR []) rfl).trans (norm_weak [2,7,8] [some 0,some 1,some 3] rfl rfl)) ⟨v,ys,[],rfl,hv,fun x hx=>hcl x (hp.mem_iff.1 hx),by omega,by simp;omega,rfl,rfl⟩ ?_
 rintro m st ⟨w,r,out,rfl,hw,hrc,hwl,hol,htk,rfl⟩
 conv=>whnf
 refine call_frame2 [some 1,some 0] rfl rfl rfl rfl (ixr_c r (by omega) w (by omega) hw.1) ?_
 rintro rr own2 ⟨⟨k,hk,h1,h2,rfl⟩ | ⟨h1,rfl⟩,rfl⟩
 rotate_left
 ·rw [takeL_none h1,List.append_nil] at htk
  refine ⟨vci .i64 (-1),[vBox w,itRow_P r,itRow_P out],rfl,rfl,?_⟩
  conv=>whnf
  refine drawV_quiet mixed (by kernel_rfl) ttok ftok ?_
  conv=>whnf
  refine ⟨fun _ _=>rfl,?_⟩
  conv=>whnf
  refine ⟨fun _ _=>rfl,?_⟩
  conv=>whnf
  refine ⟨ys,hp,hs,?_⟩
  rw [htk]
  all_goals rfl
 ·rw [takeL_some hk h1 h2] at htk
  have hdl:=delA_len hk
  refine ⟨vci .i64 k,[vBox w,itRow_P r,itRow_P out],rfl,rfl,?_⟩
  conv=>whnf
  refine ⟨⟨by omega,by omega⟩,?_⟩
  conv=>whnf
  rw [ti_nat]
  refine ⟨fun _=>itF (r.getD k it0),fun j hj2=>?_,?_⟩
  ·obtain rfl : j = 0:=by omega
   rfl
  conv=>whnf
  refine ⟨⟨by (try simp only [List.length_append,List.length_singleton]);omega,by show (List.length out + 1) * 28≤_;(try simp only [List.length_append,List.length_singleton]);omega⟩,?_⟩
  conv=>whnf
  refine app1 (enc:=itF) (d:=it0) (l:=out) (r.getD k it0) (fun k hk=>rfl) rfl ?_
  conv=>whnf
  rw [i64_s (by omega)]
  have hx:=hrc (r.getD k it0) (by rw [List.getD_eq_getElem?_getD,List.getElem?_eq_getElem hk];exact List.getElem_mem hk)
  generalize hxd : r.getD k it0 = x at htk h1 hx
  refine call_frame2 [some 1] rfl rfl rfl rfl (itDelete r k (k + 1) (by omega) (by omega) (by omega)) ?_
  rintro r2 own2 ⟨rfl,rfl⟩
  refine ⟨.c (.row 7),[vBox w,none,none,some (.cells 144 (itF x)),some (.row 144 7 1 fun _=>itF x),itRow_P (out ++ [x]),none,itRow_P (delA r k)],rfl,rfl,?_⟩
  conv=>whnf
  rw [show IntKind.u32.wrap (x.id.2 + 1) = x.id.2 + 1 from by rw [w_u32];omega]
  refine call_pure (set_c w (by omega) hw.1 x.id.1 (x.id.2 + 1) (by omega) (by omega)) rfl ?_
  rintro _ rfl
  conv=>whnf
  have hsl:=setR_len w x.id.1 (x.id.2 + 1)
  refine ⟨(delA r k).length,_,by omega,norm_weak [2,7,8] [some 0,some 7,some 5] rfl rfl,putR w x,delA r k,out ++ [x],rfl,putR_may hw hx,fun y hy=>hrc y ((delA_sub r k).subset hy),by unfold putR;omega,by simp;omega,?_,rfl⟩
  rw [htk,List.append_assoc]
  rfl
end Go.Eng
namespace Go.Eng
open Go Go.RowKit Go.Proofs
instance (a b : I2) : Decidable (ltI a b):=inferInstanceAs (Decidable (a.1 < b.1∨a.1 = b.1∧a.2 < b.2))
theorem before_c_P (a b : I2) : CallV Tryz.prog 110 [idA a,idA b] [] (fun r own'=>own' = []∧r = vcb (decide (ltI a b))):=by
 refine callV_pure Tryz.func110 rfl ttok ftok rfl rfl rfl (Nat.le_of_ble_eq_true rfl) ?_
 conv=>whnf
 show vcb _ = _
 congr 3
 unfold ltI
 simp only [pickB,isLit]
 by_cases h1 : a.1 < b.1
 ·simp [h1]
 ·by_cases h2 : a.1 = b.1
  ·simp [h1,h2]
  ·simp [h1,h2]
def nsI (l : List It) : Prop:=l.Pairwise fun x y=>¬ ltI y.id x.id
theorem take_snocI {l : List It} {k : Nat} (h : k < l.length) : l.take (k + 1) = l.take k ++ [l.getD k it0]:=by
 rw [List.take_add_one,List.getD_eq_getElem?_getD,List.getElem?_eq_getElem h];rfl
theorem ltI_total {a b : I2} (h : ltI a b) : ¬ ltI b a:=by unfold ltI at *;omega
theorem ltI_mid {a b c : I2} (h1 : ltI a b) (h2 : ¬ ltI c b) : ltI a c:=by unfold ltI at *;omega
theorem ins_ns {o : List It} {x : It} {j : Nat} (hj : j≤o.length) (hs : nsI o) (hq : ∀ q,q < j→¬ ltI x.id (o.getD q it0).id) (hq2 : j < o.length→ltI x.id (o.getD j it0).id) : nsI (o.take j ++ ([x] ++ o.drop j)):=by
 have hg : ∀ j (hj : j < o.length),o.getD j it0 = o[j]:=fun j hj=>by rw [List.getD_eq_getElem?_getD,List.getElem?_eq_getElem hj];rfl
 have hx : ∀ y,y ∈ o.drop j→¬ ltI y.id x.id:=fun y hy=>by
  obtain ⟨q,hql,rfl⟩:=List.getElem_of_mem hy
  rw [List.length_drop] at hql
  have hjl : j < o.length:=by omega
  have h0:=hq2 hjl
  rw [hg j hjl] at h0
  rw [List.getElem_drop]
  refine ltI_total ?_
  rcases Nat.eq_zero_or_pos q with rfl | h
  ·simpa using h0
  ·exact ltI_mid h0 (List.pairwise_iff_getElem.1 hs j (j + q) hjl (by omega) (by omega))
 have hs2 : nsI (o.take j ++ o.drop j):=by rw [List.take_append_drop];exact hs
 unfold nsI at *
 rw [List.pairwise_append] at hs2 ⊢
 refine ⟨hs2.1,List.pairwise_cons.2 ⟨hx,hs2.2.1⟩,fun y hy z hz=>?_⟩
 rcases List.mem_cons.1 hz with rfl | hz
 ·obtain ⟨q,hql,rfl⟩:=List.getElem_of_mem hy
  rw [List.length_take] at hql
  have:=hq q (by omega)
  rw [hg q (by omega)] at this
  rw [List.getElem_take]
  exact this
 ·exact hs2.2.2 y hy z hz
def soI (l : List It) (m : Nat) (st : St) : Prop:=∃ (k : Nat) (o : List It),m = l.length - k∧k≤l.length∧o.Perm (l.take k)∧nsI o ∧
 st = ⟨49,0,[(0,itS l),(3,.c (.row 0)),(4,vci .i64 (k : Int))],[itRow_P o]⟩
def sqI (l o : List It) (k : Nat) (m : Nat) (st : St) : Prop:=∃ j : Nat,m = o.length - j∧j≤o.length∧(∀ q,q < j→¬ ltI (l.getD k it0).id (o.getD q it0).id) ∧
 st = ⟨49,0,[(0,itS l),(3,itS o),(4,vci .i64 (k : Int)),(5,vci .i64 (j : Int))],[none]⟩
def sjI (l o : List It) (k : Nat) (st : St) : Prop:=∃ j : Nat,j≤o.length∧(∀ q,q < j→¬ ltI (l.getD k it0).id (o.getD q it0).id)∧(j < o.length→ltI (l.getD k it0).id (o.getD j it0).id) ∧
 st = ⟨49,0,[(0,itS l),(3,itS o),(4,vci .i64 (k : Int)),(5,vci .i64 (j : Int))],[none]⟩
theorem sorted_c (l : List It) (hl : l.length≤100000) : CallV Tryz.prog 66 [itS l] [] (fun r own'=>own' = []∧∃ ys : List It,ys.Perm l∧nsI ys∧r = itS ys):=by
 refine callV_pure Tryz.func66 rfl ttok ftok rfl rfl rfl (Nat.le_of_ble_eq_true rfl) ?_
 conv=>whnf
 refine loopV ttok ftok (soI l) ((nil_row 3 144 7 (itR []) rfl).trans (norm_weak [0,3,4] [some 0] rfl rfl)) ⟨0,[],rfl,Nat.zero_le _,.refl _,List.Pairwise.nil,rfl⟩ ?_
 rintro m st ⟨k,o,rfl,hk,hp,hs,rfl⟩
 have e1:=i64_s (k:=k) (by omega)
 have hol:=hp.length_eq
 rw [List.length_take] at hol
 conv=>whnf
 refine onB_intro (fun h=>?_) (fun h=>?_)
 ·have h:=of_decide_eq_true h
  have hkl : k < l.length:=by omega
  conv=>whnf
  refine loopV_frz [0] ?_
  conv=>whnf
  refine ⟨fun _ _=>rfl,?_⟩
  conv=>whnf
  refine loopV_cut 2 (sjI l o k) ?_ ?_
  ·refine loopV ttok ftok (sqI l o k) (norm_weak [0,3,4,5] [none] rfl rfl) ⟨0,rfl,Nat.zero_le _,fun q hq=>by omega,rfl⟩ ?_
   rintro m st ⟨j,rfl,hj,hq,rfl⟩
   have e2:=i64_s (k:=j) (by omega)
   conv=>whnf
   refine onB_intro (fun h2=>?_) (fun h2=>?_)
   ·have h2:=of_decide_eq_true h2
    have hjl : j < o.length:=by omega
    conv=>whnf
    refine drawV_quiet mixed (by kernel_rfl) ttok ftok ?_
    conv=>whnf
    refine ⟨⟨by omega,by omega⟩,?_⟩
    conv=>whnf
    rw [ti_nat]
    refine ⟨⟨by omega,by omega⟩,?_⟩
    conv=>whnf
    rw [ti_nat]
    refine callQ (before_c_P (l.getD k it0).id (o.getD j it0).id) rfl rfl ?_
    conv=>whnf
    cases hb : decide (ltI (l.getD k it0).id (o.getD j it0).id) with
    | true =>
     conv=>whnf
     exact ⟨rfl,_,norm_weak [0,3,4,5] [none] rfl rfl,j,hj,hq,fun _=>of_decide_eq_true hb,rfl⟩
    | false =>
     conv=>whnf
     rw [e2]
     refine ⟨o.length - (j + 1),_,by omega,norm_weak [0,3,4,5] [none] rfl rfl,j + 1,rfl,by omega,fun q hq3=>?_,rfl⟩
     rcases Nat.lt_succ_iff_lt_or_eq.1 hq3 with h3 | rfl
     ·exact hq q h3
     ·exact of_decide_eq_false hb
   ·have h2:=of_decide_eq_false h2
    conv=>whnf
    exact ⟨rfl,_,norm_weak [0,3,4,5] [none] rfl rfl,j,hj,hq,fun h3=>absurd h3 (by omega),rfl⟩
  ·rintro st ⟨j,hj,hq,hq2,rfl⟩
   conv=>whnf
   refine drawV_sched (.rd 0 (.rd 1 (.rd 2 (.rd 3 (.rd 5 (.rd 6 (.rd 7 (.ef 4 (.ef 8 (.rd 9 (.nil))))))))))) [1] mixed (by kernel_rfl) ttok ftok ?_
   conv=>whnf
   refine ⟨⟨by omega,by omega⟩,?_⟩
   conv=>whnf
   rw [ti_nat]
   refine ⟨⟨by omega,by omega,by omega,by omega⟩,?_⟩
   refine ⟨(o.drop j).length,itR (o.drop j),by rw [List.length_drop,ti_nat],fun q hq=>?_,?_⟩
   ·show itF _ = itF (o.getD ((j : Int).toNat + q) it0)
    rw [getD_drop,ti_nat]
   conv=>whnf
   refine ⟨itR [l.getD k it0],fun q hq=>?_,?_⟩
   ·obtain rfl : q = 0:=by omega
    rw [ti_nat]
    rfl
   conv=>whnf
   have hdl : (o.drop j).length = o.length - j:=List.length_drop
   refine ⟨⟨by omega,by show (1 + (o.drop j).length) * 28≤_;omega⟩,?_⟩
   conv=>whnf
   refine app_list (enc:=itF) (d:=it0) (l:=[l.getD k it0]) (b:=o.drop j) (fun k hk=>rfl) (fun k hk=>rfl) ?_
   conv=>whnf
   have htl : (o.take j).length = j:=by rw [List.length_take];omega
   refine ⟨⟨by omega,by omega,by omega,by omega⟩,?_⟩
   refine ⟨(o.take j).length,itR (o.take j),by rw [htl,ti_nat];rfl,fun q hq=>?_,?_⟩
   ·show itF _ = itF (o.getD (Int.toNat 0 + q) it0)
    rw [getD_take _ _ _ _ (by omega),show Int.toNat 0 + q = q from Nat.zero_add q]
   conv=>whnf
   refine ⟨⟨by omega,by show (0 + (o.take j).length) * 28≤_;omega⟩,?_⟩
   conv=>whnf
   refine ⟨(o.take j).length,itR (o.take j),by omega,fun k hk=>by omega,fun k hk=>by rw [Nat.zero_add],?_⟩
   conv=>whnf
   have h1l : ([l.getD k it0] ++ o.drop j).length = 1 + (o.length - j):=by rw [List.length_append,hdl];rfl
   refine ⟨⟨by omega,by show ((o.take j).length + ([l.getD k it0] ++ o.drop j).length) * 28≤_;omega⟩,?_⟩
   conv=>whnf
   refine app_list (enc:=itF) (d:=it0) (l:=o.take j) (b:=[l.getD k it0] ++ o.drop j) (fun k hk=>rfl) (fun k hk=>rfl) ?_
   conv=>whnf
   rw [e1]
   refine ⟨l.length - (k + 1),_,by omega,norm_weak [0,3,4] [some 5] rfl rfl,k + 1,o.take j ++ ([l.getD k it0] ++ o.drop j),rfl,by omega,?_,ins_ns hj hs hq hq2,rfl⟩
   rw [take_snocI hkl]
   exact List.perm_middle.trans (((List.take_append_drop j o).symm ▸ hp).cons _ |>.trans (List.perm_append_singleton _ _).symm)
 ·have h:=of_decide_eq_false h
  have hk2 : k = l.length:=by omega
  subst hk2
  rw [List.take_length] at hp
  conv=>whnf
  refine ⟨fun _ _=>rfl,?_⟩
  conv=>whnf
  exact ⟨o,hp,hs,rfl⟩
end Go.Eng
namespace Go.Eng
def valS (s : Sp) : Prop:=s.cl≠0∧s.fr < s.tz
instance (s : Sp) : Decidable (valS s):=inferInstanceAs (Decidable (s.cl≠0∧s.fr < s.tz))
def aheadS (s t : Sp) : Prop:=s.cl < t.cl∨s.cl = t.cl∧s.tz < t.fr
instance (s t : Sp) : Decidable (aheadS s t):=inferInstanceAs (Decidable (s.cl < t.cl∨s.cl = t.cl∧s.tz < t.fr))
def inS_S (s : Sp) (c x : Int) : Prop:=s.cl = c∧s.fr≤x∧x < s.tz
def hasS (l : List Sp) (c x : Int) : Prop:=∃ s,s ∈ l∧inS_S s c x
structure canon (l : List Sp) : Prop where
 val : ∀ s,s ∈ l→valS s
 pw : l.Pairwise aheadS
theorem canon.tail {s : Sp} {l : List Sp} (h : canon (s :: l)) : canon l:=⟨fun t ht=>h.val t (List.mem_cons_of_mem _ ht),(List.pairwise_cons.1 h.pw).2⟩
theorem hasS_nil (c x : Int) : ¬ hasS [] c x:=fun ⟨s,h,_⟩=>by cases h
theorem hasS_cons (s : Sp) (l : List Sp) (c x : Int) : hasS (s :: l) c x↔inS_S s c x∨hasS l c x:=by
 constructor
 ·rintro ⟨t,ht,h⟩
  rcases List.mem_cons.1 ht with rfl | ht
  ·exact .inl h
  ·exact .inr ⟨t,ht,h⟩
 ·rintro (h | ⟨t,ht,h⟩)
  ·exact ⟨s,List.mem_cons_self,h⟩
  ·exact ⟨t,List.mem_cons_of_mem _ ht,h⟩
theorem hasS_append (a b : List Sp) (c x : Int) : hasS (a ++ b) c x↔hasS a c x∨hasS b c x:=by
 induction a with
 | nil=>simp [hasS_nil]
 | cons s a ih=>rw [List.cons_append,hasS_cons,ih,hasS_cons];exact or_assoc.symm
theorem hasS_perm {a b : List Sp} (h : a.Perm b) (c x : Int) : hasS a c x↔hasS b c x :=
 ⟨fun ⟨s,hs,hi⟩=>⟨s,h.mem_iff.1 hs,hi⟩,fun ⟨s,hs,hi⟩=>⟨s,h.mem_iff.2 hs,hi⟩⟩
theorem not_in_of_ahead {s : Sp} {l : List Sp} (h : canon (s :: l)) {c x : Int} (hs : inS_S s c x) (hl : hasS l c x) : False:=by
 obtain ⟨u,hu,h1,h2,h3⟩:=hl
 obtain ⟨g1,g2,g3⟩:=hs
 rcases (List.pairwise_cons.1 h.pw).1 u hu with h4 | ⟨h4,h5⟩ <;> omega
theorem first_le {s : Sp} {l : List Sp} (h : canon (s :: l)) {c x : Int} (hp : hasS (s :: l) c x) : s.cl < c∨s.cl = c∧s.fr≤x:=by
 have hv:=(h.val s List.mem_cons_self).2
 obtain ⟨u,hu,h1,h2,h3⟩:=hp
 rcases List.mem_cons.1 hu with rfl | hu
 ·exact .inr ⟨h1,h2⟩
 ·rcases (List.pairwise_cons.1 h.pw).1 u hu with h4 | ⟨h4,h5⟩ <;> omega
theorem after_end {s : Sp} {l : List Sp} (h : canon (s :: l)) : ¬ hasS (s :: l) s.cl s.tz:=by
 rintro ⟨u,hu,h1,h2,h3⟩
 rcases List.mem_cons.1 hu with rfl | hu
 ·omega
 ·rcases (List.pairwise_cons.1 h.pw).1 u hu with h4 | ⟨h4,h5⟩ <;> omega
theorem has_first {s : Sp} {l : List Sp} (h : canon (s :: l)) : hasS (s :: l) s.cl s.fr:=⟨s,List.mem_cons_self,rfl,Int.le_refl _,(h.val s List.mem_cons_self).2⟩
theorem canon_uniq : ∀ (a b : List Sp),canon a→canon b→(∀ c x,hasS a c x↔hasS b c x)→a = b
 | [],[],_,_,_=>rfl
 | [],t :: b,_,hb,h=>absurd ((h _ _).2 (has_first hb)) (hasS_nil _ _)
 | s :: a,[],ha,_,h=>absurd ((h _ _).1 (has_first ha)) (hasS_nil _ _)
 | s :: a,t :: b,ha,hb,h=>by
  have h1:=first_le hb ((h _ _).1 (has_first ha))
  have h2:=first_le ha ((h _ _).2 (has_first hb))
  have hc : s.cl = t.cl:=by omega
  have hf : s.fr = t.fr:=by omega
  have vs:=(ha.val s List.mem_cons_self).2
  have vt:=(hb.val t List.mem_cons_self).2
  have hz : s.tz = t.tz:=by
   rcases Int.lt_trichotomy s.tz t.tz with h3 | h3 | h3
   ·exact absurd ((h s.cl s.tz).2 ⟨t,List.mem_cons_self,hc.symm,by omega,h3⟩) (after_end ha)
   ·exact h3
   ·exact absurd ((h t.cl t.tz).1 ⟨s,List.mem_cons_self,hc,by omega,h3⟩) (after_end hb)
  obtain rfl : s = t:=sp_ext hc hf hz
  congr 1
  refine canon_uniq a b ha.tail hb.tail fun c x=>⟨fun hx=>?_,fun hx=>?_⟩
  ·rcases (hasS_cons _ _ _ _).1 ((h c x).1 ((hasS_cons _ _ _ _).2 (.inr hx))) with h4 | h4
   ·exact (not_in_of_ahead ha h4 hx).elim
   ·exact h4
  ·rcases (hasS_cons _ _ _ _).1 ((h c x).2 ((hasS_cons _ _ _ _).2 (.inr hx))) with h4 | h4
   ·exact (not_in_of_ahead hb h4 hx).elim
   ·exact h4
theorem aheadS_trans {s t u : Sp} (ht : valS t) (h1 : aheadS s t) (h2 : aheadS t u) : aheadS s u:=by
 obtain ⟨_,hv⟩:=ht
 unfold aheadS at *
 omega
theorem mayS_canon {l : List Sp} : mayS l↔canon l:=by
 constructor
 ·intro h
  have hv : ∀ s,s ∈ l→valS s:=fun s hs=>by
   obtain ⟨k,hk,rfl⟩:=List.getElem_of_mem hs
   have:=(h k hk).1
   rw [List.getD_eq_getElem?_getD,List.getElem?_eq_getElem hk] at this
   simp only [Option.getD_some] at this
   unfold valS;omega
  have key : ∀ (d i : Nat),i + d + 1 < l.length→aheadS (l.getD i sp0) (l.getD (i + d + 1) sp0):=by
   intro d
   induction d with
   | zero =>
    intro i hi
    have:=(h (i + 0 + 1) hi).2 (by omega)
    rw [show i + 0 + 1 - 1 = i from by omega] at this
    unfold aheadS;omega
   | succ d ih =>
    intro i hi
    have h1:=ih i (by omega)
    have h2:=(h (i + (d + 1) + 1) hi).2 (by omega)
    rw [show i + (d + 1) + 1 - 1 = i + d + 1 from by omega] at h2
    refine aheadS_trans (t:=l.getD (i + d + 1) sp0) ?_ h1 (by unfold aheadS;omega)
    rw [List.getD_eq_getElem?_getD,List.getElem?_eq_getElem (show i + d + 1 < l.length by omega)]
    exact hv _ (List.getElem_mem _)
  refine ⟨hv,List.pairwise_iff_getElem.2 fun i j hi hj hij=>?_⟩
  have:=key (j - i - 1) i (by omega)
  rw [show i + (j - i - 1) + 1 = j from by omega] at this
  simpa [List.getD_eq_getElem?_getD,List.getElem?_eq_getElem hi,List.getElem?_eq_getElem hj] using this
 ·intro h k hk
  have hg : ∀ j (hj : j < l.length),l.getD j sp0 = l[j]:=fun j hj=>by rw [List.getD_eq_getElem?_getD,List.getElem?_eq_getElem hj];rfl
  refine ⟨?_,fun h0=>?_⟩
  ·rw [hg k hk]
   have:=h.val _ (List.getElem_mem hk)
   unfold valS at this;omega
  ·rw [hg k hk,hg (k - 1) (by omega)]
   have:=List.pairwise_iff_getElem.1 h.pw (k - 1) k (by omega) hk (by omega)
   unfold aheadS at this;omega
def layA (s : Sp) (x : Sp) : Bool:=decide (x.cl < s.cl∨x.cl = s.cl∧x.tz < s.fr)
def layB (s : Sp) (x : Sp) : Bool:=decide (x.cl > s.cl∨x.fr > s.tz)
def layG : List Sp→List Sp × List Sp × Sp→List Sp × List Sp × Sp
 | [],r=>r
 | x :: l,(a,b,s)=>if layA s x = true then layG l (a ++ [x],b,s) else if layB s x = true then layG l (a,b ++ [x],s) else layG l (a,b,⟨s.cl,min s.fr x.fr,max s.tz x.tz⟩)
def layL (l : List Sp) (s : Sp) : List Sp:=let r:=layG l ([],[],s);(r.1 ++ [r.2.2]) ++ r.2.1
theorem layG_ok : ∀ (l a b : List Sp) (s : Sp),canon (a ++ l)→valS s→(∀ x,x ∈ a→aheadS x s)→(∀ x,x ∈ b→aheadS s x)→canon b→(b = []∨∀ x,x ∈ l→aheadS s x)→(∀ x y,x ∈ b→y ∈ l→aheadS x y) →
  canon (((layG l (a,b,s)).1 ++ [(layG l (a,b,s)).2.2]) ++ (layG l (a,b,s)).2.1)∧∀ c x,hasS (((layG l (a,b,s)).1 ++ [(layG l (a,b,s)).2.2]) ++ (layG l (a,b,s)).2.1) c x↔hasS a c x∨hasS l c x∨hasS b c x∨inS_S s c x
 | [],a,b,s,hc,hv,h1,h2,hb,_,_=>by
  rw [List.append_nil] at hc
  refine ⟨⟨fun x hx=>?_,?_⟩,fun c x=>?_⟩
  ·simp only [layG,List.mem_append,List.mem_singleton] at hx
   rcases hx with (hx | rfl) | hx
   ·exact hc.val x hx
   ·exact hv
   ·exact hb.val x hx
  ·simp only [layG]
   rw [List.pairwise_append,List.pairwise_append]
   refine ⟨⟨hc.pw,by simp,fun x hx y hy=>?_⟩,hb.pw,fun x hx y hy=>?_⟩
   ·rw [List.mem_singleton] at hy;rw [hy];exact h1 x hx
   ·rcases List.mem_append.1 hx with hx | hx
    ·exact aheadS_trans hv (h1 x hx) (h2 y hy)
    ·rw [List.mem_singleton] at hx;rw [hx];exact h2 y hy
  ·simp only [layG,hasS_append,hasS_cons]
   have:=hasS_nil c x
   constructor
   ·rintro ((h | h | h) | h)
    ·exact .inl h
    ·exact .inr (.inr (.inr h))
    ·exact (this h).elim
    ·exact .inr (.inr (.inl h))
   ·rintro (h | h | h | h)
    ·exact .inl (.inl h)
    ·exact (this h).elim
    ·exact .inr h
    ·exact .inl (.inr (.inl h))
 | x :: l,a,b,s,hc,hv,h1,h2,hb,h3,h4=>by
  have hx : valS x:=hc.val x (by simp)
  have hxl : ∀ y,y ∈ l→aheadS x y:=fun y hy=>(List.pairwise_cons.1 (List.pairwise_append.1 hc.pw).2.1).1 y hy
  have hax : ∀ y,y ∈ a→aheadS y x:=fun y hy=>(List.pairwise_append.1 hc.pw).2.2 y hy x (by simp)
  have hcl : canon (a ++ l):=⟨fun y hy=>hc.val y (by rw [List.mem_append] at hy ⊢;exact hy.imp id (List.mem_cons_of_mem _)),by
   have:=List.pairwise_append.1 hc.pw
   exact List.pairwise_append.2 ⟨this.1,(List.pairwise_cons.1 this.2.1).2,fun y hy z hz=>this.2.2 y hy z (List.mem_cons_of_mem _ hz)⟩⟩
  obtain ⟨_,hx2⟩:=hx
  obtain ⟨hv1,hv2⟩:=hv
  unfold layG
  by_cases g1 : layA s x = true
  ·rw [if_pos g1]
   have g1:=of_decide_eq_true g1
   have hb0 : b = []:=by
    rcases h3 with h3 | h3
    ·exact h3
    ·have:=h3 x (by simp);unfold aheadS at this;omega
   subst hb0
   have:=layG_ok l (a ++ [x]) [] s (by rw [List.append_assoc];exact hc) ⟨hv1,hv2⟩ (fun y hy=>by
    rcases List.mem_append.1 hy with hy | hy
    ·exact h1 y hy
    ·rw [List.mem_singleton] at hy;rw [hy];exact g1) h2 hb (.inl rfl) (fun y z hy=>by cases hy)
   refine ⟨this.1,fun c z=>?_⟩
   rw [this.2,hasS_append,hasS_cons,hasS_cons]
   have:=hasS_nil c z
   constructor
   ·rintro ((h | h | h) | h | h | h)
    ·exact .inl h
    ·exact .inr (.inl (.inl h))
    ·exact (this h).elim
    ·exact .inr (.inl (.inr h))
    ·exact .inr (.inr (.inl h))
    ·exact .inr (.inr (.inr h))
   ·rintro (h | (h | h) | h | h)
    ·exact .inl (.inl h)
    ·exact .inl (.inr (.inl h))
    ·exact .inr (.inl h)
    ·exact .inr (.inr (.inl h))
    ·exact .inr (.inr (.inr h))
  ·rw [if_neg g1]
   have g1 : ¬ (x.cl < s.cl∨x.cl = s.cl∧x.tz < s.fr):=fun h=>g1 (decide_eq_true h)
   by_cases g2 : layB s x = true
   ·rw [if_pos g2]
    have g2 : x.cl > s.cl∨x.fr > s.tz:=of_decide_eq_true g2
    have hsx : aheadS s x:=by unfold aheadS;omega
    have:=layG_ok l a (b ++ [x]) s hcl ⟨hv1,hv2⟩ h1 (fun y hy=>by
     rcases List.mem_append.1 hy with hy | hy
     ·exact h2 y hy
     ·rw [List.mem_singleton] at hy;rw [hy];exact hsx)
     ⟨fun y hy=>by
      rcases List.mem_append.1 hy with hy | hy
      ·exact hb.val y hy
      ·rw [List.mem_singleton] at hy;rw [hy];exact hc.val x (by simp),List.pairwise_append.2 ⟨hb.pw,by simp,fun y hy z hz=>by
       rw [List.mem_singleton] at hz;rw [hz];exact h4 y x hy (by simp)⟩⟩
     (.inr fun y hy=>aheadS_trans ⟨(hc.val x (by simp)).1,hx2⟩ hsx (hxl y hy)) (fun y z hy hz=>by
      rcases List.mem_append.1 hy with hy | hy
      ·exact h4 y z hy (List.mem_cons_of_mem _ hz)
      ·rw [List.mem_singleton] at hy;rw [hy];exact hxl z hz)
    refine ⟨this.1,fun c z=>?_⟩
    rw [this.2,hasS_append,hasS_cons,hasS_cons]
    have:=hasS_nil c z
    constructor
    ·rintro (h | h | (h | h | h) | h)
     ·exact .inl h
     ·exact .inr (.inl (.inr h))
     ·exact .inr (.inr (.inl h))
     ·exact .inr (.inl (.inl h))
     ·exact (this h).elim
     ·exact .inr (.inr (.inr h))
    ·rintro (h | (h | h) | h | h)
     ·exact .inl h
     ·exact .inr (.inr (.inl (.inr (.inl h))))
     ·exact .inr (.inl h)
     ·exact .inr (.inr (.inl (.inl h)))
     ·exact .inr (.inr (.inr h))
   ·rw [if_neg g2]
    have g2 : ¬ (x.cl > s.cl∨x.fr > s.tz):=fun h=>g2 (decide_eq_true h)
    have ecl : x.cl = s.cl:=by omega
    have hb0 : b = []:=by
     rcases h3 with h3 | h3
     ·exact h3
     ·have:=h3 x (by simp);unfold aheadS at this;omega
    subst hb0
    have:=layG_ok l a [] ⟨s.cl,min s.fr x.fr,max s.tz x.tz⟩ hcl ⟨hv1,by show min s.fr x.fr < max s.tz x.tz;omega⟩ (fun y hy=>by
     have q1:=h1 y hy
     have q2:=hax y hy
     unfold aheadS at *
     show y.cl < s.cl∨y.cl = s.cl∧y.tz < min s.fr x.fr
     omega) (fun y hy=>by cases hy) ⟨fun y hy=>(by cases hy),List.Pairwise.nil⟩ (.inl rfl) (fun y z hy=>by cases hy)
    refine ⟨this.1,fun c z=>?_⟩
    rw [this.2,hasS_cons]
    have hn:=hasS_nil c z
    have hi : inS_S ⟨s.cl,min s.fr x.fr,max s.tz x.tz⟩ c z↔inS_S x c z∨inS_S s c z:=by
     unfold inS_S
     show s.cl = c∧min s.fr x.fr≤z∧z < max s.tz x.tz↔_
     omega
    rw [hi]
    constructor
    ·rintro (h | h | h | h | h)
     ·exact .inl h
     ·exact .inr (.inl (.inr h))
     ·exact (hn h).elim
     ·exact .inr (.inl (.inl h))
     ·exact .inr (.inr (.inr h))
    ·rintro (h | (h | h) | h | h)
     ·exact .inl h
     ·exact .inr (.inr (.inr (.inl h)))
     ·exact .inr (.inl h)
     ·exact (hn h).elim
     ·exact .inr (.inr (.inr (.inr h)))
theorem layL_ok {l : List Sp} {s : Sp} (hl : canon l) (hs : valS s) : canon (layL l s)∧∀ c x,hasS (layL l s) c x↔hasS l c x∨inS_S s c x:=by
 have h:=layG_ok l [] [] s hl hs (fun x hx=>by cases hx) (fun x hx=>by cases hx) ⟨fun y hy=>(by cases hy),List.Pairwise.nil⟩ (.inl rfl) (fun y z hy=>by cases hy)
 refine ⟨h.1,fun c x=>(h.2 c x).trans ?_⟩
 have hn:=hasS_nil c x
 constructor
 ·rintro (h | h | h | h)
  ·exact (hn h).elim
  ·exact .inl h
  ·exact (hn h).elim
  ·exact .inr h
 ·rintro (h | h)
  ·exact .inr (.inl h)
  ·exact .inr (.inr (.inr h))
def setL (l : List Sp) : List Sp:=l.foldl (fun o s=>if valS s then layL o s else o) []
theorem setL_snoc (l : List Sp) (s : Sp) : setL (l ++ [s]) = if valS s then layL (setL l) s else setL l:=by simp [setL]
def valid (l : List Sp) : List Sp:=l.filter fun s=>decide (valS s)
theorem setL_ok (l : List Sp) : canon (setL l)∧∀ c x,hasS (setL l) c x↔hasS (valid l) c x:=by
 suffices h : ∀ (n : Nat) (l : List Sp),l.length = n→(canon (setL l)∧∀ c x,hasS (setL l) c x↔hasS (valid l) c x) from h _ l rfl
 intro n
 induction n with
 | zero =>
  intro l hl
  obtain rfl:=List.eq_nil_of_length_eq_zero hl
  exact ⟨⟨fun y hy=>(by cases hy),List.Pairwise.nil⟩,fun c x=>Iff.rfl⟩
 | succ n ih =>
  intro l hl
  have hne : l≠[]:=fun e=>by subst e;cases hl
  obtain ⟨l',s,rfl⟩ : ∃ l' s,l = l' ++ [s]:=⟨l.dropLast,l.getLast hne,(List.dropLast_concat_getLast hne).symm⟩
  obtain ⟨h1,h2⟩:=ih l' (by simpa using hl)
  rw [setL_snoc]
  have hv : valid (l' ++ [s]) = valid l' ++ valid [s]:=List.filter_append ..
  by_cases hs : valS s
  ·rw [if_pos hs]
   have h3:=layL_ok h1 hs
   refine ⟨h3.1,fun c x=>?_⟩
   rw [h3.2,h2,hv,hasS_append,show valid [s] = [s] from by simp [valid,hs],hasS_cons]
   have hn:=hasS_nil c x
   constructor
   ·rintro (h | h)
    ·exact .inl h
    ·exact .inr (.inl h)
   ·rintro (h | h | h)
    ·exact .inl h
    ·exact .inr h
    ·exact (hn h).elim
  ·rw [if_neg hs,hv,show valid [s] = [] from by simp [valid,hs],List.append_nil]
   exact ⟨h1,h2⟩
def sizeS (l : List Sp) : Int:=(l.map fun s=>s.tz - s.fr).foldr (· + ·) 0
theorem sizeS_append (a b : List Sp) : sizeS (a ++ b) = sizeS a + sizeS b:=by
 induction a with
 | nil=>simp [sizeS]
 | cons s a ih=>simp only [sizeS,List.cons_append,List.map_cons,List.foldr_cons] at *;omega
theorem sizeS_perm {a b : List Sp} (h : a.Perm b) : sizeS a = sizeS b:=by
 induction h with
 | nil=>rfl
 | cons x _ ih=>simp only [sizeS,List.map_cons,List.foldr_cons] at *;omega
 | swap x y l=>simp only [sizeS,List.map_cons,List.foldr_cons];omega
 | trans _ _ h1 h2=>omega
def mrg (o : List Sp) (s : Sp) : List Sp :=
 match o.getLast? with
 | some t=>if t.cl = s.cl∧s.fr≤t.tz then o.dropLast ++ [⟨t.cl,t.fr,max t.tz s.tz⟩] else o ++ [s]
 | none=>[s]
theorem mrg_last (o : List Sp) (t s : Sp) : mrg (o ++ [t]) s = if t.cl = s.cl∧s.fr≤t.tz then o ++ [⟨t.cl,t.fr,max t.tz s.tz⟩] else (o ++ [t]) ++ [s]:=by
 unfold mrg
 rw [List.getLast?_concat,List.dropLast_concat]
def lexS (s t : Sp) : Prop:=s.cl < t.cl∨s.cl = t.cl∧s.fr≤t.fr
theorem snoc_cases (o : List Sp) : o = []∨∃ o' t,o = o' ++ [t]:=by
 by_cases h : o = []
 ·exact .inl h
 ·exact .inr ⟨o.dropLast,o.getLast h,(List.dropLast_concat_getLast h).symm⟩
theorem mrg_ok {o : List Sp} {s : Sp} (ho : canon o) (hs : valS s) (hlex : ∀ t,t ∈ o→lexS t s) :
  canon (mrg o s)∧(∀ c x,hasS (mrg o s) c x↔hasS o c x∨inS_S s c x)∧sizeS (mrg o s)≤sizeS o + sizeS [s]∧(mrg o s).length≤o.length + 1∧∀ u,lexS s u→∀ t,t ∈ mrg o s→lexS t u:=by
 obtain ⟨hs1,hs2⟩:=hs
 rcases snoc_cases o with rfl | ⟨o,t,rfl⟩
 ·refine ⟨⟨fun y hy=>?_,by simp [mrg]⟩,fun c x=>?_,by simp [mrg,sizeS],by simp [mrg],fun u hu t ht=>?_⟩
  ·simp [mrg] at hy;rw [hy];exact ⟨hs1,hs2⟩
  ·simp only [mrg,List.getLast?_nil,hasS_cons]
   exact or_comm
  ·simp [mrg] at ht;rw [ht];exact hu
 ·rw [mrg_last]
  have ht : valS t:=ho.val t (by simp)
  have hlt:=hlex t (by simp)
  have hp:=List.pairwise_append.1 ho.pw
  have hot : ∀ y,y ∈ o→aheadS y t:=fun y hy=>hp.2.2 y hy t (by simp)
  obtain ⟨ht1,ht2⟩:=ht
  by_cases h : t.cl = s.cl∧s.fr≤t.tz
  ·rw [if_pos h]
   have hfr : t.fr≤s.fr:=by unfold lexS at hlt;omega
   refine ⟨⟨fun y hy=>?_,List.pairwise_append.2 ⟨hp.1,by simp,fun y hy z hz=>?_⟩⟩,fun c x=>?_,?_,by simp,fun u hu y hy=>?_⟩
   ·rcases List.mem_append.1 hy with hy | hy
    ·exact ho.val y (by simp [hy])
    ·rw [List.mem_singleton] at hy;rw [hy];exact ⟨ht1,by show t.fr < max t.tz s.tz;omega⟩
   ·rw [List.mem_singleton] at hz;rw [hz]
    have:=hot y hy
    unfold aheadS at *
    exact this
   ·rw [hasS_append,hasS_cons,hasS_append,hasS_cons]
    have hn:=hasS_nil c x
    have hi : inS_S ⟨t.cl,t.fr,max t.tz s.tz⟩ c x↔inS_S t c x∨inS_S s c x:=by
     unfold inS_S
     show t.cl = c∧t.fr≤x∧x < max t.tz s.tz↔_
     omega
    rw [hi]
    constructor
    ·rintro (h | (h | h) | h)
     ·exact .inl (.inl h)
     ·exact .inl (.inr (.inl h))
     ·exact .inr h
     ·exact (hn h).elim
    ·rintro ((h | h | h) | h)
     ·exact .inl h
     ·exact .inr (.inl (.inl h))
     ·exact (hn h).elim
     ·exact .inr (.inl (.inr h))
   ·rw [sizeS_append,sizeS_append]
    simp only [sizeS,List.map_cons,List.map_nil,List.foldr_cons,List.foldr_nil]
    omega
   ·rcases List.mem_append.1 hy with hy | hy
    ·have:=hlex y (by simp [hy]);unfold lexS at *;omega
    ·rw [List.mem_singleton] at hy;rw [hy];unfold lexS at *;show t.cl < u.cl∨t.cl = u.cl∧t.fr≤u.fr;omega
  ·rw [if_neg h]
   have hts : aheadS t s:=by unfold lexS at hlt;unfold aheadS;omega
   refine ⟨⟨fun y hy=>?_,List.pairwise_append.2 ⟨ho.pw,by simp,fun y hy z hz=>?_⟩⟩,fun c x=>?_,?_,by simp,fun u hu y hy=>?_⟩
   ·rcases List.mem_append.1 hy with hy | hy
    ·exact ho.val y hy
    ·rw [List.mem_singleton] at hy;rw [hy];exact ⟨hs1,hs2⟩
   ·rw [List.mem_singleton] at hz;rw [hz]
    rcases List.mem_append.1 hy with hy | hy
    ·exact aheadS_trans ⟨ht1,ht2⟩ (hot y hy) hts
    ·rw [List.mem_singleton] at hy;rw [hy];exact hts
   ·rw [hasS_append (o ++ [t]),hasS_cons]
    have hn:=hasS_nil c x
    constructor
    ·rintro (h | h | h)
     ·exact .inl h
     ·exact .inr h
     ·exact (hn h).elim
    ·rintro (h | h)
     ·exact .inl h
     ·exact .inr (.inl h)
   ·rw [sizeS_append (o ++ [t])];omega
   ·rcases List.mem_append.1 hy with hy | hy
    ·have:=hlex y hy;unfold lexS at *;omega
    ·rw [List.mem_singleton] at hy;rw [hy];exact hu
def mrgL (l : List Sp) : List Sp:=l.foldl mrg []
theorem mrgL_snoc (l : List Sp) (s : Sp) : mrgL (l ++ [s]) = mrg (mrgL l) s:=by simp [mrgL]
theorem mrgL_ok (l : List Sp) (hv : ∀ s,s ∈ l→valS s) (hp : l.Pairwise lexS) :
  canon (mrgL l)∧(∀ c x,hasS (mrgL l) c x↔hasS l c x)∧sizeS (mrgL l)≤sizeS l∧(mrgL l).length≤l.length∧∀ u,(∀ t,t ∈ l→lexS t u)→∀ t,t ∈ mrgL l→lexS t u:=by
 suffices h : ∀ (n : Nat) (l : List Sp),l.length = n→(∀ s,s ∈ l→valS s)→l.Pairwise lexS→(canon (mrgL l)∧(∀ c x,hasS (mrgL l) c x↔hasS l c x)∧sizeS (mrgL l)≤sizeS l∧(mrgL l).length≤l.length∧∀ u,(∀ t,t ∈ l→lexS t u)→∀ t,t ∈ mrgL l→lexS t u) from h _ l rfl hv hp
 clear hv hp l
 intro n
 induction n with
 | zero =>
  intro l hl _ _
  obtain rfl:=List.eq_nil_of_length_eq_zero hl
  exact ⟨⟨fun y hy=>(by cases hy),List.Pairwise.nil⟩,fun c x=>Iff.rfl,Int.le_refl _,Nat.le_refl _,fun u _ t ht=>by cases ht⟩
 | succ n ih =>
  intro l hl hv hp
  rcases snoc_cases l with rfl | ⟨l,s,rfl⟩
  ·cases hl
  have hp':=List.pairwise_append.1 hp
  obtain ⟨h1,h2,h3,h4,h5⟩:=ih l (by simpa using hl) (fun t ht=>hv t (by simp [ht])) hp'.1
  rw [mrgL_snoc]
  obtain ⟨g1,g2,g3,g4,g5⟩:=mrg_ok h1 (hv s (by simp)) (h5 s fun t ht=>hp'.2.2 t ht s (by simp))
  refine ⟨g1,fun c x=>?_,?_,?_,fun u hu=>g5 u (hu s (by simp))⟩
  ·rw [g2,h2,hasS_append,hasS_cons]
   have hn:=hasS_nil c x
   constructor
   ·rintro (h | h)
    ·exact .inl h
    ·exact .inr (.inl h)
   ·rintro (h | h | h)
    ·exact .inl h
    ·exact .inr h
    ·exact (hn h).elim
  ·rw [sizeS_append];omega
  ·simp;omega
structure ofS (l o : List Sp) : Prop where
 can : canon o
 has : ∀ c x,hasS o c x↔hasS (valid l) c x
 size : sizeS o≤sizeS (valid l)
 len : o.length≤l.length
theorem ofS_of {l ys : List Sp} (hp : ys.Perm (valid l)) (hs : ys.Pairwise lexS) : ofS l (mrgL ys):=by
 have hv : ∀ s,s ∈ ys→valS s:=fun s h=>by
  have:=hp.mem_iff.1 h
  simp only [valid,List.mem_filter,decide_eq_true_eq] at this
  exact this.2
 obtain ⟨h1,h2,h3,h4,_⟩:=mrgL_ok ys hv hs
 exact ⟨h1,fun c x=>(h2 c x).trans (hasS_perm hp c x),by rw [←sizeS_perm hp];exact h3,Nat.le_trans h4 (by rw [hp.length_eq];exact List.length_filter_le _ _)⟩
theorem ofS_set {l o : List Sp} (h : ofS l o) : o = setL l:=canon_uniq _ _ h.can (setL_ok l).1 fun c x=>(h.has c x).trans ((setL_ok l).2 c x).symm
theorem valid_canon {l : List Sp} (h : canon l) : valid l = l:=List.filter_eq_self.2 fun s hs=>decide_eq_true (h.val s hs)
theorem setL_self {l : List Sp} (h : canon l) : setL l = l:=canon_uniq _ _ (setL_ok l).1 h fun c x=>by rw [(setL_ok l).2,valid_canon h]
theorem valid_append (a b : List Sp) : valid (a ++ b) = valid a ++ valid b:=List.filter_append ..
theorem setL_join (a b : List Sp) : setL (setL a ++ setL b) = setL (a ++ b):=canon_uniq _ _ (setL_ok _).1 (setL_ok _).1 fun c x=>by
 rw [(setL_ok _).2,(setL_ok _).2,valid_append,valid_append,valid_canon (setL_ok a).1,valid_canon (setL_ok b).1,hasS_append,hasS_append,(setL_ok a).2,(setL_ok b).2]
end Go.Eng
namespace Go.Eng
open Go Go.RowKit Go.Proofs
def bAt (s : ByteArray) (i : Nat) : Int:=((s[i]!).toNat : Int)
theorem bAt_le (s : ByteArray) (i : Nat) : 0≤bAt s i∧bAt s i≤255:=by
 have:=(s[i]!).toNat_lt
 unfold bAt
 omega
def headR (c : Int) : Option (Nat × Int × Int) :=
 if 240≤c∧c < 248 then some (4,c - 240,65536) else if 224≤c∧c < 240 then some (3,c - 224,2048) else if 192≤c∧c < 224 then some (2,c - 192,128) else if 128≤c then none else some (1,c,0)
def tailR (s : ByteArray) (i : Nat) : Nat→Nat→Int→Option Int
 | _,0,v=>some v
 | k,m + 1,v=>if bAt s (i + k) < 128∨191 < bAt s (i + k) then none else tailR s i (k + 1) m (64 * v + bAt s (i + k) - 128)
def badR (v least : Int) : Prop:=v < least∨1114111 < v∨55296≤v∧v≤57343
instance (v least : Int) : Decidable (badR v least):=by unfold badR;infer_instance
def charR (s : ByteArray) (i : Nat) : Option (Int × Nat) :=
 match headR (bAt s i) with
 | none=>none
 | some (n,v0,least)=>if s.size < i + n then none else match tailR s i 1 (n - 1) v0 with
  | none=>none
  | some v=>if badR v least then none else some (v,n)
def charsR (s : ByteArray) : Nat→Nat→Option (List Int)
 | 0,_=>some []
 | f + 1,i=>if i < s.size then match charR s i with
   | none=>none
   | some (v,n)=>(charsR s f (i + n)).map (v :: ·)
  else some []
def charsF (s : ByteArray) : Option (List Int):=charsR s s.size 0
def charsV (s : ByteArray) : AV:=match charsF s with | some l=>.tup [rns l,vcb true] | none=>.tup [nilS,vcb false]
theorem chars_no {s : ByteArray} {i f : Nat} {l : List Int} (hf : s.size - i≤f) (hi : i < s.size) (he : charsF s = (charsR s f i).map (l ++ ·)) (h : charR s i = none) : charsV s = .tup [nilS,vcb false]:=by
 obtain ⟨f,rfl⟩ : ∃ g,f = g + 1:=⟨f - 1,by omega⟩
 unfold charsR at he
 rw [if_pos hi,h] at he
 unfold charsV
 rw [he]
 rfl
theorem chars_go {s : ByteArray} {i f : Nat} {l : List Int} (hf : s.size - i≤f) (hi : i < s.size) (he : charsF s = (charsR s f i).map (l ++ ·)) {v : Int} {n : Nat} (h : charR s i = some (v,n)) : charsF s = (charsR s (f - 1) (i + n)).map ((l ++ [v]) ++ ·):=by
 obtain ⟨f,rfl⟩ : ∃ g,f = g + 1:=⟨f - 1,by omega⟩
 unfold charsR at he
 rw [if_pos hi,h] at he
 rw [he]
 simp only [Nat.add_sub_cancel]
 cases charsR s f (i + n) <;> simp
theorem wb (s : ByteArray) (i : Nat) : IntKind.i64.wrap ((s[i]!).toNat : Int) = bAt s i:=by
 have:=bAt_le s i
 unfold bAt at *
 exact w_i64 (by omega) (by omega)
def chI (s : ByteArray) (n : Nat) (st : St) : Prop:=∃ (i : Nat) (l : List Int) (f : Nat),n = s.size - i∧i≤s.size∧l.length≤i∧s.size - i≤f∧charsF s = (charsR s f i).map (l ++ ·) ∧
 st = ⟨99,0,[(0,vcs s),(4,.c (.row 0)),(5,vci .i64 (i : Int))],[some (.row 21 1 l.length (runeF l))]⟩
theorem w_le {x : Int} (h1 : 0≤x) (h2 : x≤4000000000) : IntKind.i64.wrap x = x:=w_i64 (by omega) (by omega)
theorem w32_le {x : Int} (h1 : 0≤x) (h2 : x≤1114111) : IntKind.i32.wrap x = x:=by
 unfold IntKind.wrap IntKind.bits IntKind.signed
 simp
 split <;> omega
theorem headR_1 {c : Int} (h : ¬ (240≤c∧c < 248)) (h2 : ¬ (224≤c∧c < 240)) (h3 : ¬ (192≤c∧c < 224)) (h4 : ¬ 128≤c) : headR c = some (1,c,0):=by unfold headR;rw [if_neg h,if_neg h2,if_neg h3,if_neg h4]
theorem tailR_no {s : ByteArray} {i k m : Nat} {v : Int} (h : bAt s (i + k) < 128∨191 < bAt s (i + k)) : tailR s i k (m + 1) v = none:=by unfold tailR;rw [if_pos h]
theorem tailR_go {s : ByteArray} {i k m : Nat} {v : Int} (h : ¬ (bAt s (i + k) < 128∨191 < bAt s (i + k))) : tailR s i k (m + 1) v = tailR s i (k + 1) m (64 * v + bAt s (i + k) - 128):=by rw [tailR,if_neg h]
theorem charR_big {s : ByteArray} {i n : Nat} {v least : Int} (hh : headR (bAt s i) = some (n,v,least)) (h : s.size < i + n) : charR s i = none:=by unfold charR;simp only [hh];rw [if_pos h]
theorem charR_tail {s : ByteArray} {i n : Nat} {v least : Int} (hh : headR (bAt s i) = some (n,v,least)) (h : ¬ s.size < i + n) (ht : tailR s i 1 (n - 1) v = none) : charR s i = none:=by unfold charR;simp only [hh];rw [if_neg h,ht]
theorem charR_bad {s : ByteArray} {i n : Nat} {v u least : Int} (hh : headR (bAt s i) = some (n,v,least)) (h : ¬ s.size < i + n) (ht : tailR s i 1 (n - 1) v = some u) (hb : badR u least) : charR s i = none:=by unfold charR;simp only [hh];rw [if_neg h,ht];simp only;rw [if_pos hb]
theorem charR_ok {s : ByteArray} {i n : Nat} {v u least : Int} (hh : headR (bAt s i) = some (n,v,least)) (h : ¬ s.size < i + n) (ht : tailR s i 1 (n - 1) v = some u) (hb : ¬ badR u least) : charR s i = some (u,n):=by unfold charR;simp only [hh];rw [if_neg h,ht];simp only;rw [if_neg hb]
set_option maxRecDepth 100000 in
set_option maxHeartbeats 2000000 in
theorem chars_c (s : ByteArray) (hs : s.size≤100000000) : CallV Tryz.prog 98 [vcs s] [] (fun r own'=>own' = []∧r = charsV s):=by
 refine callV_pure Tryz.func98 rfl ttok ftok rfl rfl rfl (Nat.le_of_ble_eq_true rfl) ?_
 conv=>whnf
 refine loopV ttok ftok (chI s) ((nil_row 4 21 1 (runeF []) rfl).trans (norm_weak [0,4,5] [some 0] rfl rfl)) ⟨0,[],s.size,rfl,Nat.zero_le _,Nat.zero_le _,Nat.sub_le _ _,?_,rfl⟩ ?_
 ·unfold charsF;cases charsR s s.size 0 <;> rfl
 rintro n st ⟨i,l,f,rfl,hi,hll,hf,he,rfl⟩
 conv=>whnf
 refine ⟨by omega,?_⟩
 conv=>whnf
 refine onB_intro (fun h=>?_) (fun h=>?_)
 ·have hlt : i < s.size:=by have:=of_decide_eq_true h;omega
  have ek : ∀ k : Nat,k≤4→IntKind.i64.wrap ((i : Int) + (k : Int)) = ((i + k : Nat) : Int):=fun k hk=>by rw [w_i64 (by omega) (by omega)];omega
  have e1 : IntKind.i64.wrap ((i : Int) + 1) = ((i + 1 : Nat) : Int):=ek 1 (by omega)
  have e2 : IntKind.i64.wrap ((i : Int) + IntKind.i64.wrap (1 + 1)) = ((i + 2 : Nat) : Int):=ek 2 (by omega)
  have e3 : IntKind.i64.wrap ((i : Int) + IntKind.i64.wrap (IntKind.i64.wrap (1 + 1) + 1)) = ((i + 3 : Nat) : Int):=ek 3 (by omega)
  have e4 : IntKind.i64.wrap ((i : Int) + 4) = ((i + 4 : Nat) : Int):=ek 4 (by omega)
  have b0:=bAt_le s i
  have b1:=bAt_le s (i + 1)
  have b2:=bAt_le s (i + 2)
  have b3:=bAt_le s (i + 3)
  conv=>whnf
  refine ⟨by omega,?_⟩
  conv=>whnf
  refine onB_intro (fun c4=>?_) (fun c4=>?_)
  ·conv=>whnf
   simp only [pickB,isLit,Bool.and_eq_true,decide_eq_true_eq,wb,ti_nat] at c4
   have hh : headR (bAt s i) = some (4,bAt s i - 240,65536):=by unfold headR;rw [if_pos (by omega)]
   have en:=e4
   refine ⟨by omega,?_⟩
   conv=>whnf
   refine onB_intro (fun h1=>?_) (fun h1=>?_)
   ·conv=>whnf
    refine (chars_no hf hlt he ?_).symm
    simp only [pickB,isLit,Bool.true_or,Bool.and_true,Bool.or_eq_true,Bool.and_eq_true,Bool.or_eq_false_iff,decide_eq_true_eq,decide_eq_false_iff_not,wb,ti_nat,e1,e2,e3,e4] at h1
    exact charR_big hh (by omega)
   have hfit : ¬ s.size < i + 4:=by have h1:=of_decide_eq_false h1;simp only [en] at h1;omega
   conv=>whnf
   refine loop_rounds 5 ttok ftok ?_
   conv=>whnf
   refine ⟨by rw [e1];omega,?_⟩
   conv=>whnf
   refine onB_intro (fun d1=>?_) (fun d1=>?_)
   ·conv=>whnf
    refine (chars_no hf hlt he ?_).symm
    simp only [pickB,isLit,Bool.true_or,Bool.and_true,Bool.or_eq_true,Bool.and_eq_true,Bool.or_eq_false_iff,decide_eq_true_eq,decide_eq_false_iff_not,wb,ti_nat,e1,e2,e3,e4] at d1
    refine charR_tail hh hfit ?_
    skip
    exact tailR_no (by omega)
   have d1 : ¬ (bAt s (i + 1) < 128∨191 < bAt s (i + 1)):=by
    simp only [pickB,isLit,Bool.true_or,Bool.and_true,Bool.or_eq_true,Bool.and_eq_true,Bool.or_eq_false_iff,decide_eq_true_eq,decide_eq_false_iff_not,wb,ti_nat,e1,e2,e3,e4] at d1
    omega
   conv=>whnf
   refine ⟨by rw [e2];omega,?_⟩
   conv=>whnf
   refine onB_intro (fun d2=>?_) (fun d2=>?_)
   ·conv=>whnf
    refine (chars_no hf hlt he ?_).symm
    simp only [pickB,isLit,Bool.true_or,Bool.and_true,Bool.or_eq_true,Bool.and_eq_true,Bool.or_eq_false_iff,decide_eq_true_eq,decide_eq_false_iff_not,wb,ti_nat,e1,e2,e3,e4] at d2
    refine charR_tail hh hfit ?_
    rw [show (4 : Nat) - 1 = 2 + 1 from rfl,tailR_go d1]
    exact tailR_no (by omega)
   have d2 : ¬ (bAt s (i + 2) < 128∨191 < bAt s (i + 2)):=by
    simp only [pickB,isLit,Bool.true_or,Bool.and_true,Bool.or_eq_true,Bool.and_eq_true,Bool.or_eq_false_iff,decide_eq_true_eq,decide_eq_false_iff_not,wb,ti_nat,e1,e2,e3,e4] at d2
    omega
   conv=>whnf
   refine ⟨by rw [e3];omega,?_⟩
   conv=>whnf
   refine onB_intro (fun d3=>?_) (fun d3=>?_)
   ·conv=>whnf
    refine (chars_no hf hlt he ?_).symm
    simp only [pickB,isLit,Bool.true_or,Bool.and_true,Bool.or_eq_true,Bool.and_eq_true,Bool.or_eq_false_iff,decide_eq_true_eq,decide_eq_false_iff_not,wb,ti_nat,e1,e2,e3,e4] at d3
    refine charR_tail hh hfit ?_
    rw [show (4 : Nat) - 1 = 2 + 1 from rfl,tailR_go d1,tailR_go d2]
    exact tailR_no (by omega)
   have d3 : ¬ (bAt s (i + 3) < 128∨191 < bAt s (i + 3)):=by
    simp only [pickB,isLit,Bool.true_or,Bool.and_true,Bool.or_eq_true,Bool.and_eq_true,Bool.or_eq_false_iff,decide_eq_true_eq,decide_eq_false_iff_not,wb,ti_nat,e1,e2,e3,e4] at d3
    omega
   conv=>whnf
   refine onB_intro (fun hl=>?_) (fun hl=>?_)
   ·conv=>whnf
    refine (chars_no hf hlt he ?_).symm
    simp only [pickB,isLit,Bool.true_or,Bool.and_true,Bool.or_eq_true,Bool.and_eq_true,decide_eq_true_eq,wb,ti_nat,e1,e2,e3,e4] at hl
    refine charR_bad hh hfit (by rw [show (4 : Nat) - 1 = 2 + 1 from rfl,tailR_go d1,tailR_go d2,tailR_go d3];rfl) ?_
    unfold badR
    try simp (discharger:=omega) only [w_le] at hl
    omega
   have hb : ¬ badR (64 * (64 * (64 * (bAt s i - 240) + bAt s (i + 1) - 128) + bAt s (i + 2) - 128) + bAt s (i + 3) - 128) 65536:=by
    simp only [pickB,isLit,Bool.true_or,Bool.and_true,Bool.or_eq_false_iff,Bool.and_eq_false_imp,decide_eq_true_eq,decide_eq_false_iff_not,wb,ti_nat,e1,e2,e3,e4] at hl
    try simp (discharger:=omega) only [w_le] at hl
    unfold badR
    omega
   conv=>whnf
   refine ⟨_,fun _ _=>rfl,?_⟩
   conv=>whnf
   refine ⟨⟨by omega,by show (l.length + 1) * 4≤_;omega⟩,?_⟩
   conv=>whnf
   refine app1 (enc:=fun x : Int=>[vr x]) (d:=0) (l:=l) (64 * (64 * (64 * (bAt s i - 240) + bAt s (i + 1) - 128) + bAt s (i + 2) - 128) + bAt s (i + 3) - 128) (fun _ _=>rfl) ?_ ?_
   ·unfold badR at hb
    show [IC.v (Value.int .i32 _)] = [vr _]
    simp only [wb,ti_nat,e1,e2,e3,e4]
    simp (discharger:=omega) only [w_le,w32_le]
   conv=>whnf
   refine ⟨s.size - (i + 4),_,by omega,norm_weak [0,4,5] [some 2] rfl rfl,i + 4,l ++ [(64 * (64 * (64 * (bAt s i - 240) + bAt s (i + 1) - 128) + bAt s (i + 2) - 128) + bAt s (i + 3) - 128)],f - 1,rfl,by omega,by simp only [List.length_append,List.length_cons,List.length_nil];omega,by omega,chars_go hf hlt he (charR_ok hh hfit (by rw [show (4 : Nat) - 1 = 2 + 1 from rfl,tailR_go d1,tailR_go d2,tailR_go d3];rfl) hb),?_⟩
   rw [←en]
   rfl
  ·conv=>whnf
   replace c4 : ¬ (240≤bAt s i∧bAt s i < 248):=by
    simp only [pickB,isLit,Bool.and_eq_false_imp,decide_eq_true_eq,decide_eq_false_iff_not,wb,ti_nat] at c4
    omega
   refine onB_intro (fun c3=>?_) (fun c3=>?_)
   ·conv=>whnf
    simp only [pickB,isLit,Bool.and_eq_true,decide_eq_true_eq,wb,ti_nat] at c3
    have hh : headR (bAt s i) = some (3,bAt s i - 224,2048):=by unfold headR;rw [if_neg c4,if_pos (by omega)]
    have en : IntKind.i64.wrap ((i : Int) + 3) = ((i + 3 : Nat) : Int):=ek 3 (by omega)
    refine ⟨by omega,?_⟩
    conv=>whnf
    refine onB_intro (fun h1=>?_) (fun h1=>?_)
    ·conv=>whnf
     refine (chars_no hf hlt he ?_).symm
     simp only [pickB,isLit,Bool.true_or,Bool.and_true,Bool.or_eq_true,Bool.and_eq_true,Bool.or_eq_false_iff,decide_eq_true_eq,decide_eq_false_iff_not,wb,ti_nat,e1,e2,e3,e4] at h1
     exact charR_big hh (by omega)
    have hfit : ¬ s.size < i + 3:=by have h1:=of_decide_eq_false h1;simp only [en] at h1;omega
    conv=>whnf
    refine loop_rounds 5 ttok ftok ?_
    conv=>whnf
    refine ⟨by rw [e1];omega,?_⟩
    conv=>whnf
    refine onB_intro (fun d1=>?_) (fun d1=>?_)
    ·conv=>whnf
     refine (chars_no hf hlt he ?_).symm
     simp only [pickB,isLit,Bool.true_or,Bool.and_true,Bool.or_eq_true,Bool.and_eq_true,Bool.or_eq_false_iff,decide_eq_true_eq,decide_eq_false_iff_not,wb,ti_nat,e1,e2,e3,e4] at d1
     refine charR_tail hh hfit ?_
     skip
     exact tailR_no (by omega)
    have d1 : ¬ (bAt s (i + 1) < 128∨191 < bAt s (i + 1)):=by
     simp only [pickB,isLit,Bool.true_or,Bool.and_true,Bool.or_eq_true,Bool.and_eq_true,Bool.or_eq_false_iff,decide_eq_true_eq,decide_eq_false_iff_not,wb,ti_nat,e1,e2,e3,e4] at d1
     omega
    conv=>whnf
    refine ⟨by rw [e2];omega,?_⟩
    conv=>whnf
    refine onB_intro (fun d2=>?_) (fun d2=>?_)
    ·conv=>whnf
     refine (chars_no hf hlt he ?_).symm
     simp only [pickB,isLit,Bool.true_or,Bool.and_true,Bool.or_eq_true,Bool.and_eq_true,Bool.or_eq_false_iff,decide_eq_true_eq,decide_eq_false_iff_not,wb,ti_nat,e1,e2,e3,e4] at d2
     refine charR_tail hh hfit ?_
     rw [show (3 : Nat) - 1 = 1 + 1 from rfl,tailR_go d1]
     exact tailR_no (by omega)
    have d2 : ¬ (bAt s (i + 2) < 128∨191 < bAt s (i + 2)):=by
     simp only [pickB,isLit,Bool.true_or,Bool.and_true,Bool.or_eq_true,Bool.and_eq_true,Bool.or_eq_false_iff,decide_eq_true_eq,decide_eq_false_iff_not,wb,ti_nat,e1,e2,e3,e4] at d2
     omega
    conv=>whnf
    refine onB_intro (fun hl=>?_) (fun hl=>?_)
    ·conv=>whnf
     refine (chars_no hf hlt he ?_).symm
     simp only [pickB,isLit,Bool.true_or,Bool.and_true,Bool.or_eq_true,Bool.and_eq_true,decide_eq_true_eq,wb,ti_nat,e1,e2,e3,e4] at hl
     refine charR_bad hh hfit (by rw [show (3 : Nat) - 1 = 1 + 1 from rfl,tailR_go d1,tailR_go d2];rfl) ?_
     unfold badR
     try simp (discharger:=omega) only [w_le] at hl
     omega
    have hb : ¬ badR (64 * (64 * (bAt s i - 224) + bAt s (i + 1) - 128) + bAt s (i + 2) - 128) 2048:=by
     simp only [pickB,isLit,Bool.true_or,Bool.and_true,Bool.or_eq_false_iff,Bool.and_eq_false_imp,decide_eq_true_eq,decide_eq_false_iff_not,wb,ti_nat,e1,e2,e3,e4] at hl
     try simp (discharger:=omega) only [w_le] at hl
     unfold badR
     omega
    conv=>whnf
    refine ⟨_,fun _ _=>rfl,?_⟩
    conv=>whnf
    refine ⟨⟨by omega,by show (l.length + 1) * 4≤_;omega⟩,?_⟩
    conv=>whnf
    refine app1 (enc:=fun x : Int=>[vr x]) (d:=0) (l:=l) (64 * (64 * (bAt s i - 224) + bAt s (i + 1) - 128) + bAt s (i + 2) - 128) (fun _ _=>rfl) ?_ ?_
    ·unfold badR at hb
     show [IC.v (Value.int .i32 _)] = [vr _]
     simp only [wb,ti_nat,e1,e2,e3,e4]
     simp (discharger:=omega) only [w_le,w32_le]
    conv=>whnf
    refine ⟨s.size - (i + 3),_,by omega,norm_weak [0,4,5] [some 2] rfl rfl,i + 3,l ++ [(64 * (64 * (bAt s i - 224) + bAt s (i + 1) - 128) + bAt s (i + 2) - 128)],f - 1,rfl,by omega,by simp only [List.length_append,List.length_cons,List.length_nil];omega,by omega,chars_go hf hlt he (charR_ok hh hfit (by rw [show (3 : Nat) - 1 = 1 + 1 from rfl,tailR_go d1,tailR_go d2];rfl) hb),?_⟩
    rw [←en]
    rfl
   ·conv=>whnf
    replace c3 : ¬ (224≤bAt s i∧bAt s i < 240):=by
     simp only [pickB,isLit,Bool.and_eq_false_imp,decide_eq_true_eq,decide_eq_false_iff_not,wb,ti_nat] at c3
     omega
    refine onB_intro (fun c2=>?_) (fun c2=>?_)
    ·conv=>whnf
     simp only [pickB,isLit,Bool.and_eq_true,decide_eq_true_eq,wb,ti_nat] at c2
     have hh : headR (bAt s i) = some (2,bAt s i - 192,128):=by unfold headR;rw [if_neg c4,if_neg c3,if_pos (by omega)]
     have en : IntKind.i64.wrap ((i : Int) + 2) = ((i + 2 : Nat) : Int):=ek 2 (by omega)
     refine ⟨by omega,?_⟩
     conv=>whnf
     refine onB_intro (fun h1=>?_) (fun h1=>?_)
     ·conv=>whnf
      refine (chars_no hf hlt he ?_).symm
      simp only [pickB,isLit,Bool.true_or,Bool.and_true,Bool.or_eq_true,Bool.and_eq_true,Bool.or_eq_false_iff,decide_eq_true_eq,decide_eq_false_iff_not,wb,ti_nat,e1,e2,e3,e4] at h1
      exact charR_big hh (by omega)
     have hfit : ¬ s.size < i + 2:=by have h1:=of_decide_eq_false h1;simp only [en] at h1;omega
     conv=>whnf
     refine loop_rounds 5 ttok ftok ?_
     conv=>whnf
     refine ⟨by rw [e1];omega,?_⟩
     conv=>whnf
     refine onB_intro (fun d1=>?_) (fun d1=>?_)
     ·conv=>whnf
      refine (chars_no hf hlt he ?_).symm
      simp only [pickB,isLit,Bool.true_or,Bool.and_true,Bool.or_eq_true,Bool.and_eq_true,Bool.or_eq_false_iff,decide_eq_true_eq,decide_eq_false_iff_not,wb,ti_nat,e1,e2,e3,e4] at d1
      refine charR_tail hh hfit ?_
      skip
      exact tailR_no (by omega)
     have d1 : ¬ (bAt s (i + 1) < 128∨191 < bAt s (i + 1)):=by
      simp only [pickB,isLit,Bool.true_or,Bool.and_true,Bool.or_eq_true,Bool.and_eq_true,Bool.or_eq_false_iff,decide_eq_true_eq,decide_eq_false_iff_not,wb,ti_nat,e1,e2,e3,e4] at d1
      omega
     conv=>whnf
     refine onB_intro (fun hl=>?_) (fun hl=>?_)
     ·conv=>whnf
      refine (chars_no hf hlt he ?_).symm
      simp only [pickB,isLit,Bool.true_or,Bool.and_true,Bool.or_eq_true,Bool.and_eq_true,decide_eq_true_eq,wb,ti_nat,e1,e2,e3,e4] at hl
      refine charR_bad hh hfit (by rw [show (2 : Nat) - 1 = 0 + 1 from rfl,tailR_go d1];rfl) ?_
      unfold badR
      try simp (discharger:=omega) only [w_le] at hl
      omega
     have hb : ¬ badR (64 * (bAt s i - 192) + bAt s (i + 1) - 128) 128:=by
      simp only [pickB,isLit,Bool.true_or,Bool.and_true,Bool.or_eq_false_iff,Bool.and_eq_false_imp,decide_eq_true_eq,decide_eq_false_iff_not,wb,ti_nat,e1,e2,e3,e4] at hl
      try simp (discharger:=omega) only [w_le] at hl
      unfold badR
      omega
     conv=>whnf
     refine ⟨_,fun _ _=>rfl,?_⟩
     conv=>whnf
     refine ⟨⟨by omega,by show (l.length + 1) * 4≤_;omega⟩,?_⟩
     conv=>whnf
     refine app1 (enc:=fun x : Int=>[vr x]) (d:=0) (l:=l) (64 * (bAt s i - 192) + bAt s (i + 1) - 128) (fun _ _=>rfl) ?_ ?_
     ·unfold badR at hb
      show [IC.v (Value.int .i32 _)] = [vr _]
      simp only [wb,ti_nat,e1,e2,e3,e4]
      simp (discharger:=omega) only [w_le,w32_le]
     conv=>whnf
     refine ⟨s.size - (i + 2),_,by omega,norm_weak [0,4,5] [some 2] rfl rfl,i + 2,l ++ [(64 * (bAt s i - 192) + bAt s (i + 1) - 128)],f - 1,rfl,by omega,by simp only [List.length_append,List.length_cons,List.length_nil];omega,by omega,chars_go hf hlt he (charR_ok hh hfit (by rw [show (2 : Nat) - 1 = 0 + 1 from rfl,tailR_go d1];rfl) hb),?_⟩
     rw [←en]
     rfl
    ·conv=>whnf
     replace c2 : ¬ (192≤bAt s i∧bAt s i < 224):=by
      simp only [pickB,isLit,Bool.and_eq_false_imp,decide_eq_true_eq,decide_eq_false_iff_not,wb,ti_nat] at c2
      omega
     refine onB_intro (fun c1=>?_) (fun c1=>?_)
     ·conv=>whnf
      refine (chars_no hf hlt he ?_).symm
      simp only [decide_eq_true_eq,wb,ti_nat] at c1
      unfold charR headR
      rw [if_neg c4,if_neg c3,if_neg c2,if_pos (by omega)]
     ·conv=>whnf
      simp only [decide_eq_false_iff_not,wb,ti_nat] at c1
      have hh : headR (bAt s i) = some (1,bAt s i,0):=headR_1 c4 c3 c2 (by omega)
      have en : IntKind.i64.wrap ((i : Int) + 1) = ((i + 1 : Nat) : Int):=e1
      refine ⟨by omega,?_⟩
      conv=>whnf
      refine onB_intro (fun h1=>?_) (fun h1=>?_)
      ·conv=>whnf
       refine (chars_no hf hlt he ?_).symm
       simp only [pickB,isLit,Bool.true_or,Bool.and_true,Bool.or_eq_true,Bool.and_eq_true,Bool.or_eq_false_iff,decide_eq_true_eq,decide_eq_false_iff_not,wb,ti_nat,e1,e2,e3,e4] at h1
       exact charR_big hh (by omega)
      have hfit : ¬ s.size < i + 1:=by have h1:=of_decide_eq_false h1;simp only [en] at h1;omega
      conv=>whnf
      refine loop_rounds 5 ttok ftok ?_
      conv=>whnf
      refine onB_intro (fun hl=>?_) (fun hl=>?_)
      ·conv=>whnf
       refine (chars_no hf hlt he ?_).symm
       simp only [pickB,isLit,Bool.true_or,Bool.and_true,Bool.or_eq_true,Bool.and_eq_true,decide_eq_true_eq,wb,ti_nat,e1,e2,e3,e4] at hl
       refine charR_bad hh hfit rfl ?_
       unfold badR
       try simp (discharger:=omega) only [w_le] at hl
       omega
      have hb : ¬ badR (bAt s i) 0:=by
       simp only [pickB,isLit,Bool.true_or,Bool.and_true,Bool.or_eq_false_iff,Bool.and_eq_false_imp,decide_eq_true_eq,decide_eq_false_iff_not,wb,ti_nat,e1,e2,e3,e4] at hl
       try simp (discharger:=omega) only [w_le] at hl
       unfold badR
       omega
      conv=>whnf
      refine ⟨_,fun _ _=>rfl,?_⟩
      conv=>whnf
      refine ⟨⟨by omega,by show (l.length + 1) * 4≤_;omega⟩,?_⟩
      conv=>whnf
      refine app1 (enc:=fun x : Int=>[vr x]) (d:=0) (l:=l) (bAt s i) (fun _ _=>rfl) ?_ ?_
      ·unfold badR at hb
       show [IC.v (Value.int .i32 _)] = [vr _]
       simp only [wb,ti_nat,e1,e2,e3,e4]
       simp (discharger:=omega) only [w_le,w32_le]
      conv=>whnf
      refine ⟨s.size - (i + 1),_,by omega,norm_weak [0,4,5] [some 2] rfl rfl,i + 1,l ++ [(bAt s i)],f - 1,rfl,by omega,by simp only [List.length_append,List.length_cons,List.length_nil];omega,by omega,chars_go hf hlt he (charR_ok hh hfit rfl hb),?_⟩
      rw [←en]
      rfl
 ·conv=>whnf
  have h:=of_decide_eq_false h
  obtain rfl : i = s.size:=by omega
  refine ⟨fun _ _=>rfl,?_⟩
  conv=>whnf
  have hc : charsF s = some l:=by
   rw [he]
   cases f <;> simp [charsR]
  unfold charsV
  rw [hc]
end Go.Eng
namespace Go.Eng
open Go Go.RowKit
theorem get_bAt (s : ByteArray) (i : Nat) (h : i < s.size) : (s.get! i).toNat = (bAt s i).toNat:=by
 unfold bAt
 rw [Int.toNat_natCast]
 congr 1
 show s.get! i = _
 simp [ByteArray.get!,getElem!_pos,h]
 rfl
theorem tailR_inv {s : ByteArray} {i k m : Nat} {v u : Int} (h : tailR s i k (m + 1) v = some u) : 128≤bAt s (i + k)∧bAt s (i + k)≤191∧tailR s i (k + 1) m (64 * v + bAt s (i + k) - 128) = some u:=by
 unfold tailR at h
 split at h
 ·cases h
 ·exact ⟨by omega,by omega,h⟩
theorem tailR_0 {s : ByteArray} {i k : Nat} {v u : Int} (h : tailR s i k 0 v = some u) : v = u:=by unfold tailR at h;cases h;rfl
theorem valid_of {v : Int} (h0 : 0≤v) (h1 : v≤1114111) (h2 : ¬ (55296≤v∧v≤57343)) : Utf8.valid v = true:=by
 unfold Utf8.valid
 simp only [Bool.or_eq_true,Bool.and_eq_true,decide_eq_true_eq]
 omega
set_option maxHeartbeats 1000000 in
theorem charR_dec {s : ByteArray} {i n : Nat} {v : Int} (hi : i < s.size) (h : charR s i = some (v,n)) : Utf8.decode s i = (v.toNat,n)∧i + n≤s.size∧1≤n∧0≤v∧Utf8.valid v = true:=by
 have l0:=bAt_le s i
 have l1:=bAt_le s (i + 1)
 have l2:=bAt_le s (i + 2)
 have l3:=bAt_le s (i + 3)
 unfold charR at h
 split at h
 ·cases h
 ·rename_i n0 v0 least hh
  split at h
  ·cases h
  ·rename_i hfit
   split at h
   ·cases h
   ·rename_i v1 ht
    split at h
    ·cases h
    ·rename_i hb
     cases h
     unfold badR at hb
     unfold headR at hh
     have g0:=get_bAt s i (by omega)
     split at hh
     ·cases hh
      obtain ⟨a1,b1,ht⟩:=tailR_inv ht
      obtain ⟨a2,b2,ht⟩:=tailR_inv ht
      obtain ⟨a3,b3,ht⟩:=tailR_inv ht
      have ht:=tailR_0 ht
      have g1:=get_bAt s (i + 1) (by omega)
      have g2:=get_bAt s (i + 2) (by omega)
      have g3:=get_bAt s (i + 3) (by omega)
      refine ⟨?_,by omega,by omega,by omega,valid_of (by omega) (by omega) (by omega)⟩
      simp only [Nat.add_assoc,Nat.reduceAdd] at a1 a2 a3 b1 b2 b3 ht g1 g2 g3
      have hval:=valid_of (v:=v) (by omega) (by omega) (by omega)
      unfold Utf8.decode
      simp only [Nat.add_zero,g0,g1,g2,g3]
      have c1 : i + 1 < s.size:=by omega
      have c2 : i + 2 < s.size:=by omega
      have c3 : i + 3 < s.size:=by omega
      rw [if_neg (by omega),if_neg (by simp;omega),if_neg (by simp;omega),if_pos (by simp [c1,c2,c3];omega)]
      have hv : (bAt s i).toNat % 8 * 262144 + (bAt s (i + 1)).toNat % 64 * 4096 + (bAt s (i + 2)).toNat % 64 * 64 + (bAt s (i + 3)).toNat % 64 = v.toNat:=by omega
      rw [hv,if_pos]
      simp only [Bool.and_eq_true,decide_eq_true_eq]
      exact ⟨by omega,by rw [Int.toNat_of_nonneg (by omega)];exact hval⟩
     ·split at hh
      ·cases hh
       obtain ⟨a1,b1,ht⟩:=tailR_inv ht
       obtain ⟨a2,b2,ht⟩:=tailR_inv ht
       have ht:=tailR_0 ht
       have g1:=get_bAt s (i + 1) (by omega)
       have g2:=get_bAt s (i + 2) (by omega)
       refine ⟨?_,by omega,by omega,by omega,valid_of (by omega) (by omega) (by omega)⟩
       simp only [Nat.add_assoc,Nat.reduceAdd] at a1 a2 b1 b2 ht g1 g2
       have hval:=valid_of (v:=v) (by omega) (by omega) (by omega)
       unfold Utf8.decode
       simp only [Nat.add_zero,g0,g1,g2]
       have c1 : i + 1 < s.size:=by omega
       have c2 : i + 2 < s.size:=by omega
       rw [if_neg (by omega),if_neg (by simp;omega),if_pos (by simp [c1,c2];omega)]
       have hv : (bAt s i).toNat % 16 * 4096 + (bAt s (i + 1)).toNat % 64 * 64 + (bAt s (i + 2)).toNat % 64 = v.toNat:=by omega
       rw [hv,if_pos]
       simp only [Bool.and_eq_true,decide_eq_true_eq]
       exact ⟨by omega,by rw [Int.toNat_of_nonneg (by omega)];exact hval⟩
      ·split at hh
       ·cases hh
        obtain ⟨a1,b1,ht⟩:=tailR_inv ht
        have ht:=tailR_0 ht
        have g1:=get_bAt s (i + 1) (by omega)
        refine ⟨?_,by omega,by omega,by omega,valid_of (by omega) (by omega) (by omega)⟩
        unfold Utf8.decode
        simp only [Nat.add_zero,g0,g1]
        have c1 : i + 1 < s.size:=by omega
        rw [if_neg (by omega),if_pos (by simp [c1];omega)]
        have hv : (bAt s i).toNat % 32 * 64 + (bAt s (i + 1)).toNat % 64 = v.toNat:=by omega
        rw [hv,if_pos (by omega)]
       ·split at hh
        ·cases hh
        ·cases hh
         have ht:=tailR_0 ht
         refine ⟨?_,by omega,by omega,by omega,valid_of (by omega) (by omega) (by omega)⟩
         unfold Utf8.decode
         simp only [Nat.add_zero,g0]
         rw [if_pos (by omega),ht]
theorem charsR_len (s : ByteArray) : ∀ (f i : Nat) (l : List Int),i≤s.size→charsR s f i = some l→l.length≤s.size - i
 | 0,i,l,hi,h=>by cases h;simp
 | f + 1,i,l,hi,h=>by
  unfold charsR at h
  split at h
  ·rename_i hi
   split at h
   ·cases h
   ·rename_i v n hc
    cases hr : charsR s f (i + n) with
    | none=>rw [hr] at h;cases h
    | some l' =>
     rw [hr] at h
     cases h
     obtain ⟨h1,h2,h3,h4⟩:=charR_dec hi hc
     have:=charsR_len s f (i + n) l' (by omega) hr
     simp
     omega
  ·cases h;simp
theorem charsF_len {s : ByteArray} {l : List Int} (h : charsF s = some l) : l.length≤s.size:=by
 have:=charsR_len s s.size 0 l (by omega) h
 omega
end Go.Eng
namespace Go.Eng
open Go Go.RowKit
abbrev encL (v : Int) : List UInt8:=(Utf8.encode v).data.toList
theorem ba_len' (s : ByteArray) : s.data.toList.length = s.size:=by rw [Array.length_toList];rfl
theorem bAt_get {s : ByteArray} {i : Nat} (h : i < s.data.toList.length) : (s.data.toList[i]).toNat = (bAt s i).toNat:=by
 have h' : i < s.size:=by rw [←ba_len'];exact h
 rw [←get_bAt s i h']
 simp [ByteArray.get!,h']
theorem drop_bAt {s : ByteArray} {i : Nat} (h : i < s.size) : s.data.toList.drop i = UInt8.ofNat (bAt s i).toNat :: s.data.toList.drop (i + 1):=by
 have h' : i < s.data.toList.length:=by rw [ba_len'];exact h
 rw [List.drop_eq_getElem_cons h',←bAt_get h',UInt8.ofNat_toNat]
theorem drop_cons {s : ByteArray} {i : Nat} {b : UInt8} {r : List UInt8} (h : s.data.toList.drop i = b :: r) : i < s.size∧bAt s i = (b.toNat : Int)∧s.data.toList.drop (i + 1) = r:=by
 have hi : i < s.size:=by
  have : i < s.data.toList.length:=by
   false_or_by_contra
   rw [List.drop_eq_nil_of_le (by omega)] at h
   cases h
  rw [ba_len'] at this;exact this
 rw [drop_bAt hi] at h
 injection h with h1 h2
 refine ⟨hi,?_,h2⟩
 have l:=bAt_le s i
 rw [←h1]
 simp
 omega
theorem charR_enc {s : ByteArray} {i n : Nat} {v : Int} (hi : i < s.size) (h : charR s i = some (v,n)) : s.data.toList.drop i = encL v ++ s.data.toList.drop (i + n):=by
 have l0:=bAt_le s i
 have l1:=bAt_le s (i + 1)
 have l2:=bAt_le s (i + 2)
 have l3:=bAt_le s (i + 3)
 obtain ⟨_,hsz,hn1,hv0,hval⟩:=charR_dec hi h
 unfold charR at h
 split at h
 ·cases h
 ·rename_i n0 v0 least hh
  split at h
  ·cases h
  ·rename_i hfit
   split at h
   ·cases h
   ·rename_i v1 ht
    split at h
    ·cases h
    ·rename_i hb
     cases h
     unfold badR at hb
     unfold headR at hh
     unfold encL Utf8.encode
     rw [if_pos hval]
     split at hh
     ·cases hh
      obtain ⟨a1,b1,ht⟩:=tailR_inv ht
      obtain ⟨a2,b2,ht⟩:=tailR_inv ht
      obtain ⟨a3,b3,ht⟩:=tailR_inv ht
      have ht:=tailR_0 ht
      simp only [Nat.add_assoc,Nat.reduceAdd] at a1 a2 a3 b1 b2 b3 ht
      simp only
      rw [if_neg (by omega),if_neg (by omega),if_neg (by omega),drop_bAt hi,drop_bAt (i:=i + 1) (by omega),drop_bAt (i:=i + 1 + 1) (by omega),drop_bAt (i:=i + 1 + 1 + 1) (by omega)]
      simp only [Nat.add_assoc,Nat.reduceAdd]
      rw [show (bAt s i).toNat = 0xF0 + v.toNat / 262144 from by omega,show (bAt s (i + 1)).toNat = 0x80 + v.toNat / 4096 % 64 from by omega,show (bAt s (i + 2)).toNat = 0x80 + v.toNat / 64 % 64 from by omega,show (bAt s (i + 3)).toNat = 0x80 + v.toNat % 64 from by omega]
      rfl
     ·split at hh
      ·cases hh
       obtain ⟨a1,b1,ht⟩:=tailR_inv ht
       obtain ⟨a2,b2,ht⟩:=tailR_inv ht
       have ht:=tailR_0 ht
       simp only [Nat.add_assoc,Nat.reduceAdd] at a1 a2 b1 b2 ht
       simp only
       rw [if_neg (by omega),if_neg (by omega),if_pos (by omega),drop_bAt hi,drop_bAt (i:=i + 1) (by omega),drop_bAt (i:=i + 1 + 1) (by omega)]
       simp only [Nat.add_assoc,Nat.reduceAdd]
       rw [show (bAt s i).toNat = 0xE0 + v.toNat / 4096 from by omega,show (bAt s (i + 1)).toNat = 0x80 + v.toNat / 64 % 64 from by omega,show (bAt s (i + 2)).toNat = 0x80 + v.toNat % 64 from by omega]
       rfl
      ·split at hh
       ·cases hh
        obtain ⟨a1,b1,ht⟩:=tailR_inv ht
        have ht:=tailR_0 ht
        simp only
        rw [if_neg (by omega),if_pos (by omega),drop_bAt hi,drop_bAt (i:=i + 1) (by omega)]
        simp only [Nat.add_assoc,Nat.reduceAdd]
        rw [show (bAt s i).toNat = 0xC0 + v.toNat / 64 from by omega,show (bAt s (i + 1)).toNat = 0x80 + v.toNat % 64 from by omega]
        rfl
       ·split at hh
        ·cases hh
        ·cases hh
         have ht:=tailR_0 ht
         simp only
         rw [if_pos (by omega),drop_bAt hi,ht]
         rfl
theorem nb {n : Nat} (h : n < 256) : (UInt8.ofNat n).toNat = n:=by simp;omega
theorem valid_inv {v : Int} (h : Utf8.valid v = true) : 0≤v∧v≤1114111∧¬ (55296≤v∧v≤57343):=by
 unfold Utf8.valid at h
 simp only [Bool.or_eq_true,Bool.and_eq_true,decide_eq_true_eq] at h
 omega
theorem enc_charR {s : ByteArray} {i : Nat} {v : Int} {r : List UInt8} (hv : Utf8.valid v = true) (h : s.data.toList.drop i = encL v ++ r) : i < s.size∧charR s i = some (v,(encL v).length)∧s.data.toList.drop (i + (encL v).length) = r:=by
 obtain ⟨h0,h1,h2⟩:=valid_inv hv
 unfold encL Utf8.encode at *
 rw [if_pos hv] at *
 simp only at *
 by_cases c1 : v.toNat < 128
 ·rw [if_pos c1] at *
  obtain ⟨g0,e0,d0⟩:=drop_cons h
  rw [nb (by omega)] at e0
  refine ⟨g0,?_,d0⟩
  refine charR_ok (n:=1) (v:=v) (least:=0) ?_ (by omega) rfl (by unfold badR;omega)
  rw [headR_1 (by omega) (by omega) (by omega) (by omega),e0,Int.toNat_of_nonneg h0]
 rw [if_neg c1] at *
 by_cases c2 : v.toNat < 2048
 ·rw [if_pos c2] at *
  obtain ⟨g0,e0,h⟩:=drop_cons h
  obtain ⟨g1,e1,d0⟩:=drop_cons h
  rw [nb (by omega)] at e0 e1
  refine ⟨g0,?_,d0⟩
  refine charR_ok (n:=2) (v:=bAt s i - 192) (least:=128) ?_ (by omega) ?_ (by unfold badR;omega)
  ·unfold headR;rw [if_neg (by omega),if_neg (by omega),if_pos (by omega)]
  ·rw [tailR_go (by omega)];unfold tailR;congr 1;omega
 rw [if_neg c2] at *
 by_cases c3 : v.toNat < 65536
 ·rw [if_pos c3] at *
  obtain ⟨g0,e0,h⟩:=drop_cons h
  obtain ⟨g1,e1,h⟩:=drop_cons h
  obtain ⟨g2,e2,d0⟩:=drop_cons h
  rw [nb (by omega)] at e0 e1 e2
  refine ⟨g0,?_,d0⟩
  refine charR_ok (n:=3) (v:=bAt s i - 224) (least:=2048) ?_ (by omega) ?_ (by unfold badR;omega)
  ·unfold headR;rw [if_neg (by omega),if_pos (by omega)]
  ·simp only [Nat.add_assoc,Nat.reduceAdd] at e1 e2
   rw [tailR_go (by omega),tailR_go (by simp only [Nat.reduceAdd];omega)];unfold tailR;simp only [Nat.reduceAdd];congr 1;omega
 rw [if_neg c3] at *
 obtain ⟨g0,e0,h⟩:=drop_cons h
 obtain ⟨g1,e1,h⟩:=drop_cons h
 obtain ⟨g2,e2,h⟩:=drop_cons h
 obtain ⟨g3,e3,d0⟩:=drop_cons h
 rw [nb (by omega)] at e0 e1 e2 e3
 refine ⟨g0,?_,d0⟩
 refine charR_ok (n:=4) (v:=bAt s i - 240) (least:=65536) ?_ (by omega) ?_ (by unfold badR;omega)
 ·unfold headR;rw [if_pos (by omega)]
 ·simp only [Nat.add_assoc,Nat.reduceAdd] at e1 e2 e3
  rw [tailR_go (by omega),tailR_go (by simp only [Nat.reduceAdd];omega),tailR_go (by simp only [Nat.reduceAdd];omega)];unfold tailR;simp only [Nat.reduceAdd];congr 1;omega
end Go.Eng
namespace Go.Eng
open Go Go.RowKit
theorem rb_fold (l : List Int) : ∀ s : ByteArray,(l.foldl (fun r n=>r ++ Utf8.encode n) s).data.toList = s.data.toList ++ l.flatMap encL:=by
 induction l with
 | nil=>intro s;simp
 | cons a l ih=>intro s;rw [List.foldl_cons,ih];simp [List.flatMap_cons]
theorem rb_data (l : List Int) : (runesBytes l).data.toList = l.flatMap encL:=by
 unfold runesBytes
 rw [rb_fold]
 rfl
theorem ba_ext {a b : ByteArray} (h : a.data.toList = b.data.toList) : a = b:=by
 rcases a with ⟨u⟩
 rcases b with ⟨v⟩
 have e : u = v:=Array.toList_inj.1 h
 rw [e]
theorem charsR_enc (s : ByteArray) : ∀ (f i : Nat) (l : List Int),s.size - i≤f→charsR s f i = some l→s.data.toList.drop i = l.flatMap encL∧∀ v ∈ l,Utf8.valid v = true
 | 0,i,l,hf,h=>by
  cases h
  rw [List.drop_eq_nil_of_le (by rw [ba_len'];omega)]
  simp
 | f + 1,i,l,hf,h=>by
  unfold charsR at h
  split at h
  ·rename_i hi
   split at h
   ·cases h
   ·rename_i v n hc
    cases hr : charsR s f (i + n) with
    | none=>rw [hr] at h;cases h
    | some l' =>
     rw [hr] at h
     cases h
     obtain ⟨h1,h2,h3,h4,h5⟩:=charR_dec hi hc
     obtain ⟨g1,g2⟩:=charsR_enc s f (i + n) l' (by omega) hr
     rw [charR_enc hi hc,g1]
     refine ⟨by simp [List.flatMap_cons],fun u hu=>?_⟩
     rcases List.mem_cons.1 hu with rfl | hu
     ·exact h5
     ·exact g2 u hu
  ·cases h
   rw [List.drop_eq_nil_of_le (by rw [ba_len'];omega)]
   simp
def vals (l : List Int) : Prop:=∀ v ∈ l,Utf8.valid v = true
theorem charsF_bytes {s : ByteArray} {l : List Int} (h : charsF s = some l) : runesBytes l = s∧vals l:=by
 obtain ⟨h1,h2⟩:=charsR_enc s s.size 0 l (by omega) h
 refine ⟨ba_ext ?_,h2⟩
 rw [rb_data,←h1]
 rfl
end Go.Eng
namespace Go.Eng
open Go Go.RowKit Go.Proofs
theorem byteN (n : Nat) : ((n : Int).toNat).toUInt8 = UInt8.ofNat n:=by rw [Int.toNat_natCast]
theorem enc_same (v : Int) (hv : Utf8.valid v = true) : Lib.encodeRune v = encL v:=by
 obtain ⟨h0,h1,h2⟩:=valid_inv hv
 obtain ⟨n,rfl⟩ : ∃ n : Nat,v = n:=⟨v.toNat,by omega⟩
 unfold Lib.encodeRune Lib.encodeRuneZ encL Utf8.encode
 rw [if_pos hv]
 simp only [Int.toNat_natCast]
 by_cases c1 : n < 128
 ·rw [if_pos c1,if_pos (by omega)]
  simp only [List.map_cons,List.map_nil,byteN]
 rw [if_neg c1,if_neg (by omega)]
 by_cases c2 : n < 2048
 ·rw [if_pos c2,if_pos (by omega)]
  simp only [List.map_cons,List.map_nil]
  rw [show (192 + (n : Int) / 64).toNat = 0xC0 + n / 64 from by omega,show (128 + (n : Int) % 64).toNat = 0x80 + n % 64 from by omega]
 rw [if_neg c2,if_neg (by omega)]
 by_cases c3 : n < 65536
 ·rw [if_pos c3,if_pos (by omega)]
  simp only [List.map_cons,List.map_nil]
  rw [show (224 + (n : Int) / 4096).toNat = 0xE0 + n / 4096 from by omega,show (128 + (n : Int) / 64 % 64).toNat = 0x80 + n / 64 % 64 from by omega,show (128 + (n : Int) % 64).toNat = 0x80 + n % 64 from by omega]
 rw [if_neg c3,if_neg (by omega),if_pos (by omega)]
 simp only [List.map_cons,List.map_nil]
 rw [show (240 + (n : Int) / 262144).toNat = 0xF0 + n / 262144 from by omega,show (128 + (n : Int) / 4096 % 64).toNat = 0x80 + n / 4096 % 64 from by omega,show (128 + (n : Int) / 64 % 64).toNat = 0x80 + n / 64 % 64 from by omega,show (128 + (n : Int) % 64).toNat = 0x80 + n % 64 from by omega]
theorem enc_bad (n : Nat) (hv : ¬ Utf8.valid (n : Int) = true) : Lib.encodeRune (n : Int) = encL 65533:=by
 unfold Utf8.valid at hv
 simp only [Bool.or_eq_true,Bool.and_eq_true,decide_eq_true_eq] at hv
 unfold Lib.encodeRune Lib.encodeRuneZ
 rw [if_neg (by omega),if_neg (by omega),if_neg (by omega),if_neg (by omega)]
 rfl
theorem dec_none {s : ByteArray} {i : Nat} (hi : i < s.size) (h : charR s i = none) : Utf8.decode s i = (65533,1):=by
 rw [←Lib.decodeL_drop]
 have hne : s.data.toList.drop i≠[]:=by
  rw [drop_bAt hi];simp
 false_or_by_contra
 rename_i hn
 have hv : ¬ ((Lib.decodeL (s.data.toList.drop i)).1 = 65533∧(Lib.decodeL (s.data.toList.drop i)).2 = 1):=fun e=>hn (Prod.ext e.1 e.2)
 have he:=Lib.encode_decode _ hne hv
 have hs : s.data.toList.drop i = Lib.encodeRune ((Lib.decodeL (s.data.toList.drop i)).1 : Int) ++ (s.data.toList.drop i).drop (Lib.decodeL (s.data.toList.drop i)).2:=by
  rw [he,List.take_append_drop]
 by_cases hval : Utf8.valid ((Lib.decodeL (s.data.toList.drop i)).1 : Int) = true
 ·rw [enc_same _ hval] at hs
  have:=(enc_charR hval hs).2.1
  rw [h] at this;cases this
 ·rw [enc_bad _ hval] at hs
  have:=(enc_charR (v:=65533) rfl hs).2.1
  rw [h] at this;cases this
theorem valid_chars (s : ByteArray) : ∀ (f i : Nat),s.size - i≤f→Lib.validD (s.data.toList.drop i) = (charsR s f i).isSome
 | 0,i,hf=>by
  rw [List.drop_eq_nil_of_le (by rw [ba_len'];omega)]
  rfl
 | f + 1,i,hf=>by
  unfold charsR
  by_cases hi : i < s.size
  ·rw [if_pos hi]
   have hne : s.data.toList.drop i≠[]:=by rw [drop_bAt hi];simp
   rw [Lib.validD_step _ hne,Lib.decodeL_drop]
   cases hc : charR s i with
   | none =>
    rw [dec_none hi hc]
    simp
   | some x =>
    obtain ⟨v,n⟩:=x
    obtain ⟨h1,h2,h3,h4,h5⟩:=charR_dec hi hc
    rw [h1]
    have hno : ¬ (v.toNat = 65533∧n = 1):=fun ⟨e1,e2⟩=>by
     have:=charR_enc hi hc
     have hv : v = 65533:=by omega
     subst hv e2
     have h6:=enc_charR (v:=65533) rfl this
     rw [hc] at h6
     have:=h6.2.1
     simp only [Option.some.injEq,Prod.mk.injEq,true_and] at this
     exact absurd this (by decide)
    simp only
    rw [if_neg hno,List.drop_drop,valid_chars s f (i + n) (by omega)]
    simp
  ·rw [if_neg hi,List.drop_eq_nil_of_le (by rw [ba_len'];omega)]
   rfl
theorem valid_same (s : ByteArray) : Lib.validD s.data.toList = (charsF s).isSome:=valid_chars s s.size 0 (by omega)
theorem valid_c (s : ByteArray) (hs : s.size≤100000000) : CallV Tryz.prog 127 [vcs s] [] (fun r own'=>own' = []∧r = vcb (charsF s).isSome):=by
 rw [←valid_same]
 exact callV_calls (vs:=[.string s]) (by simp [Value.oneCell']) rfl (fun m w hg hw=>Any.utf8_ValidString Tryz.laysValid s w (by omega) (glTabs hg w hw))
end Go.Eng
namespace Go.Eng
open Go Go.RowKit Go.Proofs
structure Ru where
 id : I2
 left : I2
 right : I2
 text : ByteArray
def ru0 : Ru:=⟨(0,0),(0,0),(0,0),⟨#[]⟩⟩
abbrev ruF (x : Ru) : List IC:=[vu x.id.1,vu x.id.2,vu x.left.1,vu x.left.2,vu x.right.1,vu x.right.2,.v (.string x.text)]
abbrev ruS (l : List Ru) : AV:=.c (.sl 7 l.length fun k=>ruF (l.getD k ru0))
def ruOk (x : Ru) : Prop:=u32P x.id∧u32P x.left∧u32P x.right∧x.text.size≤1048576
theorem count_chars (s : ByteArray) : ∀ (f i : Nat) (l : List Int),s.size - i≤f→charsR s f i = some l→Lib.runeCountFrom s f i = l.length
 | 0,i,l,hf,h=>by cases h;rfl
 | f + 1,i,l,hf,h=>by
  unfold charsR at h
  unfold Lib.runeCountFrom
  split at h
  ·rename_i hi
   rw [if_pos hi]
   split at h
   ·cases h
   ·rename_i v n hc
    obtain ⟨h1,h2,h3,h4,h5⟩:=charR_dec hi hc
    cases hr : charsR s f (i + n) with
    | none=>rw [hr] at h;cases h
    | some l' =>
     rw [hr] at h
     cases h
     rw [h1,count_chars s f (i + n) l' (by omega) hr,List.length_cons]
     omega
  ·rename_i hi
   cases h
   rw [if_neg hi]
   rfl
theorem count_of {s : ByteArray} {l : List Int} (h : charsF s = some l) : Lib.runeCount s = l.length:=count_chars s s.size 0 l (by omega) h
theorem count_c (s : ByteArray) (hs : s.size≤100000000) : CallV Tryz.prog 129 [vcs s] [] (fun r own'=>own' = []∧r = vci .i64 (Lib.runeCount s)) :=
 callV_calls (vs:=[.string s]) (by simp [Value.oneCell']) rfl (fun m w hg hw=>(Any.utf8_RuneCountInString Tryz.laysCount s w (by omega)).mono fun e w' h=>⟨h.1,by
  obtain ⟨_,pos,rfl⟩:=h
  exact Below.alloc (Below.refl _ _) (Nat.le_refl _) _⟩)
def lastC : Int:=4294967294
def mayR (r : Ru) : Bool:=match charsF r.text with
 | none=>false
 | some l=>decide (0 < l.length∧r.id.1≠0∧r.id.2 + l.length - 1≤lastC)
theorem chars_len {s : ByteArray} : ∀ (f i : Nat) (l : List Int),charsR s f i = some l→l.length≤s.size - i
 | 0,i,l,h=>by cases h;simp
 | f + 1,i,l,h=>by
  unfold charsR at h
  split at h
  ·rename_i hi
   split at h
   ·cases h
   ·rename_i v n hc
    obtain ⟨h1,h2,h3,h4,h5⟩:=charR_dec hi hc
    cases hr : charsR s f (i + n) with
    | none=>rw [hr] at h;cases h
    | some l' =>
     rw [hr] at h
     cases h
     have:=chars_len f (i + n) l' hr
     rw [List.length_cons]
     omega
  ·cases h
   simp
theorem mayR_none {r : Ru} (hc : charsF r.text = none) : mayR r = false:=by unfold mayR;rw [hc]
theorem mayR_some {r : Ru} {l : List Int} (hc : charsF r.text = some l) : mayR r = decide (0 < l.length∧r.id.1≠0∧r.id.2 + l.length - 1≤lastC):=by unfold mayR;rw [hc]
theorem callV_res {P : Program} [HasGl P] {f : FuncId} {args : List AV} {own : List (Option Ob)} {Q Q' : AV→List (Option Ob)→Prop} (hc : CallV P f args own Q) (hQ : ∀ r o,Q r o→∃ r',Q' r' o∧∀ (L : Nat→Value) (h : Hp) v,DenA L h r v→DenA L h r' v) : CallV P f args own Q':=by
 refine ⟨fun mine L F h w vs hgl hm ha=>(hc.out mine L F h w vs hgl hm ha).mono ?_⟩
 rintro e w' ⟨r,v,L',F',h',own',h1,h2,h3,h4,h5,h6,h7,h8⟩
 obtain ⟨r',q1,q2⟩:=hQ r own' h8
 exact ⟨r',v,L',F',h',own',h1,q2 _ _ _ h2,h3,h4,h5,h6,h7,q1⟩
theorem den_nil_sl {L : Nat→Value} {h : Hp} {v : Value} (sz : Nat) (f : Nat→List IC) (hd : Den L h (.v (.slice none 0 0)) v) : Den L h (.sl sz 0 f) v:=by
 cases hd
 exact .sl _ _ _ _ _ ⟨0,0,none⟩ (fun _ _=>undef) (Nat.le_refl _) (by omega) (fun hp=>by omega) (fun k hk=>by omega) (fun k hk=>by omega) (fun k hk=>by omega) (fun k hk=>by omega)
theorem chars_r (s : ByteArray) (hs : s.size≤100000000) : CallV Tryz.prog 98 [vcs s] [] (fun r own'=>own' = []∧r = .tup [rns ((charsF s).getD []),vcb (charsF s).isSome]):=by
 refine callV_res (chars_c s hs) ?_
 rintro r o ⟨rfl,rfl⟩
 refine ⟨_,⟨rfl,rfl⟩,fun L h v hd=>?_⟩
 unfold charsV at hd
 cases hc : charsF s with
 | some l=>rw [hc] at hd;exact hd
 | none =>
  rw [hc] at hd
  obtain ⟨vs,rfl,hl,hd⟩:=hd
  refine ⟨vs,rfl,hl,fun j a u ha hu=>?_⟩
  match j with
  | 0 =>
   cases ha
   exact den_nil_sl 1 _ (hd 0 _ u rfl hu)
  | 1=>cases ha;exact hd 1 _ u rfl hu
  | j + 2=>simp at ha
theorem mayrun_c (r : Ru) (hr : ruOk r) : CallV Tryz.prog 215 [.agg (ruF r)] [] (fun x own'=>own' = []∧x = vcb (mayR r)):=by
 obtain ⟨⟨⟨a1,a2⟩,a3,a4⟩,_,_,hs⟩:=hr
 refine callV_pure Tryz.func215 rfl ttok ftok rfl rfl rfl (Nat.le_of_ble_eq_true rfl) ?_
 conv=>whnf
 refine call_pure (chars_r r.text (by omega)) rfl ?_
 rintro _ rfl
 cases hc : charsF r.text with
 | none =>
  rw [mayR_none hc]
  conv=>whnf
  try rfl
 | some l =>
  rw [mayR_some hc]
  have hl:=chars_len (s:=r.text) r.text.size 0 l hc
  have e1 : IntKind.i64.wrap (IntKind.i64.wrap (IntKind.i64.wrap r.id.2 + (l.length : Int)) - 1) = r.id.2 + l.length - 1:=by
   rw [w_i64 (x:=r.id.2) (by omega) (by omega),w_i64 (x:=r.id.2 + (l.length : Int)) (by omega) (by omega),w_i64 (by omega) (by omega)]
  rw [show (some l).getD [] = l from rfl,show (some l).isSome = true from rfl]
  conv=>whnf
  rw [e1]
  refine congrArg vcb ?_
  rw [Bool.eq_iff_iff,decide_eq_true_iff]
  simp [pickB,isLit,lastC,and_assoc]
theorem may_c (r : Ru) (hr : ruOk r) : CallV Tryz.prog 188 [.agg (ruF r)] [] (fun x own'=>own' = []∧x = vcb (mayR r)):=by
 obtain ⟨ha,_,_,hs⟩:=hr
 have hv : (charsF r.text).isSome = false∨(charsF r.text).isSome = true:=by cases (charsF r.text).isSome <;> simp
 refine callV_pure Tryz.func188 rfl ttok ftok rfl rfl rfl (Nat.le_of_ble_eq_true rfl) ?_
 conv=>whnf
 refine call_pure (count_c r.text (by omega)) rfl ?_
 rintro _ rfl
 cases hc : charsF r.text with
 | none =>
  rw [mayR_none hc]
  conv=>whnf
  cases hz : (((Lib.runeCount r.text : Nat) : Int) == 0) with
  | true =>
   conv=>whnf
   try rfl
  | false =>
   conv=>whnf
   refine call_pure (valid_c r.text (by omega)) rfl ?_
   rintro _ rfl
   rw [hc]
   conv=>whnf
   try rfl
 | some l =>
  rw [mayR_some hc,count_of hc]
  have hl:=chars_len (s:=r.text) r.text.size 0 l hc
  conv=>whnf
  cases hz : (((l.length : Nat) : Int) == 0) with
  | true =>
   have hz:=eq_of_beq hz
   rw [decide_eq_false (by omega)]
   conv=>whnf
   try rfl
  | false =>
   have hz : ¬ ((l.length : Nat) : Int) = 0:=by simpa using hz
   have e1 : IntKind.i64.wrap ((l.length : Int) - 1) = (l.length : Int) - 1:=w_i64 (by omega) (by omega)
   conv=>whnf
   refine call_pure (valid_c r.text (by omega)) rfl ?_
   rintro _ rfl
   rw [hc]
   conv=>whnf
   rw [e1]
   refine call_pure (after_c r.id ha ((l.length : Int) - 1) 4294967294 (by omega) (by omega) (by omega) (by omega)) rfl ?_
   rintro _ rfl
   by_cases h0 : aftC r.id ((l.length : Int) - 1) 4294967294 = 0
   ·rw [show aftV r.id ((l.length : Int) - 1) 4294967294 = _ from by unfold aftV;rw [if_pos h0]]
    conv=>whnf
    rw [decide_eq_true]
    unfold aftC at h0
    unfold lastC
    split at h0
    ·cases h0
    ·split at h0
     ·cases h0
     ·omega
   ·rw [show aftV r.id ((l.length : Int) - 1) 4294967294 = _ from by unfold aftV;rw [if_neg h0]]
    conv=>whnf
    have hf : ¬ (0 < l.length∧r.id.1≠0∧r.id.2 + l.length - 1≤lastC):=fun h1=>by
     refine h0 ?_
     unfold aftC
     unfold lastC at h1
     rw [if_neg (by omega),if_neg (by omega)]
    rw [decide_eq_false hf]
    try rfl
def onR (x y : It) : Prop:=aftC y.id 1 lastC = 0∧x.id = (y.id.1,y.id.2 + 1)∧x.left = y.id∧x.right = y.right
instance (x y : It) : Decidable (onR x y):=by unfold onR;infer_instance
theorem on_c (x y : It) (hy : itOk y) : CallV Tryz.prog 109 [.agg (itF x),.agg (itF y)] [] (fun r own'=>own' = []∧r = vcb (decide (onR x y))):=by
 obtain ⟨ha,_,_⟩:=hy
 refine callV_pure Tryz.func109 rfl ttok ftok rfl rfl rfl (Nat.le_of_ble_eq_true rfl) ?_
 conv=>whnf
 refine call_pure (after_c y.id ha 1 4294967294 (by omega) (by omega) (by omega) (by omega)) rfl ?_
 rintro _ rfl
 by_cases h0 : aftC y.id 1 4294967294 = 0
 ·rw [show aftV y.id 1 4294967294 = _ from by unfold aftV;rw [if_pos h0]]
  conv=>whnf
  have h1 : aftC y.id 1 lastC = 0:=h0
  refine congrArg vcb ?_
  rw [Bool.eq_iff_iff,decide_eq_true_iff]
  unfold onR
  simp [pickB,isLit,Prod.ext_iff,h1,and_assoc]
 ·rw [show aftV y.id 1 4294967294 = _ from by unfold aftV;rw [if_neg h0]]
  conv=>whnf
  have h1 : ¬ aftC y.id 1 lastC = 0:=h0
  refine congrArg vcb ?_
  rw [decide_eq_false (fun h : onR x y=>h1 h.1)]
  simp [pickB,isLit,h0]
theorem ron_c (x y : It) (hy : itOk y) : CallV Tryz.prog 111 [.agg (itF x),.agg (itF y)] [] (fun r own'=>own' = []∧r = vcb (decide (onR x y))):=by
 obtain ⟨ha,_,_⟩:=hy
 refine callV_pure Tryz.func111 rfl ttok ftok rfl rfl rfl (Nat.le_of_ble_eq_true rfl) ?_
 conv=>whnf
 refine call_pure (rafter_c y.id ha 1 4294967294 (by omega) (by omega) (by omega) (by omega)) rfl ?_
 rintro _ rfl
 by_cases h0 : aftC y.id 1 4294967294 = 0
 ·rw [show aftW y.id 1 4294967294 = _ from by unfold aftW;rw [if_pos h0]]
  conv=>whnf
  have h1 : aftC y.id 1 lastC = 0:=h0
  refine congrArg vcb ?_
  rw [Bool.eq_iff_iff,decide_eq_true_iff]
  unfold onR
  simp [pickB,isLit,Prod.ext_iff,h1,and_assoc]
 ·rw [show aftW y.id 1 4294967294 = _ from by unfold aftW;rw [if_neg h0]]
  conv=>whnf
  have h1 : ¬ aftC y.id 1 lastC = 0:=h0
  refine congrArg vcb ?_
  rw [decide_eq_false (fun h : onR x y=>h1 h.1)]
  simp [pickB,isLit,h0]
theorem ru_ext {x y : Ru} (h1 : x.id.1 = y.id.1) (h2 : x.id.2 = y.id.2) (h3 : x.left.1 = y.left.1) (h4 : x.left.2 = y.left.2) (h5 : x.right.1 = y.right.1) (h6 : x.right.2 = y.right.2) (h7 : x.text = y.text) : x = y:=by
 obtain ⟨⟨a,b⟩,⟨c,d⟩,⟨e,f⟩,g⟩:=x
 obtain ⟨⟨a',b'⟩,⟨c',d'⟩,⟨e',f'⟩,g'⟩:=y
 simp only at h1 h2 h3 h4 h5 h6 h7
 rw [h1,h2,h3,h4,h5,h6,h7]
theorem ba_beq (a b : ByteArray) : (a == b) = true↔a = b:=by
 rcases a with ⟨x⟩
 rcases b with ⟨y⟩
 show ((x == y : Bool) = true)↔_
 rw [beq_iff_eq,ByteArray.mk.injEq]
theorem ba_bne (a : ByteArray) : (a == a) = true:=(ba_beq a a).2 rfl
end Go.Eng
namespace Go.Eng
open Go Go.RowKit Go.Proofs
abbrev itRow (l : List It) : Option Ob:=some (.row 144 7 l.length fun k=>itF (l.getD k it0))
theorem take_snoc {α : Type} {l : List α} {k : Nat} {d : α} (h : k < l.length) : l.take (k + 1) = l.take k ++ [l.getD k d]:=by
 rw [List.take_add_one,List.getElem?_eq_getElem h]
 simp [List.getD_eq_getElem?_getD,List.getElem?_eq_getElem h]
theorem itOk_at {m : List It} (hok : ∀ x,x ∈ m→itOk x) {k : Nat} (hk : k < m.length) : itOk (m.getD k it0):=by
 rw [List.getD_eq_getElem?_getD,List.getElem?_eq_getElem hk]
 exact hok _ (List.getElem_mem hk)
theorem one_at (c : List IC) : ∀ k,k < 1→(fun _ : Nat=>c) k = [c].getD k []:=fun k hk=>by
 obtain rfl : k = 0:=by omega
 rfl
end Go.Eng
namespace Go.Eng
open Go Go.RowKit Go.Proofs
theorem drawV_cut {P : Program} [HasGl P] (S : St) {id : Nat} {ops : Array Oper} {K : St→Prop} {st : St} (h : DrawV P id ops (fun st'=>Weak st' S) st) (hK : K S) : DrawV P id ops K st:=by
 refine ⟨fun may w0 h0 a w hs=>?_⟩
 refine Code.wp_mono (fun e a' w' hh=>?_) (h.out may w0 h0 a w hs)
 obtain ⟨h1,st',h2,h3⟩:=hh
 exact ⟨h1,S,h3.out may w0 h0 a' w' h2,hK⟩
def clk (c : Int) (j : Nat) : Int:=(c + j) % 4294967296
def chOf (r : Ru) : List Int:=(charsF r.text).getD []
def leftAt (r : Ru) (j : Nat) : I2:=if j = 0 then r.left else (r.id.1,clk r.id.2 (j - 1))
def itAt (r : Ru) (l : List Int) (j : Nat) : It:=⟨(r.id.1,clk r.id.2 j),leftAt r j,r.right,l.getD j 0⟩
def itsR (r : Ru) : List It:=(List.range (chOf r).length).map (itAt r (chOf r))
def itemsR (rs : List Ru) : List It:=rs.flatMap itsR
theorem clk_0 {c : Int} (h : 0≤c∧c≤4294967295) : clk c 0 = c:=by unfold clk;omega
theorem clk_s (c : Int) (j : Nat) : IntKind.u32.wrap (clk c j + 1) = clk c (j + 1):=by rw [w_u32];unfold clk;omega
def imO (m : List Ru) (n : Nat) (st : St) : Prop:=∃ (k : Nat),n = m.length - k∧k≤m.length∧st = ⟨42,0,[(3,.c (.row 0)),(10,ruS m),(11,vci .i64 m.length),(12,vci .i64 (k : Int))],[itRow (itemsR (m.take k))]⟩
theorem itsR_len (r : Ru) : (itsR r).length = (chOf r).length:=by unfold itsR;simp
theorem chOf_len (r : Ru) : (chOf r).length≤r.text.size:=by
 unfold chOf
 cases hc : charsF r.text with
 | none=>simp
 | some l=>exact Nat.le_trans (chars_len (s:=r.text) r.text.size 0 l hc) (by omega)
theorem itemsR_len (B : Nat) : ∀ rs : List Ru,(∀ x,x ∈ rs→x.text.size≤B)→(itemsR rs).length≤rs.length * B
 | [],_=>by simp [itemsR]
 | r :: rs,h=>by
  have h1:=itemsR_len B rs (fun x hx=>h x (List.mem_cons_of_mem _ hx))
  have h2:=h r (List.mem_cons_self ..)
  have h3:=chOf_len r
  unfold itemsR at h1 ⊢
  rw [List.flatMap_cons,List.length_append,itsR_len,List.length_cons,Nat.succ_mul]
  omega
theorem itemsR_snoc (rs : List Ru) (r : Ru) : itemsR (rs ++ [r]) = itemsR rs ++ itsR r:=by unfold itemsR;rw [List.flatMap_append];simp
theorem chars_step {s : ByteArray} {f pos : Nat} {l : List Int} (hf : s.size - pos≤f) (h : charsR s f pos = some l) (hlt : pos < s.size) : ∃ v n l' g,l = v :: l'∧f = g + 1∧Utf8.decode s pos = (v.toNat,n)∧pos + n≤s.size∧1≤n∧0≤v∧Utf8.valid v = true∧charsR s g (pos + n) = some l':=by
 obtain ⟨g,rfl⟩ : ∃ g,f = g + 1:=⟨f - 1,by omega⟩
 unfold charsR at h
 rw [if_pos hlt] at h
 split at h
 ·cases h
 ·rename_i v n hc
  obtain ⟨h1,h2,h3,h4,h5⟩:=charR_dec hlt hc
  cases hr : charsR s g (pos + n) with
  | none=>rw [hr] at h;cases h
  | some l' =>
   rw [hr] at h
   cases h
   exact ⟨v,n,l',g,rfl,rfl,h1,h2,h3,h4,h5,hr⟩
theorem chars_end {s : ByteArray} {f pos : Nat} {l : List Int} (h : charsR s f pos = some l) (hlt : ¬ pos < s.size) : l = []:=by
 cases f with
 | zero=>cases h;rfl
 | succ f =>
  unfold charsR at h
  rw [if_neg hlt] at h
  cases h;rfl
theorem drop_head {α : Type} {l l' : List α} {j : Nat} {v d : α} (h : l.drop j = v :: l') : j < l.length∧l.getD j d = v∧l.drop (j + 1) = l':=by
 have hj : j < l.length:=by
  false_or_by_contra
  rw [List.drop_eq_nil_of_le (by omega)] at h
  cases h
 rw [List.drop_eq_getElem_cons hj] at h
 injection h with h1 h2
 exact ⟨hj,by rw [List.getD_eq_getElem?_getD,List.getElem?_eq_getElem hj];exact h1,h2⟩
theorem range_snoc {α : Type} (g : Nat→α) (j : Nat) (P : List α) : P ++ (List.range (j + 1)).map g = (P ++ (List.range j).map g) ++ [g j]:=by
 rw [List.range_succ,List.map_append,List.append_assoc]
 rfl
def imI (m : List Ru) (k : Nat) (P : List It) (r : Ru) (n : Nat) (st : St) : Prop:=∃ (j pos f : Nat),n = r.text.size - pos∧j≤(chOf r).length∧pos≤r.text.size∧r.text.size - pos≤f∧charsR r.text f pos = some ((chOf r).drop j) ∧
 st = ⟨42,0,[(3,.c (.row 0)),(5,.c (.own 1 0)),(6,.c (.own 2 0)),(7,.c (.own 3 0)),(10,ruS m),(11,vci .i64 m.length),(12,vci .i64 (k : Int)),(22,.c (.own 4 0))],
  [itRow (P ++ (List.range j).map (itAt r (chOf r))),some (.cells 138 (ruF r)),some (.cells 136 [vu r.id.1,vu (clk r.id.2 j)]),some (.cells 136 (idF (leftAt r j))),some (.iter r.text pos)]⟩
theorem items_c (m : List Ru) (hm : m.length≤100000) (hok : ∀ x,x ∈ m→ruOk x∧(charsF x.text).isSome = true) : CallV Tryz.prog 189 [ruS m] [] (fun r own'=>own' = []∧r = itS (itemsR m)):=by
 refine callV_pure Tryz.func189 rfl ttok ftok rfl rfl rfl (Nat.le_of_ble_eq_true rfl) ?_
 conv=>whnf
 refine loopV ttok ftok (imO m) ((nil_row 3 144 7 (fun k=>itF (([] : List It).getD k it0)) rfl).trans (norm_weak [3,10,11,12] [some 0] rfl rfl)) ⟨0,rfl,Nat.zero_le _,rfl⟩ ?_
 rintro n st ⟨k,rfl,hk,rfl⟩
 have e1 : IntKind.i64.wrap ((k : Int) + 1) = ((k + 1 : Nat) : Int):=by rw [w_i64 (by omega) (by omega)];omega
 conv=>whnf
 refine onB_intro (fun h=>?_) (fun h=>?_)
 ·have h:=of_decide_eq_true h
  have hk2 : k < m.length:=by omega
  conv=>whnf
  refine ⟨⟨by omega,by omega⟩,?_⟩
  conv=>whnf
  simp only [ti_nat]
  obtain ⟨r,hr⟩ : ∃ r,m.getD k ru0 = r:=⟨_,rfl⟩
  rw [hr]
  refine drawV_cut ⟨42,0,[(3,.c (.row 0)),(5,.c (.own 1 0)),(6,.c (.own 2 0)),(7,.c (.own 3 0)),(10,ruS m),(11,vci .i64 m.length),(12,vci .i64 (k : Int))],[itRow (itemsR (m.take k)),some (.cells 138 (ruF r)),some (.cells 136 (idF r.id)),some (.cells 136 (idF r.left))]⟩ ?_ ?_
  ·refine drawV_sched (.rd 0 (.rd 1 (.rd 2 (.rd 3 (.alt (.ef 4 (.ef 5 (.ef 6 (.ef 7 (.nil))))) (.ef 5 (.ef 4 (.ef 6 (.ef 7 (.nil)))))))))) [2,3] mixed (by kernel_rfl) ttok ftok ?_
   conv=>whnf
   refine ⟨?_,?_⟩
   ·conv=>whnf
    exact norm_weak [3,5,6,7,10,11,12] [some 0,some 1,some 2,some 3] rfl rfl
   ·conv=>whnf
    exact norm_weak [3,5,6,7,10,11,12] [some 0,some 1,some 3,some 2] rfl rfl
  conv=>whnf
  have hmem : r ∈ m:=by rw [←hr,List.getD_eq_getElem?_getD,List.getElem?_eq_getElem hk2];exact List.getElem_mem hk2
  obtain ⟨⟨hid,hlf,hrt,hsz⟩,hch⟩:=hok r hmem
  obtain ⟨L,hL⟩ : ∃ L,charsF r.text = some L:=Option.isSome_iff_exists.1 hch
  have hLc : chOf r = L:=by unfold chOf;rw [hL];rfl
  have hP : (itemsR (m.take k)).length≤100000 * 1048576:=by
   have:=itemsR_len 1048576 (m.take k) (fun x hx=>(hok x (List.mem_of_mem_take hx)).1.2.2.2)
   rw [List.length_take] at this
   refine Nat.le_trans this (Nat.mul_le_mul_right _ (by omega))
  have hcl:=chOf_len r
  generalize hPP : itemsR (m.take k) = P at hP
  refine loopV ttok ftok (imI m k P r) (norm_weak [3,5,6,7,10,11,12,22] [some 0,some 1,some 2,some 3,some 4] rfl rfl) ⟨0,0,r.text.size,rfl,Nat.zero_le _,Nat.zero_le _,by omega,by rw [hLc,List.drop_zero];exact hL,?_⟩ ?_
  ·rw [clk_0 hid.2]
   simp only [List.range_zero,List.map_nil,List.append_nil]
   rfl
  rintro n st ⟨j,pos,f,rfl,hj,hpos,hf,hrest,rfl⟩
  conv=>whnf
  by_cases hlt : pos < r.text.size
  ·obtain ⟨v,nn,l',g,hd,rfl,hdec,hfit,hn1,hv0,hval,hnext⟩:=chars_step hf hrest hlt
   obtain ⟨hjl,hgd,hdr⟩:=drop_head (d:=0) hd
   have hvr:=valid_inv hval
   rw [decide_eq_true hlt,hdec]
   conv=>whnf
   refine ⟨fun _=>itF (itAt r (chOf r) j),fun i hi=>?_,?_⟩
   ·obtain rfl : i = 0:=by omega
    show itF (itAt r (chOf r) j) = [vu r.id.1,vu (clk r.id.2 j),vu (leftAt r j).1,vu (leftAt r j).2,vu r.right.1,vu r.right.2,vr ((v.toNat : Nat) : Int)]
    rw [Int.toNat_of_nonneg hv0,←hgd]
    rfl
   conv=>whnf
   have hlen : (P ++ (List.range j).map (itAt r (chOf r))).length = P.length + j:=by simp
   refine ⟨⟨by rw [hlen];omega,by simp only [hlen,show ti144.bytes = 28 from rfl];omega⟩,?_⟩
   conv=>whnf
   refine app1 (enc:=itF) (d:=it0) (itAt r (chOf r) j) (fun k hk=>rfl) rfl ?_
   conv=>whnf
   rw [clk_s,←range_snoc]
   refine ⟨r.text.size - (pos + nn),_,by omega,norm_weak [3,5,6,7,10,11,12,22] [some 6,some 1,some 2,some 3,some 4] rfl rfl,j + 1,pos + nn,g,rfl,by omega,by omega,by omega,by rw [hdr];exact hnext,?_⟩
   rfl
  ·have hnil:=chars_end hrest hlt
   have hjl : j = (chOf r).length:=by
    have:=congrArg List.length hnil
    rw [List.length_drop] at this
    simp at this
    omega
   rw [decide_eq_false hlt]
   conv=>whnf
   rw [e1]
   refine ⟨m.length - (k + 1),_,by omega,norm_weak [3,10,11,12] [some 0] rfl rfl,k + 1,rfl,by omega,?_⟩
   rw [take_snoc hk2 (d:=ru0),hr,itemsR_snoc,hPP,hjl]
   rfl
 ·have h:=of_decide_eq_false h
  obtain rfl : k = m.length:=by omega
  rw [List.take_length]
  conv=>whnf
  refine ⟨fun j hj=>rfl,?_⟩
  conv=>whnf
  try rfl
end Go.Eng
namespace Go.Eng
open Go Go.RowKit Go.Proofs
def rmO (m : List Ru) (n : Nat) (st : St) : Prop:=∃ (k : Nat),n = m.length - k∧k≤m.length∧st = ⟨69,0,[(0,ruS m),(3,.c (.row 0)),(4,vci .i64 (k : Int))],[itRow (itemsR (m.take k))]⟩
def rmI (m : List Ru) (k : Nat) (P : List It) (r : Ru) (n : Nat) (st : St) : Prop:=∃ (j : Nat),n = (chOf r).length - j∧j≤(chOf r).length ∧
 st = ⟨69,0,[(0,ruS m),(3,.c (.row 0)),(4,vci .i64 (k : Int)),(5,rns (chOf r)),(7,.c (.own 1 0)),(8,vci .i64 (j : Int))],[itRow (P ++ (List.range j).map (itAt r (chOf r))),some (.cells 136 (idF (leftAt r j)))]⟩
theorem ritems_c (m : List Ru) (hm : m.length≤100000) (hok : ∀ x,x ∈ m→ruOk x∧(charsF x.text).isSome = true) : CallV Tryz.prog 93 [ruS m] [] (fun r own'=>own' = []∧r = itS (itemsR m)):=by
 refine callV_pure Tryz.func93 rfl ttok ftok rfl rfl rfl (Nat.le_of_ble_eq_true rfl) ?_
 conv=>whnf
 refine loopV ttok ftok (rmO m) ((nil_row 3 144 7 (fun k=>itF (([] : List It).getD k it0)) rfl).trans (norm_weak [0,3,4] [some 0] rfl rfl)) ⟨0,rfl,Nat.zero_le _,rfl⟩ ?_
 rintro n st ⟨k,rfl,hk,rfl⟩
 have e1 : IntKind.i64.wrap ((k : Int) + 1) = ((k + 1 : Nat) : Int):=by rw [w_i64 (by omega) (by omega)];omega
 conv=>whnf
 refine onB_intro (fun h=>?_) (fun h=>?_)
 ·have h:=of_decide_eq_true h
  have hk2 : k < m.length:=by omega
  conv=>whnf
  refine ⟨⟨by omega,by omega⟩,?_⟩
  conv=>whnf
  simp only [ti_nat]
  obtain ⟨r,hr⟩ : ∃ r,m.getD k ru0 = r:=⟨_,rfl⟩
  have hmem : r ∈ m:=by rw [←hr,List.getD_eq_getElem?_getD,List.getElem?_eq_getElem hk2];exact List.getElem_mem hk2
  obtain ⟨⟨hid,hlf,hrt,hsz⟩,hch⟩:=hok r hmem
  obtain ⟨L,hL⟩ : ∃ L,charsF r.text = some L:=Option.isSome_iff_exists.1 hch
  have hLc : chOf r = L:=by unfold chOf;rw [hL];rfl
  have hP : (itemsR (m.take k)).length≤100000 * 1048576:=by
   have:=itemsR_len 1048576 (m.take k) (fun x hx=>(hok x (List.mem_of_mem_take hx)).1.2.2.2)
   rw [List.length_take] at this
   refine Nat.le_trans this (Nat.mul_le_mul_right _ (by omega))
  have hcl:=chOf_len r
  generalize hPP : itemsR (m.take k) = P at hP
  rw [hr]
  refine call_pure (chars_c r.text (by omega)) rfl ?_
  rintro _ rfl
  unfold charsV
  rw [hL,←hLc]
  conv=>whnf
  refine ⟨⟨by omega,by omega⟩,?_⟩
  conv=>whnf
  simp only [ti_nat,hr]
  conv=>whnf
  refine loopV ttok ftok (rmI m k P r) (norm_weak [0,3,4,5,7,8] [some 0,some 1] rfl rfl) ⟨0,rfl,Nat.zero_le _,?_⟩ ?_
  ·simp only [List.range_zero,List.map_nil,List.append_nil]
   rfl
  rintro n st ⟨j,rfl,hj,rfl⟩
  have e2 : IntKind.i64.wrap ((j : Int) + 1) = ((j + 1 : Nat) : Int):=by rw [w_i64 (by omega) (by omega)];omega
  conv=>whnf
  refine onB_intro (fun g=>?_) (fun g=>?_)
  ·have g:=of_decide_eq_true g
   have hj2 : j < (chOf r).length:=by omega
   conv=>whnf
   refine drawV_sched (.rd 0 (.rd 1 (.rd 2 (.rd 3 (.rd 4 (.rd 5 (.rd 6 (.rd 7 (.rd 8 (.rd 9 (.rd 10 (.rd 11 (.rd 12 (.rd 13 (.rd 14 (.rd 15 (.ef 16 (.ef 17 (.nil))))))))))))))))))) [2] mixed (by kernel_rfl) ttok ftok ?_
   conv=>whnf
   refine ⟨⟨by omega,by omega⟩,?_⟩
   conv=>whnf
   refine ⟨⟨by omega,by omega⟩,?_⟩
   conv=>whnf
   simp only [ti_nat,hr]
   rw [show IntKind.u32.wrap (r.id.2 + IntKind.u32.wrap (j : Int)) = clk r.id.2 j from by simp only [w_u32];unfold clk;omega]
   conv=>whnf
   refine drawV_sched (.rd 0 (.rd 1 (.rd 2 (.rd 3 (.rd 4 (.rd 5 (.rd 6 (.rd 7 (.rd 8 (.rd 9 (.rd 10 (.rd 11 (.rd 12 (.ef 13 (.ef 14 (.rd 15 (.nil))))))))))))))))) [0,3] mixed (by kernel_rfl) ttok ftok ?_
   conv=>whnf
   refine ⟨⟨by omega,by omega⟩,?_⟩
   conv=>whnf
   refine ⟨⟨by omega,by omega⟩,?_⟩
   conv=>whnf
   simp only [ti_nat,hr]
   refine ⟨fun _=>itF (itAt r (chOf r) j),one_at _,?_⟩
   conv=>whnf
   have hlen : (P ++ (List.range j).map (itAt r (chOf r))).length = P.length + j:=by simp
   refine ⟨⟨by rw [hlen];omega,by simp only [hlen,show ti144.bytes = 28 from rfl];omega⟩,?_⟩
   conv=>whnf
   refine app1 (enc:=itF) (d:=it0) (itAt r (chOf r) j) (fun k hk=>rfl) rfl ?_
   conv=>whnf
   rw [e2,←range_snoc]
   refine ⟨(chOf r).length - (j + 1),_,by omega,norm_weak [0,3,4,5,7,8] [some 4,some 1] rfl rfl,j + 1,rfl,by omega,?_⟩
   rfl
  ·have g:=of_decide_eq_false g
   obtain rfl : j = (chOf r).length:=by omega
   conv=>whnf
   rw [e1]
   refine ⟨m.length - (k + 1),_,by omega,norm_weak [0,3,4] [some 0] rfl rfl,k + 1,rfl,by omega,?_⟩
   rw [take_snoc hk2 (d:=ru0),hr,itemsR_snoc,hPP]
   rfl
 ·have h:=of_decide_eq_false h
  obtain rfl : k = m.length:=by omega
  rw [List.take_length]
  conv=>whnf
  refine ⟨fun j hj=>rfl,?_⟩
  conv=>whnf
  try rfl
end Go.Eng
namespace Go.Eng
open Go Go.RowKit Go.Proofs
abbrev ruRow (l : List Ru) : Option Ob:=some (.row 138 7 l.length fun k=>ruF (l.getD k ru0))
def newR (x : It) : Ru:=⟨x.id,x.left,x.right,Utf8.encode x.ch⟩
def addT (acc : List Ru) (c : Int) : List Ru:=acc.set (acc.length - 1) { acc.getD (acc.length - 1) ru0 with text:=(acc.getD (acc.length - 1) ru0).text ++ Utf8.encode c }
def ofK (l : List It) : Nat→List Ru
 | 0=>[]
 | k + 1=>if 0 < k∧onR (l.getD k it0) (l.getD (k - 1) it0) then addT (ofK l k) (l.getD k it0).ch else ofK l k ++ [newR (l.getD k it0)]
theorem enc_size (v : Int) : (Utf8.encode v).size≤4:=by
 unfold Utf8.encode
 dsimp only
 generalize (if Utf8.valid v = true then v.toNat else Utf8.runeError) = c
 repeat' split
 all_goals exact Nat.le_of_ble_eq_true rfl
theorem ofK_len (l : List It) : ∀ k,(ofK l k).length≤k∧(0 < k→0 < (ofK l k).length)
 | 0=>⟨by simp [ofK],fun h=>by omega⟩
 | k + 1=>by
  have ih:=ofK_len l k
  unfold ofK
  split
  ·rename_i h
   unfold addT
   rw [List.length_set]
   exact ⟨by omega,fun _=>ih.2 h.1⟩
  ·rw [List.length_append,List.length_singleton]
   exact ⟨by omega,fun _=>by omega⟩
theorem getD_set {α : Type} (l : List α) (i j : Nat) (a d : α) : (l.set i a).getD j d = if i = j∧j < l.length then a else l.getD j d:=by
 rw [List.getD_eq_getElem?_getD,List.getElem?_set,List.getD_eq_getElem?_getD]
 by_cases h : i = j
 ·subst h
  by_cases h2 : i < l.length
  ·simp [h2]
  ·simp [h2,List.getElem?_eq_none (Nat.le_of_not_lt h2)]
 ·simp [h]
theorem getD_append {α : Type} (l m : List α) (j : Nat) (d : α) : (l ++ m).getD j d = if j < l.length then l.getD j d else m.getD (j - l.length) d:=by
 rw [List.getD_eq_getElem?_getD]
 split
 ·rename_i h;rw [List.getElem?_append_left h,←List.getD_eq_getElem?_getD]
 ·rename_i h;rw [List.getElem?_append_right (by omega),←List.getD_eq_getElem?_getD]
theorem ofK_size (l : List It) : ∀ k j,((ofK l k).getD j ru0).text.size≤4 * k
 | 0,j=>by
  rw [show (ofK l 0).getD j ru0 = ru0 from by simp [ofK]]
  exact Nat.le_refl 0
 | k + 1,j=>by
  have ih:=ofK_size l k
  unfold ofK
  split
  ·unfold addT
   rw [getD_set]
   split
   ·show ((((ofK l k).getD ((ofK l k).length - 1) ru0).text) ++ Utf8.encode _).size≤_
    rw [ByteArray.size_append]
    have:=ih ((ofK l k).length - 1)
    have:=enc_size (l.getD k it0).ch
    omega
   ·have:=ih j;omega
  ·rw [getD_append]
   split
   ·have:=ih j;omega
   ·match j - (ofK l k).length with
    | 0 =>
     have:=enc_size (l.getD k it0).ch
     show (Utf8.encode (l.getD k it0).ch).size≤_
     omega
    | q + 1 =>
     rw [show [newR (l.getD k it0)].getD (q + 1) ru0 = ru0 from by simp]
     exact Nat.zero_le _
theorem ofK_yes {l : List It} {k : Nat} {x : It} (hx : l.getD k it0 = x) (h0 : 0 < k) (h : onR x (l.getD (k - 1) it0)) : ofK l (k + 1) = addT (ofK l k) x.ch:=by
 rw [ofK,hx,if_pos ⟨h0,h⟩]
theorem ofK_no {l : List It} {k : Nat} {x : It} (hx : l.getD k it0 = x) (h : ¬ (0 < k∧onR x (l.getD (k - 1) it0))) : ofK l (k + 1) = ofK l k ++ [newR x]:=by
 rw [ofK,hx,if_neg h]
theorem addT_len (acc : List Ru) (c : Int) : (addT acc c).length = acc.length:=by unfold addT;rw [List.length_set]
theorem addT_at (acc : List Ru) (c : Int) (j : Nat) (hj : j < acc.length) : ruF ((addT acc c).getD j ru0) = if j = acc.length - 1 then (ruF (acc.getD (acc.length - 1) ru0)).take 6 ++ [.v (.string ((acc.getD (acc.length - 1) ru0).text ++ Utf8.encode c))] ++ (ruF (acc.getD (acc.length - 1) ru0)).drop 7 else ruF (acc.getD j ru0):=by
 unfold addT
 rw [getD_set]
 by_cases h : j = acc.length - 1
 ·rw [if_pos ⟨h.symm,hj⟩,if_pos h]
  rfl
 ·rw [if_neg (fun q=>h q.1.symm),if_neg h]
def ofI (l : List It) (n : Nat) (st : St) : Prop:=∃ (k : Nat),n = l.length - k∧k≤l.length∧st = ⟨52,0,[(0,itS l),(3,.c (.row 0)),(6,itS l),(7,vci .i64 l.length),(8,vci .i64 (k : Int))],[ruRow (ofK l k)]⟩
theorem of_c (l : List It) (hl : l.length≤1000000) (hok : ∀ x,x ∈ l→itOk x) : CallV Tryz.prog 64 [itS l] [] (fun r own'=>own' = []∧r = ruS (ofK l l.length)):=by
 refine callV_pure Tryz.func64 rfl ttok ftok rfl rfl rfl (Nat.le_of_ble_eq_true rfl) ?_
 conv=>whnf
 refine loopV ttok ftok (ofI l) ((nil_row 3 138 7 (fun k=>ruF (([] : List Ru).getD k ru0)) rfl).trans (norm_weak [0,3,6,7,8] [some 0] rfl rfl)) ⟨0,rfl,Nat.zero_le _,rfl⟩ ?_
 rintro n st ⟨k,rfl,hk,rfl⟩
 have e1 : IntKind.i64.wrap ((k : Int) + 1) = ((k + 1 : Nat) : Int):=by rw [w_i64 (by omega) (by omega)];omega
 have hlen:=ofK_len l k
 conv=>whnf
 refine onB_intro (fun h=>?_) (fun h=>?_)
 ·have h:=of_decide_eq_true h
  have hk2 : k < l.length:=by omega
  conv=>whnf
  refine ⟨⟨by omega,by omega⟩,?_⟩
  conv=>whnf
  simp only [ti_nat]
  obtain ⟨x,hx⟩ : ∃ x,l.getD k it0 = x:=⟨_,rfl⟩
  rw [hx]
  by_cases hk0 : 0 < k
  ·have e2 : IntKind.i64.wrap ((k : Int) - 1) = ((k - 1 : Nat) : Int):=by rw [w_i64 (by omega) (by omega)];omega
   refine drawV_sched (.rd 0 (.rd 1 (.rd 2 (.rd 3 (.rd 4 (.rd 5 (.rd 6 (.rd 7 (.rd 8 (.ef 9 (.rd 10 (.nil)))))))))))) [] mixed (by kernel_rfl) ttok ftok ?_
   conv=>whnf
   rw [show decide ((k : Int) > 0) = true from decide_eq_true (by omega)]
   conv=>whnf
   rw [e2]
   refine ⟨⟨by omega,by omega⟩,?_⟩
   conv=>whnf
   simp only [ti_nat]
   refine call_pure (on_c x (l.getD (k - 1) it0) (itOk_at hok (by omega))) rfl ?_
   rintro _ rfl
   by_cases hon : onR x (l.getD (k - 1) it0)
   ·rw [decide_eq_true hon]
    conv=>whnf
    have hpos:=hlen.2 hk0
    have e3 : IntKind.i64.wrap (((ofK l k).length : Int) - 1) = (((ofK l k).length - 1 : Nat) : Int):=by rw [w_i64 (by omega) (by omega)];omega
    have hsz:=ofK_size l k ((ofK l k).length - 1)
    have hes:=enc_size x.ch
    refine drawV_mix 11 mixed (by kernel_rfl) ttok ftok ?_
    conv=>whnf
    rw [e3]
    refine ⟨⟨by omega,by omega⟩,?_⟩
    conv=>whnf
    simp only [ti_nat]
    refine ⟨by omega,?_⟩
    conv=>whnf
    refine ⟨⟨by omega,by omega⟩,?_⟩
    conv=>whnf
    simp only [ti_nat]
    refine ⟨fun j=>ruF ((addT (ofK l k) x.ch).getD j ru0),fun j hj=>addT_at _ _ j hj,?_⟩
    conv=>whnf
    rw [e1]
    refine ⟨l.length - (k + 1),_,by omega,norm_weak [0,3,6,7,8] [some 0] rfl rfl,k + 1,rfl,by omega,?_⟩
    rw [ofK_yes hx hk0 hon]
    simp only [ruRow,addT_len]
    rfl
   ·rw [decide_eq_false hon]
    conv=>whnf
    refine ⟨fun _=>ruF (newR x),one_at _,?_⟩
    conv=>whnf
    refine ⟨⟨by omega,by simp only [show ti138.bytes = 40 from rfl];omega⟩,?_⟩
    conv=>whnf
    refine app1 (enc:=ruF) (d:=ru0) (newR x) (fun k hk=>rfl) rfl ?_
    conv=>whnf
    rw [e1]
    refine ⟨l.length - (k + 1),_,by omega,norm_weak [0,3,6,7,8] [some 3] rfl rfl,k + 1,rfl,by omega,?_⟩
    rw [ofK_no hx (fun h=>hon h.2)]
    rfl
  ·refine drawV_sched (.rd 0 (.rd 1 (.rd 2 (.rd 3 (.rd 4 (.rd 5 (.rd 6 (.rd 7 (.rd 8 (.ef 9 (.rd 10 (.nil)))))))))))) [] mixed (by kernel_rfl) ttok ftok ?_
   conv=>whnf
   rw [show decide ((k : Int) > 0) = false from decide_eq_false (by omega)]
   conv=>whnf
   refine ⟨fun _=>ruF (newR x),one_at _,?_⟩
   conv=>whnf
   refine ⟨⟨by omega,by simp only [show ti138.bytes = 40 from rfl];omega⟩,?_⟩
   conv=>whnf
   refine app1 (enc:=ruF) (d:=ru0) (newR x) (fun k hk=>rfl) rfl ?_
   conv=>whnf
   rw [e1]
   refine ⟨l.length - (k + 1),_,by omega,norm_weak [0,3,6,7,8] [some 3] rfl rfl,k + 1,rfl,by omega,?_⟩
   rw [ofK_no hx (fun h=>hk0 h.1)]
   rfl
 ·have h:=of_decide_eq_false h
  obtain rfl : k = l.length:=by omega
  conv=>whnf
  refine ⟨fun j hj=>rfl,?_⟩
  conv=>whnf
  try rfl
def rfI (l : List It) (n : Nat) (st : St) : Prop:=∃ (k : Nat),n = l.length - k∧k≤l.length∧st = ⟨71,0,[(0,itS l),(3,.c (.row 0)),(4,vci .i64 (k : Int))],[ruRow (ofK l k)]⟩
theorem rof_c (l : List It) (hl : l.length≤1000000) (hok : ∀ x,x ∈ l→itOk x) : CallV Tryz.prog 68 [itS l] [] (fun r own'=>own' = []∧r = ruS (ofK l l.length)):=by
 refine callV_pure Tryz.func68 rfl ttok ftok rfl rfl rfl (Nat.le_of_ble_eq_true rfl) ?_
 conv=>whnf
 refine loopV ttok ftok (rfI l) ((nil_row 3 138 7 (fun k=>ruF (([] : List Ru).getD k ru0)) rfl).trans (norm_weak [0,3,4] [some 0] rfl rfl)) ⟨0,rfl,Nat.zero_le _,rfl⟩ ?_
 rintro n st ⟨k,rfl,hk,rfl⟩
 have e1 : IntKind.i64.wrap ((k : Int) + 1) = ((k + 1 : Nat) : Int):=by rw [w_i64 (by omega) (by omega)];omega
 have hlen:=ofK_len l k
 conv=>whnf
 refine onB_intro (fun h=>?_) (fun h=>?_)
 ·have h:=of_decide_eq_true h
  have hk2 : k < l.length:=by omega
  obtain ⟨x,hx⟩ : ∃ x,l.getD k it0 = x:=⟨_,rfl⟩
  conv=>whnf
  by_cases hk0 : 0 < k
  ·have e2 : IntKind.i64.wrap ((k : Int) - 1) = ((k - 1 : Nat) : Int):=by rw [w_i64 (by omega) (by omega)];omega
   rw [show decide ((k : Int) > 0) = true from decide_eq_true (by omega)]
   conv=>whnf
   refine drawV_sched (.rd 0 (.rd 1 (.rd 2 (.rd 3 (.rd 4 (.rd 5 (.rd 6 (.rd 7 (.rd 8 (.ef 9 (.rd 10 (.nil)))))))))))) [] mixed (by kernel_rfl) ttok ftok ?_
   conv=>whnf
   refine ⟨⟨by omega,by omega⟩,?_⟩
   conv=>whnf
   rw [e2]
   refine ⟨⟨by omega,by omega⟩,?_⟩
   conv=>whnf
   simp only [ti_nat,hx]
   refine call_pure (ron_c x (l.getD (k - 1) it0) (itOk_at hok (by omega))) rfl ?_
   rintro _ rfl
   by_cases hon : onR x (l.getD (k - 1) it0)
   ·rw [decide_eq_true hon]
    conv=>whnf
    have hpos:=hlen.2 hk0
    have e3 : IntKind.i64.wrap (((ofK l k).length : Int) - 1) = (((ofK l k).length - 1 : Nat) : Int):=by rw [w_i64 (by omega) (by omega)];omega
    have hsz:=ofK_size l k ((ofK l k).length - 1)
    have hes:=enc_size x.ch
    refine drawV_mix 18 mixed (by kernel_rfl) ttok ftok ?_
    conv=>whnf
    rw [e3]
    refine ⟨⟨by omega,by omega⟩,?_⟩
    conv=>whnf
    refine ⟨⟨by omega,by omega⟩,?_⟩
    conv=>whnf
    simp only [ti_nat,hx]
    refine ⟨by omega,?_⟩
    conv=>whnf
    refine ⟨⟨by omega,by omega⟩,?_⟩
    conv=>whnf
    simp only [ti_nat]
    refine ⟨fun j=>ruF ((addT (ofK l k) x.ch).getD j ru0),fun j hj=>addT_at _ _ j hj,?_⟩
    conv=>whnf
    rw [e1]
    refine ⟨l.length - (k + 1),_,by omega,norm_weak [0,3,4] [some 0] rfl rfl,k + 1,rfl,by omega,?_⟩
    rw [ofK_yes hx hk0 hon]
    simp only [ruRow,addT_len]
    rfl
   ·rw [decide_eq_false hon]
    conv=>whnf
    refine drawV_sched (.rd 0 (.rd 1 (.rd 2 (.rd 3 (.rd 4 (.rd 5 (.rd 6 (.rd 7 (.rd 8 (.rd 9 (.rd 10 (.rd 11 (.rd 12 (.rd 13 (.rd 14 (.rd 15 (.rd 16 (.rd 17 (.rd 18 (.rd 19 (.rd 20 (.rd 21 (.rd 22 (.ef 23 (.ef 24 (.rd 25 (.nil))))))))))))))))))))))))))) [0,1] mixed (by kernel_rfl) ttok ftok ?_
    conv=>whnf
    refine ⟨⟨by omega,by omega⟩,?_⟩
    conv=>whnf
    refine ⟨⟨by omega,by omega⟩,?_⟩
    conv=>whnf
    refine ⟨⟨by omega,by omega⟩,?_⟩
    conv=>whnf
    refine ⟨⟨by omega,by omega⟩,?_⟩
    conv=>whnf
    simp only [ti_nat,hx]
    refine ⟨fun _=>ruF (newR x),one_at _,?_⟩
    conv=>whnf
    refine ⟨⟨by omega,by simp only [show ti138.bytes = 40 from rfl];omega⟩,?_⟩
    conv=>whnf
    refine app1 (enc:=ruF) (d:=ru0) (newR x) (fun k hk=>rfl) rfl ?_
    conv=>whnf
    rw [e1]
    refine ⟨l.length - (k + 1),_,by omega,norm_weak [0,3,4] [some 2] rfl rfl,k + 1,rfl,by omega,?_⟩
    rw [ofK_no hx (fun h=>hon h.2)]
    rfl
  ·rw [show decide ((k : Int) > 0) = false from decide_eq_false (by omega)]
   conv=>whnf
   refine drawV_sched (.rd 0 (.rd 1 (.rd 2 (.rd 3 (.rd 4 (.rd 5 (.rd 6 (.rd 7 (.rd 8 (.rd 9 (.rd 10 (.rd 11 (.rd 12 (.rd 13 (.rd 14 (.rd 15 (.rd 16 (.rd 17 (.rd 18 (.rd 19 (.rd 20 (.rd 21 (.rd 22 (.ef 23 (.ef 24 (.rd 25 (.nil))))))))))))))))))))))))))) [0,1] mixed (by kernel_rfl) ttok ftok ?_
   conv=>whnf
   refine ⟨⟨by omega,by omega⟩,?_⟩
   conv=>whnf
   refine ⟨⟨by omega,by omega⟩,?_⟩
   conv=>whnf
   refine ⟨⟨by omega,by omega⟩,?_⟩
   conv=>whnf
   refine ⟨⟨by omega,by omega⟩,?_⟩
   conv=>whnf
   simp only [ti_nat,hx]
   refine ⟨fun _=>ruF (newR x),one_at _,?_⟩
   conv=>whnf
   refine ⟨⟨by omega,by simp only [show ti138.bytes = 40 from rfl];omega⟩,?_⟩
   conv=>whnf
   refine app1 (enc:=ruF) (d:=ru0) (newR x) (fun k hk=>rfl) rfl ?_
   conv=>whnf
   rw [e1]
   refine ⟨l.length - (k + 1),_,by omega,norm_weak [0,3,4] [some 2] rfl rfl,k + 1,rfl,by omega,?_⟩
   rw [ofK_no hx (fun h=>hk0 h.1)]
   rfl
 ·have h:=of_decide_eq_false h
  obtain rfl : k = l.length:=by omega
  conv=>whnf
  refine ⟨fun j hj=>rfl,?_⟩
  conv=>whnf
  try rfl
end Go.Eng
namespace Go.Eng
open Go Go.RowKit
end Go.Eng
namespace Go.Eng
open Go Go.RowKit Go.Proofs
structure Ba where
 runs : List Ru
 dels : List Sp
abbrev baF (x : Ba) : List IC:=[.sl 7 x.runs.length fun k=>ruF (x.runs.getD k ru0),.sl 3 x.dels.length fun k=>spF (x.dels.getD k sp0)]
def baOk (x : Ba) : Prop:=(∀ r,r ∈ x.runs→ruOk r)∧x.runs.length≤100000∧x.dels.length≤100000∧(itemsR x.runs).length≤1000000
def mayB (x : Ba) : Prop:=(∀ r,r ∈ x.runs→mayR r = true)∧mayS x.dels∧(∀ j,j + 1 < (itemsR x.runs).length→beforeR ((itemsR x.runs).getD j it0).id ((itemsR x.runs).getD (j + 1) it0).id)∧(ofK (itemsR x.runs) (itemsR x.runs).length).length = x.runs.length
theorem may_chars {r : Ru} (h : mayR r = true) : (charsF r.text).isSome = true:=by
 unfold mayR at h
 split at h
 ·cases h
 ·rename_i l e;rw [e];rfl
theorem mem_getD' {α : Type} {l : List α} {x d : α} (h : x ∈ l) : ∃ j,j < l.length∧l.getD j d = x:=by
 obtain ⟨j,hj,e⟩:=List.getElem_of_mem h
 exact ⟨j,hj,by rw [List.getD_eq_getElem?_getD,List.getElem?_eq_getElem hj];exact e⟩
theorem cmp_before (a b : I2) : ((if cmpI a.1 b.1 = 0 then cmpI a.2 b.2 else cmpI a.1 b.1) ≥ 0)↔¬ beforeR a b:=by
 unfold cmpI beforeR
 by_cases h1 : a.1 < b.1
 ·simp only [if_pos h1]
  rw [if_neg (by decide)]
  exact ⟨fun h=>absurd h (by decide),fun h=>absurd (Or.inl h1) h⟩
 ·simp only [if_neg h1]
  by_cases h2 : b.1 < a.1
  ·simp only [if_pos h2]
   rw [if_neg (by decide)]
   exact ⟨fun _ q=>by omega,fun _=>by decide⟩
  ·simp only [if_neg h2]
   rw [if_pos trivial]
   by_cases h3 : a.2 < b.2
   ·rw [if_pos h3]
    exact ⟨fun h=>absurd h (by decide),fun h=>absurd (Or.inr ⟨by omega,h3⟩) h⟩
   ·rw [if_neg h3]
    split
    ·exact ⟨fun _ q=>by omega,fun _=>by decide⟩
    ·exact ⟨fun _ q=>by omega,fun _=>by decide⟩
theorem clo_c (r : Ru) (hr : ruOk r) : CallV Tryz.prog 187 [.agg (ruF r)] [] (fun x own'=>own' = []∧x = vcb (!mayR r)):=by
 refine callV_pure Tryz.func187 rfl ttok ftok rfl rfl rfl (Nat.le_of_ble_eq_true rfl) ?_
 conv=>whnf
 refine call_pure (may_c r hr) rfl ?_
 rintro _ rfl
 conv=>whnf
 try rfl
def ixrunI (O : List (Option Ob)) (l : List Ru) (p : Ru→Bool) (caps : List (Bool × List IC)) (n : Nat) (st : St) : Prop:=∃ k : Nat,n = l.length - k∧k≤l.length∧(∀ j,j < k→p (l.getD j ru0) = false) ∧
 st = ⟨19,O.length,[(0,.c (.sl 7 l.length fun k=>ruF (l.getD k ru0))),(1,.c (.fn 187 caps)),(7,vci .i64 l.length),(8,vci .i64 (k : Int))],O⟩
theorem ixrun (O : List (Option Ob)) (l : List Ru) (hl : l.length≤1000000000) (caps : List (Bool × List IC)) (p : Ru→Bool)
  (hp : ∀ k,k < l.length→CallV Tryz.prog 187 (.agg (ruF (l.getD k ru0)) :: capsA caps) O (fun r own'=>r = vcb (p (l.getD k ru0))∧own' = O)) :
  CallV Tryz.prog 231 [.c (.sl 7 l.length fun k=>ruF (l.getD k ru0)),.c (.fn 187 caps)] O (fun r own'=>(∃ k : Nat,k < l.length∧p (l.getD k ru0) = true∧(∀ j,j < k→p (l.getD j ru0) = false)∧r = vci .i64 k∧own' = O) ∨
   ((∀ j,j < l.length→p (l.getD j ru0) = false)∧r = vci .i64 (-1)∧own' = O)):=by
 refine callV_same Tryz.func231 rfl ttok ftok rfl rfl rfl (Nat.le_of_ble_eq_true rfl) ?_
 conv=>whnf
 refine loopV ttok ftok (ixrunI O l p caps) (env_weak [0,1,7,8] rfl) ⟨0,rfl,Nat.zero_le _,fun j hj=>by omega,rfl⟩ ?_
 rintro n st ⟨k,rfl,hk,hj,rfl⟩
 conv=>whnf
 refine onB_intro (fun h=>?_) (fun h=>?_)
 ·have h:=of_decide_eq_true h
  have hkl : k < l.length:=by omega
  conv=>whnf
  rw [forceL_eq]
  conv=>whnf
  refine ⟨⟨by omega,by omega⟩,?_⟩
  conv=>whnf
  refine (hp k hkl).mono ?_
  rintro r own2 ⟨rfl,rfl⟩
  conv=>whnf
  cases hpk : p (l.getD k ru0) with
  | true =>
   conv=>whnf
   refine ⟨_,Weak.refl _,?_⟩
   conv=>whnf
   exact .inl ⟨k,hkl,hpk,hj,rfl,rfl⟩
  | false =>
   conv=>whnf
   refine ⟨l.length - (k + 1),_,by omega,env_weak [0,1,7,8] rfl,k + 1,rfl,by omega,fun j hj2=>?_,?_⟩
   ·rcases Nat.lt_succ_iff_lt_or_eq.1 hj2 with h2 | rfl
    ·exact hj j h2
    ·exact hpk
   rw [show (((k + 1 : Nat)) : Int) = IntKind.i64.wrap ((k : Int) + 1) from by rw [w_i64 (by omega) (by omega)];omega]
   all_goals rfl
 ·have h:=of_decide_eq_false h
  conv=>whnf
  refine ⟨_,Weak.refl _,?_⟩
  conv=>whnf
  exact .inr ⟨fun j hj2=>hj j (by omega),rfl,rfl⟩
theorem ctrun (O : List (Option Ob)) (l : List Ru) (hl : l.length≤1000000000) (caps : List (Bool × List IC)) (p : Ru→Bool)
  (hp : ∀ k,k < l.length→CallV Tryz.prog 187 (.agg (ruF (l.getD k ru0)) :: capsA caps) O (fun r own'=>r = vcb (p (l.getD k ru0))∧own' = O)) :
  CallV Tryz.prog 186 [.c (.sl 7 l.length fun k=>ruF (l.getD k ru0)),.c (.fn 187 caps)] O (fun r own'=>∃ b : Bool,(b = true↔∃ k,k < l.length∧p (l.getD k ru0) = true)∧r = vcb b∧own' = O):=by
 refine callV_same Tryz.func186 rfl ttok ftok rfl rfl rfl (Nat.le_of_ble_eq_true rfl) ?_
 conv=>whnf
 rw [forceL_eq]
 conv=>whnf
 refine (ixrun O l hl caps p hp).mono ?_
 rintro r own2 (⟨k,hk,h1,h2,rfl,rfl⟩ | ⟨h1,rfl,rfl⟩)
 ·conv=>whnf
  refine ⟨_,Weak.refl _,?_⟩
  conv=>whnf
  refine ⟨true,⟨fun _=>⟨k,hk,h1⟩,fun _=>rfl⟩,?_,rfl⟩
  show vcb (decide ((k : Int) ≥ 0)) = _
  rw [decide_eq_true (by omega)]
 ·conv=>whnf
  refine ⟨_,Weak.refl _,?_⟩
  conv=>whnf
  refine ⟨false,⟨fun e=>(by cases e),fun ⟨k,hk,h2⟩=>by rw [h1 k hk] at h2;cases h2⟩,rfl,rfl⟩
theorem itOk_its {rs : List Ru} (hok : ∀ r,r ∈ rs→ruOk r) : ∀ x,x ∈ itemsR rs→itOk x:=by
 intro x hx
 unfold itemsR at hx
 obtain ⟨r,hr,hx⟩:=List.mem_flatMap.1 hx
 unfold itsR at hx
 obtain ⟨j,hj,rfl⟩:=List.mem_map.1 hx
 obtain ⟨h1,h2,h3,_⟩:=hok r hr
 have hc : ∀ i,0≤clk r.id.2 i∧clk r.id.2 i≤4294967295:=fun i=>by unfold clk;omega
 refine ⟨⟨h1.1,hc j⟩,?_,h3⟩
 show u32P (leftAt r j)
 unfold leftAt
 split
 ·exact h2
 ·exact ⟨h1.1,hc _⟩
def mbI (x : Ba) (l : List It) (n : Nat) (st : St) : Prop:=∃ k : Nat,n = l.length - k∧1≤k∧(∀ j,j + 1 < k→j + 1 < l.length→beforeR (l.getD j it0).id (l.getD (j + 1) it0).id) ∧
 st = ⟨43,0,[(1,.c (.own 0 0)),(3,itS l),(4,vci .i64 (k : Int))],[some (.cells 58 (baF x))]⟩
theorem bmay_c (x : Ba) (hx : baOk x) : CallV Tryz.prog 124 [.agg (baF x)] [] (fun r own'=>own' = []∧∃ b : Bool,(b = true↔mayB x)∧r = vcb b):=by
 obtain ⟨hr,hrl,hdl,hil⟩:=hx
 refine callV_pure Tryz.func124 rfl ttok ftok rfl rfl rfl (Nat.le_of_ble_eq_true rfl) ?_
 conv=>whnf
 refine call_pure (rmay_c x.dels (by omega)) rfl ?_
 rintro _ ⟨b1,hb1,rfl⟩
 cases b1 with
 | false =>
  conv=>whnf
  exact ⟨false,⟨fun e=>(nomatch e),fun e=>absurd (hb1.2 e.2.1) (by decide)⟩,rfl⟩
 | true =>
  have hset:=hb1.1 rfl
  conv=>whnf
  have mem_at : ∀ k,k < x.runs.length→x.runs.getD k ru0 ∈ x.runs:=fun k hk=>by rw [List.getD_eq_getElem?_getD,List.getElem?_eq_getElem hk];exact List.getElem_mem hk
  refine (ctrun _ x.runs (by omega) [] (fun r=>!mayR r) (fun k hk=>call_pure (clo_c _ (hr _ (mem_at k hk))) rfl (fun r h=>⟨h,rfl⟩))).mono ?_
  rintro _ _ ⟨b2,hb2,rfl,rfl⟩
  cases b2 with
  | true =>
   obtain ⟨k,hk,h2⟩:=hb2.1 rfl
   conv=>whnf
   exact ⟨false,⟨fun e=>(nomatch e),fun e=>by rw [e.1 _ (mem_at k hk)] at h2;cases h2⟩,rfl⟩
  | false =>
   have hall : ∀ r,r ∈ x.runs→mayR r = true:=fun r hr2=>by
    obtain ⟨j,hj,rfl⟩:=mem_getD' (d:=ru0) hr2
    cases hq : mayR (x.runs.getD j ru0) with
    | true=>rfl
    | false=>exact absurd (hb2.2 ⟨j,hj,by rw [hq];rfl⟩) (by decide)
   conv=>whnf
   refine call_pure (items_c x.runs (by omega) (fun r h=>⟨hr r h,may_chars (hall r h)⟩)) rfl ?_
   rintro _ rfl
   obtain ⟨l,hl⟩ : ∃ l,itemsR x.runs = l:=⟨_,rfl⟩
   have hlok : ∀ y,y ∈ l→itOk y:=hl ▸ itOk_its hr
   have hmb : mayB x↔((∀ j,j + 1 < l.length→beforeR (l.getD j it0).id (l.getD (j + 1) it0).id)∧(ofK l l.length).length = x.runs.length):=by
    unfold mayB
    rw [hl]
    exact ⟨fun h=>h.2.2,fun h=>⟨hall,hset,h⟩⟩
   rw [hl] at hil ⊢
   have hol:=(ofK_len l l.length).1
   conv=>whnf
   refine loopV ttok ftok (mbI x l) (norm_weak [1,3,4] [some 0] rfl rfl) ⟨1,rfl,Nat.le_refl _,fun j h1 _=>by omega,rfl⟩ ?_
   rintro n st ⟨k,rfl,hk,hj,rfl⟩
   have e1 : IntKind.i64.wrap ((k : Int) - 1) = ((k - 1 : Nat) : Int)∨1000000 < k:=by
    by_cases q : k≤1000000
    ·exact .inl (by rw [w_i64 (by omega) (by omega)];omega)
    ·exact .inr (by omega)
   conv=>whnf
   refine onB_intro (fun h=>?_) (fun h=>?_)
   ·have h:=of_decide_eq_true h
    have e1 : IntKind.i64.wrap ((k : Int) - 1) = ((k - 1 : Nat) : Int):=by rw [w_i64 (by omega) (by omega)];omega
    have e2 : IntKind.i64.wrap ((k : Int) + 1) = ((k + 1 : Nat) : Int):=by rw [w_i64 (by omega) (by omega)];omega
    conv=>whnf
    refine drawV_sched (.rd 0 (.rd 1 (.rd 2 (.rd 3 (.rd 4 (.rd 5 (.rd 6 (.rd 7 (.rd 8 (.rd 9 (.rd 10 (.ef 11 (.rd 12 (.nil)))))))))))))) [] mixed (by kernel_rfl) ttok ftok ?_
    conv=>whnf
    rw [e1]
    refine ⟨⟨by omega,by omega⟩,?_⟩
    conv=>whnf
    refine ⟨⟨by omega,by omega⟩,?_⟩
    conv=>whnf
    simp only [ti_nat]
    refine call_pure (idcmp_c (l.getD (k - 1) it0).id (l.getD k it0).id) rfl ?_
    rintro _ rfl
    conv=>whnf
    by_cases hb : beforeR (l.getD (k - 1) it0).id (l.getD k it0).id
    ·rw [decide_eq_false (fun q=>(cmp_before _ _).1 q hb)]
     conv=>whnf
     rw [e2]
     refine ⟨l.length - (k + 1),_,by omega,norm_weak [1,3,4] [some 0] rfl rfl,k + 1,rfl,by omega,fun j h1 h2=>?_,rfl⟩
     by_cases q : j + 1 = k
     ·obtain rfl : j = k - 1:=by omega
      rw [q]
      exact hb
     ·exact hj j (by omega) h2
    ·rw [decide_eq_true ((cmp_before _ _).2 hb)]
     conv=>whnf
     refine ⟨false,⟨fun e=>(nomatch e),fun e=>?_⟩,rfl⟩
     have:=(hmb.1 e).1 (k - 1) (by omega)
     rw [show k - 1 + 1 = k from by omega] at this
     exact absurd this hb
   ·have h:=of_decide_eq_false h
    conv=>whnf
    refine drawV_sched (.rd 0 (.rd 3 (.rd 4 (.rd 5 (.ef 1 (.rd 2 (.rd 6 (.rd 7 (.nil))))))))) [] mixed (by kernel_rfl) ttok ftok ?_
    conv=>whnf
    refine call_pure (of_c l (by omega) hlok) rfl ?_
    rintro _ rfl
    conv=>whnf
    refine ⟨_,⟨fun e=>hmb.2 ⟨fun j h1=>hj j (by omega) h1,?_⟩,fun e=>?_⟩,rfl⟩
    ·have:=eq_of_beq e
     omega
    ·have:=(hmb.1 e).2
     rw [this]
     exact beq_self_eq_true _
def mcI (x : Ba) (n : Nat) (st : St) : Prop:=∃ k : Nat,n = x.runs.length - k∧k≤x.runs.length∧(∀ j,j < k→mayR (x.runs.getD j ru0) = true)∧st = ⟨60,0,[(1,.c (.own 0 0)),(3,vci .i64 (k : Int))],[some (.cells 58 (baF x))]⟩
def mdI (x : Ba) (l : List It) (b : Bool) (n : Nat) (st : St) : Prop:=∃ k : Nat,n = l.length - k∧1≤k∧(∀ j,j + 1 < k→j + 1 < l.length→beforeR (l.getD j it0).id (l.getD (j + 1) it0).id) ∧
 st = ⟨60,0,[(1,.c (.own 0 0)),(5,vcb b),(6,itS l),(7,vci .i64 (k : Int))],[some (.cells 58 (baF x))]⟩
theorem rmayb_c (x : Ba) (hx : baOk x) : CallV Tryz.prog 153 [.agg (baF x)] [] (fun r own'=>own' = []∧∃ b : Bool,(b = true↔mayB x)∧r = vcb b):=by
 obtain ⟨hr,hrl,hdl,hil⟩:=hx
 have mem_at : ∀ k,k < x.runs.length→x.runs.getD k ru0 ∈ x.runs:=fun k hk=>by rw [List.getD_eq_getElem?_getD,List.getElem?_eq_getElem hk];exact List.getElem_mem hk
 refine callV_pure Tryz.func153 rfl ttok ftok rfl rfl rfl (Nat.le_of_ble_eq_true rfl) ?_
 conv=>whnf
 refine loopV ttok ftok (mcI x) (norm_weak [1,3] [some 0] rfl rfl) ⟨0,rfl,Nat.zero_le _,fun j h1=>by omega,rfl⟩ ?_
 rintro n st ⟨k,rfl,hk,hj,rfl⟩
 have e1 : IntKind.i64.wrap ((k : Int) + 1) = ((k + 1 : Nat) : Int):=by rw [w_i64 (by omega) (by omega)];omega
 conv=>whnf
 refine onB_intro (fun h=>?_) (fun h=>?_)
 ·have h:=of_decide_eq_true h
  have hk2 : k < x.runs.length:=by omega
  conv=>whnf
  refine ⟨⟨by omega,by omega⟩,?_⟩
  conv=>whnf
  simp only [ti_nat]
  refine call_pure (mayrun_c (x.runs.getD k ru0) (hr _ (mem_at k hk2))) rfl ?_
  rintro _ rfl
  cases hm : mayR (x.runs.getD k ru0) with
  | true =>
   conv=>whnf
   rw [e1]
   refine ⟨x.runs.length - (k + 1),_,by omega,norm_weak [1,3] [some 0] rfl rfl,k + 1,rfl,by omega,fun j h2=>?_,rfl⟩
   rcases Nat.lt_succ_iff_lt_or_eq.1 h2 with h3 | rfl
   ·exact hj j h3
   ·exact hm
  | false =>
   conv=>whnf
   exact ⟨false,⟨fun e=>(nomatch e),fun e=>by rw [e.1 _ (mem_at k hk2)] at hm;cases hm⟩,rfl⟩
 ·have h:=of_decide_eq_false h
  have hall : ∀ r,r ∈ x.runs→mayR r = true:=fun r hr2=>by
   obtain ⟨j,hj2,rfl⟩:=mem_getD' (d:=ru0) hr2
   exact hj j (by omega)
  conv=>whnf
  refine call_pure (mayset_c x.dels (by omega)) rfl ?_
  rintro _ ⟨b1,hb1,rfl⟩
  conv=>whnf
  refine call_pure (ritems_c x.runs (by omega) (fun r h=>⟨hr r h,may_chars (hall r h)⟩)) rfl ?_
  rintro _ rfl
  obtain ⟨l,hl⟩ : ∃ l,itemsR x.runs = l:=⟨_,rfl⟩
  have hlok : ∀ y,y ∈ l→itOk y:=hl ▸ itOk_its hr
  have hmb : mayB x↔(mayS x.dels∧(∀ j,j + 1 < l.length→beforeR (l.getD j it0).id (l.getD (j + 1) it0).id)∧(ofK l l.length).length = x.runs.length):=by
   unfold mayB
   rw [hl]
   exact ⟨fun h=>h.2,fun h=>⟨hall,h⟩⟩
  rw [hl] at hil ⊢
  have hol:=(ofK_len l l.length).1
  conv=>whnf
  refine loopV ttok ftok (mdI x l b1) (norm_weak [1,5,6,7] [some 0] rfl rfl) ⟨1,rfl,Nat.le_refl _,fun j h1 _=>by omega,rfl⟩ ?_
  rintro n st ⟨k,rfl,hk,hj,rfl⟩
  conv=>whnf
  refine onB_intro (fun h=>?_) (fun h=>?_)
  ·have h:=of_decide_eq_true h
   have e1 : IntKind.i64.wrap ((k : Int) - 1) = ((k - 1 : Nat) : Int):=by rw [w_i64 (by omega) (by omega)];omega
   have e2 : IntKind.i64.wrap ((k : Int) + 1) = ((k + 1 : Nat) : Int):=by rw [w_i64 (by omega) (by omega)];omega
   conv=>whnf
   refine drawV_sched (.rd 0 (.rd 1 (.rd 2 (.rd 3 (.rd 4 (.rd 5 (.rd 6 (.rd 7 (.rd 8 (.rd 9 (.rd 10 (.ef 11 (.rd 12 (.nil)))))))))))))) [] mixed (by kernel_rfl) ttok ftok ?_
   conv=>whnf
   rw [e1]
   refine ⟨⟨by omega,by omega⟩,?_⟩
   conv=>whnf
   refine ⟨⟨by omega,by omega⟩,?_⟩
   conv=>whnf
   simp only [ti_nat]
   refine call_pure (before_c (l.getD (k - 1) it0).id (l.getD k it0).id) rfl ?_
   rintro _ rfl
   conv=>whnf
   by_cases hb : beforeR (l.getD (k - 1) it0).id (l.getD k it0).id
   ·rw [decide_eq_true hb]
    conv=>whnf
    rw [e2]
    refine ⟨l.length - (k + 1),_,by omega,norm_weak [1,5,6,7] [some 0] rfl rfl,k + 1,rfl,by omega,fun j h1 h2=>?_,rfl⟩
    by_cases q : j + 1 = k
    ·obtain rfl : j = k - 1:=by omega
     rw [q]
     exact hb
    ·exact hj j (by omega) h2
   ·rw [decide_eq_false hb]
    conv=>whnf
    refine ⟨false,⟨fun e=>(nomatch e),fun e=>?_⟩,rfl⟩
    have:=(hmb.1 e).2.1 (k - 1) (by omega)
    rw [show k - 1 + 1 = k from by omega] at this
    exact absurd this hb
  ·have h:=of_decide_eq_false h
   conv=>whnf
   cases b1 with
   | false =>
    refine drawV_sched (.rd 0 (.rd 1 (.rd 2 (.rd 5 (.rd 6 (.rd 7 (.ef 3 (.rd 4 (.rd 8 (.rd 9 (.rd 10 (.nil)))))))))))) [] mixed (by kernel_rfl) ttok ftok ?_
    conv=>whnf
    exact ⟨false,⟨fun e=>(nomatch e),fun e=>absurd (hb1.2 e.2.1) (by decide)⟩,rfl⟩
   | true =>
    have hset:=hb1.1 rfl
    refine drawV_sched (.rd 0 (.rd 1 (.rd 2 (.rd 5 (.rd 6 (.rd 7 (.ef 3 (.rd 4 (.rd 8 (.rd 9 (.rd 10 (.nil)))))))))))) [] mixed (by kernel_rfl) ttok ftok ?_
    conv=>whnf
    refine call_pure (rof_c l (by omega) hlok) rfl ?_
    rintro _ rfl
    conv=>whnf
    refine ⟨_,⟨fun e=>hmb.2 ⟨hset,fun j h1=>hj j (by omega) h1,?_⟩,fun e=>?_⟩,rfl⟩
    ·have:=eq_of_beq e
     omega
    ·have:=(hmb.1 e).2.2
     rw [this]
     exact beq_self_eq_true _
end Go.Eng
