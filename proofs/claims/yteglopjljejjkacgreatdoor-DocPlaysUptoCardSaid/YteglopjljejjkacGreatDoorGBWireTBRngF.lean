/- A part of the proof. -/
import Derived.Test.YteglopjljejjkacGreatDoorGBPndATBBat
import Derived.Laws.BitsAllLaws
set_option linter.unusedVariables false
set_option linter.unusedSimpArgs false
set_option maxRecDepth 100000
set_option maxHeartbeats 4000000
namespace Go.Eng
open Go Go.RowKit Go.Proofs
abbrev bS (b : List UInt8) : AV:=.c (.sl 1 b.length (byteF b))
abbrev errM : AV:=.c (.v (.iface 111 (.int .i64 2)))
def valN (l : List UInt8) : Nat:=l.foldl (fun v c=>v * 256 + c.toNat) 0
theorem valN_snoc (l : List UInt8) (c : UInt8) : valN (l ++ [c]) = valN l * 256 + c.toNat:=by unfold valN;rw [List.foldl_append];rfl
theorem valN_lt (l : List UInt8) : valN l < 256 ^ l.length:=by
 suffices h : ∀ n (l : List UInt8),l.length = n→valN l < 256 ^ n from h _ l rfl
 intro n
 induction n with
 | zero=>intro l h;obtain rfl:=List.eq_nil_of_length_eq_zero h;simp [valN]
 | succ n ih =>
  intro l h
  obtain ⟨m,c,rfl⟩ : ∃ m c,l = m ++ [c]:=⟨l.dropLast,l.getLast (by intro e;subst e;cases h),(List.dropLast_concat_getLast _).symm⟩
  have:=ih m (by simpa using h)
  have hc:=c.toNat_lt
  rw [valN_snoc,Nat.pow_succ]
  omega
theorem valN_u32 {l : List UInt8} (h : l.length≤4) : valN l < 4294967296:=by
 refine Nat.lt_of_lt_of_le (valN_lt l) ?_
 refine Nat.le_trans (Nat.pow_le_pow_right (by omega) h) (by decide)
theorem valN_u24 {l : List UInt8} (h : l.length≤3) : valN l < 16777216:=by
 refine Nat.lt_of_lt_of_le (valN_lt l) ?_
 refine Nat.le_trans (Nat.pow_le_pow_right (by omega) h) (by decide)
def getN (b : List UInt8) (at_ : Int) : Option (Nat × Nat) :=
 if at_ < 0∨(b.length : Int)≤at_ then none
 else if 4 < (b.getD at_.toNat 0).toNat∨b.length < at_.toNat + 1 + (b.getD at_.toNat 0).toNat∨(0 < (b.getD at_.toNat 0).toNat∧b.getD (at_.toNat + 1) 0 = 0) then none
 else some (valN ((b.drop (at_.toNat + 1)).take (b.getD at_.toNat 0).toNat),(b.getD at_.toNat 0).toNat + 1)
def getV (o : Option (Nat × Nat)) : AV:=match o with
 | some (v,n)=>.tup [vci .u32 v,vci .i64 n,.c (.v .nilIface)]
 | none=>.tup [vci .u32 0,vci .i64 0,errM]
def getW (o : Option (Nat × Nat)) : AV:=match o with
 | some (v,n)=>.tup [vci .u32 v,vci .i64 n,vcb true]
 | none=>.tup [vci .u32 0,vci .i64 0,vcb false]
theorem or_shift (v : Nat) (c : UInt8) (hv : v < 16777216) : bits .or .u32 (IntKind.u32.wrap ((v : Int) * 2 ^ (8 : Int).toNat)) (c.toNat : Int) = ((v * 256 + c.toNat : Nat) : Int):=by
 have hc:=c.toNat_lt
 have e : IntKind.u32.wrap ((v : Int) * 2 ^ (8 : Int).toNat) = ((v * 256 : Nat) : Int):=by
  rw [w_u32]
  show (v : Int) * 256 % 4294967296 = _
  omega
 rw [e,Go.u32_or_nat _ _ (by omega) (by omega)]
 congr 1
 have : v * 256 = v <<< 8:=by rw [Nat.shiftLeft_eq]
 rw [this,←Nat.shiftLeft_add_eq_or_of_lt (by omega : c.toNat < 2 ^ 8)]
theorem sl_ex {α : Type} {enc : α→List IC} {d : α} (ys : List α) {h lo : Nat} {f : Nat→List IC} {K : Nat→(Nat→List IC)→Prop} (hn : ys.length = h - lo) (hf : ∀ k,k < ys.length→enc (ys.getD k d) = f (lo + k)) (hK : K ys.length fun k=>enc (ys.getD k d)) :
  ∃ (n' : Nat) (f' : Nat→List IC),n' = h - lo∧(∀ k,k < n'→f' k = f (lo + k))∧K n' f':=⟨_,_,hn,hf,hK⟩
abbrev b1 (c : UInt8) : List IC:=[.v (.int .u8 (c.toNat : Int))]
theorem byte0 (c : UInt8) : c.toNat = 0↔c = 0:=⟨fun h=>UInt8.toNat_inj.1 h,fun h=>by rw [h];rfl⟩
def gtI (b l : List UInt8) (at_ nn : Int) (n : Nat) (st : St) : Prop:=∃ k : Nat,n = l.length - k∧k≤l.length ∧
 st = ⟨71,0,[(7,vci .i64 nn),(8,vci .u32 (valN (l.take k) : Nat)),(56,bS l),(57,vci .i64 l.length),(58,vci .i64 (k : Int))],[]⟩
theorem get_c (b : List UInt8) (hb : b.length≤1000000000) (at_ : Int) (ha1 : -9223372036854775808≤at_) (ha2 : at_≤9223372036854775807) : CallV Tryz.prog 201 [bS b,vci .i64 at_] [] (fun r own'=>own' = []∧r = getV (getN b at_)):=by
 refine callV_pure Tryz.func201 rfl ttok ftok rfl rfl rfl (Nat.le_of_ble_eq_true rfl) ?_
 conv=>whnf
 refine onB_intro (fun h=>?_) (fun h=>?_)
 ·simp [pickB,isLit] at h
  conv=>whnf
  rw [show getN b at_ = none from by unfold getN;rw [if_pos h]]
  rfl
 ·simp [pickB,isLit] at h
  obtain ⟨i,rfl⟩ : ∃ i : Nat,at_ = (i : Int):=⟨at_.toNat,by omega⟩
  have hi : i < b.length:=by omega
  have hg : getN b (i : Int) = if 4 < (b.getD i 0).toNat∨b.length < i + 1 + (b.getD i 0).toNat∨(0 < (b.getD i 0).toNat∧b.getD (i + 1) 0 = 0) then none
    else some (valN ((b.drop (i + 1)).take (b.getD i 0).toNat),(b.getD i 0).toNat + 1):=by unfold getN;rw [if_neg (by omega),ti_nat]
  conv=>whnf
  refine ⟨by omega,?_⟩
  conv=>whnf
  have hc:=(b.getD i 0).toNat_lt
  obtain ⟨n,hn⟩ : ∃ n : Nat,(b.getD i 0).toNat = n:=⟨_,rfl⟩
  have e1 : IntKind.i64.wrap (n : Int) = (n : Int):=w_i64 (by omega) (by omega)
  have e2 : IntKind.i64.wrap (IntKind.i64.wrap ((b.length : Int) - i) - 1) = (b.length : Int) - i - 1:=by rw [w_i64 (x:=(b.length : Int) - i) (by omega) (by omega),w_i64 (by omega) (by omega)]
  have e3 : IntKind.i64.wrap ((i : Int) + 1) = ((i + 1 : Nat) : Int):=by rw [w_i64 (by omega) (by omega)];omega
  rw [hn] at hc hg
  rw [hg]
  simp only [ti_nat,hn,e1,e2,e3]
  refine ⟨?_,?_⟩
  ·conv=>whnf
   intro g1
   conv=>whnf
   intro g2
   simp [pickB,isLit] at g1 g2
   conv=>whnf
   omega
  conv=>whnf
  refine onB_intro (fun g=>?_) (fun g=>?_)
  ·have g : 4 < n∨b.length < i + 1 + n∨(0 < n∧b.getD (i + 1) 0 = 0):=by
    try simp only [ti_nat,hn,e1,e2,e3] at g
    simp [pickB,isLit] at g
    rcases g with (g | g) | g
    ·exact .inl (by omega)
    ·exact .inr (.inl (by omega))
    ·exact .inr (.inr ⟨by omega,(byte0 _).1 (by simpa using g.2)⟩)
   rw [if_pos g]
   conv=>whnf
   rfl
  ·have g : ¬ (4 < n∨b.length < i + 1 + n∨(0 < n∧b.getD (i + 1) 0 = 0)):=by
    try simp only [ti_nat,hn,e1,e2,e3] at g
    simp [pickB,isLit] at g
    rintro (q | q | ⟨q1,q2⟩)
    ·omega
    ·omega
    ·exact g.2 (by omega) (by rw [(byte0 _).2 (by simpa using q2)])
   rw [if_neg g]
   have e4 : IntKind.i64.wrap (((i + 1 : Nat) : Int) + (n : Int)) = ((i + 1 + n : Nat) : Int):=by rw [w_i64 (by omega) (by omega)];omega
   obtain ⟨l,hl⟩ : ∃ l,(b.drop (i + 1)).take n = l:=⟨_,rfl⟩
   have hll : l.length = n:=by rw [←hl];simp;omega
   rw [hl]
   conv=>whnf
   simp only [ti_nat,hn,e1,e2,e3,e4]
   refine ⟨by omega,?_⟩
   conv=>whnf
   refine sl_ex (enc:=b1) (d:=0) l (by rw [hll];omega) (fun j hj=>?_) ?_
   ·rw [←hl,getD_take _ _ _ _ (by omega),getD_drop]
   conv=>whnf
   refine loopV ttok ftok (gtI b l i n) (env_weak [7,8,56,57,58] rfl) ⟨0,rfl,Nat.zero_le _,rfl⟩ ?_
   rintro m st ⟨k,rfl,hk,rfl⟩
   conv=>whnf
   refine onB_intro (fun g5=>?_) (fun g5=>?_)
   ·have g5:=of_decide_eq_true g5
    have hkl : k < l.length:=by omega
    conv=>whnf
    refine ⟨by omega,?_⟩
    conv=>whnf
    refine ⟨by decide,?_⟩
    conv=>whnf
    have hv:=valN_u24 (l:=l.take k) (by simp;omega)
    have hd:=(l.getD k 0).toNat_lt
    have e5 : IntKind.u32.wrap (((l.getD k 0).toNat : Nat) : Int) = ((l.getD k 0).toNat : Int):=by rw [w_u32];omega
    have e6 : l.take (k + 1) = l.take k ++ [l.getD k 0]:=by
     rw [List.take_add_one,List.getD_eq_getElem?_getD,List.getElem?_eq_getElem hkl]
     rfl
    have e7 : IntKind.i64.wrap ((k : Int) + 1) = ((k + 1 : Nat) : Int):=by rw [w_i64 (by omega) (by omega)];omega
    simp only [ti_nat,e5,e7,or_shift _ _ hv]
    rw [←valN_snoc,←e6]
    refine ⟨l.length - (k + 1),_,by omega,env_weak [7,8,56,57,58] rfl,k + 1,rfl,by omega,rfl⟩
   ·have g5:=of_decide_eq_false g5
    obtain rfl : k = l.length:=by omega
    conv=>whnf
    simp only [List.take_length]
    rw [show IntKind.i64.wrap ((n : Int) + 1) = ((n + 1 : Nat) : Int) from by rw [w_i64 (by omega) (by omega)];omega]
    rfl
def rgI (b l : List UInt8) (i : Nat) (n : Nat) (st : St) : Prop:=∃ k : Nat,n = l.length - k∧k≤l.length∧(0 < k→b.getD (i + 1) 0≠0) ∧
 st = ⟨62,0,[(0,bS b),(1,vci .i64 (i : Int)),(7,vci .i64 (l.length : Int)),(8,vci .u32 (valN (l.take k) : Nat)),(9,vci .i64 ((k + 1 : Nat) : Int))],[]⟩
theorem rget_c (b : List UInt8) (hb : b.length≤1000000000) (at_ : Int) (ha1 : -9223372036854775808≤at_) (ha2 : at_≤9223372036854775807) : CallV Tryz.prog 214 [bS b,vci .i64 at_] [] (fun r own'=>own' = []∧r = getW (getN b at_)):=by
 refine callV_pure Tryz.func214 rfl ttok ftok rfl rfl rfl (Nat.le_of_ble_eq_true rfl) ?_
 conv=>whnf
 refine onB_intro (fun h=>?_) (fun h=>?_)
 ·simp [pickB,isLit] at h
  conv=>whnf
  rw [show getN b at_ = none from by unfold getN;rw [if_pos h]]
  rfl
 ·simp [pickB,isLit] at h
  obtain ⟨i,rfl⟩ : ∃ i : Nat,at_ = (i : Int):=⟨at_.toNat,by omega⟩
  have hi : i < b.length:=by omega
  have hg : getN b (i : Int) = if 4 < (b.getD i 0).toNat∨b.length < i + 1 + (b.getD i 0).toNat∨(0 < (b.getD i 0).toNat∧b.getD (i + 1) 0 = 0) then none
    else some (valN ((b.drop (i + 1)).take (b.getD i 0).toNat),(b.getD i 0).toNat + 1):=by unfold getN;rw [if_neg (by omega),ti_nat]
  conv=>whnf
  refine ⟨by omega,?_⟩
  conv=>whnf
  have hc:=(b.getD i 0).toNat_lt
  obtain ⟨n,hn⟩ : ∃ n : Nat,(b.getD i 0).toNat = n:=⟨_,rfl⟩
  have e1 : IntKind.i64.wrap (n : Int) = (n : Int):=w_i64 (by omega) (by omega)
  have e2 : IntKind.i64.wrap (IntKind.i64.wrap ((b.length : Int) - i) - 1) = (b.length : Int) - i - 1:=by rw [w_i64 (x:=(b.length : Int) - i) (by omega) (by omega),w_i64 (by omega) (by omega)]
  rw [hn] at hc hg
  rw [hg]
  simp only [ti_nat,hn,e1,e2]
  refine onB_intro (fun g=>?_) (fun g=>?_)
  ·have g : 4 < n∨b.length < i + 1 + n:=by
    try simp only [ti_nat,hn,e1,e2] at g
    simp [pickB,isLit] at g
    omega
   rw [if_pos (by omega)]
   conv=>whnf
   rfl
  ·have g : ¬ (4 < n∨b.length < i + 1 + n):=by
    try simp only [ti_nat,hn,e1,e2] at g
    simp [pickB,isLit] at g
    omega
   conv=>whnf
   obtain ⟨l,hl⟩ : ∃ l,(b.drop (i + 1)).take n = l:=⟨_,rfl⟩
   have hll : l.length = n:=by rw [←hl];simp;omega
   have hlj : ∀ j,j < n→l.getD j 0 = b.getD (i + 1 + j) 0:=fun j hj=>by rw [←hl,getD_take _ _ _ _ (by omega),getD_drop]
   rw [hl]
   try simp only [ti_nat,hn,e1,e2]
   subst hll
   refine loopV ttok ftok (rgI b l i) (env_weak [0,1,7,8,9] rfl) ⟨0,rfl,Nat.zero_le _,fun h=>by omega,rfl⟩ ?_
   rintro m st ⟨k,rfl,hk,hk0,rfl⟩
   conv=>whnf
   refine onB_intro (fun g5=>?_) (fun g5=>?_)
   ·have g5:=of_decide_eq_true g5
    have hkl : k < l.length:=by omega
    conv=>whnf
    have e3 : IntKind.i64.wrap ((i : Int) + 1) = ((i + 1 : Nat) : Int):=by rw [w_i64 (by omega) (by omega)];omega
    have e4 : IntKind.i64.wrap ((i : Int) + ((k + 1 : Nat) : Int)) = ((i + 1 + k : Nat) : Int):=by rw [w_i64 (by omega) (by omega)];omega
    have e5 : IntKind.i64.wrap (((k + 1 : Nat) : Int) + 1) = ((k + 1 + 1 : Nat) : Int):=by rw [w_i64 (by omega) (by omega)];omega
    have hv:=valN_u24 (l:=l.take k) (by simp;omega)
    have hd:=(b.getD (i + 1 + k) 0).toNat_lt
    have e6 : l.take (k + 1) = l.take k ++ [l.getD k 0]:=by
     rw [List.take_add_one,List.getD_eq_getElem?_getD,List.getElem?_eq_getElem hkl]
     rfl
    have e7 : IntKind.u32.wrap (IntKind.u32.wrap (256 * ((valN (l.take k) : Nat) : Int)) + IntKind.u32.wrap (((b.getD (i + 1 + k) 0).toNat : Nat) : Int)) = ((valN (l.take (k + 1)) : Nat) : Int):=by
     rw [e6,valN_snoc,hlj k hkl]
     simp only [w_u32]
     omega
    simp only [e3]
    refine ⟨?_,?_⟩
    ·conv=>whnf
     intro g6
     conv=>whnf
     omega
    conv=>whnf
    refine onB_intro (fun g6=>?_) (fun g6=>?_)
    ·conv=>whnf
     simp [pickB,isLit] at g6
     rw [if_pos (.inr (.inr ⟨by omega,(byte0 _).1 (by simpa using g6.2)⟩))]
     rfl
    ·conv=>whnf
     simp only [e4]
     refine ⟨by omega,?_⟩
     conv=>whnf
     simp only [ti_nat,e5]
     rw [e7]
     refine ⟨l.length - (k + 1),_,by omega,env_weak [0,1,7,8,9] rfl,k + 1,rfl,by omega,fun _=>?_,rfl⟩
     by_cases hk1 : k = 0
     ·subst hk1
      simp [pickB,isLit] at g6
      intro e
      exact g6 (by rw [(byte0 _).2 (by simpa using e)])
     ·exact hk0 (by omega)
   ·have g5:=of_decide_eq_false g5
    obtain rfl : k = l.length:=by omega
    conv=>whnf
    simp only [List.take_length]
    rw [show IntKind.i64.wrap ((l.length : Int) + 1) = ((l.length + 1 : Nat) : Int) from by rw [w_i64 (by omega) (by omega)];omega]
    rw [if_neg (by rintro (q | q | ⟨q1,q2⟩);omega;omega;exact hk0 q1 q2)]
    rfl
end Go.Eng
namespace Go.Eng
open Go Go.RowKit Go.Proofs
def getT (b : List UInt8) (at_ : Int) : Option (ByteArray × Nat):=match getN b at_ with
 | none=>none
 | some (m,n)=>if (b.length : Int) - at_ - n < m then none else if (charsF ⟨((b.drop (at_.toNat + n)).take m).toArray⟩).isSome = true then some (⟨((b.drop (at_.toNat + n)).take m).toArray⟩,n + m) else none
def getTV (o : Option (ByteArray × Nat)) : AV:=match o with
 | some (s,n)=>.tup [vcs s,vci .i64 n,.c (.v .nilIface)]
 | none=>.tup [vcs ⟨#[]⟩,vci .i64 0,errM]
def getTW (o : Option (ByteArray × Nat)) : AV:=match o with
 | some (s,n)=>.tup [vcs s,vci .i64 n,vcb true]
 | none=>.tup [vcs ⟨#[]⟩,vci .i64 0,vcb false]
theorem getN_some {b : List UInt8} {at_ : Int} {v n : Nat} (h : getN b at_ = some (v,n)) : ∃ i : Nat,at_ = i∧i < b.length∧1≤n∧n≤5∧i + n≤b.length∧v < 4294967296∧(b.getD i 0).toNat + 1 = n∧v = valN ((b.drop (i + 1)).take (n - 1))∧(1 < n→b.getD (i + 1) 0≠0):=by
 unfold getN at h
 split at h
 ·cases h
 ·split at h
  ·cases h
  ·rename_i h1 h2
   cases h
   obtain ⟨i,rfl⟩ : ∃ i : Nat,at_ = (i : Int):=⟨at_.toNat,by omega⟩
   rw [ti_nat] at h2 ⊢
   refine ⟨i,rfl,by omega,by omega,by omega,by omega,valN_u32 (by rw [List.length_take];omega),rfl,rfl,fun h e=>h2 (.inr (.inr ⟨by omega,e⟩))⟩
theorem gtext_c (b : List UInt8) (hb : b.length≤100000000) (at_ : Int) (ha1 : -9223372036854775808≤at_) (ha2 : at_≤9223372036854775807) : CallV Tryz.prog 250 [bS b,vci .i64 at_] [] (fun r own'=>own' = []∧r = getTV (getT b at_)):=by
 unfold getT
 refine callV_pure Tryz.func250 rfl ttok ftok rfl rfl rfl (Nat.le_of_ble_eq_true rfl) ?_
 conv=>whnf
 refine call_pure (get_c b (by omega) at_ ha1 ha2) rfl ?_
 rintro _ rfl
 cases hg : getN b at_ with
 | none =>
  conv=>whnf
  try rfl
 | some x =>
  obtain ⟨v,n⟩:=x
  obtain ⟨i,rfl,hi,hn1,hn5,hin,hv,_⟩:=getN_some hg
  have e1 : IntKind.u64.wrap (v : Int) = (v : Int):=by rw [w_u64];omega
  have e2 : IntKind.u64.wrap (IntKind.i64.wrap (IntKind.i64.wrap ((b.length : Int) - i) - n)) = (b.length : Int) - i - n:=by
   rw [w_i64 (x:=(b.length : Int) - i) (by omega) (by omega),w_i64 (by omega) (by omega),w_u64];omega
  conv=>whnf
  simp only [e1,e2,ti_nat]
  refine onB_intro (fun h=>?_) (fun h=>?_)
  ·have h:=of_decide_eq_true h
   rw [if_pos (by omega)]
   conv=>whnf
   try rfl
  ·have h:=of_decide_eq_false h
   rw [if_neg (by omega)]
   have e3 : IntKind.i64.wrap ((i : Int) + n) = ((i + n : Nat) : Int):=by rw [w_i64 (by omega) (by omega)];omega
   have e4 : IntKind.i64.wrap (v : Int) = (v : Int):=w_i64 (by omega) (by omega)
   have e5 : IntKind.i64.wrap (((i + n : Nat) : Int) + (v : Int)) = ((i + n + v : Nat) : Int):=by rw [w_i64 (by omega) (by omega)];omega
   have e6 : IntKind.i64.wrap ((n : Int) + (v : Int)) = ((n + v : Nat) : Int):=by rw [w_i64 (by omega) (by omega)];omega
   obtain ⟨l,hl⟩ : ∃ l,(b.drop (i + n)).take v = l:=⟨_,rfl⟩
   have hll : l.length = v:=by rw [←hl];simp;omega
   have hsz : (⟨l.toArray⟩ : ByteArray).size = l.length:=by show l.toArray.size = _;simp
   rw [hl]
   conv=>whnf
   simp only [e3,e4,e5,ti_nat]
   refine ⟨by omega,?_⟩
   conv=>whnf
   refine sl_ex (enc:=b1) (d:=0) l (by rw [hll];omega) (fun j hj=>?_) ?_
   ·rw [←hl,getD_take _ _ _ _ (by omega),getD_drop]
   conv=>whnf
   refine ⟨l,rfl,fun _ _=>rfl,?_⟩
   conv=>whnf
   refine call_pure (valid_c ⟨l.toArray⟩ (by rw [hsz];omega)) rfl ?_
   rintro _ rfl
   cases hc : (charsF ⟨l.toArray⟩).isSome with
   | true =>
    conv=>whnf
    rw [e4,e6]
    rfl
   | false =>
    conv=>whnf
    try rfl
theorem rgtext_c (b : List UInt8) (hb : b.length≤100000000) (at_ : Int) (ha1 : -9223372036854775808≤at_) (ha2 : at_≤9223372036854775807) : CallV Tryz.prog 152 [bS b,vci .i64 at_] [] (fun r own'=>own' = []∧r = getTW (getT b at_)):=by
 unfold getT
 refine callV_pure Tryz.func152 rfl ttok ftok rfl rfl rfl (Nat.le_of_ble_eq_true rfl) ?_
 conv=>whnf
 refine call_pure (rget_c b (by omega) at_ ha1 ha2) rfl ?_
 rintro _ rfl
 cases hg : getN b at_ with
 | none =>
  conv=>whnf
  try rfl
 | some x =>
  obtain ⟨v,n⟩:=x
  obtain ⟨i,rfl,hi,hn1,hn5,hin,hv,_⟩:=getN_some hg
  have e1 : IntKind.i64.wrap (v : Int) = (v : Int):=w_i64 (by omega) (by omega)
  have e2 : IntKind.i64.wrap (IntKind.i64.wrap ((b.length : Int) - i) - n) = (b.length : Int) - i - n:=by
   rw [w_i64 (x:=(b.length : Int) - i) (by omega) (by omega),w_i64 (by omega) (by omega)]
  conv=>whnf
  simp only [e1,e2,ti_nat]
  refine onB_intro (fun h=>?_) (fun h=>?_)
  ·have h:=of_decide_eq_true h
   rw [if_pos (by omega)]
   conv=>whnf
   try rfl
  ·have h:=of_decide_eq_false h
   rw [if_neg (by omega)]
   have e3 : IntKind.i64.wrap ((i : Int) + n) = ((i + n : Nat) : Int):=by rw [w_i64 (by omega) (by omega)];omega
   have e4 : IntKind.i64.wrap (v : Int) = (v : Int):=w_i64 (by omega) (by omega)
   have e5 : IntKind.i64.wrap (((i + n : Nat) : Int) + (v : Int)) = ((i + n + v : Nat) : Int):=by rw [w_i64 (by omega) (by omega)];omega
   have e6 : IntKind.i64.wrap ((n : Int) + (v : Int)) = ((n + v : Nat) : Int):=by rw [w_i64 (by omega) (by omega)];omega
   obtain ⟨l,hl⟩ : ∃ l,(b.drop (i + n)).take v = l:=⟨_,rfl⟩
   have hll : l.length = v:=by rw [←hl];simp;omega
   have hsz : (⟨l.toArray⟩ : ByteArray).size = l.length:=by show l.toArray.size = _;simp
   rw [hl]
   conv=>whnf
   simp only [e3,e4,e5,ti_nat]
   refine ⟨by omega,?_⟩
   conv=>whnf
   refine sl_ex (enc:=b1) (d:=0) l (by rw [hll];omega) (fun j hj=>?_) ?_
   ·rw [←hl,getD_take _ _ _ _ (by omega),getD_drop]
   conv=>whnf
   refine ⟨l,rfl,fun _ _=>rfl,?_⟩
   conv=>whnf
   cases hc : charsF ⟨l.toArray⟩ with
   | some L =>
    refine call_pure (chars_c ⟨l.toArray⟩ (by rw [hsz];omega)) rfl ?_
    rintro _ rfl
    unfold charsV
    rw [hc]
    conv=>whnf
    rw [e4,e6]
    rfl
   | none =>
    refine call_pure (chars_c ⟨l.toArray⟩ (by rw [hsz];omega)) rfl ?_
    rintro _ rfl
    unfold charsV
    rw [hc]
    conv=>whnf
    try rfl
end Go.Eng
namespace Go.Eng
open Go Go.RowKit
end Go.Eng
namespace Go.Eng
open Go Go.RowKit Go.Proofs
abbrev uF (v : Int) : List IC:=[vu v]
abbrev uRow (l : List Int) : Option Ob:=some (.row 22 1 l.length fun k=>uF (l.getD k 0))
end Go.Eng
namespace Go.Eng
open Go Go.RowKit Go.Proofs
end Go.Eng
namespace Go.Eng
open Go Go.RowKit Go.Proofs
end Go.Eng
namespace Go.Eng
open Go Go.RowKit Go.Proofs
end Go.Eng
namespace Go.Eng
open Go Go.RowKit Go.Proofs
abbrev RS:=Nat × Bool
abbrev badC (bad : Bool) : IC:=.v (match bad with | true=>.iface 111 (.int .i64 2) | false=>.nilIface)
abbrev rO (b : List UInt8) (s : RS) : Option Ob:=some (.cells 276 [.sl 1 b.length (byteF b),vi s.1,badC s.2])
def numS (b : List UInt8) (s : RS) : Nat × RS:=match s.2 with
 | true=>(0,s)
 | false=>match getN b s.1 with
  | some (v,n)=>(v,(s.1 + n,false))
  | none=>(0,(s.1,true))
theorem numS_le {b : List UInt8} {s : RS} (h : s.1≤b.length) : (numS b s).2.1≤b.length∧(numS b s).1 < 4294967296:=by
 obtain ⟨at_,bad⟩:=s
 unfold numS
 cases bad with
 | true=>exact ⟨h,Nat.zero_lt_succ _⟩
 | false =>
  simp only
  cases hg : getN b (at_ : Nat) with
  | none=>exact ⟨h,Nat.zero_lt_succ _⟩
  | some x =>
   obtain ⟨v,n⟩:=x
   obtain ⟨i,hi,h1,h2,h3,h4,h5,_⟩:=getN_some hg
   obtain rfl : at_ = i:=by omega
   exact ⟨h4,h5⟩
theorem number_c (b : List UInt8) (hb : b.length≤100000) (s : RS) (hs : s.1≤b.length) : CallV Tryz.prog 141 [.c (.own 0 0)] [rO b s] (fun r own'=>r = vci .u32 ((numS b s).1 : Nat)∧own' = [rO b (numS b s).2]):=by
 obtain ⟨at_,bad⟩:=s
 simp only at hs
 refine callV_own Tryz.func141 rfl ttok ftok rfl rfl rfl (Nat.le_of_ble_eq_true rfl) rfl ?_
 conv=>whnf
 cases bad with
 | true =>
  conv=>whnf
  refine ⟨_,Weak.refl _,?_⟩
  conv=>whnf
  exact ⟨[some 0],rfl,rfl,rfl,rfl⟩
 | false =>
  conv=>whnf
  refine drawV_sched (.rd 0 (.rd 1 (.rd 2 (.rd 3 (.rd 4 (.rd 5 (.rd 6 (.rd 7 (.ef 8 (.rd 9 (.rd 10 (.rd 11 (.rd 12 (.rd 13 (.rd 14 (.rd 15 (.nil))))))))))))))))) [] mixed (by kernel_rfl) ttok ftok ?_
  conv=>whnf
  refine call_pure (get_c b (by omega) (at_ : Nat) (by omega) (by omega)) rfl ?_
  rintro _ rfl
  have hle:=numS_le (b:=b) (s:=(at_,false)) hs
  cases hg : getN b (at_ : Nat) with
  | none =>
   have he : numS b (at_,false) = (0,(at_,true)):=by unfold numS;simp only [hg]
   rw [he]
   have e1 : IntKind.i64.wrap ((at_ : Int) + 0) = (at_ : Int):=by rw [Int.add_zero];exact w_i64 (by omega) (by omega)
   conv=>whnf
   simp only [e1]
   refine ⟨_,Weak.refl _,?_⟩
   conv=>whnf
   exact ⟨[some 0],rfl,rfl,rfl,rfl⟩
  | some x =>
   obtain ⟨v,n⟩:=x
   have he : numS b (at_,false) = (v,(at_ + n,false)):=by unfold numS;simp only [hg]
   rw [he] at hle ⊢
   simp only at hle
   have e1 : IntKind.i64.wrap ((at_ : Int) + (n : Int)) = ((at_ + n : Nat) : Int):=by rw [w_i64 (by omega) (by omega)];omega
   conv=>whnf
   simp only [e1]
   refine ⟨_,Weak.refl _,?_⟩
   conv=>whnf
   exact ⟨[some 0],rfl,rfl,rfl,rfl⟩
def idS (b : List UInt8) (s : RS) : I2 × RS:=(((numS b s).1,(numS b (numS b s).2).1),(numS b (numS b s).2).2)
theorem rdid_c (b : List UInt8) (hb : b.length≤100000) (s : RS) (hs : s.1≤b.length) : CallV Tryz.prog 202 [.c (.own 0 0)] [rO b s] (fun r own'=>r = idA (idS b s).1∧own' = [rO b (idS b s).2]):=by
 have h1:=numS_le hs
 refine callV_own Tryz.func202 rfl ttok ftok rfl rfl rfl (Nat.le_of_ble_eq_true rfl) rfl ?_
 conv=>whnf
 refine call_frame2 [some 0] rfl rfl rfl rfl (number_c b hb s hs) ?_
 rintro r own2 ⟨rfl,rfl⟩
 refine ⟨_,_,rfl,rfl,?_⟩
 conv=>whnf
 refine call_frame2 [some 0] rfl rfl rfl rfl (number_c b hb (numS b s).2 h1.1) ?_
 rintro r own2 ⟨rfl,rfl⟩
 refine ⟨_,_,rfl,rfl,?_⟩
 conv=>whnf
 refine ⟨_,Weak.refl _,?_⟩
 conv=>whnf
 exact ⟨[some 0],rfl,rfl,rfl,rfl⟩
theorem idS_le {b : List UInt8} {s : RS} (h : s.1≤b.length) : (idS b s).2.1≤b.length∧u32P (idS b s).1:=by
 have h1:=numS_le h
 have h2:=numS_le h1.1
 refine ⟨h2.1,?_⟩
 unfold idS u32P
 refine ⟨⟨by simp only;omega,by simp only;omega⟩,by simp only;omega,by simp only;omega⟩
def txtS (b : List UInt8) (s : RS) : ByteArray × RS:=match s.2 with
 | true=>(⟨#[]⟩,s)
 | false=>match getT b s.1 with
  | some (t,n)=>(t,(s.1 + n,false))
  | none=>(⟨#[]⟩,(s.1,true))
theorem getT_le {b : List UInt8} {i : Nat} {t : ByteArray} {n : Nat} (h : getT b (i : Nat) = some (t,n)) : i + n≤b.length∧t.size≤n∧1≤n:=by
 unfold getT at h
 split at h
 ·cases h
 ·rename_i m k hg
  obtain ⟨i',hi,h1,h2,h3,h4,h5,_⟩:=getN_some hg
  obtain rfl : i = i':=by omega
  split at h
  ·cases h
  ·split at h
   ·cases h
    refine ⟨by omega,?_,by omega⟩
    show ((List.take m (List.drop ((i : Int).toNat + k) b)).toArray).size≤_
    simp
    omega
   ·cases h
theorem txtS_le {b : List UInt8} {s : RS} (h : s.1≤b.length) : (txtS b s).2.1≤b.length∧(txtS b s).1.size≤b.length:=by
 obtain ⟨at_,bad⟩:=s
 unfold txtS
 cases bad with
 | true=>exact ⟨h,Nat.zero_le _⟩
 | false =>
  simp only
  cases hg : getT b (at_ : Nat) with
  | none=>exact ⟨h,Nat.zero_le _⟩
  | some x =>
   obtain ⟨t,n⟩:=x
   have:=getT_le hg
   exact ⟨this.1,by simp only;omega⟩
theorem rdtext_c (b : List UInt8) (hb : b.length≤100000) (s : RS) (hs : s.1≤b.length) : CallV Tryz.prog 203 [.c (.own 0 0)] [rO b s] (fun r own'=>r = vcs (txtS b s).1∧own' = [rO b (txtS b s).2]):=by
 obtain ⟨at_,bad⟩:=s
 simp only at hs
 refine callV_own Tryz.func203 rfl ttok ftok rfl rfl rfl (Nat.le_of_ble_eq_true rfl) rfl ?_
 conv=>whnf
 cases bad with
 | true =>
  conv=>whnf
  refine ⟨_,Weak.refl _,?_⟩
  conv=>whnf
  exact ⟨[some 0],rfl,rfl,rfl,rfl⟩
 | false =>
  conv=>whnf
  refine drawV_sched (.rd 0 (.rd 1 (.rd 2 (.rd 3 (.rd 4 (.rd 5 (.rd 6 (.rd 7 (.ef 8 (.rd 9 (.rd 10 (.rd 11 (.rd 12 (.rd 13 (.rd 14 (.rd 15 (.nil))))))))))))))))) [] mixed (by kernel_rfl) ttok ftok ?_
  conv=>whnf
  refine call_pure (gtext_c b (by omega) (at_ : Nat) (by omega) (by omega)) rfl ?_
  rintro _ rfl
  have hle:=txtS_le (b:=b) (s:=(at_,false)) hs
  cases hg : getT b (at_ : Nat) with
  | none =>
   have he : txtS b (at_,false) = (⟨#[]⟩,(at_,true)):=by unfold txtS;simp only [hg]
   rw [he]
   have e1 : IntKind.i64.wrap ((at_ : Int) + 0) = (at_ : Int):=by rw [Int.add_zero];exact w_i64 (by omega) (by omega)
   conv=>whnf
   simp only [e1]
   refine ⟨_,Weak.refl _,?_⟩
   conv=>whnf
   exact ⟨[some 0],rfl,rfl,rfl,rfl⟩
  | some x =>
   obtain ⟨v,n⟩:=x
   have he : txtS b (at_,false) = (v,(at_ + n,false)):=by unfold txtS;simp only [hg]
   rw [he] at hle ⊢
   simp only at hle
   have e1 : IntKind.i64.wrap ((at_ : Int) + (n : Int)) = ((at_ + n : Nat) : Int):=by rw [w_i64 (by omega) (by omega)];omega
   conv=>whnf
   simp only [e1]
   refine ⟨_,Weak.refl _,?_⟩
   conv=>whnf
   exact ⟨[some 0],rfl,rfl,rfl,rfl⟩
def runS (b : List UInt8) (s : RS) : Ru × RS :=
 let a:=idS b s
 let l:=idS b a.2
 let r:=idS b l.2
 let t:=txtS b r.2
 (⟨a.1,l.1,r.1,t.1⟩,t.2)
theorem runS_le {b : List UInt8} {s : RS} (h : s.1≤b.length) (hb : b.length≤100000) : (runS b s).2.1≤b.length∧ruOk (runS b s).1∧(runS b s).1.text.size≤b.length:=by
 have h1:=idS_le h
 have h2:=idS_le h1.1
 have h3:=idS_le h2.1
 have h4:=txtS_le h3.1
 exact ⟨h4.1,⟨h1.2,h2.2,h3.2,Nat.le_trans h4.2 (by omega)⟩,h4.2⟩
theorem rdrun_c (b : List UInt8) (hb : b.length≤100000) (s : RS) (hs : s.1≤b.length) : CallV Tryz.prog 142 [.c (.own 0 0)] [rO b s] (fun r own'=>r = .agg (ruF (runS b s).1)∧own' = [rO b (runS b s).2]):=by
 have h1:=idS_le hs
 have h2:=idS_le h1.1
 have h3:=idS_le h2.1
 refine callV_own Tryz.func142 rfl ttok ftok rfl rfl rfl (Nat.le_of_ble_eq_true rfl) rfl ?_
 conv=>whnf
 refine call_frame2 [some 0] rfl rfl rfl rfl (rdid_c b hb s hs) ?_
 rintro r own2 ⟨rfl,rfl⟩
 refine ⟨_,_,rfl,rfl,?_⟩
 conv=>whnf
 refine call_frame2 [some 0] rfl rfl rfl rfl (rdid_c b hb (idS b s).2 h1.1) ?_
 rintro r own2 ⟨rfl,rfl⟩
 refine ⟨_,_,rfl,rfl,?_⟩
 conv=>whnf
 refine call_frame2 [some 0] rfl rfl rfl rfl (rdid_c b hb _ h2.1) ?_
 rintro r own2 ⟨rfl,rfl⟩
 refine ⟨_,_,rfl,rfl,?_⟩
 conv=>whnf
 refine drawV_sched (.rd 0 (.rd 1 (.rd 2 (.rd 3 (.ef 4 (.rd 5 (.ef 6 (.nil)))))))) [0,1] mixed (by kernel_rfl) ttok ftok ?_
 conv=>whnf
 refine call_frame2 [some 0] rfl rfl rfl rfl (rdtext_c b hb _ h3.1) ?_
 rintro r own2 ⟨rfl,rfl⟩
 refine ⟨_,_,rfl,rfl,?_⟩
 conv=>whnf
 refine ⟨_,Weak.refl _,?_⟩
 conv=>whnf
 exact ⟨[some 0],rfl,rfl,rfl,rfl⟩
def spanS (b : List UInt8) (s : RS) : Sp × RS :=
 let c:=numS b s
 let f:=numS b c.2
 let t:=numS b f.2
 (⟨c.1,f.1,t.1⟩,t.2)
theorem spanS_le {b : List UInt8} {s : RS} (h : s.1≤b.length) : (spanS b s).2.1≤b.length∧spOk (spanS b s).1:=by
 have h1:=numS_le h
 have h2:=numS_le h1.1
 have h3:=numS_le h2.1
 refine ⟨h3.1,⟨?_,?_⟩,⟨?_,?_⟩,?_,?_⟩ <;> (unfold spanS;simp only;omega)
theorem rdspan_c (b : List UInt8) (hb : b.length≤100000) (s : RS) (hs : s.1≤b.length) : CallV Tryz.prog 143 [.c (.own 0 0)] [rO b s] (fun r own'=>r = .agg (spF (spanS b s).1)∧own' = [rO b (spanS b s).2]):=by
 have h1:=numS_le hs
 have h2:=numS_le h1.1
 refine callV_own Tryz.func143 rfl ttok ftok rfl rfl rfl (Nat.le_of_ble_eq_true rfl) rfl ?_
 conv=>whnf
 refine call_frame2 [some 0] rfl rfl rfl rfl (number_c b hb s hs) ?_
 rintro r own2 ⟨rfl,rfl⟩
 refine ⟨_,_,rfl,rfl,?_⟩
 conv=>whnf
 refine call_frame2 [some 0] rfl rfl rfl rfl (number_c b hb _ h1.1) ?_
 rintro r own2 ⟨rfl,rfl⟩
 refine ⟨_,_,rfl,rfl,?_⟩
 conv=>whnf
 refine call_frame2 [some 0] rfl rfl rfl rfl (number_c b hb _ h2.1) ?_
 rintro r own2 ⟨rfl,rfl⟩
 refine ⟨_,_,rfl,rfl,?_⟩
 conv=>whnf
 refine ⟨_,Weak.refl _,?_⟩
 conv=>whnf
 exact ⟨[some 0],rfl,rfl,rfl,rfl⟩
end Go.Eng
namespace Go.Eng
open Go Go.RowKit Go.Proofs
abbrev spRow (l : List Sp) : Option Ob:=some (.row 154 3 l.length fun k=>spF (l.getD k sp0))
def runsS (b : List UInt8) : Nat→List Ru→RS→List Ru × RS
 | 0,acc,s=>(acc,s)
 | n + 1,acc,s=>match s.2 with
  | true=>(acc,s)
  | false=>runsS b n (acc ++ [(runS b s).1]) (runS b s).2
def spansS (b : List UInt8) : Nat→List Sp→RS→List Sp × RS
 | 0,acc,s=>(acc,s)
 | n + 1,acc,s=>match s.2 with
  | true=>(acc,s)
  | false=>spansS b n (acc ++ [(spanS b s).1]) (spanS b s).2
def sizes (l : List Ru) : Nat:=(l.map fun r=>r.text.size).sum
theorem sizes_snoc (l : List Ru) (r : Ru) : sizes (l ++ [r]) = sizes l + r.text.size:=by unfold sizes;rw [List.map_append,List.sum_append];simp
theorem numS_go (b : List UInt8) (s : RS) : s.1≤(numS b s).2.1∧(s.2 = true→(numS b s).2 = s)∧((numS b s).2.2 = false→s.1 + 1≤(numS b s).2.1):=by
 obtain ⟨at_,bad⟩:=s
 unfold numS
 cases bad with
 | true=>exact ⟨Nat.le_refl _,fun _=>rfl,fun h=>(nomatch h)⟩
 | false =>
  simp only
  cases hg : getN b (at_ : Nat) with
  | none=>exact ⟨Nat.le_refl _,fun h=>(nomatch h),fun h=>(nomatch h)⟩
  | some x =>
   obtain ⟨v,n⟩:=x
   obtain ⟨i,hi,h1,h2,_⟩:=getN_some hg
   exact ⟨by simp only;omega,fun h=>(nomatch h),fun _=>by simp only;omega⟩
theorem txtS_go (b : List UInt8) (s : RS) : s.1 + (txtS b s).1.size≤(txtS b s).2.1:=by
 obtain ⟨at_,bad⟩:=s
 unfold txtS
 cases bad with
 | true=>exact Nat.le_refl _
 | false =>
  simp only
  cases hg : getT b (at_ : Nat) with
  | none=>exact Nat.le_refl _
  | some x =>
   obtain ⟨t,n⟩:=x
   have:=getT_le hg
   simp only
   omega
theorem txtS_bad (b : List UInt8) (s : RS) (h : s.2 = true) : (txtS b s).2.2 = true:=by
 unfold txtS
 rw [h]
 simp only
 exact h
theorem numS_bad (b : List UInt8) (s : RS) (h : s.2 = true) : (numS b s).2.2 = true:=by rw [(numS_go b s).2.1 h];exact h
theorem idS_go (b : List UInt8) (s : RS) : s.1≤(idS b s).2.1∧((idS b s).2.2 = false→s.1 + 1≤(idS b s).2.1):=by
 have h1:=numS_go b s
 have h2:=numS_go b (numS b s).2
 unfold idS
 simp only
 refine ⟨by omega,fun h=>?_⟩
 have:=h2.2.2 h
 omega
theorem runS_go (b : List UInt8) (s : RS) : s.1 + (runS b s).1.text.size≤(runS b s).2.1∧((runS b s).2.2 = false→s.1 + 1≤(runS b s).2.1):=by
 have h1:=idS_go b s
 have h2:=idS_go b (idS b s).2
 have h3:=idS_go b (idS b (idS b s).2).2
 have h4:=txtS_go b (idS b (idS b (idS b s).2).2).2
 unfold runS
 simp only
 refine ⟨by omega,fun h=>?_⟩
 have h5 : (idS b (idS b (idS b s).2).2).2.2 = false:=by
  cases hq : (idS b (idS b (idS b s).2).2).2.2 with
  | false=>rfl
  | true=>rw [txtS_bad b _ hq] at h;cases h
 have:=h3.2 h5
 omega
theorem spanS_go (b : List UInt8) (s : RS) : s.1≤(spanS b s).2.1∧((spanS b s).2.2 = false→s.1 + 1≤(spanS b s).2.1):=by
 have h1:=numS_go b s
 have h2:=numS_go b (numS b s).2
 have h3:=numS_go b (numS b (numS b s).2).2
 unfold spanS
 simp only
 refine ⟨by omega,fun h=>?_⟩
 have:=h3.2.2 h
 omega
def goodR (b : List UInt8) (acc : List Ru) (s : RS) : Prop:=s.1≤b.length∧acc.length≤s.1 + (match s.2 with | true=>1 | false=>0)∧sizes acc≤s.1∧∀ r,r ∈ acc→ruOk r∧r.text.size≤b.length
theorem goodR_go {b : List UInt8} {acc : List Ru} {s : RS} (h : goodR b acc s) (hs : s.2 = false) (hb : b.length≤100000) : goodR b (acc ++ [(runS b s).1]) (runS b s).2:=by
 obtain ⟨h1,h2,h3,h4⟩:=h
 have g1:=runS_le h1 hb
 have g2:=runS_go b s
 rw [hs] at h2
 refine ⟨g1.1,?_,?_,fun r hr=>?_⟩
 ·rw [List.length_append,List.length_singleton]
  cases hq : (runS b s).2.2 with
  | true=>simp only at h2 ⊢;omega
  | false=>have:=g2.2 hq;simp only at h2 ⊢;omega
 ·rw [sizes_snoc];omega
 ·rcases List.mem_append.1 hr with hr | hr
  ·exact h4 r hr
  ·rw [List.mem_singleton.1 hr];exact ⟨g1.2.1,g1.2.2⟩
def goodP (b : List UInt8) (acc : List Sp) (s : RS) : Prop:=s.1≤b.length∧acc.length≤s.1 + (match s.2 with | true=>1 | false=>0)∧∀ r,r ∈ acc→spOk r
theorem goodP_go {b : List UInt8} {acc : List Sp} {s : RS} (h : goodP b acc s) (hs : s.2 = false) : goodP b (acc ++ [(spanS b s).1]) (spanS b s).2:=by
 obtain ⟨h1,h2,h4⟩:=h
 have g1:=spanS_le h1
 have g2:=spanS_go b s
 rw [hs] at h2
 refine ⟨g1.1,?_,fun r hr=>?_⟩
 ·rw [List.length_append,List.length_singleton]
  cases hq : (spanS b s).2.2 with
  | true=>simp only at h2 ⊢;omega
  | false=>have:=g2.2 hq;simp only at h2 ⊢;omega
 ·rcases List.mem_append.1 hr with hr | hr
  ·exact h4 r hr
  ·rw [List.mem_singleton.1 hr];exact g1.2
theorem itemsR_sizes : ∀ rs : List Ru,(itemsR rs).length≤sizes rs
 | []=>by simp [itemsR]
 | r :: rs=>by
  have h1:=itemsR_sizes rs
  have h3:=chOf_len r
  have e : itemsR (r :: rs) = itsR r ++ itemsR rs:=by unfold itemsR;rw [List.flatMap_cons]
  rw [e,List.length_append,itsR_len]
  unfold sizes at h1 ⊢
  rw [List.map_cons,List.sum_cons]
  omega
def getS (b : List UInt8) : Ba × RS :=
 let n:=numS b (0,false)
 let R:=runsS b n.1 [] n.2
 let m:=numS b R.2
 let D:=spansS b m.1 [] m.2
 (⟨R.1,D.1⟩,D.2)
def isB (b : List UInt8) : Prop:=b.length≤20000∧(getS b).2 = (b.length,false)∧mayB (getS b).1
def bgI (b : List UInt8) (T : List Ru × RS) (n : Nat) (st : St) : Prop:=∃ (acc : List Ru) (s : RS),runsS b n acc s = T∧goodR b acc s∧n < 4294967296 ∧
 st = ⟨78,0,[(0,bS b),(2,.c (.own 0 0)),(4,.c (.own 1 0)),(5,.c (.own 2 0)),(6,vci .u32 (n : Nat))],[some (.cells 58 [.v (.slice none 0 0),.v (.slice none 0 0)]),rO b s,some (.cells 58 [.row 3,.row 4]),ruRow acc,spRow []]⟩
def bhI (b : List UInt8) (R : List Ru) (T : List Sp × RS) (n : Nat) (st : St) : Prop:=∃ (acc : List Sp) (s : RS),spansS b n acc s = T∧goodP b acc s∧n < 4294967296 ∧
 st = ⟨78,0,[(0,bS b),(2,.c (.own 0 0)),(4,.c (.own 1 0)),(5,.c (.own 2 0)),(7,vci .u32 (n : Nat))],[some (.cells 58 [.v (.slice none 0 0),.v (.slice none 0 0)]),rO b s,some (.cells 58 [.row 3,.row 4]),ruRow R,spRow acc]⟩
theorem bget_c (b : List UInt8) (hb : b.length≤1048576) : CallV Tryz.prog 87 [bS b] [] (fun r own'=>own' = []∧((isB b∧r = .tup [.agg (baF (getS b).1),.c (.v .nilIface)])∨(¬ isB b∧r = .tup [.agg [.v (.slice none 0 0),.v (.slice none 0 0)],errM]))):=by
 refine callV_pure Tryz.func87 rfl ttok ftok rfl rfl rfl (Nat.le_of_ble_eq_true rfl) ?_
 conv=>whnf
 by_cases hbig : b.length≤20000
 ·rw [show decide (((b.length : Nat) : Int) > 20000) = false from decide_eq_false (by omega)]
  conv=>whnf
  refine call_frame2 [some 1] rfl rfl rfl rfl (number_c b (by omega) (0,false) (Nat.zero_le _)) ?_
  rintro r own2 ⟨rfl,rfl⟩
  refine ⟨_,_,rfl,rfl,?_⟩
  have hn1:=numS_le (b:=b) (s:=(0,false)) (Nat.zero_le _)
  conv=>whnf
  have hT : ∃ T,runsS b (numS b (0,false)).1 [] (numS b (0,false)).2 = T:=⟨_,rfl⟩
  obtain ⟨T,hT⟩:=hT
  refine loopV_cut 0 (fun st=>goodR b T.1 T.2∧st = ⟨78,0,[(0,bS b),(2,.c (.own 0 0)),(4,.c (.own 1 0)),(5,.c (.own 2 0))],[some (.cells 58 [.v (.slice none 0 0),.v (.slice none 0 0)]),rO b T.2,some (.cells 58 [.row 3,.row 4]),ruRow T.1,spRow []]⟩) ?_ ?_
  ·refine loopV ttok ftok (bgI b T) (((nil_cell 2 0 138 7 (fun k=>ruF (([] : List Ru).getD k ru0)) rfl rfl).trans (nil_cell 2 1 154 3 (fun k=>spF (([] : List Sp).getD k sp0)) rfl rfl)).trans (norm_weak [0,2,4,5,6] [some 0,some 1,some 2,some 3,some 4] rfl rfl))
    ⟨[],(numS b (0,false)).2,hT,⟨hn1.1,by simp,by simp [sizes],fun r hr=>by simp at hr⟩,hn1.2,rfl⟩ ?_
   rintro n st ⟨acc,⟨at_,bad⟩,hrun,hgood,hn,rfl⟩
   have hgood0:=hgood
   obtain ⟨h1,h2,h3,h4⟩:=hgood
   simp only at h1 h2
   cases bad with
   | true =>
    have hT2 : T = (acc,(at_,true)):=by rw [←hrun];cases n <;> rfl
    conv=>whnf
    refine onB_intro (fun h=>absurd h (by simp [pickB,isLit])) (fun _=>?_)
    conv=>whnf
    exact ⟨rfl,_,norm_weak [0,2,4,5] [some 0,some 1,some 2,some 3,some 4] rfl rfl,by rw [hT2];exact hgood0,by rw [hT2];rfl⟩
   | false =>
    simp only at h2
    cases n with
    | zero =>
     have hT2 : T = (acc,(at_,false)):=hrun.symm
     conv=>whnf
     exact ⟨rfl,_,norm_weak [0,2,4,5] [some 0,some 1,some 2,some 3,some 4] rfl rfl,by rw [hT2];exact hgood0,by rw [hT2];rfl⟩
    | succ n =>
     have hrun : runsS b n (acc ++ [(runS b (at_,false)).1]) (runS b (at_,false)).2 = T:=hrun
     have hgn:=goodR_go hgood0 rfl (by omega)
     conv=>whnf
     refine onB_intro (fun _=>?_) (fun h=>absurd h (by simp [pickB,isLit]))
     conv=>whnf
     refine drawV_loud 5 [0,1,2] [3,4] [1,3] mixed (by kernel_rfl) ttok ftok ?_
     conv=>whnf
     refine call_frame2 [some 1] rfl rfl rfl rfl (rdrun_c b (by omega) (at_,false) h1) ?_
     rintro r own2 ⟨rfl,rfl⟩
     refine ⟨.agg (ruF (runS b (at_,false)).1),[none,rO b (runS b (at_,false)).2,none,ruRow acc,none],rfl,rfl,?_⟩
     generalize runS b (at_,false) = q at hrun hgn
     conv=>whnf
     refine ⟨fun _=>ruF q.1,one_at _,?_⟩
     conv=>whnf
     refine ⟨rfl,?_⟩
     conv=>whnf
     refine ⟨⟨by omega,by simp only [show ti138.bytes = 40 from rfl];omega⟩,?_⟩
     conv=>whnf
     refine app1 (enc:=ruF) (d:=ru0) q.1 (fun k hk=>rfl) rfl ?_
     conv=>whnf
     rw [show IntKind.u32.wrap (((n + 1 : Nat) : Int) - 1) = (n : Int) from by rw [w_u32];omega]
     exact ⟨n,_,by omega,norm_weak [0,2,4,5,6] [some 0,some 1,some 2,some 6,some 4] rfl rfl,acc ++ [q.1],q.2,hrun,hgn,by omega,rfl⟩
  rintro st ⟨hgood,rfl⟩
  have hgs : getS b = (⟨T.1,(spansS b (numS b T.2).1 [] (numS b T.2).2).1⟩,(spansS b (numS b T.2).1 [] (numS b T.2).2).2):=by unfold getS;simp only [hT]
  obtain ⟨R,s1⟩:=T
  simp only at hgood hgs ⊢
  have hn3:=numS_le (b:=b) (s:=s1) hgood.1
  conv=>whnf
  refine call_frame2 [some 1] rfl rfl rfl rfl (number_c b (by omega) s1 hgood.1) ?_
  rintro r own2 ⟨rfl,rfl⟩
  refine ⟨_,_,rfl,rfl,?_⟩
  conv=>whnf
  obtain ⟨T2,hT2⟩ : ∃ T2,spansS b (numS b s1).1 [] (numS b s1).2 = T2:=⟨_,rfl⟩
  rw [hT2] at hgs
  refine loopV_cut 2 (fun st=>goodP b T2.1 T2.2∧st = ⟨78,0,[(0,bS b),(2,.c (.own 0 0)),(4,.c (.own 1 0)),(5,.c (.own 2 0))],[some (.cells 58 [.v (.slice none 0 0),.v (.slice none 0 0)]),rO b T2.2,some (.cells 58 [.row 3,.row 4]),ruRow R,spRow T2.1]⟩) ?_ ?_
  ·refine loopV ttok ftok (bhI b R T2) (norm_weak [0,2,4,5,7] [some 0,some 1,some 2,some 3,some 4] rfl rfl)
    ⟨[],(numS b s1).2,hT2,⟨hn3.1,by simp,fun r hr=>by simp at hr⟩,hn3.2,rfl⟩ ?_
   rintro n st ⟨acc,⟨at_,bad⟩,hrun,hgood2,hn,rfl⟩
   have hgood0:=hgood2
   obtain ⟨h1,h2,h4⟩:=hgood2
   simp only at h1 h2
   cases bad with
   | true =>
    have hT3 : T2 = (acc,(at_,true)):=by rw [←hrun];cases n <;> rfl
    conv=>whnf
    refine onB_intro (fun h=>absurd h (by simp [pickB,isLit])) (fun _=>?_)
    conv=>whnf
    exact ⟨rfl,_,norm_weak [0,2,4,5] [some 0,some 1,some 2,some 3,some 4] rfl rfl,by rw [hT3];exact hgood0,by rw [hT3];rfl⟩
   | false =>
    simp only at h2
    cases n with
    | zero =>
     have hT3 : T2 = (acc,(at_,false)):=hrun.symm
     conv=>whnf
     exact ⟨rfl,_,norm_weak [0,2,4,5] [some 0,some 1,some 2,some 3,some 4] rfl rfl,by rw [hT3];exact hgood0,by rw [hT3];rfl⟩
    | succ n =>
     have hrun : spansS b n (acc ++ [(spanS b (at_,false)).1]) (spanS b (at_,false)).2 = T2:=hrun
     have hgn:=goodP_go hgood0 rfl
     conv=>whnf
     refine onB_intro (fun _=>?_) (fun h=>absurd h (by simp [pickB,isLit]))
     conv=>whnf
     refine drawV_loud 5 [0,1,2] [3,4] [1,4] mixed (by kernel_rfl) ttok ftok ?_
     conv=>whnf
     refine call_frame2 [some 1] rfl rfl rfl rfl (rdspan_c b (by omega) (at_,false) h1) ?_
     rintro r own2 ⟨rfl,rfl⟩
     refine ⟨.agg (spF (spanS b (at_,false)).1),[none,rO b (spanS b (at_,false)).2,none,none,spRow acc],rfl,rfl,?_⟩
     generalize spanS b (at_,false) = q at hrun hgn
     conv=>whnf
     refine ⟨fun _=>spF q.1,one_at _,?_⟩
     conv=>whnf
     refine ⟨rfl,?_⟩
     conv=>whnf
     refine ⟨⟨by omega,by simp only [show ti154.bytes = 12 from rfl];omega⟩,?_⟩
     conv=>whnf
     refine app1 (enc:=spF) (d:=sp0) q.1 (fun k hk=>rfl) rfl ?_
     conv=>whnf
     rw [show IntKind.u32.wrap (((n + 1 : Nat) : Int) - 1) = (n : Int) from by rw [w_u32];omega]
     exact ⟨n,_,by omega,norm_weak [0,2,4,5,7] [some 0,some 1,some 2,some 3,some 6] rfl rfl,acc ++ [q.1],q.2,hrun,hgn,by omega,rfl⟩
  rintro st ⟨hgood2,rfl⟩
  obtain ⟨D,at_,bad⟩:=T2
  simp only at hgood2 hgs ⊢
  have his : isB b↔(bad = false∧at_ = b.length∧mayB ⟨R,D⟩):=by
   unfold isB
   rw [hgs]
   simp only [Prod.mk.injEq]
   exact ⟨fun h=>⟨h.2.1.2,h.2.1.1,h.2.2⟩,fun h=>⟨hbig,⟨h.2.1,h.1⟩,h.2.2⟩⟩
  rw [hgs]
  cases bad with
  | true =>
   conv=>whnf
   exact .inr ⟨fun e=>(nomatch (his.1 e).1),rfl⟩
  | false =>
   have hRl : R.length≤20001:=by
    have:=hgood.2.1
    have:=hgood.1
    cases hq : s1.2 with
    | true=>simp only [hq] at *;omega
    | false=>simp only [hq] at *;omega
   have hDl : D.length≤20000:=by
    have:=hgood2.2.1
    have:=hgood2.1
    simp only at *
    omega
   have hbok : baOk ⟨R,D⟩:=⟨fun r hr=>(hgood.2.2.2 r hr).1,by simp only;omega,by simp only;omega,by
    have h1:=itemsR_sizes R
    have h2:=hgood.2.2.1
    have h3:=hgood.1
    simp only
    omega⟩
   conv=>whnf
   by_cases hat : at_ = b.length
   ·rw [show ((((at_,false) : Nat × Bool).1 : Int) != (b.length : Int)) = false from by rw [hat];exact bne_self_eq_false _]
    conv=>whnf
    refine ⟨fun _ _=>rfl,?_⟩
    conv=>whnf
    refine ⟨fun _ _=>rfl,?_⟩
    conv=>whnf
    refine call_pure (bmay_c ⟨R,D⟩ hbok) rfl ?_
    rintro _ ⟨c,hc,rfl⟩
    cases c with
    | false =>
     conv=>whnf
     exact .inr ⟨fun e=>absurd (hc.2 (his.1 e).2.2) (by decide),rfl⟩
    | true =>
     conv=>whnf
     exact .inl ⟨his.2 ⟨rfl,hat,hc.1 rfl⟩,rfl⟩
   ·rw [show ((((at_,false) : Nat × Bool).1 : Int) != (b.length : Int)) = true from bne_iff_ne.2 (fun e=>hat (by simp only at e;omega))]
    conv=>whnf
    exact .inr ⟨fun e=>hat (his.1 e).2.1,rfl⟩
 ·rw [show decide (((b.length : Nat) : Int) > 20000) = true from decide_eq_true (by omega)]
  conv=>whnf
  exact .inr ⟨fun e=>hbig e.1,rfl⟩
end Go.Eng
namespace Go.Eng
open Go Go.RowKit Go.Proofs
noncomputable def hsB (g : List Sp) (a : I2) : Bool:=@decide (hasS g a.1 a.2) (Classical.propDecidable _)
theorem hsB_iff {g : List Sp} {a : I2} : hsB g a = true↔hasS g a.1 a.2:=@decide_eq_true_iff _ (Classical.propDecidable _)
theorem hsB_eq {g : List Sp} {a : I2} {b : Bool} (h : b = true↔hasS g a.1 a.2) : b = hsB g a:=by rw [Bool.eq_iff_iff,h,hsB_iff]
structure VH (v : CV) (hs : HS) : Prop where
 may : mayV v
 cov : ∀ a,hasI hs a↔0≤a.2∧a.2 < nxt v a.1
theorem not_hasI_nil {a : I2} : ¬ hasI [] a:=fun ⟨p,hp,_⟩=>nomatch hp
theorem VH.zero : VH [] []:=by
 refine ⟨⟨List.Pairwise.nil,fun x hx=>nomatch hx⟩,fun a=>⟨fun h=>(not_hasI_nil h).elim,fun h=>?_⟩⟩
 have e : nxt [] a.1 = 0:=rfl
 rw [e] at h
 omega
structure itG (x : It) : Prop where
 ok : itOk x
 nz : 0 < x.id.1
 hi : x.id.2≤4294967294
 ch : vldR x.ch = true
theorem itG.lo {x : It} (h : itG x) : 0≤x.id.2:=h.ok.1.2.1
theorem itG.cl {x : It} (h : itG x) : 0 < x.id.1∧0≤x.id.2∧x.id.2≤4294967294:=⟨h.nz,h.lo,h.hi⟩
theorem VH.has {v : CV} {hs : HS} (V : VH v hs) {a : I2} (ha : u32P a) (h : hasR v a = true) : hasI hs a∨a.1 = 0:=by
 unfold hasR at h
 rw [Bool.or_eq_true,beq_iff_eq,decide_eq_true_iff] at h
 rcases h with h | h
 ·exact .inr h
 ·exact .inl ((V.cov a).2 ⟨ha.2.1,h⟩)
theorem VH.okA {v : CV} {hs : HS} (V : VH v hs) {x : It} (g : itG x) (h : rdyR v x = true) : okA hs x:=by
 have e:=rdy_id h
 unfold rdyR at h
 rw [Bool.and_eq_true,Bool.and_eq_true] at h
 refine ⟨fun hh=>?_,by have:=g.nz;omega,V.has g.ok.2.1 h.2.1,V.has g.ok.2.2 h.2.2,g.ch⟩
 have:=((V.cov x.id).1 hh).2
 omega
theorem hasI_cons_iff {x : It} {h : Hg} {hs : HS} {a : I2} : hasI ((x,h) :: hs) a↔x.id = a∨hasI hs a:=by
 constructor
 ·rintro ⟨p,hp,e⟩
  rcases List.mem_cons.1 hp with rfl | hp
  ·exact .inl e
  ·exact .inr ⟨p,hp,e⟩
 ·rintro (e | ⟨p,hp,e⟩)
  ·exact ⟨_,List.mem_cons_self ..,e⟩
  ·exact ⟨p,List.mem_cons_of_mem _ hp,e⟩
def adH (hs : HS) (x : It) : HS:=(x,hgOf hs x) :: hs
def adsH (hs : HS) (l : List It) : HS:=l.foldl adH hs
theorem adsH_snoc (hs : HS) (l : List It) {j : Nat} (hj : j < l.length) : adsH hs (l.take (j + 1)) = adH (adsH hs (l.take j)) (l.getD j it0):=by
 have e : l.take (j + 1) = l.take j ++ [l.getD j it0]:=by
  rw [List.getD_eq_getElem?_getD,List.getElem?_eq_getElem hj]
  exact (List.take_append_getElem hj).symm
 unfold adsH
 rw [e,List.foldl_append]
 rfl
theorem adsH_len : ∀ (l : List It) (hs : HS),(adsH hs l).length = hs.length + l.length
 | [],hs=>rfl
 | x :: l,hs=>by
  show (adsH (adH hs x) l).length = _
  rw [adsH_len l (adH hs x)]
  show hs.length + 1 + l.length = hs.length + (l.length + 1)
  omega
theorem adsH_mem : ∀ (l : List It) (hs : HS) (p : It × Hg),p ∈ adsH hs l→p ∈ hs∨p.1 ∈ l
 | [],hs,p,h=>.inl h
 | x :: l,hs,p,h=>by
  rcases adsH_mem l (adH hs x) p h with h | h
  ·rcases List.mem_cons.1 h with rfl | h
   ·exact .inr (List.mem_cons_self ..)
   ·exact .inl h
  ·exact .inr (List.mem_cons_of_mem _ h)
theorem bld_ad : ∀ (l : List It) (hs : HS),bldH hs→bldH (adsH hs l)
 | [],hs,h=>h
 | x :: l,hs,h=>bld_ad l (adH hs x) ⟨h,rfl⟩
theorem VH.put {v : CV} {hs : HS} (V : VH v hs) {x : It} (g : 0 < x.id.1∧0≤x.id.2∧x.id.2≤4294967294) (e : x.id.2 = nxt v x.id.1) : VH (putR v x) (adH hs x):=by
 refine ⟨putR_may V.may g,fun a=>?_⟩
 have hn:=nxt_put V.may (x:=x) g.1 a.1
 unfold adH
 rw [hasI_cons_iff,hn,V.cov a]
 obtain ⟨a1,a2⟩:=a
 show x.id = (a1,a2)∨(0≤a2∧a2 < nxt v a1)↔0≤a2∧a2 < if a1 = x.id.1 then x.id.2 + 1 else nxt v a1
 by_cases h : a1 = x.id.1
 ·subst h
  rw [if_pos rfl]
  constructor
  ·rintro (h | h)
   ·have : x.id.2 = a2:=by rw [h]
    omega
   ·omega
  ·rintro ⟨h1,h2⟩
   by_cases h3 : a2 = x.id.2
   ·exact .inl (by rw [h3])
   ·exact .inr ⟨h1,by omega⟩
 ·rw [if_neg h]
  constructor
  ·rintro (h1 | h1)
   ·exact absurd (by rw [h1]) h
   ·exact h1
  ·exact .inr
theorem Tk_okA : ∀ (l : List It) (v w : CV) (hs : HS),VH v hs→Tk v l w→(∀ x,x ∈ l→itG x)→VH w (adsH hs l)∧∀ j,j < l.length→okA (adsH hs (l.take j)) (l.getD j it0)
 | [],v,w,hs,V,h,_=>by
  have h : w = v:=h
  subst h
  exact ⟨V,fun j hj=>by cases hj⟩
 | x :: l,v,w,hs,V,h,hg=>by
  have gx:=hg x (List.mem_cons_self ..)
  obtain ⟨h1,h2⟩:=Tk_okA l (putR v x) w (adH hs x) (V.put gx.cl (rdy_id h.1)) h.2 (fun y hy=>hg y (List.mem_cons_of_mem _ hy))
  refine ⟨h1,fun j hj=>?_⟩
  cases j with
  | zero=>exact V.okA gx h.1
  | succ j=>exact h2 j (by simpa using hj)
def insL (c n : Int) (left right : I2) : List Int→List It
 | []=>[]
 | ch :: r=>⟨(c,n),left,right,ch⟩ :: insL c (n + 1) (c,n) right r
theorem insL_len (c : Int) (right : I2) : ∀ (l : List Int) (n : Int) (left : I2),(insL c n left right l).length = l.length
 | [],n,left=>rfl
 | ch :: r,n,left=>by
  show (insL c (n + 1) (c,n) right r).length + 1 = r.length + 1
  rw [insL_len c right r (n + 1) (c,n)]
def insLf (c n : Int) (left : I2) : Nat→I2
 | 0=>left
 | j + 1=>(c,n + j)
theorem insL_get (c : Int) (right : I2) : ∀ (l : List Int) (n : Int) (left : I2) (j : Nat),j < l.length→(insL c n left right l).getD j it0 = ⟨(c,n + j),insLf c n left j,right,l.getD j 0⟩
 | [],n,left,j,h=>by cases h
 | ch :: r,n,left,0,h=>by
  show (⟨(c,n),left,right,ch⟩ : It) = ⟨(c,n + (0 : Nat)),left,right,ch⟩
  rw [show n + ((0 : Nat) : Int) = n by omega]
 | ch :: r,n,left,j + 1,h=>by
  show (insL c (n + 1) (c,n) right r).getD j it0 = ⟨(c,n + ((j + 1 : Nat) : Int)),(c,n + j),right,r.getD j 0⟩
  rw [insL_get c right r (n + 1) (c,n) j (by simpa using h)]
  have e1 : n + 1 + (j : Int) = n + ((j + 1 : Nat) : Int):=by omega
  have e2 : insLf c (n + 1) (c,n) j = (c,n + j):=by
   cases j with
   | zero=>show (c,n) = (c,n + ((0 : Nat) : Int));rw [show n + ((0 : Nat) : Int) = n by omega]
   | succ j=>show (c,n + 1 + (j : Int)) = (c,n + ((j + 1 : Nat) : Int));rw [show n + 1 + (j : Int) = n + ((j + 1 : Nat) : Int) by omega]
  rw [e1,e2]
theorem set_set {v : CV} (hv : mayV v) {c n m : Int} (hc : 0 < c) (hn : 0≤n) (hm : 0≤m) : setR (setR v c n) c m = setR v c m:=by
 have h1:=setR_may hv (c:=c) (n:=n) (by omega) hn
 refine may_ext (setR_may h1 (by omega) hm) (setR_may hv (by omega) hm) (fun d=>?_)
 rw [nxt_set h1 (by omega),nxt_set hv (by omega),nxt_set hv (by omega)]
 split <;> rfl
theorem ins_okA (c : Int) (right : I2) (hc : 0 < c) : ∀ (l : List Int) (n : Int) (left : I2) (v : CV) (hs : HS),VH v hs→nxt v c = n→(hasI hs left∨left.1 = 0)→(hasI hs right∨right.1 = 0)→(∀ ch,ch ∈ l→vldR ch = true)→n + l.length≤4294967295 →
  VH (setR v c (n + l.length)) (adsH hs (insL c n left right l))∧∀ j,j < l.length→okA (adsH hs ((insL c n left right l).take j)) ((insL c n left right l).getD j it0)
 | [],n,left,v,hs,V,hn,_,_,_,_=>by
  subst hn
  refine ⟨?_,fun j hj=>by cases hj⟩
  rw [show nxt v c + (([] : List Int).length : Int) = nxt v c by simp,setR_same V.may (by omega) (by omega)]
  exact V
 | ch :: r,n,left,v,hs,V,hn,hl,hr,hch,hle=>by
  have h0:=nxt_pos V.may c
  have hlen : ((ch :: r).length : Int) = r.length + 1:=by simp
  rw [hlen] at hle
  have V2 : VH (setR v c (n + 1)) (adH hs ⟨(c,n),left,right,ch⟩):=V.put (x:=⟨(c,n),left,right,ch⟩) ⟨hc,by show 0≤n;omega,by show n≤_;omega⟩ hn.symm
  have hh : ∀ a,hasI hs a→hasI (adH hs ⟨(c,n),left,right,ch⟩) a:=fun a h=>hasI_cons_iff.2 (.inr h)
  have hn2 : nxt (setR v c (n + 1)) c = n + 1:=by rw [nxt_set V.may (by omega),if_pos rfl]
  obtain ⟨h1,h2⟩:=ins_okA c right hc r (n + 1) (c,n) _ _ V2 hn2 (.inl (hasI_cons_iff.2 (.inl rfl))) (hr.imp (hh _) id) (fun x hx=>hch x (List.mem_cons_of_mem _ hx)) (by omega)
  rw [set_set V.may hc (by omega) (by omega)] at h1
  refine ⟨?_,fun j hj=>?_⟩
  ·rw [hlen,show n + ((r.length : Int) + 1) = n + 1 + r.length by omega]
   exact h1
  ·cases j with
   | zero =>
    refine ⟨fun hh=>?_,by show c≠0;omega,hl,hr,hch ch (List.mem_cons_self ..)⟩
    have:=((V.cov (c,n)).1 hh).2
    have : n < nxt v c:=this
    omega
   | succ j=>exact h2 j (by simpa using hj)
theorem Tk_len : ∀ (l : List It) (v w : CV),Tk v l w→w.length≤v.length + l.length
 | [],v,w,h=>by
  have h : w = v:=h
  rw [h];simp
 | x :: l,v,w,h=>by
  have h1:=Tk_len l _ _ h.2
  have h2:=setR_len v x.id.1 (x.id.2 + 1)
  have h3 : (putR v x).length≤v.length + 1:=h2
  simp only [List.length_cons]
  omega
structure GI (hs : HS) (G : I2→Bool) (gs : List I2) : Prop where
 sub : ∀ a,a ∈ gs→hasI hs a
 iff : ∀ a,hasI hs a→(a ∈ gs↔G a = true)
theorem GI.zero (G : I2→Bool) : GI [] G []:=⟨fun a h=>(List.not_mem_nil h).elim,fun a h=>(not_hasI_nil h).elim⟩
theorem GI.congr {hs : HS} {G G2 : I2→Bool} {gs : List I2} (h : GI hs G gs) (e : ∀ a,hasI hs a→G a = G2 a) : GI hs G2 gs:=⟨h.sub,fun a ha=>by rw [←e a ha];exact h.iff a ha⟩
theorem GI.add {hs : HS} {G : I2→Bool} {gs : List I2} (h : GI hs G gs) {x : It} (hx : ¬ hasI hs x.id) (b : Bool) : GI (adH hs x) (updG G x.id b) (if b = true then gs ++ [x.id] else gs):=by
 refine ⟨fun a ha=>?_,fun a ha=>?_⟩
 ·refine hasI_cons_iff.2 ?_
  split at ha
  ·rcases List.mem_append.1 ha with h1 | h1
   ·exact .inr (h.sub a h1)
   ·rw [List.mem_singleton] at h1;exact .inl h1.symm
  ·exact .inr (h.sub a ha)
 ·unfold updG
  by_cases e : a = x.id
  ·subst e
   rw [if_pos rfl]
   cases b with
   | true=>simp
   | false =>
    simp only [Bool.false_eq_true,if_false,iff_false]
    exact fun hm=>hx (h.sub _ hm)
  ·rw [if_neg e]
   have h1 : hasI hs a:=(hasI_cons_iff.1 ha).resolve_left (fun g=>e g.symm)
   rw [←h.iff a h1]
   cases b with
   | true =>
    rw [if_pos rfl,List.mem_append,List.mem_singleton]
    exact ⟨fun g=>g.resolve_right e,.inl⟩
   | false=>rw [if_neg (by decide)]
theorem GI.del {hs : HS} {G : I2→Bool} {gs : List I2} (h : GI hs G gs) {a : I2} (ha : hasI hs a) : GI hs (updG G a true) (gs ++ [a]):=by
 refine ⟨fun b hb=>?_,fun b hb=>?_⟩
 ·rcases List.mem_append.1 hb with h1 | h1
  ·exact h.sub b h1
  ·rw [List.mem_singleton] at h1;rw [h1];exact ha
 ·unfold updG
  rw [List.mem_append,List.mem_singleton]
  by_cases e : b = a
  ·rw [if_pos e];exact ⟨fun _=>rfl,fun _=>.inr e⟩
  ·rw [if_neg e,←h.iff b hb];exact ⟨fun g=>g.resolve_right e,.inl⟩
theorem LV.congr {hs : HS} {G G2 : I2→Bool} {cs : Ck} {l : List Nd} {N : Nat} (V : LV hs G cs l N) (h : ∀ a,hasI hs a→G a = G2 a) : LV hs G2 cs l N:=by
 obtain ⟨o,hO,hf⟩:=V.ord
 refine ⟨V.L,⟨o,hO,?_⟩,V.len,V.ck⟩
 rw [hf]
 exact List.map_congr_left (fun a ha=>by unfold enOf;rw [h a (hO.has.1 ha)])
theorem LV.zero (G : I2→Bool) : LV [] G [] [] 0:=⟨⟨trivial,List.Perm.refl _,List.Pairwise.nil,by decide⟩,⟨[],⟨List.Perm.refl _,List.Pairwise.nil⟩,rfl⟩,Nat.le_refl _,Nat.le_refl _⟩
theorem updG_same {G : I2→Bool} {a : I2} (b : I2) : updG G a (G a) b = G b:=by
 unfold updG
 split
 ·rename_i e;rw [e]
 ·rfl
theorem okH_uniq {hs : HS} (ho : okH hs) {p q : It × Hg} (hp : p ∈ hs) (hq : q ∈ hs) (e : p.1.id = q.1.id) : p = q:=by
 induction hs with
 | nil=>cases hp
 | cons z r ih =>
  obtain ⟨y,g⟩:=z
  rcases List.mem_cons.1 hp with h1 | h1
  ·rcases List.mem_cons.1 hq with h2 | h2
   ·rw [h1,h2]
   ·exact absurd (show q.1.id = y.id by rw [←e,h1]) (ho.2.2.1 q h2)
  ·rcases List.mem_cons.1 hq with h2 | h2
   ·exact absurd (show p.1.id = y.id by rw [e,h2]) (ho.2.2.1 p h1)
   ·exact ih ho.1 h1 h2
def itOf (hs : HS) (a : I2) : Option It:=(itsH hs).find? (fun x=>x.id == a)
theorem itOf_some {hs : HS} {a : I2} {x : It} (h : itOf hs a = some x) : x.id = a∧∃ g,(x,g) ∈ hs:=by
 unfold itOf at h
 have h1:=List.find?_some h
 have h2:=List.mem_of_find?_eq_some h
 unfold itsH at h2
 rw [List.mem_reverse,List.mem_map] at h2
 obtain ⟨⟨y,g⟩,hm,rfl⟩:=h2
 exact ⟨by simpa using h1,g,hm⟩
theorem itOf_none {hs : HS} {a : I2} (h : itOf hs a = none) : ¬ hasI hs a:=by
 rintro ⟨p,hp,e⟩
 unfold itOf at h
 rw [List.find?_eq_none] at h
 have:=h p.1 (by unfold itsH;rw [List.mem_reverse,List.mem_map];exact ⟨p,hp,rfl⟩)
 rw [e] at this
 simp at this
theorem itOf_at {hs : HS} (ho : okH hs) {x : It} {g : Hg} (hm : (x,g) ∈ hs) : itOf hs x.id = some x:=by
 cases h : itOf hs x.id with
 | none=>exact absurd ⟨_,hm,rfl⟩ (itOf_none h)
 | some y =>
  obtain ⟨h1,g2,h2⟩:=itOf_some h
  have:=okH_uniq ho h2 hm h1
  cases this
  rfl
deriving instance DecidableEq for It
def knO (hs : HS) (w : List It) (a : I2) : Option It:=match itOf hs a with
 | some x=>some x
 | none=>w.find? (fun x=>x.id == a)
theorem knO_none {hs : HS} {w : List It} {a : I2} (h : knO hs w a = none) : ¬ hasI hs a∧∀ x,x ∈ w→x.id≠a:=by
 unfold knO at h
 split at h
 ·cases h
 ·rename_i h1
  refine ⟨itOf_none h1,fun x hx e=>?_⟩
  rw [List.find?_eq_none] at h
  have:=h x hx
  rw [e] at this
  simp at this
def freG (kn : I2→Option It) (c : Int) : List It→List It→Option (List It)
 | [],acc=>some acc
 | i :: r,acc=>match kn i.id with
  | some w=>if w = i then freG kn c r acc else none
  | none=>if i.id.1 = c then none else freG kn c r (acc ++ [i])
theorem freG_ok (kn : I2→Option It) (c : Int) : ∀ (l acc out : List It),freG kn c l acc = some out→∃ m,out = acc ++ m∧m.Sublist l∧∀ x,x ∈ m→kn x.id = none
 | [],acc,out,h=>by
  cases h
  exact ⟨[],by simp,List.Sublist.refl _,fun x hx=>by cases hx⟩
 | i :: r,acc,out,h=>by
  unfold freG at h
  split at h
  ·split at h
   ·obtain ⟨m,h1,h2,h3⟩:=freG_ok kn c r acc out h
    exact ⟨m,h1,h2.cons _,h3⟩
   ·cases h
  ·rename_i hk
   split at h
   ·cases h
   ·obtain ⟨m,h1,h2,h3⟩:=freG_ok kn c r (acc ++ [i]) out h
    refine ⟨i :: m,by rw [h1,List.append_assoc];rfl,h2.cons_cons _,fun x hx=>?_⟩
    rcases List.mem_cons.1 hx with rfl | hx
    ·exact hk
    ·exact h3 x hx
theorem ris_all {l : List It} (h : ∀ j,j + 1 < l.length→beforeR (l.getD j it0).id (l.getD (j + 1) it0).id) : l.Pairwise fun x y=>ltI x.id y.id:=by
 have key : ∀ d i,i + d + 1 < l.length→ltI (l.getD i it0).id (l.getD (i + d + 1) it0).id:=by
  intro d
  induction d with
  | zero=>intro i hi;exact h i hi
  | succ d ih =>
   intro i hi
   have h1:=ih i (by omega)
   have h2 : ltI _ _:=h (i + d + 1) (by omega)
   rw [show i + (d + 1) + 1 = i + d + 1 + 1 by omega]
   revert h1 h2
   generalize (l.getD i it0).id = a
   generalize (l.getD (i + d + 1) it0).id = b
   generalize (l.getD (i + d + 1 + 1) it0).id = c
   unfold ltI
   omega
 rw [List.pairwise_iff_getElem]
 intro i j hi hj hij
 have:=key (j - i - 1) i (by omega)
 rw [show i + (j - i - 1) + 1 = j by omega] at this
 rw [List.getD_eq_getElem?_getD,List.getD_eq_getElem?_getD,List.getElem?_eq_getElem hi,List.getElem?_eq_getElem hj] at this
 exact this
theorem ltI_ne {a b : I2} (h : ltI a b) : a≠b:=fun e=>by subst e;unfold ltI at h;omega
theorem ns_ris {l : List It} (h : nsI l) (hd : l.Pairwise fun x y=>x.id≠y.id) : risI l:=by
 have:=h.and hd
 refine this.imp (fun {a b} ⟨h1,h2⟩=>?_)
 unfold ltI at h1 ⊢
 by_cases e : a.id.1 = b.id.1
 ·by_cases e2 : a.id.2 = b.id.2
  ·exact absurd (Prod.ext e e2) h2
  ·omega
 ·omega
theorem dis_perm {l m : List It} (hp : m.Perm l) (h : l.Pairwise fun x y=>x.id≠y.id) : m.Pairwise fun x y=>x.id≠y.id:=hp.symm.pairwise h (fun {a b} h e=>h e.symm)
theorem ns_uniq {l a b : List It} (hd : l.Pairwise fun x y=>x.id≠y.id) (ha : a.Perm l) (hb : b.Perm l) (na : nsI a) (nb : nsI b) : a = b :=
 rs_ext (ns_ris na (dis_perm ha hd)) (ns_ris nb (dis_perm hb hd)) (ha.trans hb.symm)
theorem vld_of {v : Int} (h : Utf8.valid v = true) : vldR v = true:=by
 obtain ⟨h1,h2,h3⟩:=valid_inv h
 unfold vldR
 rw [Bool.or_eq_true,Bool.and_eq_true,Bool.and_eq_true,decide_eq_true_iff,decide_eq_true_iff,decide_eq_true_iff,decide_eq_true_iff]
 omega
theorem batch_items {x : Ba} (h : mayB x) (hok : ∀ r,r ∈ x.runs→ruOk r) : ∀ i,i ∈ itemsR x.runs→itG i:=by
 intro i hi
 have hio:=itOk_its hok i hi
 unfold itemsR at hi
 rw [List.mem_flatMap] at hi
 obtain ⟨r,hr,hi⟩:=hi
 have hm:=h.1 r hr
 have ho:=hok r hr
 unfold itsR at hi
 rw [List.mem_map] at hi
 obtain ⟨j,hj,rfl⟩:=hi
 rw [List.mem_range] at hj
 have hc:=may_chars hm
 obtain ⟨l,hl⟩:=Option.isSome_iff_exists.1 hc
 have hch : chOf r = l:=by unfold chOf;rw [hl];rfl
 rw [mayR_some hl,decide_eq_true_iff] at hm
 obtain ⟨m1,m2,m3⟩:=hm
 rw [hch] at hj
 have hv:=(charsF_bytes hl).2
 obtain ⟨⟨o1,o2⟩,o3,o4⟩:=ho.1
 unfold lastC at m3
 have hck : clk r.id.2 j = r.id.2 + j:=by unfold clk;exact Int.emod_eq_of_lt (by omega) (by omega)
 refine ⟨hio,by show 0 < r.id.1;omega,by show clk r.id.2 j≤_;omega,?_⟩
 show vldR ((chOf r).getD j 0) = true
 rw [hch]
 exact vld_of (hv _ (getD_mem hj))
theorem batch_ris {x : Ba} (h : mayB x) : risI (itemsR x.runs):=ris_all h.2.2.1
theorem fre_dis {hs : HS} {w l out : List It} {c : Int} (hw : w.Pairwise fun x y=>x.id≠y.id) (hl : risI l) (h : freG (knO hs w) c l [] = some out) : (w ++ out).Pairwise (fun x y=>x.id≠y.id)∧out.Sublist l:=by
 obtain ⟨m,h1,h2,h3⟩:=freG_ok _ c l [] out h
 rw [List.nil_append] at h1
 subst h1
 refine ⟨List.pairwise_append.2 ⟨hw,(List.Pairwise.sublist h2 hl).imp (fun h=>ltI_ne h),fun x hx y hy=>?_⟩,h2⟩
 exact (knO_none (h3 y hy)).2 x hx
theorem set_step (a b : List Sp) : setL (setL a ++ b) = setL (a ++ b):=by
 rw [←setL_join (setL a) b,setL_self (setL_ok a).1,setL_join]
theorem set_len (l : List Sp) : (setL l).length≤l.length:=by
 have key : ∀ (l : List Sp) (o : List Sp),(l.foldl (fun o s=>if valS s then layL o s else o) o).length≤o.length + l.length:=by
  intro l
  induction l with
  | nil=>intro o;simp
  | cons s l ih =>
   intro o
   rw [List.foldl_cons]
   have h1:=ih (if valS s then layL o s else o)
   have h2 : (if valS s then layL o s else o).length≤o.length + 1:=by
    split
    ·have key2 : ∀ (l a b : List Sp) (t : Sp),(layG l (a,b,t)).1.length + (layG l (a,b,t)).2.1.length≤a.length + b.length + l.length:=by
      intro l
      induction l with
      | nil=>intro a b t;simp [layG]
      | cons x l ih =>
       intro a b t
       unfold layG
       split
       ·have:=ih (a ++ [x]) b t
        simp only [List.length_append,List.length_cons,List.length_nil] at this ⊢
        omega
       ·split
        ·have:=ih a (b ++ [x]) t
         simp only [List.length_append,List.length_cons,List.length_nil] at this ⊢
         omega
        ·have:=ih a b ⟨t.cl,min t.fr x.fr,max t.tz x.tz⟩
         simp only [List.length_cons]
         omega
     have:=key2 o [] [] s
     unfold layL
     simp only [List.length_append,List.length_cons,List.length_nil] at this ⊢
     omega
    ·omega
   simp only [List.length_cons]
   omega
 have:=key l []
 rw [List.length_nil,Nat.zero_add] at this
 exact this
theorem hsB_set (g d : List Sp) (hg : canon g) (hd : canon d) (a : I2) : hsB (setL (g ++ d)) a = (hsB g a || hsB d a):=by
 rw [Bool.eq_iff_iff,Bool.or_eq_true,hsB_iff,hsB_iff,hsB_iff,(setL_ok _).2,valid_append,valid_canon hg,valid_canon hd,hasS_append]
end Go.Eng
namespace Go.Eng
open Go Go.RowKit Go.Proofs
structure DF where
 cl : Int
 lim : Int
 v : CV
 w : List It
 g : List Sp
 ver : Int
 cd : Bool
abbrev spR2 (l : List Sp) : Nat→List IC:=fun k=>spF (l.getD k sp0)
abbrev dF (D : DF) (i j : Nat) : List IC:=[vu D.cl,vu D.lim,.row i,.row j,.sl 2 D.v.length (ckR D.v),.sl 7 D.w.length (itR D.w),.sl 3 D.g.length (spR2 D.g),vi D.ver,.v (.bool D.cd)]
abbrev dOwn (D : DF) (hs : HS) (gs : List I2) : List (Option Ob):=[some (.cells 52 (dF D 1 2)),some (.row 144 7 (itsH hs).length (itR (itsH hs))),some (.row 136 2 gs.length (idR gs))]
theorem rhas_cD (D : DF) (hs : HS) (gs : List I2) (hlen : hs.length≤100000) (a : I2) : CallV Tryz.prog 156 [.c (.own 0 2),idA a] (dOwn D hs gs) (fun r own'=>own' = dOwn D hs gs∧r = vcb (a.1 == 0 || decide (hasI hs a))):=by
 have hil:=itsH_len hs
 have hge:=fiN_ge hs a
 refine callV_own Tryz.func156 rfl ttok ftok rfl rfl rfl (Nat.le_of_ble_eq_true rfl) rfl ?_
 conv=>whnf
 refine drawV_sched (.rd 0 (.rd 1 (.rd 2 (.rd 3 (.rd 4 (.rd 5 (.rd 6 (.rd 7 (.rd 8 (.ef 9 (.rd 10 (.rd 11 (.rd 12 (.nil)))))))))))))) [1] mixed (by kernel_rfl) ttok ftok ?_
 conv=>whnf
 by_cases hz : a.1 = 0
 ·rw [beq_iff_eq.2 hz]
  conv=>whnf
  refine ⟨_,Weak.refl _,?_⟩
  conv=>whnf
  exact ⟨[some 0,some 1,some 2],rfl,rfl,rfl,rfl⟩
 rw [beq_eq_false_iff_ne.2 hz]
 conv=>whnf
 have hf:=rfind_c (itsH hs) (by omega) a
 refine (callV_lendS 1 rfl (fun j hj=>rfl) hf rfl (fun r hr=>by subst hr;rfl)).mono ?_
 rintro r own2 ⟨rfl,rfl⟩
 conv=>whnf
 rw [hge]
 refine ⟨_,Weak.refl _,?_⟩
 conv=>whnf
 exact ⟨[some 0,some 1,some 2],rfl,rfl,rfl,rfl⟩
theorem ritem_cD (D : DF) (hs : HS) (gs : List I2) (hlen : hs.length≤100000) (a : I2) : CallV Tryz.prog 154 [.c (.own 0 2),idA a] (dOwn D hs gs) (fun r own'=>own' = dOwn D hs gs ∧
  r = if hasI hs a then .tup [.agg (itF ((itsH hs).getD (fiN (itsH hs) a).toNat it0)),vcb true] else .tup [.agg (itF it0),vcb false]):=by
 have hil:=itsH_len hs
 have hneg:=fiN_neg hs a
 refine callV_own Tryz.func154 rfl ttok ftok rfl rfl rfl (Nat.le_of_ble_eq_true rfl) rfl ?_
 conv=>whnf
 refine drawV_sched (.rd 0 (.rd 1 (.rd 2 (.rd 3 (.rd 4 (.ef 5 (.rd 6 (.nil)))))))) [1] mixed (by kernel_rfl) ttok ftok ?_
 conv=>whnf
 have hf:=rfind_c (itsH hs) (by omega) a
 refine (callV_lendS 1 rfl (fun j hj=>rfl) hf rfl (fun r hr=>by subst hr;rfl)).mono ?_
 rintro r own2 ⟨rfl,rfl⟩
 conv=>whnf
 rw [hneg]
 by_cases h : hasI hs a
 ·obtain ⟨k,h1,h2,_⟩:=fiE_has h
  have hk : fiN (itsH hs) a = (k : Int):=by unfold fiN;rw [h1]
  rw [decide_eq_true h,if_pos h,hk]
  conv=>whnf
  refine ⟨by omega,?_⟩
  conv=>whnf
  refine ⟨_,Weak.refl _,?_⟩
  conv=>whnf
  exact ⟨[some 0,some 1,some 2],rfl,rfl,rfl,rfl⟩
 ·rw [decide_eq_false h,if_neg h]
  conv=>whnf
  refine ⟨_,Weak.refl _,?_⟩
  conv=>whnf
  exact ⟨[some 0,some 1,some 2],rfl,rfl,rfl,rfl⟩
theorem rdel_cD (D : DF) (hs : HS) (gs : List I2) (hlen : hs.length≤100000) (hgl : gs.length≤1000000) (a : I2) : CallV Tryz.prog 90 [.c (.own 0 2),idA a] (dOwn D hs gs) (fun r own' =>
  (hasI hs a∧own' = [some (.cells 52 (dF D 1 3)),some (.row 144 7 (itsH hs).length (itR (itsH hs))),none,some (.row 136 2 (gs ++ [a]).length (idR (gs ++ [a])))]∧r = vcb true)∨(¬ hasI hs a∧own' = dOwn D hs gs∧r = vcb false)):=by
 have hil:=itsH_len hs
 have hneg:=fiN_neg hs a
 refine callV_own Tryz.func90 rfl ttok ftok rfl rfl rfl (Nat.le_of_ble_eq_true rfl) rfl ?_
 conv=>whnf
 refine drawV_sched (.rd 0 (.rd 1 (.rd 2 (.rd 3 (.rd 4 (.ef 5 (.rd 6 (.nil)))))))) [1] mixed (by kernel_rfl) ttok ftok ?_
 conv=>whnf
 have hf:=rfind_c (itsH hs) (by omega) a
 refine (callV_lendS 1 rfl (fun j hj=>rfl) hf rfl (fun r hr=>by subst hr;rfl)).mono ?_
 rintro r own2 ⟨rfl,rfl⟩
 conv=>whnf
 rw [hneg]
 by_cases h : hasI hs a
 ·rw [decide_eq_true h]
  conv=>whnf
  refine drawV_loud 8 [0,1,2,3,4,5] [6,7] [2,4] mixed (by kernel_rfl) ttok ftok ?_
  conv=>whnf
  refine ⟨fun _=>idF a,fun j hj2=>?_,?_⟩
  ·obtain rfl : j = 0:=by omega
   rfl
  conv=>whnf
  refine ⟨⟨by omega,by show (List.length gs + 1) * 8≤_;omega⟩,?_⟩
  conv=>whnf
  refine app1 (enc:=idF) (d:=(0,0)) (l:=gs) a (fun k hk=>rfl) rfl ?_
  conv=>whnf
  refine ⟨rfl,?_⟩
  conv=>whnf
  refine ⟨_,Weak.refl _,?_⟩
  conv=>whnf
  exact ⟨[some 0,some 1,none,some 5],rfl,rfl,.inl ⟨h,rfl,rfl⟩⟩
 ·rw [decide_eq_false h]
  conv=>whnf
  refine ⟨_,Weak.refl _,?_⟩
  conv=>whnf
  exact ⟨[some 0,some 1,some 2],rfl,rfl,.inr ⟨h,rfl,rfl⟩⟩
theorem radd_cD (D : DF) (hs : HS) (gs : List I2) (hlen : hs.length≤100000) (hgl : gs.length≤1000000) (x : It) (gone : Bool) : CallV Tryz.prog 96 [.c (.own 0 2),.agg (itF x),vcb gone] (dOwn D hs gs) (fun r own' =>
  (okA hs x∧r = vcb true∧own' = if gone = true then [some (.cells 52 (dF D 3 4)),none,none,some (.row 144 7 (itsH hs ++ [x]).length (itR (itsH hs ++ [x]))),some (.row 136 2 (gs ++ [x.id]).length (idR (gs ++ [x.id])))]
   else [some (.cells 52 (dF D 3 2)),none,some (.row 136 2 gs.length (idR gs)),some (.row 144 7 (itsH hs ++ [x]).length (itR (itsH hs ++ [x])))])∨(¬ okA hs x∧own' = dOwn D hs gs∧r = vcb false)):=by
 have hil:=itsH_len hs
 have h1:=rhas_cD D hs gs hlen x.id
 have h2:=rhas_cD D hs gs hlen x.left
 have h3:=rhas_cD D hs gs hlen x.right
 have k1 : (x.id.1 == 0 || decide (hasI hs x.id)) = true↔(x.id.1 = 0∨hasI hs x.id):=by rw [Bool.or_eq_true,beq_iff_eq,decide_eq_true_iff]
 have k2 : (x.left.1 == 0 || decide (hasI hs x.left)) = true↔(x.left.1 = 0∨hasI hs x.left):=by rw [Bool.or_eq_true,beq_iff_eq,decide_eq_true_iff]
 have k3 : (x.right.1 == 0 || decide (hasI hs x.right)) = true↔(x.right.1 = 0∨hasI hs x.right):=by rw [Bool.or_eq_true,beq_iff_eq,decide_eq_true_iff]
 generalize (x.id.1 == 0 || decide (hasI hs x.id)) = b1 at h1 k1
 generalize (x.left.1 == 0 || decide (hasI hs x.left)) = b2 at h2 k2
 generalize (x.right.1 == 0 || decide (hasI hs x.right)) = b3 at h3 k3
 refine callV_own Tryz.func96 rfl ttok ftok rfl rfl rfl (Nat.le_of_ble_eq_true rfl) rfl ?_
 conv=>whnf
 refine call_frame2 [some 0,some 1,some 2] rfl rfl rfl rfl h1 ?_
 rintro r own2 ⟨rfl,rfl⟩
 refine ⟨vcb b1,[some (.cells 52 (dF D 1 2)),some (.row 144 7 (itsH hs).length (itR (itsH hs))),some (.row 136 2 gs.length (idR gs)),some (.cells 144 (itF x))],rfl,rfl,?_⟩
 conv=>whnf
 refine call_frame2 [some 0,some 1,some 2] rfl rfl rfl rfl h2 ?_
 rintro r own2 ⟨rfl,rfl⟩
 refine ⟨vcb b2,[some (.cells 52 (dF D 1 2)),some (.row 144 7 (itsH hs).length (itR (itsH hs))),some (.row 136 2 gs.length (idR gs)),some (.cells 144 (itF x))],rfl,rfl,?_⟩
 conv=>whnf
 refine call_frame2 [some 0,some 1,some 2] rfl rfl rfl rfl h3 ?_
 rintro r own2 ⟨rfl,rfl⟩
 refine ⟨vcb b3,[some (.cells 52 (dF D 1 2)),some (.row 144 7 (itsH hs).length (itR (itsH hs))),some (.row 136 2 gs.length (idR gs)),some (.cells 144 (itF x))],rfl,rfl,?_⟩
 conv=>whnf
 refine call_pure (valid_c_L x.ch) rfl ?_
 rintro _ rfl
 by_cases hok : okA hs x
 ·have e1 : b1 = false:=by
   rw [Bool.eq_false_iff]
   intro g
   rcases k1.1 g with g | g
   ·exact hok.nz g
   ·exact hok.new g
  have e2 : b2 = true:=k2.2 hok.left.symm
  have e3 : b3 = true:=k3.2 hok.right.symm
  rw [e1,e2,e3,hok.ch]
  conv=>whnf
  refine drawV_loud 8 [0,1,2,3,4,5] [6,7] [1,4] mixed (by kernel_rfl) ttok ftok ?_
  conv=>whnf
  refine ⟨fun _=>itF x,fun j hj2=>?_,?_⟩
  ·obtain rfl : j = 0:=by omega
   rfl
  conv=>whnf
  refine ⟨⟨by omega,by show (List.length (itsH hs) + 1) * 28≤_;omega⟩,?_⟩
  conv=>whnf
  refine app1 (enc:=itF) (d:=it0) (l:=(itsH hs)) x (fun k hk=>rfl) rfl ?_
  conv=>whnf
  refine ⟨rfl,?_⟩
  cases gone with
  | false =>
   conv=>whnf
   refine ⟨_,Weak.refl _,?_⟩
   conv=>whnf
   exact ⟨[some 0,none,some 2,some 5],rfl,rfl,.inl ⟨hok,rfl,rfl⟩⟩
  | true =>
   conv=>whnf
   refine drawV_loud 9 [0,1,2,3,4,5,6] [7,8] [2,6] mixed (by kernel_rfl) ttok ftok ?_
   conv=>whnf
   refine ⟨fun _=>idF x.id,fun j hj2=>?_,?_⟩
   ·obtain rfl : j = 0:=by omega
    rfl
   conv=>whnf
   refine ⟨⟨by omega,by show (List.length gs + 1) * 8≤_;omega⟩,?_⟩
   conv=>whnf
   refine app1 (enc:=idF) (d:=(0,0)) (l:=gs) x.id (fun k hk=>rfl) rfl ?_
   conv=>whnf
   refine ⟨rfl,?_⟩
   conv=>whnf
   refine ⟨_,Weak.refl _,?_⟩
   conv=>whnf
   exact ⟨[some 0,none,none,some 5,some 7],rfl,rfl,.inl ⟨hok,rfl,rfl⟩⟩
 ·have hno : b1 = true∨b2 = false∨b3 = false∨vldR x.ch = false:=by
   cases b1 <;> cases b2 <;> cases b3 <;> cases hch : vldR x.ch <;> simp
   refine hok ⟨fun g=>?_,fun g=>?_,(k2.1 rfl).symm,(k3.1 rfl).symm,hch⟩
   ·have:=k1.2 (.inr g);cases this
   ·have:=k1.2 (.inl g);cases this
  generalize vldR x.ch = b4 at hno
  cases b1 <;> cases b2 <;> cases b3 <;> cases b4 <;> simp at hno
  all_goals
   conv=>whnf
   refine ⟨_,Weak.refl _,?_⟩
   conv=>whnf
   exact ⟨[some 0,some 1,some 2],rfl,rfl,.inr ⟨hok,rfl,rfl⟩⟩
end Go.Eng
namespace Go.Eng
open Go Go.RowKit Go.Proofs
def reID (D : DF) (hs : HS) (gs : List I2) (o : List I2) (n : Nat) (st : St) : Prop:=∃ k : Nat,n = o.length - k∧k≤o.length ∧
 st = ⟨69,3,[(0,.c (.own 0 2)),(3,.c (.row 3)),(4,.c (.row 4)),(5,vci .i64 (k : Int))],dOwn D hs gs ++ [some (.row 136 2 o.length (idR o)),some (.row 142 4 (entL hs gs (o.take k)).length (enR (entL hs gs (o.take k))))]⟩
abbrev reOD (D : DF) (hs : HS) (gs o : List I2) (k : Nat) : List (Option Ob):=dOwn D hs gs ++ [some (.row 136 2 o.length (idR o)),some (.row 142 4 (entL hs gs (o.take k)).length (enR (entL hs gs (o.take k))))]
def reQD (D : DF) (hs : HS) (gs : List I2) (o : List I2) (k : Nat) (n : Nat) (st : St) : Prop:=∃ j : Nat,n = gs.length - j∧j≤gs.length ∧
 st = ⟨69,3,[(0,.c (.own 0 2)),(3,.c (.row 3)),(4,.c (.row 4)),(5,vci .i64 (k : Int)),(6,.c (.own 5 0)),(7,vci .i64 (j : Int))],reOD D hs gs o k ++ [some (.cells 142 (enF ⟨o.getD k (0,0),chOf_L hs (o.getD k (0,0)),Gof (gs.take j) (o.getD k (0,0))⟩))]⟩
theorem rentries_cD {hs : HS} (D : DF) (ho : okH hs) (hb : bldH hs) (gs : List I2) (hlen : hs.length≤100000) (hgl : gs.length≤1000000) : CallV Tryz.prog 55 [.c (.own 0 2)] (dOwn D hs gs) (fun r own'=>∃ o,isOrd hs o∧r = .c (.row 3)∧own' = dOwn D hs gs ++ [some (.row 142 4 (entL hs gs o).length (enR (entL hs gs o)))]):=by
 have hil:=itsH_len hs
 refine callV_own Tryz.func55 rfl ttok ftok rfl rfl rfl (Nat.le_of_ble_eq_true rfl) rfl ?_
 conv=>whnf
 refine (callV_lendR 1 rfl (fun j hj=>rfl) (rorder_l ho hb hlen) rfl).mono ?_
 rintro r own2 ⟨_,_,rfl,rfl,o,hO,rfl,rfl⟩
 have hol:=hO.length
 conv=>whnf
 refine loopV ttok ftok (reID D hs gs o) ((nil_row 4 142 4 (enR []) rfl).trans (norm_weak [0,3,4,5] [some 0,some 1,some 2,some 3,some 4] rfl rfl)) ⟨0,rfl,Nat.zero_le _,rfl⟩ ?_
 rintro n st ⟨k,rfl,hk,rfl⟩
 have e1:=e64 (k:=k) (by omega)
 have hel : (entL hs gs (o.take k)).length = k:=by unfold entL;rw [List.length_map,List.length_take];omega
 conv=>whnf
 refine onB_intro (fun g=>?_) (fun g=>?_)
 ·have g:=of_decide_eq_true g
  have hkl : k < o.length:=by omega
  have hin : hasI hs (o.getD k (0,0)):=hO.has.1 (getD_mem hkl)
  obtain ⟨p,hp1,hp2,hp3,hp4⟩:=fiE_has hin
  have hfp : fiN (itsH hs) (o.getD k (0,0)) = (p : Int):=by unfold fiN;rw [hp1]
  have hch : chOf_L hs (o.getD k (0,0)) = ((itsH hs).getD p it0).ch:=by rw [←hp3];exact chOf_mem ho hp4
  conv=>whnf
  have hfind:=rfind_c (itsH hs) (by omega) (o.getD k (0,0))
  have hpl : p < (itsH hs).length:=by omega
  refine drawV_at ⟨69,3,[(0,.c (.own 0 2)),(3,.c (.row 3)),(4,.c (.row 4)),(5,vci .i64 (k : Int)),(6,.c (.own 5 0))],reOD D hs gs o k ++ [some (.cells 142 (enF ⟨o.getD k (0,0),((itsH hs).getD p it0).ch,false⟩))]⟩ ?_ ?_
  ·refine drawV_ords 22 6 [0,1,2,3,4,5,6,7,8,9,10,11,12,13,14,15] [[16,17,18,19,20,21],[16,17,18,19,21,20],[16,17,18,21,19,20],[16,17,21,18,19,20],[16,21,17,18,19,20],[21,16,17,18,19,20]] [1,5] mixed (by kernel_rfl) ttok ftok ?_
   conv=>whnf
   refine ⟨by omega,?_⟩
   conv=>whnf
   rw [ti_nat]
   refine ⟨by omega,?_⟩
   conv=>whnf
   repeat' first
    | exact True.intro
    | rfl
    | (refine (callV_lendS 1 rfl (fun j hj=>rfl) hfind rfl (fun r hr=>by subst hr;rfl)).mono ?_;rintro r own2 ⟨rfl,rfl⟩;rw [hfp];conv=>whnf)
    | (refine ⟨⟨by omega,by omega⟩,?_⟩;conv=>whnf)
    | (rw [ti_nat];exact norm_weak [0,3,4,5,6] [some 0,some 1,some 2,some 3,some 4,some 5] rfl rfl)
    | (refine ⟨?_,?_⟩ <;> (conv=>whnf))
  ·rw [←hch]
   conv=>whnf
   refine loopV_cut 2 (fun st=>st = ⟨69,3,[(0,.c (.own 0 2)),(3,.c (.row 3)),(4,.c (.row 4)),(5,vci .i64 (k : Int)),(6,.c (.own 5 0))],reOD D hs gs o k ++ [some (.cells 142 (enF (enOf hs (Gof gs) (o.getD k (0,0)))))]⟩) ?_ ?_
   ·refine loopV ttok ftok (reQD D hs gs o k) (norm_weak [0,3,4,5,6,7] [some 0,some 1,some 2,some 3,some 4,some 5] rfl rfl) ⟨0,rfl,Nat.zero_le _,by rw [show Gof (gs.take 0) (o.getD k (0,0)) = false from by unfold Gof;simp];rfl⟩ ?_
    rintro m st ⟨j,rfl,hj,rfl⟩
    have e2:=e64 (k:=j) (by omega)
    conv=>whnf
    refine onB_intro (fun g2=>?_) (fun g2=>?_)
    ·have g2:=of_decide_eq_true g2
     have hjl : j < gs.length:=by omega
     have hsn:=Gof_snoc hjl (o.getD k (0,0))
     generalize Gof (gs.take j) (o.getD k (0,0)) = b at hsn
     conv=>whnf
     cases b with
     | true =>
      rw [Bool.true_or] at hsn
      refine drawV_mix 14 mixed (by kernel_rfl) ttok ftok ?_
      conv=>whnf
      rw [e2,←hsn]
      exact ⟨gs.length - (j + 1),_,by omega,norm_weak [0,3,4,5,6,7] [some 0,some 1,some 2,some 3,some 4,some 5] rfl rfl,j + 1,rfl,by omega,rfl⟩
     | false =>
      rw [Bool.false_or] at hsn
      refine drawV_mix 14 mixed (by kernel_rfl) ttok ftok ?_
      conv=>whnf
      refine ⟨by omega,?_⟩
      conv=>whnf
      rw [ti_nat]
      rw [show ((gs.getD j (0,0)).1 == (o.getD k (0,0)).1 && ((gs.getD j (0,0)).2 == (o.getD k (0,0)).2 && true)) = decide (gs.getD j (0,0) = o.getD k (0,0)) from by
       rw [Bool.eq_iff_iff,decide_eq_true_iff,Bool.and_true,Bool.and_eq_true,beq_iff_eq,beq_iff_eq]
       exact ⟨fun e=>Prod.ext e.1 e.2,fun e=>by rw [e];exact ⟨rfl,rfl⟩⟩]
      rw [e2,←hsn]
      exact ⟨gs.length - (j + 1),_,by omega,norm_weak [0,3,4,5,6,7] [some 0,some 1,some 2,some 3,some 4,some 5] rfl rfl,j + 1,rfl,by omega,rfl⟩
    ·have g2:=of_decide_eq_false g2
     obtain rfl : j = gs.length:=by omega
     rw [List.take_length]
     conv=>whnf
     exact ⟨rfl,_,norm_weak [0,3,4,5,6] [some 0,some 1,some 2,some 3,some 4,some 5] rfl rfl,rfl⟩
   ·rintro st rfl
    have hsn:=entL_snoc hs gs o hkl
    conv=>whnf
    refine ⟨fun _=>enF (enOf hs (Gof gs) (o.getD k (0,0))),fun j hj2=>?_,?_⟩
    ·obtain rfl : j = 0:=by omega
     rfl
    conv=>whnf
    refine ⟨⟨by omega,by show (List.length (entL hs gs (o.take k)) + 1) * 16≤_;omega⟩,?_⟩
    conv=>whnf
    refine app1 (enc:=enF) (d:=en0) (l:=(entL hs gs (o.take k))) (enOf hs (Gof gs) (o.getD k (0,0))) (fun k hk=>rfl) rfl ?_
    conv=>whnf
    rw [e1,←hsn]
    exact ⟨o.length - (k + 1),_,by omega,norm_weak [0,3,4,5] [some 0,some 1,some 2,some 3,some 7] rfl rfl,k + 1,rfl,by omega,rfl⟩
 ·have g:=of_decide_eq_false g
  have : k = o.length:=by omega
  subst this
  rw [List.take_length]
  conv=>whnf
  refine ⟨_,Weak.refl _,?_⟩
  conv=>whnf
  exact ⟨[some 0,some 1,some 2,some 4],rfl,rfl,o,hO,rfl,rfl⟩
end Go.Eng
namespace Go.Eng
open Go Go.RowKit Go.Proofs
theorem nil_cellT (i j : Nat) (sz : Nat) (f : Nat→List IC) {st : St} {t : TypeId} {cs : List IC} (hi : st.own[i]? = some (some (.cells t cs))) (hj : cs[j]? = some (.v (.slice none 0 0))) :
  Weak st ⟨st.n,st.k,st.env,st.own.set i (some (.cells t (cs.set j (.sl sz 0 f))))⟩:=by
 refine ⟨fun may w0 h0 a w hs=>?_⟩
 obtain ⟨⟨L,F,h,hm,ha,hsub,hnew⟩,hk⟩:=hs
 refine ⟨⟨L,F,h,mem_set hm hi rfl (fun _ _=>rfl) ?_,⟨ha.size,ha.env,ha.defers⟩,hsub,hnew⟩,hk⟩
 obtain ⟨b,vs,h1,h2,h3,h4,h5⟩:=hm.obs i _ hi
 refine ⟨b,vs,h1,h2,h3,by simpa using h4,fun q c u hc hu=>?_⟩
 rw [List.getElem?_set] at hc
 split at hc
 ·rename_i e
  subst e
  split at hc
  ·cases hc
   have:=den_one (h5 j _ u hj hu)
   rw [this]
   exact .sl sz 0 f none 0 ⟨0,0,none⟩ (fun _ _=>undef) (Nat.le_refl _) (by decide) (fun h=>by omega) (fun k hk=>by omega) (fun k hk=>by omega) (fun k hk=>by omega) (fun k hk=>by omega)
  ·cases hc
 ·exact h5 q c u hc hu
abbrev fltA (op : ByteArray) (c : Int) : AV:=.c (.ifc 122 (.fp [.v (.string op),vi c]))
theorem as_c (e old : Int) : CallV Tryz.prog 86 [.c (.v (.iface 111 (.int .i64 e))),.c (.ifc 201 (.own 0 0))] [some (.cells 111 [.v (.int .i64 old)])] (fun r own'=>own' = [some (.cells 111 [.v (.int .i64 e)])]∧r = .c (.v (.bool true))):=by
 refine callV_as rfl rfl (fun m w b hg hm hb=>?_)
 have hg0:=glErr hg w hm
 have hbl : b < w.heap.size:=(Array.getElem?_eq_some_iff.1 hb).1
 refine (as_hit e ⟨b,0,none⟩ (.int .i64 old) w hg0 (by simp [World.cell?,hb]) (by simp [World.frozen?,hb])).mono ?_
 rintro ev w' ⟨rfl,rfl⟩
 have key : ∀ o1 o2 o3 o4,Below w.heap.size w ((((w.alloc o1).alloc o2).alloc o3).alloc o4):=fun o1 o2 o3 o4=>by
  have b1:=(Below.refl w.heap.size w).alloc (Nat.le_refl _) o1
  have b2:=b1.alloc b1.size o2
  have b3:=b2.alloc b2.size o3
  exact b3.alloc b3.size o4
 exact ⟨rfl,_,key _ _ _ _,rfl⟩
theorem fault_c (op : ByteArray) (c : Int) : CallV Tryz.prog 47 [vcs op,erC c] [] (fun r own'=>own' = []∧r = fltA op c):=by
 refine callV_pure Tryz.func47 rfl ttok ftok rfl rfl rfl (Nat.le_of_ble_eq_true rfl) ?_
 conv=>whnf
 refine call_frame2 [some 0] rfl rfl rfl rfl (as_c c 0) ?_
 rintro r own2 ⟨rfl,rfl⟩
 refine ⟨_,_,rfl,rfl,?_⟩
 conv=>whnf
 all_goals first | rfl | exact ⟨rfl,rfl⟩
abbrev sNew : ByteArray:=⟨#[78,101,119]⟩
abbrev sInsert : ByteArray:=⟨#[73,110,115,101,114,116]⟩
abbrev sDelete : ByteArray:=⟨#[68,101,108,101,116,101]⟩
abbrev sApply : ByteArray:=⟨#[65,112,112,108,121]⟩
abbrev sClose : ByteArray:=⟨#[67,108,111,115,101]⟩
abbrev stF (cs : Ck) (l : List Nd) (v : CV) (w : List It) (g : List Sp) : List IC:=[.sl 2 cs.length (chR cs),vi (sumL cs : Int),vi (shnC cs : Int),.sl 10 l.length (ndR l),.sl 2 v.length (ckR v),.sl 7 w.length (itR w),.sl 3 g.length (spR2 g)]
abbrev dcF (cl lim : Int) (cs : Ck) (l : List Nd) (v : CV) (w : List It) (g : List Sp) (ver : Int) (cd : Bool) : List IC:=[vu cl,vu lim,.sl 2 cs.length (chR cs),vi (sumL cs : Int),vi (shnC cs : Int),.sl 10 l.length (ndR l),.sl 2 v.length (ckR v),.sl 7 w.length (itR w),.sl 3 g.length (spR2 g),vi ver,.v (.bool cd)]
theorem gfault_0 : CallV Tryz.prog 15 [.c (.v .nilIface)] [] (fun r own'=>own' = []∧r = .tup [vcs ⟨#[]⟩,vci .i64 0]):=by
 refine callV_pure Tryz.func15 rfl ttok ftok rfl rfl rfl (Nat.le_of_ble_eq_true rfl) ?_
 conv=>whnf
 all_goals first | rfl | exact ⟨rfl,rfl⟩
theorem gfault_c (op : ByteArray) (c : Int) : CallV Tryz.prog 15 [fltA op c] [] (fun r own'=>own' = []∧r = .tup [vcs op,vci .i64 c]):=by
 refine callV_pure Tryz.func15 rfl ttok ftok rfl rfl rfl (Nat.le_of_ble_eq_true rfl) ?_
 conv=>whnf
 refine drawV_quiet mixed (by kernel_rfl) ttok ftok ?_
 conv=>whnf
 all_goals first | rfl | exact ⟨rfl,rfl⟩
theorem new_bad (cl lim : Int) (h : cl = 0∨4294967294 < lim) : CallV Tryz.prog 13 [vci .u32 cl,vci .u32 lim] [] (fun r own'=>own' = []∧r = .tup [.c (.v (.pointer none)),fltA sNew 1]):=by
 refine callV_own Tryz.func13 rfl ttok ftok rfl rfl rfl (Nat.le_of_ble_eq_true rfl) rfl ?_
 conv=>whnf
 cases h1 : (cl == 0) <;> cases h2 : decide (lim > 4294967294)
 ·rw [beq_eq_false_iff_ne] at h1
  have h2:=of_decide_eq_false h2
  omega
 all_goals
  conv=>whnf
  refine call_pure (fault_c sNew 1) rfl ?_
  rintro _ rfl
  conv=>whnf
  exact ⟨_,Weak.refl _,[],rfl,rfl,rfl,rfl⟩
theorem new_ok (cl lim : Int) (h : cl≠0) (h2 : lim≤4294967294) : CallV Tryz.prog 13 [vci .u32 cl,vci .u32 lim] [] (fun r own'=>own' = [some (.cells 121 (dcF cl lim [] [] [] [] [] 0 false))]∧r = .tup [.c (.own 0 0),.c (.v .nilIface)]):=by
 refine callV_own Tryz.func13 rfl ttok ftok rfl rfl rfl (Nat.le_of_ble_eq_true rfl) rfl ?_
 conv=>whnf
 rw [beq_eq_false_iff_ne.2 h,decide_eq_false (by omega : ¬ lim > 4294967294)]
 conv=>whnf
 refine ⟨_,(nil_cellT 0 2 2 (chR []) rfl rfl).trans ((nil_cellT 0 5 10 (ndR []) rfl rfl).trans ((nil_cellT 0 6 2 (ckR []) rfl rfl).trans ((nil_cellT 0 7 7 (itR []) rfl rfl).trans (nil_cellT 0 8 3 (spR2 []) rfl rfl)))),?_⟩
 conv=>whnf
 exact ⟨[some 0],rfl,rfl,rfl,rfl⟩
abbrev rd0 (cl lim : Int) : DF:=⟨cl,lim,[],[],[],0,false⟩
theorem rnew_bad (cl lim : Int) (h : cl = 0∨4294967294 < lim) : CallV Tryz.prog 14 [vci .u32 cl,vci .u32 lim] [] (fun r own'=>own' = []∧r = .tup [.c (.v (.pointer none)),vci .i64 1]):=by
 refine callV_own Tryz.func14 rfl ttok ftok rfl rfl rfl (Nat.le_of_ble_eq_true rfl) rfl ?_
 conv=>whnf
 cases h1 : (cl == 0) <;> cases h2 : decide (lim > 4294967294)
 ·rw [beq_eq_false_iff_ne] at h1
  have h2:=of_decide_eq_false h2
  omega
 all_goals
  conv=>whnf
  exact ⟨_,Weak.refl _,[],rfl,rfl,rfl,rfl⟩
theorem rnew_ok (cl lim : Int) (h : cl≠0) (h2 : lim≤4294967294) : CallV Tryz.prog 14 [vci .u32 cl,vci .u32 lim] [] (fun r own'=>own' = dOwn (rd0 cl lim) [] []∧r = .tup [.c (.own 0 0),vci .i64 0]):=by
 refine callV_own Tryz.func14 rfl ttok ftok rfl rfl rfl (Nat.le_of_ble_eq_true rfl) rfl ?_
 conv=>whnf
 rw [beq_eq_false_iff_ne.2 h,decide_eq_false (by omega : ¬ lim > 4294967294)]
 conv=>whnf
 refine ⟨_,(nil_cell 0 2 144 7 (itR []) rfl rfl).trans ((nil_cell 0 3 136 2 (idR []) rfl rfl).trans ((nil_cellT 0 4 2 (ckR []) rfl rfl).trans ((nil_cellT 0 5 7 (itR []) rfl rfl).trans (nil_cellT 0 6 3 (spR2 []) rfl rfl)))),?_⟩
 conv=>whnf
 exact ⟨[some 0,some 1,some 2],rfl,rfl,rfl,rfl⟩
theorem close_c (cl lim : Int) (cs : Ck) (l : List Nd) (v : CV) (w : List It) (g : List Sp) (ver : Int) (cd : Bool) : CallV Tryz.prog 27 [.c (.own 0 0)] [some (.cells 121 (dcF cl lim cs l v w g ver cd))] (fun r own'=>own' = [some (.cells 121 (dcF cl lim cs l v w g ver true))]∧r = if cd = true then fltA sClose 6 else .c (.v .nilIface)):=by
 refine callV_own Tryz.func27 rfl ttok ftok rfl rfl rfl (Nat.le_of_ble_eq_true rfl) rfl ?_
 conv=>whnf
 cases cd with
 | true =>
  conv=>whnf
  refine call_pure (fault_c sClose 6) rfl ?_
  rintro _ rfl
  conv=>whnf
  refine ⟨_,Weak.refl _,?_⟩
  conv=>whnf
  exact ⟨[some 0],rfl,rfl,rfl,rfl⟩
 | false =>
  conv=>whnf
  refine ⟨_,Weak.refl _,?_⟩
  conv=>whnf
  exact ⟨[some 0],rfl,rfl,rfl,rfl⟩
theorem version_c (cl lim : Int) (cs : Ck) (l : List Nd) (v : CV) (w : List It) (g : List Sp) (ver : Int) (cd : Bool) : CallV Tryz.prog 22 [.c (.own 0 0)] [some (.cells 121 (dcF cl lim cs l v w g ver cd))] (fun r own'=>own' = [some (.cells 121 (dcF cl lim cs l v w g ver cd))]∧r = vci .i64 ver):=by
 refine callV_own Tryz.func22 rfl ttok ftok rfl rfl rfl (Nat.le_of_ble_eq_true rfl) rfl ?_
 conv=>whnf
 refine ⟨_,Weak.refl _,?_⟩
 conv=>whnf
 exact ⟨[some 0],rfl,rfl,rfl,rfl⟩
theorem waiting_c (cl lim : Int) (cs : Ck) (l : List Nd) (v : CV) (w : List It) (g : List Sp) (ver : Int) (cd : Bool) : CallV Tryz.prog 23 [.c (.own 0 0)] [some (.cells 121 (dcF cl lim cs l v w g ver cd))] (fun r own'=>own' = [some (.cells 121 (dcF cl lim cs l v w g ver cd))]∧r = vci .i64 w.length):=by
 refine callV_own Tryz.func23 rfl ttok ftok rfl rfl rfl (Nat.le_of_ble_eq_true rfl) rfl ?_
 conv=>whnf
 refine ⟨_,Weak.refl _,?_⟩
 conv=>whnf
 exact ⟨[some 0],rfl,rfl,rfl,rfl⟩
theorem dtext_c (cl lim : Int) (cs : Ck) (l : List Nd) (v : CV) (w : List It) (g : List Sp) (ver : Int) (cd : Bool) (hl : cs.length≤100000) (hs : sumL cs≤100000) : CallV Tryz.prog 20 [.c (.own 0 0)] [some (.cells 121 (dcF cl lim cs l v w g ver cd))] (fun r own'=>own' = [some (.cells 121 (dcF cl lim cs l v w g ver cd))]∧r = vcs (txS cs.flatten)):=by
 refine callV_own Tryz.func20 rfl ttok ftok rfl rfl rfl (Nat.le_of_ble_eq_true rfl) rfl ?_
 conv=>whnf
 refine call_pure (text_c cs l hl hs) rfl ?_
 rintro _ rfl
 conv=>whnf
 refine ⟨_,Weak.refl _,?_⟩
 conv=>whnf
 exact ⟨[some 0],rfl,rfl,rfl,rfl⟩
theorem dvector_c (cl lim : Int) (cs : Ck) (l : List Nd) (v : CV) (w : List It) (g : List Sp) (ver : Int) (cd : Bool) (hv : v.length≤1000000) : CallV Tryz.prog 19 [.c (.own 0 0)] [some (.cells 121 (dcF cl lim cs l v w g ver cd))] (fun r own'=>own' = [some (.cells 121 (dcF cl lim cs l v w g ver cd)),some (.row 109 2 v.length (ckR v))]∧r = .c (.row 1)):=by
 refine callV_own Tryz.func19 rfl ttok ftok rfl rfl rfl (Nat.le_of_ble_eq_true rfl) rfl ?_
 conv=>whnf
 refine call_frame2 [] rfl rfl rfl rfl (ckClone v (by omega)) ?_
 rintro r own2 ⟨rfl,rfl⟩
 refine ⟨_,_,rfl,rfl,?_⟩
 conv=>whnf
 refine ⟨_,Weak.refl _,?_⟩
 conv=>whnf
 exact ⟨[some 0,some 1],rfl,rfl,rfl,rfl⟩
end Go.Eng
namespace Go.Eng
open Go Go.RowKit Go.Proofs
abbrev spR (l : List Sp) : Nat→List IC:=fun k=>spF (l.getD k sp0)
theorem drop_sp {l : List Sp} {k : Nat} (h : k < l.length) : l.drop k = l.getD k sp0 :: l.drop (k + 1):=by
 rw [List.drop_eq_getElem_cons h,List.getD_eq_getElem?_getD,List.getElem?_eq_getElem h];rfl
def lyI (l : List Sp) (s : Sp) (m : Nat) (st : St) : Prop:=∃ (k : Nat) (a b : List Sp) (t : Sp),m = l.length - k∧k≤l.length∧a.length≤k∧b.length≤k∧layG l ([],[],s) = layG (l.drop k) (a,b,t) ∧
 st = ⟨76,0,[(0,spS l),(3,.c (.own 0 0)),(5,.c (.row 1)),(6,.c (.row 2)),(7,vci .i64 (k : Int))],[some (.cells 154 (spF t)),some (.row 154 3 a.length (spR a)),some (.row 154 3 b.length (spR b))]⟩
theorem appL {α : Type} {enc : α→List IC} {d : α} {l b : List α} {f g : Nat→List IC} {K : Nat→(Nat→List IC)→Prop} (hf : ∀ k,k < l.length→f k = enc (l.getD k d)) (hg : ∀ k,k < b.length→g k = enc (b.getD k d)) (h : K (l ++ b).length fun k=>enc ((l ++ b).getD k d)) :
  ∃ (n' : Nat) (f' : Nat→List IC),n' = l.length + b.length∧(∀ k,k < l.length→f' k = f k)∧(∀ k,k < b.length→f' (l.length + k) = g k)∧K n' f':=by
 refine ⟨_,_,List.length_append,fun k hk=>?_,fun k hk=>?_,h⟩
 ·rw [hf k hk]
  simp [List.getD_eq_getElem?_getD,List.getElem?_append_left hk]
 ·rw [hg k hk,List.getD_eq_getElem?_getD,List.getElem?_append_right (by omega),Nat.add_sub_cancel_left,List.getD_eq_getElem?_getD]
theorem minI_eq (a b : Int) : minI a b = min a b:=by unfold minI;omega
theorem maxI_eq (a b : Int) : maxI a b = max a b:=by unfold maxI;omega
theorem lay_c (l : List Sp) (hl : l.length≤1000000) (s : Sp) : CallV Tryz.prog 150 [spS l,.agg (spF s)] [] (fun r own'=>own' = []∧r = spS (layL l s)):=by
 refine callV_pure Tryz.func150 rfl ttok ftok rfl rfl rfl (Nat.le_of_ble_eq_true rfl) ?_
 conv=>whnf
 refine loopV ttok ftok (lyI l s) ((nil_row 5 154 3 (spR []) rfl).trans ((nil_row 6 154 3 (spR []) rfl).trans (norm_weak [0,3,5,6,7] [some 0,some 1,some 2] rfl rfl))) ⟨0,[],[],s,rfl,Nat.zero_le _,Nat.le_refl _,Nat.le_refl _,rfl,rfl⟩ ?_
 rintro m st ⟨k,a,b,t,rfl,hk,ha,hb,hj,rfl⟩
 have e1:=i64_s (k:=k) (by omega)
 conv=>whnf
 refine onB_intro (fun h=>?_) (fun h=>?_)
 ·have h:=of_decide_eq_true h
  have hkl : k < l.length:=by omega
  rw [drop_sp hkl,layG] at hj
  conv=>whnf
  refine ⟨⟨by omega,by omega⟩,?_⟩
  conv=>whnf
  rw [ti_nat]
  generalize hx : l.getD k sp0 = x at hj
  refine onB_intro (fun g=>?_) (fun g=>?_)
  ·have g : layA t x = true:=by
    simp [pickB,isLit] at g
    exact decide_eq_true g
   rw [if_pos g] at hj
   conv=>whnf
   refine ⟨fun _=>spF x,fun j hj2=>?_,?_⟩
   ·obtain rfl : j = 0:=by omega
    rfl
   conv=>whnf
   refine ⟨⟨by (try simp only [List.length_append,List.length_singleton]);omega,by show (List.length a + 1) * 12≤_;(try simp only [List.length_append,List.length_singleton]);omega⟩,?_⟩
   conv=>whnf
   refine app1 (enc:=spF) (d:=sp0) (l:=a) x (fun k hk=>rfl) rfl ?_
   conv=>whnf
   rw [e1]
   exact ⟨l.length - (k + 1),_,by omega,norm_weak [0,3,5,6,7] [some 0,some 5,some 2] rfl rfl,k + 1,a ++ [x],b,t,rfl,by omega,by simp;omega,by omega,hj,rfl⟩
  have g : ¬ layA t x = true:=fun e=>by
   have:=of_decide_eq_true e
   simp [pickB,isLit] at g
   omega
  rw [if_neg g] at hj
  conv=>whnf
  refine onB_intro (fun g2=>?_) (fun g2=>?_)
  ·have g2 : layB t x = true:=by
    simp [pickB,isLit] at g2
    exact decide_eq_true (by omega)
   rw [if_pos g2] at hj
   conv=>whnf
   refine ⟨fun _=>spF x,fun j hj2=>?_,?_⟩
   ·obtain rfl : j = 0:=by omega
    rfl
   conv=>whnf
   refine ⟨⟨by (try simp only [List.length_append,List.length_singleton]);omega,by show (List.length b + 1) * 12≤_;(try simp only [List.length_append,List.length_singleton]);omega⟩,?_⟩
   conv=>whnf
   refine app1 (enc:=spF) (d:=sp0) (l:=b) x (fun k hk=>rfl) rfl ?_
   conv=>whnf
   rw [e1]
   exact ⟨l.length - (k + 1),_,by omega,norm_weak [0,3,5,6,7] [some 0,some 1,some 5] rfl rfl,k + 1,a,b ++ [x],t,rfl,by omega,by omega,by simp;omega,hj,rfl⟩
  have g2 : ¬ layB t x = true:=fun e=>by
   have:=of_decide_eq_true e
   simp [pickB,isLit] at g2
   omega
  rw [if_neg g2] at hj
  conv=>whnf
  rw [e1]
  rw [←minI_eq,←maxI_eq] at hj
  refine ⟨l.length - (k + 1),_,by omega,norm_weak [0,3,5,6,7] [some 0,some 1,some 2] rfl rfl,k + 1,a,b,_,rfl,by omega,by omega,by omega,hj,rfl⟩
 ·have h:=of_decide_eq_false h
  have hk2 : k = l.length:=by omega
  subst hk2
  rw [List.drop_length,layG] at hj
  have hl2 : layL l s = (a ++ [t]) ++ b:=by unfold layL;rw [hj]
  conv=>whnf
  refine ⟨fun _=>spF t,fun j hj2=>?_,?_⟩
  ·obtain rfl : j = 0:=by omega
   rfl
  conv=>whnf
  refine ⟨⟨by (try simp only [List.length_append,List.length_singleton]);omega,by show (List.length a + 1) * 12≤_;(try simp only [List.length_append,List.length_singleton]);omega⟩,?_⟩
  conv=>whnf
  refine app1 (enc:=spF) (d:=sp0) (l:=a) t (fun k hk=>rfl) rfl ?_
  conv=>whnf
  refine ⟨⟨by simp only [List.length_append,List.length_singleton];omega,by show (List.length (a ++ [t]) + b.length) * 12≤_;simp only [List.length_append,List.length_singleton];omega⟩,?_⟩
  conv=>whnf
  refine appL (enc:=spF) (d:=sp0) (l:=a ++ [t]) (b:=b) (fun k hk=>rfl) (fun k hk=>rfl) ?_
  conv=>whnf
  refine ⟨fun _ _=>rfl,?_⟩
  conv=>whnf
  rw [hl2]
  all_goals first | rfl | exact ⟨rfl,rfl⟩
end Go.Eng
namespace Go.Eng
open Go Go.RowKit Go.Proofs
theorem layG_len : ∀ (l a b : List Sp) (s : Sp),(layG l (a,b,s)).1.length + (layG l (a,b,s)).2.1.length≤a.length + b.length + l.length
 | [],a,b,s=>by simp [layG]
 | x :: l,a,b,s=>by
  unfold layG
  split
  ·have:=layG_len l (a ++ [x]) b s;simp at *;omega
  split
  ·have:=layG_len l a (b ++ [x]) s;simp at *;omega
  ·have:=layG_len l a b ⟨s.cl,min s.fr x.fr,max s.tz x.tz⟩;simp at *;omega
theorem layL_len (l : List Sp) (s : Sp) : (layL l s).length≤l.length + 1:=by
 have:=layG_len l [] [] s
 unfold layL
 simp at *
 omega
theorem setL_len (l : List Sp) : (setL l).length≤l.length:=by
 suffices h : ∀ (n : Nat) (l : List Sp),l.length = n→(setL l).length≤l.length from h _ l rfl
 intro n
 induction n with
 | zero =>
  intro l hl
  obtain rfl:=List.eq_nil_of_length_eq_zero hl
  exact Nat.le_refl _
 | succ n ih =>
  intro l hl
  rcases snoc_cases l with rfl | ⟨l,s,rfl⟩
  ·cases hl
  have:=ih l (by simpa using hl)
  rw [setL_snoc]
  split
  ·have:=layL_len (setL l) s;simp;omega
  ·simp;omega
theorem take_snoc_S {l : List Sp} {k : Nat} (h : k < l.length) : l.take (k + 1) = l.take k ++ [l.getD k sp0]:=by
 rw [List.take_add_one,List.getD_eq_getElem?_getD,List.getElem?_eq_getElem h];rfl
def soI_S (l : List Sp) (m : Nat) (st : St) : Prop:=∃ k : Nat,m = l.length - k∧k≤l.length∧st = ⟨37,0,[(0,spS l),(3,spS (setL (l.take k))),(4,vci .i64 (k : Int))],[]⟩
theorem setof_c (l : List Sp) (hl : l.length≤1000000) : CallV Tryz.prog 91 [spS l] [] (fun r own'=>own' = []∧r = spS (setL l)):=by
 refine callV_pure Tryz.func91 rfl ttok ftok rfl rfl rfl (Nat.le_of_ble_eq_true rfl) ?_
 conv=>whnf
 refine loopV ttok ftok (soI_S l) ((nil_sl 3 3 (spR []) rfl).trans (env_weak [0,3,4] rfl)) ⟨0,rfl,Nat.zero_le _,rfl⟩ ?_
 rintro m st ⟨k,rfl,hk,rfl⟩
 have e1:=i64_s (k:=k) (by omega)
 have hsl:=setL_len (l.take k)
 rw [List.length_take] at hsl
 conv=>whnf
 refine onB_intro (fun h=>?_) (fun h=>?_)
 ·have h:=of_decide_eq_true h
  have hkl : k < l.length:=by omega
  have ht:=setL_snoc (l.take k) (l.getD k sp0)
  rw [←take_snoc_S hkl] at ht
  conv=>whnf
  refine drawV_join mixed (by kernel_rfl) ttok ?_
  conv=>whnf
  refine ⟨by omega,?_⟩
  conv=>whnf
  refine ⟨?_,?_⟩
  ·conv=>whnf
   intro g1
   conv=>whnf
   omega
  conv=>whnf
  refine ⟨?_,?_⟩
  ·conv=>whnf
   intro g1
   conv=>whnf
   omega
  conv=>whnf
  rw [ti_nat]
  refine onB_intro (fun g=>?_) (fun g=>?_)
  ·have g : valS (l.getD k sp0):=by
    simp [pickB,isLit,- List.getD_eq_getElem?_getD] at g
    exact g
   rw [if_pos g] at ht
   conv=>whnf
   refine ⟨⟨by omega,by omega⟩,?_⟩
   conv=>whnf
   rw [ti_nat]
   refine call_pure (lay_c (setL (l.take k)) (by omega) (l.getD k sp0)) rfl ?_
   rintro _ rfl
   conv=>whnf
   rw [e1,←ht]
   exact ⟨l.length - (k + 1),_,by omega,env_weak [0,3,4] rfl,k + 1,rfl,by omega,rfl⟩
  ·have g : ¬ valS (l.getD k sp0):=fun e=>by
    unfold valS at e
    simp [pickB,isLit,- List.getD_eq_getElem?_getD] at g
    omega
   rw [if_neg g] at ht
   conv=>whnf
   rw [e1]
   refine ⟨l.length - (k + 1),_,by omega,env_weak [0,3,4] rfl,k + 1,rfl,by omega,?_⟩
   rw [ht]
 ·have h:=of_decide_eq_false h
  have hk2 : k = l.length:=by omega
  subst hk2
  conv=>whnf
  rw [List.take_length]
  all_goals first | rfl | exact ⟨rfl,rfl⟩
def rhI_S (l : List Sp) (a : I2) (m : Nat) (st : St) : Prop:=∃ k : Nat,m = l.length - k∧k≤l.length∧(∀ j,j < k→¬ inS_S (l.getD j sp0) a.1 a.2)∧st = ⟨40,0,[(0,spS l),(3,.c (.own 0 0)),(5,vci .i64 (k : Int))],[some (.cells 136 (idF a))]⟩
theorem hasS_at {l : List Sp} {c x : Int} : hasS l c x↔∃ k,k < l.length∧inS_S (l.getD k sp0) c x:=by
 have hg : ∀ j (hj : j < l.length),l.getD j sp0 = l[j]:=fun j hj=>by rw [List.getD_eq_getElem?_getD,List.getElem?_eq_getElem hj];rfl
 constructor
 ·rintro ⟨s,hs,h⟩
  obtain ⟨k,hk,rfl⟩:=List.getElem_of_mem hs
  exact ⟨k,hk,by rw [hg k hk];exact h⟩
 ·rintro ⟨k,hk,h⟩
  rw [hg k hk] at h
  exact ⟨_,List.getElem_mem hk,h⟩
theorem rhas_c_S (l : List Sp) (hl : l.length≤1000000) (a : I2) : CallV Tryz.prog 97 [spS l,idA a] [] (fun r own'=>own' = []∧∃ b : Bool,(b = true↔hasS l a.1 a.2)∧r = vcb b):=by
 refine callV_pure Tryz.func97 rfl ttok ftok rfl rfl rfl (Nat.le_of_ble_eq_true rfl) ?_
 conv=>whnf
 refine loopV ttok ftok (rhI_S l a) (norm_weak [0,3,5] [some 0] rfl rfl) ⟨0,rfl,Nat.zero_le _,fun j hj=>by omega,rfl⟩ ?_
 rintro m st ⟨k,rfl,hk,hj,rfl⟩
 have e1:=i64_s (k:=k) (by omega)
 conv=>whnf
 refine onB_intro (fun h=>?_) (fun h=>?_)
 ·have h:=of_decide_eq_true h
  have hkl : k < l.length:=by omega
  conv=>whnf
  refine drawV_join mixed (by kernel_rfl) ttok ?_
  conv=>whnf
  refine ⟨by omega,?_⟩
  conv=>whnf
  refine ⟨?_,?_⟩
  ·conv=>whnf
   intro g1
   conv=>whnf
   omega
  conv=>whnf
  refine ⟨?_,?_⟩
  ·conv=>whnf
   intro g1
   conv=>whnf
   omega
  conv=>whnf
  rw [ti_nat]
  refine onB_intro (fun g=>?_) (fun g=>?_)
  ·have g : inS_S (l.getD k sp0) a.1 a.2:=by
    simp [pickB,isLit,- List.getD_eq_getElem?_getD] at g
    unfold inS_S;omega
   conv=>whnf
   exact ⟨true,⟨fun _=>hasS_at.2 ⟨k,hkl,g⟩,fun _=>rfl⟩,rfl⟩
  ·have g : ¬ inS_S (l.getD k sp0) a.1 a.2:=fun e=>by
    unfold inS_S at e
    simp [pickB,isLit,- List.getD_eq_getElem?_getD] at g
    omega
   conv=>whnf
   rw [e1]
   refine ⟨l.length - (k + 1),_,by omega,norm_weak [0,3,5] [some 0] rfl rfl,k + 1,rfl,by omega,fun j h2=>?_,rfl⟩
   rcases Nat.lt_succ_iff_lt_or_eq.1 h2 with h3 | rfl
   ·exact hj j h3
   ·exact g
 ·have h:=of_decide_eq_false h
  conv=>whnf
  refine ⟨false,⟨fun e=>(nomatch e),fun e=>?_⟩,rfl⟩
  obtain ⟨j,h1,h2⟩:=hasS_at.1 e
  exact (hj j (by omega) h2).elim
end Go.Eng
namespace Go.Eng
open Go Go.RowKit Go.Proofs
theorem of1_c (s : Sp) : CallV Tryz.prog 246 [.agg (spF s)] [] (fun r own'=>own' = []∧r = vcb (!decide (valS s))):=by
 refine callV_pure Tryz.func246 rfl ttok ftok rfl rfl rfl (Nat.le_of_ble_eq_true rfl) ?_
 conv=>whnf
 have e : pickB (s.cl == 0) (Operand.const (Value.bool true)) (Operand.tmp 11) true (decide (s.fr ≥ s.tz)) = !decide (valS s):=by
  unfold valS
  simp only [pickB,isLit]
  by_cases h : s.cl = 0
  ·simp [h]
  ·by_cases h2 : s.fr < s.tz
   ·simp [h,h2]
   ·simp [h,h2];omega
 rw [e]
def ixI (l : List Sp) (c n : Nat) (st : St) : Prop:=∃ k : Nat,n = l.length - k∧k≤l.length∧(∀ j,j < k→valS (l.getD j sp0)) ∧
 st = ⟨19,2,[(0,.c (.view 1 3 0 l.length c)),(1,.c (.fn 246 [])),(7,vci .i64 l.length),(8,vci .i64 (k : Int))],[none,some (.arr 154 3 c l.length (spR l))]⟩
theorem ixf_v (l : List Sp) (c : Nat) (hc : l.length≤c) (hl : l.length≤1000000) : CallV Tryz.prog 252 [.c (.view 1 3 0 l.length c),.c (.fn 246 [])] [none,some (.arr 154 3 c l.length (spR l))]
  (fun r own'=>((∃ k : Nat,k < l.length∧¬ valS (l.getD k sp0)∧(∀ j,j < k→valS (l.getD j sp0))∧r = vci .i64 k)∨((∀ j,j < l.length→valS (l.getD j sp0))∧r = vci .i64 (-1)))∧own' = [none,some (.arr 154 3 c l.length (spR l))]):=by
 refine callV_own Tryz.func252 rfl ttok ftok rfl rfl rfl (Nat.le_of_ble_eq_true rfl) rfl ?_
 conv=>whnf
 refine loopV ttok ftok (ixI l c) (env_weak [0,1,7,8] rfl) ⟨0,rfl,Nat.zero_le _,fun j hj=>by omega,rfl⟩ ?_
 rintro n st ⟨k,rfl,hk,hj,rfl⟩
 have e1:=i64_s (k:=k) (by omega)
 conv=>whnf
 refine onB_intro (fun h=>?_) (fun h=>?_)
 ·have h:=of_decide_eq_true h
  have hkl : k < l.length:=by omega
  conv=>whnf
  refine ⟨⟨by omega,by omega⟩,?_⟩
  conv=>whnf
  rw [ti_nat]
  refine ⟨by omega,?_⟩
  conv=>whnf
  rw [show 0 + k = k from Nat.zero_add k]
  refine call_pure (of1_c (l.getD k sp0)) rfl ?_
  rintro _ rfl
  conv=>whnf
  by_cases hv : valS (l.getD k sp0)
  ·rw [show (!decide (valS (l.getD k sp0))) = false from by rw [decide_eq_true hv];rfl]
   conv=>whnf
   rw [e1]
   refine ⟨l.length - (k + 1),_,by omega,env_weak [0,1,7,8] rfl,k + 1,rfl,by omega,fun j h2=>?_,rfl⟩
   rcases Nat.lt_succ_iff_lt_or_eq.1 h2 with h3 | rfl
   ·exact hj j h3
   ·exact hv
  ·rw [show (!decide (valS (l.getD k sp0))) = true from by rw [decide_eq_false hv];rfl]
   conv=>whnf
   refine ⟨_,Weak.refl _,?_⟩
   conv=>whnf
   exact ⟨[none,some 1],rfl,rfl,.inl ⟨k,hkl,hv,hj,rfl⟩,rfl⟩
 ·have h:=of_decide_eq_false h
  conv=>whnf
  refine ⟨_,Weak.refl _,?_⟩
  conv=>whnf
  exact ⟨[none,some 1],rfl,rfl,.inr ⟨fun j hj2=>hj j (by omega),rfl⟩,rfl⟩
theorem ixf_n : CallV Tryz.prog 252 [.c (.v (.slice none 0 0)),.c (.fn 246 [])] [] (fun r own'=>own' = []∧r = vci .i64 (-1)):=by
 refine callV_pure Tryz.func252 rfl ttok ftok rfl rfl rfl (Nat.le_of_ble_eq_true rfl) ?_
 conv=>whnf
 refine ⟨by omega,?_⟩
 conv=>whnf
 refine loop_rounds 1 ttok ftok ?_
 conv=>whnf
 all_goals first | rfl | exact ⟨rfl,rfl⟩
theorem valid_all {l : List Sp} (h : ∀ j,j < l.length→valS (l.getD j sp0)) : valid l = l:=by
 refine List.filter_eq_self.2 fun s hs=>?_
 obtain ⟨k,hk,rfl⟩:=List.getElem_of_mem hs
 have:=h k hk
 rw [List.getD_eq_getElem?_getD,List.getElem?_eq_getElem hk] at this
 exact decide_eq_true this
def deI (l : List Sp) (c n : Nat) (st : St) : Prop:=∃ (j i : Nat) (f : Nat→Sp),n = l.length - j∧j≤l.length∧i < j∧(valid (l.take j)).length = i∧(∀ q,q < i→f q = (valid (l.take j)).getD q sp0)∧(∀ q,j≤q→q < l.length→f q = l.getD q sp0) ∧
 st = ⟨42,2,[(0,.c (.view 1 3 0 l.length c)),(1,.c (.fn 246 [])),(5,vci .i64 (i : Int)),(6,vci .i64 (j : Int))],[none,some (.arr 154 3 c l.length fun q=>spF (f q))]⟩
theorem delf_c (l : List Sp) (hl : l.length≤1000000) : CallV Tryz.prog 245 [.c (.row 0),.c (.fn 246 [])] [some (.row 154 3 l.length (spR l))]
  (fun r own'=>r = .c (.row 2)∧own' = [none,none,some (.row 154 3 (valid l).length (spR (valid l)))]):=by
 refine callV_view 0 rfl (fun h0=>?_) (fun c hc hc2=>?_)
 ·obtain rfl : l = []:=List.eq_nil_of_length_eq_zero h0
  show CallV Tryz.prog 245 [.c (.v (.slice none 0 0)),.c (.fn 246 [])] [none] _
  refine callV_own Tryz.func245 rfl ttok ftok rfl rfl rfl (Nat.le_of_ble_eq_true rfl) rfl ?_
  conv=>whnf
  refine call_pure ixf_n rfl ?_
  rintro _ rfl
  conv=>whnf
  refine ⟨_,nil_row 4 154 3 (spR []) rfl,?_⟩
  conv=>whnf
  exact ⟨[none,none,some 1],rfl,rfl,rfl,rfl⟩
 show CallV Tryz.prog 245 [.c (.view 1 3 0 l.length c),.c (.fn 246 [])] [none,some (.arr 154 3 c l.length (spR l))] _
 refine callV_own Tryz.func245 rfl ttok ftok rfl rfl rfl (Nat.le_of_ble_eq_true rfl) rfl ?_
 conv=>whnf
 refine (ixf_v l c hc hl).mono ?_
 rintro r own' ⟨h,rfl⟩
 rcases h with ⟨i,hi,hv,hj,rfl⟩ | ⟨hj,rfl⟩
 rotate_left
 ·conv=>whnf
  refine ⟨_,view_row 4 1 (n:=l.length) rfl rfl rfl rfl (Nat.le_refl _) rfl,?_⟩
  conv=>whnf
  rw [valid_all hj]
  exact ⟨[none,none,some 2],rfl,rfl,rfl,rfl⟩
 conv=>whnf
 rw [show ((i : Int) == -1) = false from beq_eq_false_iff_ne.2 (by omega)]
 conv=>whnf
 have hvi : valid (l.take (i + 1)) = l.take i:=by
  rw [take_snoc_S hi,valid_append,valid_all (l:=l.take i) (fun j hj2=>by rw [List.length_take] at hj2;rw [getD_take _ _ _ _ (by omega)];exact hj j (by omega))]
  simp [valid,hv,- List.getD_eq_getElem?_getD]
 rw [i64_s (by omega)]
 refine loopV ttok ftok (deI l c) (env_weak [0,1,5,6] rfl) ⟨i + 1,i,fun q=>l.getD q sp0,rfl,by omega,by omega,by rw [hvi,List.length_take];omega,fun q hq=>by rw [hvi];exact (getD_take _ _ _ _ hq).symm,fun q hq _=>rfl,rfl⟩ ?_
 rintro n st ⟨j,i,f,rfl,hjl,hij,hi,hf1,hf2,rfl⟩
 have e1:=i64_s (k:=j) (by omega)
 have e2:=i64_s (k:=i) (by omega)
 conv=>whnf
 refine onB_intro (fun h=>?_) (fun h=>?_)
 ·have h:=of_decide_eq_true h
  have hkl : j < l.length:=by omega
  conv=>whnf
  refine ⟨⟨by omega,by omega⟩,?_⟩
  conv=>whnf
  rw [ti_nat]
  refine ⟨by omega,?_⟩
  rw [show 0 + j = j from Nat.zero_add j]
  have hfj:=hf2 j (Nat.le_refl _) hkl
  conv=>whnf
  refine call_pure (of1_c (f j)) rfl ?_
  rintro _ rfl
  have ht:=take_snoc_S hkl
  rw [←hfj] at ht
  by_cases hv : valS (f j)
  ·rw [show (!decide (valS (f j))) = false from by rw [decide_eq_true hv];rfl]
   have hva : valid (l.take (j + 1)) = valid (l.take j) ++ [f j]:=by rw [ht,valid_append,show valid [f j] = [f j] from by simp [valid,hv,- List.getD_eq_getElem?_getD]]
   conv=>whnf
   refine ⟨⟨by omega,by omega⟩,?_⟩
   conv=>whnf
   rw [ti_nat]
   refine ⟨by omega,?_⟩
   conv=>whnf
   refine ⟨fun q=>spF (if q = i then f j else f q),fun q _=>?_,?_⟩
   ·show spF (if q = i then f j else f q) = _
    by_cases hq : q = i
    ·rw [if_pos hq,if_pos (by omega)]
    ·rw [if_neg hq,if_neg (by omega)]
   conv=>whnf
   rw [e1,e2]
   exact ⟨l.length - (j + 1),_,by omega,norm_weak [0,1,5,6] [none,some 1] rfl rfl,j + 1,i + 1,fun q=>if q = i then f j else f q,rfl,by omega,by omega,by rw [hva,List.length_append,hi];rfl,fun q hq=>by
    rw [hva]
    show (if q = i then f j else f q) = _
    by_cases hqi : q = i
    ·rw [if_pos hqi,List.getD_eq_getElem?_getD,List.getElem?_append_right (by omega),hqi,hi,Nat.sub_self];rfl
    ·rw [if_neg hqi,List.getD_eq_getElem?_getD,List.getElem?_append_left (by omega),←List.getD_eq_getElem?_getD];exact hf1 q (by omega),fun q hq hq2=>by
    show (if q = i then f j else f q) = _
    rw [if_neg (by omega)];exact hf2 q (by omega) hq2,rfl⟩
  ·rw [show (!decide (valS (f j))) = true from by rw [decide_eq_false hv];rfl]
   have hva : valid (l.take (j + 1)) = valid (l.take j):=by rw [ht,valid_append,show valid [f j] = [] from by simp [valid,hv,- List.getD_eq_getElem?_getD],List.append_nil]
   conv=>whnf
   rw [e1]
   exact ⟨l.length - (j + 1),_,by omega,norm_weak [0,1,5,6] [none,some 1] rfl rfl,j + 1,i,f,rfl,by omega,by omega,by rw [hva];exact hi,fun q hq=>by rw [hva];exact hf1 q hq,fun q hq hq2=>hf2 q (by omega) hq2,rfl⟩
 ·have h:=of_decide_eq_false h
  have hjl2 : j = l.length:=by omega
  subst hjl2
  rw [List.take_length] at hi hf1
  conv=>whnf
  refine ⟨⟨by omega,by omega,by omega,by omega⟩,?_⟩
  conv=>whnf
  simp only [ti_nat]
  refine ⟨by omega,(valid l).length,spR (valid l),fun q hq=>.inr ⟨.inl (by omega),by omega,?_⟩,?_⟩
  ·show spF _ = spF (f q)
   rw [hf1 q (by omega)]
  conv=>whnf
  refine ⟨⟨by omega,by omega,by omega,by omega⟩,?_⟩
  conv=>whnf
  refine ⟨_,view_row 4 1 (n:=(valid l).length) rfl rfl (by rfl) (by omega) (by omega) (by omega),?_⟩
  conv=>whnf
  exact ⟨[none,none,some 2],rfl,rfl,rfl,rfl⟩
end Go.Eng
namespace Go.Eng
open Go Go.RowKit Go.Proofs Go.Sort
instance : Inhabited Sp:=⟨sp0⟩
def encSp_S (s : Sp) : List Value:=[.int .u32 s.cl,.int .u32 s.fr,.int .u32 s.tz]
theorem span_sort (l : List Sp) (hl : l.length≤1000000) : CallV Tryz.prog 247 [.c (.row 0),.c (.fn 248 [])] [some (.row 154 3 l.length (spR l))]
  (fun r own'=>∃ ys : List Sp,ys.Perm l∧ys.Pairwise lexS∧r = .tup []∧own' = [some (.row 154 3 ys.length (spR ys))]):=by
 have h:=callV_sort (α:=Sp) Tryz.sortSpan 3 (fun _=>by kernel_rfl) (fun _=>by kernel_rfl) encSp_S (fun _=>rfl) (fun x v hv=>by
   simp only [encSp_S,List.mem_cons,List.not_mem_nil,or_false] at hv
   rcases hv with rfl | rfl | rfl <;> rfl) _ (swo_lex Sp.cl Sp.fr) 248 (enters_of Tryz.func248 (by kernel_rfl) rfl) (fun x y W=>ofc_w (x.cl,x.fr,x.tz) (y.cl,y.fr,y.tz) W) 154 l (by omega)
 refine CallV.mono h ?_
 rintro r own' ⟨ys,h1,h2,h3,h4⟩
 refine ⟨ys,h1,List.pairwise_iff_getElem.2 fun i j hi hj hij=>?_,h3,h4⟩
 have:=h2 i j hij hj
 rw [lt_lex,List.getD_eq_getElem?_getD,List.getD_eq_getElem?_getD,List.getElem?_eq_getElem hi,List.getElem?_eq_getElem hj] at this
 simp only [Option.getD_some,decide_eq_false_iff_not] at this
 unfold lexS
 omega
end Go.Eng
namespace Go.Eng
open Go Go.RowKit Go.Proofs
theorem spClone (l : List Sp) (hl : l.length≤1000000000) : CallV Tryz.prog 65 [.c (.sl 3 l.length fun k=>spF (l.getD k sp0))] []
  (fun r own'=>r = .c (.row 0)∧own' = [some (.row 154 3 l.length fun k=>spF (l.getD k sp0))]):=by
 refine callV_own Tryz.func65 rfl ttok ftok rfl rfl rfl (Nat.le_of_ble_eq_true rfl) rfl ?_
 conv=>whnf
 intro b hb
 cases b with
 | true =>
  have h0:=hb rfl
  obtain rfl : l = []:=List.eq_nil_of_length_eq_zero h0
  conv=>whnf
  refine ⟨_,nil_row 2 154 3 (fun k=>spF (([] : List Sp).getD k sp0)) rfl,?_⟩
  conv=>whnf
  exact ⟨[some 0],rfl,rfl,rfl,rfl⟩
 | false =>
  clear hb
  conv=>whnf
  refine ⟨⟨by omega,by show (0 + l.length) * 12≤_;omega⟩,?_⟩
  conv=>whnf
  refine ⟨l.length,fun k=>spF (l.getD k sp0),by omega,fun k hk=>by omega,fun k hk=>by rw [Nat.zero_add],?_⟩
  conv=>whnf
  refine ⟨_,Weak.refl _,?_⟩
  conv=>whnf
  exact ⟨[some 1],rfl,rfl,rfl,rfl⟩
def ofI_S (ys : List Sp) (m : Nat) (st : St) : Prop:=∃ (k : Nat) (o : List Sp),m = ys.length - k∧k≤ys.length∧o = mrgL (ys.take k)∧o.length≤k ∧
 st = ⟨64,0,[(3,.c (.row 1)),(12,.c (.row 0)),(13,vci .i64 (ys.length : Int)),(14,vci .i64 (k : Int))],[some (.row 154 3 ys.length (spR ys)),some (.row 154 3 o.length (spR o))]⟩
theorem of_c_S (l : List Sp) (hl : l.length≤1000000) : CallV Tryz.prog 196 [spS l] [] (fun r own'=>own' = []∧∃ o : List Sp,ofS l o∧r = spS o):=by
 refine callV_pure Tryz.func196 rfl ttok ftok rfl rfl rfl (Nat.le_of_ble_eq_true rfl) ?_
 conv=>whnf
 refine call_frame2 [] rfl rfl rfl rfl (spClone l (by omega)) ?_
 rintro r own2 ⟨rfl,rfl⟩
 refine ⟨.c (.row 0),[some (.row 154 3 l.length (spR l))],rfl,rfl,?_⟩
 conv=>whnf
 refine call_frame2 [some 0] rfl rfl rfl rfl (delf_c l (by omega)) ?_
 rintro r own2 ⟨rfl,rfl⟩
 refine ⟨.c (.row 2),[none,none,some (.row 154 3 (valid l).length (spR (valid l)))],rfl,rfl,?_⟩
 conv=>whnf
 have hvl : (valid l).length≤l.length:=List.length_filter_le _ _
 refine call_frame2 [some 2] rfl rfl rfl rfl (span_sort (valid l) (by omega)) ?_
 rintro r own2 ⟨ys,hp,hs,rfl,rfl⟩
 have hlen:=hp.length_eq
 refine ⟨.tup [],[none,none,some (.row 154 3 ys.length (spR ys))],rfl,rfl,?_⟩
 conv=>whnf
 refine loopV ttok ftok (ofI_S ys) ((nil_row 3 154 3 (spR []) rfl).trans (norm_weak [3,12,13,14] [some 2,some 3] rfl rfl)) ⟨0,[],rfl,Nat.zero_le _,rfl,Nat.le_refl _,rfl⟩ ?_
 rintro m st ⟨k,o,rfl,hk,ho,hol,rfl⟩
 have e1:=i64_s (k:=k) (by omega)
 conv=>whnf
 refine onB_intro (fun h=>?_) (fun h=>?_)
 ·have h:=of_decide_eq_true h
  have hkl : k < ys.length:=by omega
  have hnx:=mrgL_snoc (ys.take k) (ys.getD k sp0)
  rw [←take_snoc_S hkl,←ho] at hnx
  rcases snoc_cases o with rfl | ⟨o,t,rfl⟩
  ·conv=>whnf
   refine ⟨by omega,?_⟩
   conv=>whnf
   refine drawV_join mixed (by kernel_rfl) ttok ?_
   conv=>whnf
   refine ⟨?_,?_⟩
   ·conv=>whnf
    intro g1
    exact absurd (of_decide_eq_true g1) (by decide)
   conv=>whnf
   refine ⟨?_,?_⟩
   ·conv=>whnf
    intro g1
    simp [pickB,isLit] at g1
   conv=>whnf
   rw [ti_nat]
   refine ⟨fun _=>spF (ys.getD k sp0),fun j hj2=>?_,?_⟩
   ·obtain rfl : j = 0:=by omega
    rfl
   conv=>whnf
   refine ⟨⟨by (try simp only [List.length_append,List.length_singleton]);omega,by show (List.length ([] : List Sp) + 1) * 12≤_;(try simp only [List.length_append,List.length_singleton]);omega⟩,?_⟩
   conv=>whnf
   refine app1 (enc:=spF) (d:=sp0) (l:=([] : List Sp)) (ys.getD k sp0) (fun k hk=>rfl) rfl ?_
   conv=>whnf
   rw [e1]
   exact ⟨ys.length - (k + 1),_,by omega,norm_weak [3,12,13,14] [some 0,some 4] rfl rfl,k + 1,[] ++ [ys.getD k sp0],rfl,by omega,hnx.symm,by simp,rfl⟩
  have hlt : (o ++ [t]).length = o.length + 1:=by simp
  rw [mrg_last] at hnx
  conv=>whnf
  refine ⟨by omega,?_⟩
  conv=>whnf
  refine drawV_join mixed (by kernel_rfl) ttok ?_
  conv=>whnf
  have e0 : IntKind.i64.wrap (((o ++ [t]).length : Int) - 1) = (o.length : Int):=by rw [w_i64 (by omega) (by omega),hlt];omega
  have et : (o ++ [t]).getD o.length sp0 = t:=by rw [List.getD_eq_getElem?_getD,List.getElem?_append_right (Nat.le_refl _),Nat.sub_self];rfl
  rw [e0]
  refine ⟨?_,?_⟩
  ·conv=>whnf
   intro g1
   conv=>whnf
   omega
  conv=>whnf
  refine ⟨?_,?_⟩
  ·conv=>whnf
   intro g1
   conv=>whnf
   omega
  conv=>whnf
  rw [e0,ti_nat,ti_nat,et]
  refine onB_intro (fun g=>?_) (fun g=>?_)
  ·have g : t.cl = (ys.getD k sp0).cl∧(ys.getD k sp0).fr≤t.tz:=by
    simp [pickB,isLit,- List.getD_eq_getElem?_getD] at g
    omega
   rw [if_pos g] at hnx
   conv=>whnf
   refine drawV_mix 12 mixed (by kernel_rfl) ttok ftok ?_
   conv=>whnf
   rw [e0]
   refine ⟨by omega,?_⟩
   conv=>whnf
   rw [ti_nat,et]
   refine ⟨by omega,?_⟩
   conv=>whnf
   rw [←maxI_eq] at hnx
   generalize hu : maxI t.tz (ys.getD k sp0).tz = u at hnx
   have hl2 : (o ++ [t]).length = (o ++ [(⟨t.cl,t.fr,u⟩ : Sp)]).length:=by simp
   refine ⟨spR (o ++ [(⟨t.cl,t.fr,u⟩ : Sp)]),fun j hj=>?_,?_⟩
   ·by_cases hjo : j = o.length
    ·rw [if_pos hjo,hjo]
     show spF ((o ++ [(⟨t.cl,t.fr,u⟩ : Sp)]).getD o.length sp0) = _
     rw [List.getD_eq_getElem?_getD,List.getElem?_append_right (Nat.le_refl _),Nat.sub_self]
     show _ = List.take 2 (spF ((o ++ [t]).getD o.length sp0)) ++ _ ++ List.drop 3 (spF ((o ++ [t]).getD o.length sp0))
     rw [et]
     rfl
    ·rw [if_neg hjo]
     show spF ((o ++ [(⟨t.cl,t.fr,u⟩ : Sp)]).getD j sp0) = spF ((o ++ [t]).getD j sp0)
     rw [List.getD_eq_getElem?_getD,List.getD_eq_getElem?_getD,List.getElem?_append_left (by omega),List.getElem?_append_left (by omega)]
   conv=>whnf
   rw [e1]
   rw [hl2]
   exact ⟨ys.length - (k + 1),_,by omega,norm_weak [3,12,13,14] [some 0,some 1] rfl rfl,k + 1,o ++ [(⟨t.cl,t.fr,u⟩ : Sp)],rfl,by omega,hnx.symm,by simp at hol ⊢;omega,rfl⟩
  ·have g : ¬ (t.cl = (ys.getD k sp0).cl∧(ys.getD k sp0).fr≤t.tz):=fun e=>by
    simp [pickB,isLit,- List.getD_eq_getElem?_getD] at g
    omega
   rw [if_neg g] at hnx
   conv=>whnf
   refine ⟨fun _=>spF (ys.getD k sp0),fun j hj2=>?_,?_⟩
   ·obtain rfl : j = 0:=by omega
    rfl
   conv=>whnf
   refine ⟨⟨by (try simp only [List.length_append,List.length_singleton]);omega,by show (List.length (o ++ [t]) + 1) * 12≤_;(try simp only [List.length_append,List.length_singleton]);omega⟩,?_⟩
   conv=>whnf
   refine app1 (enc:=spF) (d:=sp0) (l:=(o ++ [t])) (ys.getD k sp0) (fun k hk=>rfl) rfl ?_
   conv=>whnf
   rw [e1]
   exact ⟨ys.length - (k + 1),_,by omega,norm_weak [3,12,13,14] [some 0,some 4] rfl rfl,k + 1,(o ++ [t]) ++ [ys.getD k sp0],rfl,by omega,hnx.symm,by simp at hol ⊢;omega,rfl⟩
 ·have h:=of_decide_eq_false h
  have hk2 : k = ys.length:=by omega
  subst hk2
  rw [List.take_length] at ho
  conv=>whnf
  refine ⟨fun _ _=>rfl,?_⟩
  conv=>whnf
  rw [ho]
  exact ⟨mrgL ys,ofS_of hp hs,rfl⟩
end Go.Eng
namespace Go.Eng
open Go Go.RowKit Go.Proofs
theorem grow_n (n : Nat) (hn : n≤1000000) : CallV Tryz.prog 249 [nilS,vci .i64 (n : Int)] [] (fun r own'=>r = .c (.row 0)∧own' = [some (.row 154 3 0 (spR []))]):=by
 have h1 : (Tryz.prog.info? 154).map (fun i=>(i.size,i.bytes,i.zero)) = some (3,12,some (.agg #[.int .u32 0,.int .u32 0,.int .u32 0])):=by kernel_rfl
 obtain ⟨i0,h2,h3⟩:=Option.map_eq_some_iff.1 h1
 have e1 : i0.size = 3:=(Prod.mk.inj h3).1
 have e2 : i0.bytes = 12:=(Prod.mk.inj (Prod.mk.inj h3).2).1
 have e3 : i0.zero = some (.agg #[.int .u32 0,.int .u32 0,.int .u32 0]):=(Prod.mk.inj (Prod.mk.inj h3).2).2
 have h:=callV_growNil Tryz.growSpan i0 _ h2 e3 (by omega) (by rw [e1];rfl) n (by rw [e2];omega) (by omega) (spR [])
 rw [e1] at h
 exact h
abbrev twoF (a b : List Sp) : Nat→List IC:=fun k=>[[IC.sl 3 a.length (spR a)],[IC.sl 3 b.length (spR b)]].getD k []
theorem concat_c (a b : List Sp) (ha : a.length≤500000) (hb : b.length≤500000) : CallV Tryz.prog 197 [.c (.sl 1 2 (twoF a b))] [] (fun r own'=>own' = []∧r = spS (a ++ b)):=by
 refine callV_pure Tryz.func197 rfl ttok ftok rfl rfl rfl (Nat.le_of_ble_eq_true rfl) ?_
 conv=>whnf
 refine loop_rounds 3 ttok ftok ?_
 conv=>whnf
 refine ⟨⟨by omega,by omega⟩,?_⟩
 conv=>whnf
 rw [show IntKind.i64.wrap (0 + (a.length : Int)) = ((a.length : Nat) : Int) from by rw [w_i64 (by omega) (by omega)];omega]
 conv=>whnf
 rw [show IntKind.i64.wrap (0 + 1) = (1 : Int) from rfl]
 refine ⟨⟨by omega,by omega⟩,?_⟩
 conv=>whnf
 rw [show IntKind.i64.wrap ((a.length : Int) + (b.length : Int)) = ((a.length + b.length : Nat) : Int) from by rw [w_i64 (by omega) (by omega)];omega]
 conv=>whnf
 refine call_frame2 [] rfl rfl rfl rfl (grow_n (a.length + b.length) (by omega)) ?_
 rintro r own2 ⟨rfl,rfl⟩
 refine ⟨.c (.row 0),[some (.row 154 3 0 (spR []))],rfl,rfl,?_⟩
 conv=>whnf
 refine loop_rounds 3 ttok ftok ?_
 conv=>whnf
 refine ⟨⟨by omega,by omega⟩,?_⟩
 conv=>whnf
 refine ⟨⟨by omega,by show (0 + a.length) * 12≤_;omega⟩,?_⟩
 conv=>whnf
 refine ⟨a.length,spR a,by omega,fun k hk=>by omega,fun k hk=>by rw [Nat.zero_add],?_⟩
 conv=>whnf
 rw [show IntKind.i64.wrap (0 + 1) = (1 : Int) from rfl]
 refine ⟨⟨by omega,by omega⟩,?_⟩
 conv=>whnf
 refine ⟨⟨by omega,by show (a.length + b.length) * 12≤_;omega⟩,?_⟩
 conv=>whnf
 refine appL (enc:=spF) (d:=sp0) (l:=a) (b:=b) (fun k hk=>rfl) (fun k hk=>rfl) ?_
 conv=>whnf
 refine ⟨fun _ _=>rfl,?_⟩
 conv=>whnf
 all_goals first | rfl | exact ⟨rfl,rfl⟩
theorem join_c (a b : List Sp) (ha : a.length≤500000) (hb : b.length≤500000) : CallV Tryz.prog 136 [spS a,spS b] [] (fun r own'=>own' = []∧∃ o : List Sp,ofS (a ++ b) o∧r = spS o):=by
 refine callV_pure Tryz.func136 rfl ttok ftok rfl rfl rfl (Nat.le_of_ble_eq_true rfl) ?_
 conv=>whnf
 refine ⟨twoF a b,fun k hk=>rfl,?_⟩
 conv=>whnf
 refine ⟨fun j hj=>?_,?_⟩
 ·match j,hj with
  | 0,_=>rfl
  | 1,_=>rfl
 conv=>whnf
 refine call_pure (concat_c a b (by omega) (by omega)) rfl ?_
 rintro _ rfl
 conv=>whnf
 refine call_pure (of_c_S (a ++ b) (by rw [List.length_append];omega)) rfl ?_
 rintro _ ⟨o,ho,rfl⟩
 conv=>whnf
 exact ⟨o,ho,rfl⟩
end Go.Eng
namespace Go.Eng
open Go Go.RowKit Go.Proofs
def spIndexCI (O : List (Option Ob)) (l : List Sp) (p : Sp→Bool) (caps : List (Bool × List IC)) (n : Nat) (st : St) : Prop:=∃ k : Nat,n = l.length - k∧k≤l.length∧(∀ j,j < k→p (l.getD j sp0) = false) ∧
 st = ⟨19,O.length,[(0,.c (.sl 3 l.length fun k=>spF (l.getD k sp0))),(1,.c (.fn 213 caps)),(7,vci .i64 l.length),(8,vci .i64 (k : Int))],O⟩
theorem spIndexC (O : List (Option Ob)) (l : List Sp) (hl : l.length≤1000000000) (caps : List (Bool × List IC)) (p : Sp→Bool)
  (hp : ∀ k,k < l.length→CallV Tryz.prog 213 (.agg (spF (l.getD k sp0)) :: capsA caps) O (fun r own'=>r = vcb (p (l.getD k sp0))∧own' = O)) :
  CallV Tryz.prog 252 [.c (.sl 3 l.length fun k=>spF (l.getD k sp0)),.c (.fn 213 caps)] O (fun r own'=>(∃ k : Nat,k < l.length∧p (l.getD k sp0) = true∧(∀ j,j < k→p (l.getD j sp0) = false)∧r = vci .i64 k∧own' = O) ∨
   ((∀ j,j < l.length→p (l.getD j sp0) = false)∧r = vci .i64 (-1)∧own' = O)):=by
 refine callV_same Tryz.func252 rfl ttok ftok rfl rfl rfl (Nat.le_of_ble_eq_true rfl) ?_
 conv=>whnf
 refine loopV ttok ftok (spIndexCI O l p caps) (env_weak [0,1,7,8] rfl) ⟨0,rfl,Nat.zero_le _,fun j hj=>by omega,rfl⟩ ?_
 rintro n st ⟨k,rfl,hk,hj,rfl⟩
 conv=>whnf
 refine onB_intro (fun h=>?_) (fun h=>?_)
 ·have h:=of_decide_eq_true h
  have hkl : k < l.length:=by omega
  conv=>whnf
  rw [forceL_eq]
  conv=>whnf
  refine ⟨⟨by omega,by omega⟩,?_⟩
  conv=>whnf
  refine (hp k hkl).mono ?_
  rintro r own2 ⟨rfl,rfl⟩
  conv=>whnf
  cases hpk : p (l.getD k sp0) with
  | true =>
   conv=>whnf
   refine ⟨_,Weak.refl _,?_⟩
   conv=>whnf
   exact .inl ⟨k,hkl,hpk,hj,rfl,rfl⟩
  | false =>
   conv=>whnf
   refine ⟨l.length - (k + 1),_,by omega,env_weak [0,1,7,8] rfl,k + 1,rfl,by omega,fun j hj2=>?_,?_⟩
   ·rcases Nat.lt_succ_iff_lt_or_eq.1 hj2 with h2 | rfl
    ·exact hj j h2
    ·exact hpk
   rw [show (((k + 1 : Nat)) : Int) = IntKind.i64.wrap ((k : Int) + 1) from by rw [w_i64 (by omega) (by omega)];omega]
   all_goals rfl
 ·have h:=of_decide_eq_false h
  conv=>whnf
  refine ⟨_,Weak.refl _,?_⟩
  conv=>whnf
  exact .inr ⟨fun j hj2=>hj j (by omega),rfl,rfl⟩
theorem spContainsC (O : List (Option Ob)) (l : List Sp) (hl : l.length≤1000000000) (caps : List (Bool × List IC)) (p : Sp→Bool)
  (hp : ∀ k,k < l.length→CallV Tryz.prog 213 (.agg (spF (l.getD k sp0)) :: capsA caps) O (fun r own'=>r = vcb (p (l.getD k sp0))∧own' = O)) :
  CallV Tryz.prog 212 [.c (.sl 3 l.length fun k=>spF (l.getD k sp0)),.c (.fn 213 caps)] O (fun r own'=>∃ b : Bool,(b = true↔∃ k,k < l.length∧p (l.getD k sp0) = true)∧r = vcb b∧own' = O):=by
 refine callV_same Tryz.func212 rfl ttok ftok rfl rfl rfl (Nat.le_of_ble_eq_true rfl) ?_
 conv=>whnf
 rw [forceL_eq]
 conv=>whnf
 refine (spIndexC O l hl caps p hp).mono ?_
 rintro r own2 (⟨k,hk,h1,h2,rfl,rfl⟩ | ⟨h1,rfl,rfl⟩)
 ·conv=>whnf
  refine ⟨_,Weak.refl _,?_⟩
  conv=>whnf
  refine ⟨true,⟨fun _=>⟨k,hk,h1⟩,fun _=>rfl⟩,?_,rfl⟩
  show vcb (decide ((k : Int) ≥ 0)) = _
  rw [decide_eq_true (by omega)]
 ·conv=>whnf
  refine ⟨_,Weak.refl _,?_⟩
  conv=>whnf
  refine ⟨false,⟨fun e=>(by cases e),fun ⟨k,hk,h2⟩=>by rw [h1 k hk] at h2;cases h2⟩,rfl,rfl⟩
instance (s : Sp) (c x : Int) : Decidable (inS_S s c x):=inferInstanceAs (Decidable (s.cl = c∧s.fr≤x∧x < s.tz))
theorem has1_c_S (a : I2) (s : Sp) : CallV Tryz.prog 213 [.agg (spF s),.c (.own 0 0)] [some (.cells 136 (idF a))] (fun r own'=>r = vcb (decide (inS_S s a.1 a.2))∧own' = [some (.cells 136 (idF a))]):=by
 refine callV_own Tryz.func213 rfl ttok ftok rfl rfl rfl (Nat.le_of_ble_eq_true rfl) rfl ?_
 conv=>whnf
 refine ⟨_,Weak.refl _,?_⟩
 conv=>whnf
 refine ⟨[some 0],rfl,rfl,?_,rfl⟩
 show vcb _ = _
 congr 3
 unfold inS_S
 simp only [pickB,isLit]
 by_cases h1 : s.cl = a.1
 ·by_cases h2 : s.fr≤a.2
  ·by_cases h3 : a.2 < s.tz
   ·simp [h1,h2,h3]
   ·simp [h1,h2,h3]
  ·simp [h1,h2]
 ·simp [h1]
theorem has_c (l : List Sp) (hl : l.length≤1000000) (a : I2) : CallV Tryz.prog 148 [spS l,idA a] [] (fun r own'=>own' = []∧∃ b : Bool,(b = true↔hasS l a.1 a.2)∧r = vcb b):=by
 refine callV_pure Tryz.func148 rfl ttok ftok rfl rfl rfl (Nat.le_of_ble_eq_true rfl) ?_
 conv=>whnf
 refine (spContainsC _ l (by omega) [(false,[.own 0 0])] (fun x=>decide (inS_S x a.1 a.2)) (fun k hk=>has1_c_S a _)).mono ?_
 rintro r own2 ⟨c,hc,rfl,rfl⟩
 conv=>whnf
 refine ⟨c,?_,rfl⟩
 rw [hc,hasS_at]
 simp only [decide_eq_true_eq]
end Go.Eng
