/- A part of the proof: what the functions of the program come to, told by a small reckoner of states. -/
import Derived.Test.YteglopjljejjkabGA1TA6
import Derived.Maps.AppendAt
import Derived.Deep.Upon
import Derived.Great.BuildSlice
import Derived.Laws.IdiomStrings
import Derived.Laws.RangeAny
import Derived.Laws.OwnMore
set_option linter.unusedVariables false
set_option linter.unusedSimpArgs false
namespace Go.Eng
open Go Go.RowKit

theorem clo_of0 {c : IC} (h : clo0 c = true) : clo c = true := by cases c <;> simp_all [clo, clo0]
section
variable {L L' : Nat → Value} {h h' : Hp}
/-- What holds no place of the call's own is told by what stays alone. -/
theorem Den.clo {c : IC} {v : Value} (hd : Den L h c v) (n' : Nat) : Go.Eng.clo c = true → Den L' ⟨h.m, n'⟩ c v := by
  induction hd with
  | v x h1 => exact fun _ => .v x h1
  | sl sz n f A c ad g hc hm hA hg hl hclo hr ih => exact fun _ => .sl sz n f A c ad g hc hm hA hg hl hclo (fun k hk j c' hj => ih k hk j c' hj (List.all_eq_true.1 (hclo k hk) c' (List.mem_of_getElem? hj)))
  | fp cs ad g hclo hg hr ih => exact fun _ => .fp cs ad g hclo hg (fun j c' hj => ih j c' hj (List.all_eq_true.1 hclo c' (List.mem_of_getElem? hj)))
  | own i off a h1 h2 => intro e; cases e
  | row i A n c h1 h2 => intro e; cases e
  | rel i sz k off a h1 h2 h3 => intro e; cases e
  | view i sz k n c a b h1 h2 h3 h4 h5 => intro e; cases e
  | fn f cs vs g hl hv h1 hr ih =>
    intro e
    refine .fn f cs vs g hl hv h1 (fun j b xs hj i c' hi => ih j b xs hj i c' hi (clo_of0 ?_))
    have := List.all_eq_true.1 e (b, xs) (List.mem_of_getElem? hj)
    exact List.all_eq_true.1 this c' (List.mem_of_getElem? hi)
  | ifc t c v hr ih => exact fun e => .ifc t c v (ih (clo_of0 e))
  | mp i r h1 h2 => intro e; cases e
  | any x h1 => exact fun _ => .any x h1
theorem DenL.clo {cs : List IC} {vs : List Value} (hd : DenL L h cs vs) (n' : Nat) (hc : cs.all Go.Eng.clo = true) : DenL L' ⟨h.m, n'⟩ cs vs :=
  ⟨hd.1, fun j c u hj hu => (hd.2 j c u hj hu).clo n' (List.all_eq_true.1 hc c (List.mem_of_getElem? hj))⟩
def clo1 : AV → Bool
  | .c x => clo x
  | .agg xs => xs.all clo
  | .tup _ => false
  | .top => false
def cloA : AV → Bool
  | .tup as => as.all clo1
  | a => clo1 a
theorem Den1.clo {a : AV} {v : Value} (hd : Den1 L h a v) (n' : Nat) (hc : clo1 a = true) : Den1 L' ⟨h.m, n'⟩ a v := by
  cases a with
  | c x => exact Den.clo hd n' hc
  | agg xs => obtain ⟨vs, e, hd⟩ := hd; exact ⟨vs, e, hd.clo n' hc⟩
  | tup as => cases hc
  | top => cases hc
theorem DenA.clo {a : AV} {v : Value} (hd : DenA L h a v) (n' : Nat) (hc : cloA a = true) : DenA L' ⟨h.m, n'⟩ a v := by
  cases a with
  | c x => exact Den1.clo (a := .c x) hd n' hc
  | agg xs => exact Den1.clo (a := .agg xs) hd n' hc
  | tup as =>
    obtain ⟨vs, e, hl, hd⟩ := hd
    exact ⟨vs, e, hl, fun j a u ha hu => (hd j a u ha hu).clo n' (List.all_eq_true.1 hc a (List.mem_of_getElem? ha))⟩
  | top => cases hc
/-! ### Putting other cells in the place of cells -/
def up (s0 : IC → IC) : IC → IC
  | .fn f cs => .fn f (cs.map fun x => (x.1, x.2.map s0))
  | .ifc t c => .ifc t (s0 c)
  | c => s0 c
structure SubstOk (L L' : Nat → Value) (h h' : Hp) (s : IC → IC) : Prop where
  out : ∀ c v, Den L h c v → Den L' h' (s c) v
theorem map_caps {s0 : IC → IC} {cs : List (Bool × List IC)} {j : Nat} {b : Bool} {xs : List IC} (hj : (cs.map fun x => (x.1, x.2.map s0))[j]? = some (b, xs)) : ∃ ys, cs[j]? = some (b, ys) ∧ xs = ys.map s0 := by
  rw [List.getElem?_map] at hj
  cases hx : cs[j]? with
  | none => rw [hx] at hj; cases hj
  | some p =>
    rw [hx] at hj
    obtain ⟨b0, ys⟩ := p
    simp only [Option.map_some, Option.some.injEq, Prod.mk.injEq] at hj
    obtain ⟨rfl, rfl⟩ := hj
    exact ⟨ys, rfl, rfl⟩
theorem SubstOk.up {s0 : IC → IC} (hs : SubstOk L L' h h' s0) : SubstOk L L' h h' (up s0) := by
  refine ⟨fun c v hd => ?_⟩
  cases hd with
  | fn f cs vs g hl hv h1 hr =>
    refine .fn f _ vs g (by rw [List.length_map]; exact hl) (fun j b xs u hj hu => ?_) (fun j xs hj => ?_) (fun j b xs hj i c' hi => ?_)
    · obtain ⟨ys, hx, rfl⟩ := map_caps hj
      rw [List.length_map]; exact hv j _ _ u hx hu
    · obtain ⟨ys, hx, rfl⟩ := map_caps hj
      rw [List.length_map]; exact h1 j _ hx
    · obtain ⟨ys, hx, rfl⟩ := map_caps hj
      rw [List.getElem?_map] at hi
      cases hy : ys[i]? with
      | none => rw [hy] at hi; cases hi
      | some c0 =>
        rw [hy] at hi
        cases hi
        exact hs.out _ _ (hr j _ _ hx i c0 hy)
  | ifc t c v hr => exact .ifc t _ v (hs.out _ _ hr)
  | v _ h1 => exact hs.out _ _ (.v _ h1)
  | sl sz n f A c ad g hc hm hA hg hl hclo hr => exact hs.out _ _ (.sl sz n f A c ad g hc hm hA hg hl hclo hr)
  | fp cs ad g hclo hg hr => exact hs.out _ _ (.fp cs ad g hclo hg hr)
  | own i off a h1 h2 => exact hs.out _ _ (.own i off a h1 h2)
  | row i A n c h1 h2 => exact hs.out _ _ (.row i A n c h1 h2)
  | rel i sz k off a h1 h2 h3 => exact hs.out _ _ (.rel i sz k off a h1 h2 h3)
  | view i sz k n c a b h1 h2 h3 h4 h5 => exact hs.out _ _ (.view i sz k n c a b h1 h2 h3 h4 h5)
  | mp i r h1 h2 => exact hs.out _ _ (.mp i r h1 h2)
  | any _ h1 => exact hs.out _ _ (.any _ h1)
def sb1 (g : IC → IC) : AV → AV
  | .c x => .c (g x)
  | .agg xs => .agg (xs.map g)
  | .tup a => .tup a
  | .top => .top
def sbA (g : IC → IC) : AV → AV
  | .tup as => .tup (as.map (sb1 g))
  | a => sb1 g a
theorem SubstOk.denL {s : IC → IC} (hs : SubstOk L L' h h' s) {cs : List IC} {vs : List Value} (hd : DenL L h cs vs) : DenL L' h' (cs.map s) vs := by
  refine ⟨by rw [List.length_map]; exact hd.1, fun j c u hj hu => ?_⟩
  rw [List.getElem?_map] at hj
  cases hx : cs[j]? with
  | none => rw [hx] at hj; cases hj
  | some c0 => rw [hx] at hj; cases hj; exact hs.out _ _ (hd.2 j c0 u hx hu)
theorem SubstOk.den1 {s : IC → IC} (hs : SubstOk L L' h h' s) {a : AV} {v : Value} (hd : Den1 L h a v) : Den1 L' h' (sb1 s a) v := by
  cases a with
  | c x => exact hs.out _ _ hd
  | agg xs => obtain ⟨vs, e, hd⟩ := hd; exact ⟨vs, e, hs.denL hd⟩
  | tup as => exact hd
  | top => exact hd
theorem SubstOk.denA {s : IC → IC} (hs : SubstOk L L' h h' s) {a : AV} {v : Value} (hd : DenA L h a v) : DenA L' h' (sbA s a) v := by
  cases a with
  | c x => exact hs.out _ _ hd
  | agg xs => exact hs.den1 (a := .agg xs) hd
  | tup as =>
    obtain ⟨vs, e, hl, hd⟩ := hd
    refine ⟨vs, e, by rw [List.length_map]; exact hl, fun j a u ha hu => ?_⟩
    rw [List.getElem?_map] at ha
    cases hx : as[j]? with
    | none => rw [hx] at ha; cases ha
    | some a0 => rw [hx] at ha; cases ha; exact hs.den1 (hd j a0 u hx hu)
  | top => trivial
theorem SubstOk.rowD {s : IC → IC} (hs : SubstOk L L' h h' s) {sz n : Nat} {f : Nat → List IC} {vs : List Value} (hd : RowD L h sz n f vs) : RowD L' h' sz n (fun k => (f k).map s) vs := by
  refine ⟨fun k hk => by rw [List.length_map]; exact hd.len k hk, fun k hk j c hj => ?_⟩
  rw [List.getElem?_map] at hj
  cases hx : (f k)[j]? with
  | none => rw [hx] at hj; cases hj
  | some c0 =>
    rw [hx] at hj
    cases hj
    obtain ⟨u, h1, h2⟩ := hd.den k hk j c0 hx
    exact ⟨u, h1, hs.out _ _ h2⟩
/-- An object's cells, put otherwise. -/
def sbObj (s : IC → IC) : Ob → Ob
  | .cells t cs => .cells t (cs.map s)
  | .row e sz n f => .row e sz n (fun k => (f k).map s)
  | .arr e sz cap n f => .arr e sz cap n (fun k => (f k).map s)
  | .mp t es => .mp t (es.map fun x => (x.1, sb1 s x.2))
  | .iter b p => .iter b p
  | .abs p => .abs p
theorem SubstOk.obOk {s : IC → IC} (hs : SubstOk L L' h h' s) (hm : ∀ k o, h.m k = some o → h'.m k = some o) {w : World} {v : Value} {F : Nat → Prop} {o : Ob} (hd : ObOk L h w v F o) : ObOk L' h' w v F (sbObj s o) := by
  cases o with
  | cells t cs => obtain ⟨b, vs, h1, h2, h3, h4⟩ := hd; exact ⟨b, vs, h1, h2, h3, hs.denL h4⟩
  | row e sz n f => obtain ⟨vs, h1, h2, h3⟩ := hd; exact ⟨vs, h1, h2, hs.rowD h3⟩
  | arr e sz cap n f => obtain ⟨b, cur, h1, h2, h3, h4, h5, h6, h7⟩ := hd; exact ⟨b, cur, h1, h2, h3, h4, h5, h6, hs.rowD h7⟩
  | mp t es =>
    obtain ⟨r, ents, clock, h1, h2, h3, h4, h5⟩ := hd
    refine ⟨r, ents, clock, h1, h2, h3, by rw [List.length_map]; exact h4, fun j k a en hj hk => ?_⟩
    rw [List.getElem?_map] at hj
    cases hx : es[j]? with
    | none => rw [hx] at hj; cases hj
    | some p =>
      rw [hx] at hj
      cases hj
      exact ⟨(h5 j _ _ en hx hk).1, hs.den1 (h5 j _ _ en hx hk).2⟩
  | iter b p => exact hd
  | abs p => exact ⟨hd.1, hd.1.out _ _ _ _ _ _ hd.2 hm (fun _ _ => rfl)⟩
def sbEnv (g : IC → IC) : List (Nat × AV) → (List (Nat × AV) → Prop) → Prop
  | [], K => K []
  | x :: r, K => forceA (sbA g x.2) fun a => sbEnv g r fun r => K ((x.1, a) :: r)
theorem sbEnv_eq (g : IC → IC) : ∀ (l : List (Nat × AV)) (K : List (Nat × AV) → Prop), sbEnv g l K = K (l.map fun x => (x.1, sbA g x.2))
  | [], K => rfl
  | x :: r, K => by rw [sbEnv, forceA_eq, sbEnv_eq g r]; rfl
/-- The cells' objects alone: what else there is stays as it is told. -/
def sbOb (g : IC → IC) : Option Ob → Option Ob
  | some (.cells t cs) => some (.cells t (cs.map g))
  | o => o
def sbOwn (g : IC → IC) : List (Option Ob) → (List (Option Ob) → Prop) → Prop
  | [], K => K []
  | o :: r, K => match o with
    | some (.cells t cs) => forceL (cs.map g) fun cs => sbOwn g r fun r => K (some (.cells t cs) :: r)
    | o => sbOwn g r fun r => K (o :: r)
theorem sbOwn_eq (g : IC → IC) : ∀ (l : List (Option Ob)) (K : List (Option Ob) → Prop), sbOwn g l K = K (l.map (sbOb g))
  | [], K => rfl
  | o :: r, K => by
    unfold sbOwn
    split
    · rw [forceL_eq, sbOwn_eq g r]; rfl
    · rename_i ho
      rw [sbOwn_eq g r]
      rw [List.map_cons]
      congr 2
      unfold sbOb
      split
      · rename_i t cs
        exact absurd rfl (ho t cs)
      · rfl
theorem lookup_map {f : AV → AV} : ∀ (l : List (Nat × AV)) (t : Nat), (l.map fun x => (x.1, f x.2)).lookup t = (l.lookup t).map f
  | [], t => rfl
  | x :: r, t => by
    rw [List.map_cons, List.lookup_cons, List.lookup_cons, lookup_map r t]
    split <;> rfl
theorem SubstOk.agree {s : IC → IC} (hs : SubstOk L L' h h' s) {st : St} {a : Act} (ha : Agree L h st a) {own : List (Option Ob)} {k : Nat} : Agree L' h' ⟨st.n, k, st.env.map fun x => (x.1, sbA s x.2), own⟩ a := by
  refine ⟨ha.size, fun t av ht => ?_, ha.defers⟩
  simp only [lookup_map] at ht
  cases hx : st.env.lookup t with
  | none => rw [hx] at ht; cases ht
  | some a0 => rw [hx] at ht; cases ht; exact hs.denA (ha.env t a0 hx)
end
/-! ### Laying own objects still -/
def sbR (i sz n : Nat) (f : Nat → List IC) : IC → IC
  | .row j => match Nat.beq j i with | true => .sl sz n f | false => .row j
  | .rel j sz' k off => match Nat.beq j i && Nat.beq sz' sz with | true => .fp ((f k).drop off) | false => .rel j sz' k off
  | c => c
def sbO (i : Nat) (cs : List IC) : IC → IC
  | .own j off => match Nat.beq j i with | true => .fp (cs.drop off) | false => .own j off
  | c => c
/-- Lay own object i still, where it is a row, or cells. -/
def frzK (st : St) (i : Nat) (K : St → Prop) : Prop :=
  match st with
  | ⟨n, k, env, own⟩ => match own[i]? with
    | some (some (.row e sz m f)) => (∀ j, j < m → (f j).all clo = true) ∧ sbEnv (up (sbR i sz m f)) env fun env => sbOwn (up (sbR i sz m f)) (own.set i none) fun own => K ⟨n, k, env, own⟩
    | some (some (.cells t cs)) => ifD (cs.all clo = true) (sbEnv (up (sbO i cs)) env fun env => sbOwn (up (sbO i cs)) (own.set i none) fun own => K ⟨n, k, env, own⟩)
    | _ => K ⟨n, k, env, own⟩
def frzL (l : List Nat) : St → (St → Prop) → Prop :=
  List.rec (motive := fun _ => St → (St → Prop) → Prop) (fun st K => K st) (fun i _ ih st K => frzK st i fun st => ih st K) l
section
variable {P : Program} {T : TT} {mine may : Nat → Prop} {L : Nat → Value} {F : Nat → Nat → Prop} {h h' : Hp} {st : St} {a : Act} {w w0 : World} {own : List (Option Ob)}
theorem Hp.eta (h : Hp) : (⟨h.m, h.n⟩ : Hp) = h := by cases h; rfl
/-- A block less that is own, one more that stays. -/
theorem mem_stay (hm : Mem mine L F h own w) {i : Nat} {o : Ob} (hi : own[i]? = some (some o)) {g : Nat} (hF : F i g) {ob : Obj} (hg : w.heap[g]? = some ob) :
    ∃ h', Sub h h' ∧ h'.n = h.n ∧ Mem mine L F h' (own.set i none) w ∧ h'.m g = some ob ∧ (∀ k, h'.m k ≠ none → h.m k ≠ none ∨ mine k) := by
  obtain ⟨f1, f2, f3⟩ := hm.foot i o g hi hF
  have hd := mem_drop hm i
  let h' : Hp := ⟨fun k => if k = g then some ob else h.m k, h.n⟩
  have hs : Sub h h' := ⟨fun k o hk => by
    show (if k = g then _ else _) = _
    by_cases ek : k = g
    · subst ek; rw [f2] at hk; cases hk
    · rw [if_neg ek]; exact hk, Nat.le_refl _⟩
  refine ⟨h', hs, rfl, ⟨hd.hn, fun k o hk => ?_, fun j oj hj => ?_, fun j oj b hj hb => ?_, hd.dis⟩, by show (if g = g then _ else _) = _; rw [if_pos rfl], fun k hk => ?_⟩
  · have hk : (if k = g then some ob else h.m k) = some o := hk
    by_cases ek : k = g
    · subst ek; rw [if_pos rfl] at hk; cases hk; exact hg
    · rw [if_neg ek] at hk; exact hm.hsub k o hk
  · exact obOk_move (hd.obs j oj hj) (fun _ _ => rfl) (fun _ _ => rfl) hs
  · obtain ⟨k1, k2, k3⟩ := hd.foot j oj b hj hb
    refine ⟨k1, ?_, k3⟩
    have hne : b ≠ g := fun e => by
      subst e
      have := set_none_get hj
      exact this.2 (hm.dis j i oj o b this.1 hi hb hF)
    show (if b = g then _ else _) = _
    rw [if_neg hne]; exact k2
  · have hk : (if k = g then some ob else h.m k) ≠ none := hk
    by_cases ek : k = g
    · subst ek; exact .inr f3
    · rw [if_neg ek] at hk; exact .inl hk
theorem hcell_at {h : Hp} {g : Nat} {cur : Array Value} {t : TypeId} {z : Nat × Nat} (hg : h.m g = some (.cells cur t z)) (j : Nat) : hcell h ⟨g, j, none⟩ = cur.toList[j]? := by
  unfold hcell
  simp [hg]
/-- An own row laid still. -/
theorem frz_row (hm : Mem mine L F h own w) {i : Nat} {e : TypeId} {sz m : Nat} {f : Nat → List IC} (hi : own[i]? = some (some (.row e sz m f))) (hcl : ∀ j, j < m → (f j).all clo = true) :
    ∃ h', Sub h h' ∧ h'.n = h.n ∧ Mem mine L F h' (own.set i none) w ∧ SubstOk L L h h' (sbR i sz m f) ∧ (∀ k, h'.m k ≠ none → h.m k ≠ none ∨ mine k) := by
  obtain ⟨vs, ⟨hl, hr⟩, hG, hR⟩ := hm.obs i _ hi
  have fin : ∀ h' : Hp, Sub h h' → (∀ v, L i = v → Den L h' (.sl sz m f) v) → (∀ k off a, k < m → baseOf (L i) = some a → Den L h' (.fp ((f k).drop off)) (.pointer (some (a.add (k * sz + off))))) → (∀ A n c, L i = .slice A n c → n = m) → SubstOk L L h h' (sbR i sz m f) := fun h' hs h1 h2 h3 => by
    refine ⟨fun c v hd => ?_⟩
    unfold sbR
    split
    · rename_i j
      split
      · rename_i e
        have e := Nat.eq_of_beq_eq_true e
        subst e
        cases hd with
        | row _ A n c k1 k2 => exact h1 _ k2
      · exact hd.mono hs (fun _ _ => rfl)
    · rename_i j sz' k off
      split
      · rename_i e
        rw [Bool.and_eq_true] at e
        have e1 := Nat.eq_of_beq_eq_true e.1
        have e2 := Nat.eq_of_beq_eq_true e.2
        subst e1 e2
        cases hd with
        | rel _ _ _ _ a k1 k2 k3 =>
          refine h2 k off a ?_ k2
          rcases hr with ⟨e1, e2⟩ | ⟨g, cap, cur, e1, _⟩
          · rw [e1] at k2; cases k2
          · exact k3 _ _ _ e1
      · exact hd.mono hs (fun _ _ => rfl)
    · exact hd.mono hs (fun _ _ => rfl)
  rcases hr with ⟨e1, e2⟩ | ⟨g, cap, cur, e1, e2, e3, e4, e5, e6, e7⟩
  · refine ⟨h, Sub.refl h, rfl, mem_drop hm i, fin h (Sub.refl h) (fun v hv => ?_) (fun k off a hk hb => by omega) (fun A n c e => ?_), fun k hk => .inl hk⟩
    · rw [e1] at hv
      subst hv
      rw [e2]
      exact .sl _ _ _ _ _ ⟨0, 0, none⟩ (fun _ _ => undef) (Nat.le_refl _) (by omega) (fun hp => by omega) (fun k hk => by omega) (fun k hk => by omega) (fun k hk => by omega) (fun k hk => by omega)
    · rw [e1] at e; cases e; exact e2.symm
  · have hFg := hG g (by rw [e1]; rfl)
    obtain ⟨h', s1, s2, s3, s4, s5⟩ := mem_stay hm hi hFg e3
    refine ⟨h', s1, s2, s3, fin h' s1 (fun v hv => ?_) (fun k off a hk hb => ?_) (fun A n c e => by rw [e1] at e; cases e; rfl), s5⟩
    · rw [e1] at hv
      subst hv
      refine .sl _ _ _ _ _ ⟨g, 0, none⟩ (fun k j => (vs[k * sz + j]?).getD undef) e4 (by unfold maxLen at e5; omega) (fun _ => rfl) (fun k hk j hj => ?_) hR.len hcl (fun k hk j c' hc' => ?_)
      · rw [addr_plain, Nat.zero_add, hcell_at s4]
        have hlt : j < (f k).length := by rw [hR.len k hk]; exact hj
        obtain ⟨u, q1, q2⟩ := hR.den k hk j (f k)[j] (by simp [hlt])
        rw [q1]
        rw [← e7, List.getElem?_take] at q1
        split at q1
        · rw [q1]; rfl
        · cases q1
      · obtain ⟨u, q1, q2⟩ := hR.den k hk j c' hc'
        rw [q1]
        exact q2.mono s1 (fun _ _ => rfl)
    · rw [e1] at hb
      cases hb
      refine .fp _ _ (fun j => (vs[k * sz + (off + j)]?).getD undef) (List.all_eq_true.2 (fun x hx => List.all_eq_true.1 (hcl k hk) x (List.mem_of_mem_drop hx))) (fun j hj => ?_) (fun j c' hc' => ?_)
      · rw [addr_plain, addr_plain, Nat.zero_add, hcell_at s4, Nat.add_assoc]
        have hlt : off + j < (f k).length := by simp at hj; omega
        obtain ⟨u, q1, q2⟩ := hR.den k hk (off + j) (f k)[off + j] (by simp [hlt])
        rw [q1]
        rw [← e7, List.getElem?_take] at q1
        split at q1
        · rw [q1]; rfl
        · cases q1
      · rw [List.getElem?_drop] at hc'
        obtain ⟨u, q1, q2⟩ := hR.den k hk _ c' hc'
        rw [q1]
        exact q2.mono s1 (fun _ _ => rfl)
/-- Own cells laid still. -/
theorem frz_cells (hm : Mem mine L F h own w) {i : Nat} {t : TypeId} {cs : List IC} (hi : own[i]? = some (some (.cells t cs))) (hcl : cs.all clo = true) :
    ∃ h', Sub h h' ∧ h'.n = h.n ∧ Mem mine L F h' (own.set i none) w ∧ SubstOk L L h h' (sbO i cs) ∧ (∀ k, h'.m k ≠ none → h.m k ≠ none ∨ mine k) := by
  obtain ⟨b, vs, e1, e2, e3, e4⟩ := hm.obs i _ hi
  obtain ⟨h', s1, s2, s3, s4, s5⟩ := mem_stay hm hi e2 e3
  refine ⟨h', s1, s2, s3, ⟨fun c v hd => ?_⟩, s5⟩
  unfold sbO
  split
  · rename_i j off
    split
    · rename_i e
      have e := Nat.eq_of_beq_eq_true e
      subst e
      cases hd with
      | own _ _ a k1 k2 =>
        rw [e1] at k2
        cases k2
        refine .fp _ _ (fun j => (vs[off + j]?).getD undef) (List.all_eq_true.2 (fun x hx => List.all_eq_true.1 hcl x (List.mem_of_mem_drop hx))) (fun j hj => ?_) (fun j c' hc' => ?_)
        · rw [addr_plain, addr_plain, Nat.zero_add, hcell_at s4]
          have hlt : off + j < vs.length := by have := e4.1; simp at hj; omega
          simp [hlt]
        · rw [List.getElem?_drop] at hc'
          have hlt : off + j < vs.length := by have := (List.getElem?_eq_some_iff.1 hc').1; have := e4.1; omega
          have hv : vs[off + j]? = some vs[off + j] := by simp [hlt]
          rw [hv]
          exact (e4.2 _ _ _ hc' hv).mono s1 (fun _ _ => rfl)
    · exact hd.mono s1 (fun _ _ => rfl)
  · exact hd.mono s1 (fun _ _ => rfl)
theorem map_sbOb_get {g : IC → IC} {own : List (Option Ob)} {j : Nat} {oj : Ob} (hj : (own.map (sbOb g))[j]? = some (some oj)) : ∃ oj', own[j]? = some (some oj') ∧ (oj = oj' ∨ ∃ t cs, oj' = .cells t cs ∧ oj = .cells t (cs.map g)) := by
  rw [List.getElem?_map] at hj
  cases ho : own[j]? with
  | none => rw [ho] at hj; cases hj
  | some o =>
    rw [ho] at hj
    simp only [Option.map_some, Option.some.injEq] at hj
    cases o with
    | none => cases hj
    | some o =>
      refine ⟨o, rfl, ?_⟩
      unfold sbOb at hj
      split at hj
      · rename_i t cs heq
        cases heq
        cases hj
        exact .inr ⟨t, cs, rfl, rfl⟩
      · cases hj; exact .inl rfl
theorem mem_sbOb {g : IC → IC} (hm : Mem mine L F h own w) (hg : SubstOk L L h h g) : Mem mine L F h (own.map (sbOb g)) w := by
  refine ⟨by rw [List.length_map]; exact hm.hn, hm.hsub, fun j oj hj => ?_, fun j oj b hj hb => ?_, fun j k oj ok b hj hk hb1 hb2 => ?_⟩
  · obtain ⟨oj', h1, h2⟩ := map_sbOb_get hj
    have ho := hm.obs j oj' h1
    rcases h2 with rfl | ⟨t, cs, rfl, rfl⟩
    · exact ho
    · exact hg.obOk (fun _ _ e => e) ho
  · obtain ⟨oj', h1, _⟩ := map_sbOb_get hj
    exact hm.foot j oj' b h1 hb
  · obtain ⟨oj', h1, _⟩ := map_sbOb_get hj
    obtain ⟨ok', h2, _⟩ := map_sbOb_get hk
    exact hm.dis j k oj' ok' b h1 h2 hb1 hb2
theorem frz_fin [HasGl P] {h0 : Base P} {n k : Nat} {env : List (Nat × AV)} {s : IC → IC} {i : Nat} {K : St → Prop} (hsat : ∃ L F h h', Sub h h' ∧ h'.n = h.n ∧ Mem (mineOf may w0) L F h' (own.set i none) w ∧ SubstOk L L h h' s ∧ SubstOk L L h' h' s ∧ (∀ k, h'.m k ≠ none → h.m k ≠ none ∨ mineOf may w0 k) ∧ Agree L h ⟨n, k, env, own⟩ a ∧ SubB h0 k L h ∧ (∀ k, h.m k ≠ none → h0.h.m k ≠ none ∨ mineOf may w0 k))
    (hk : Keep may w0 w) (hp : sbEnv (up s) env fun env => sbOwn (up s) (own.set i none) fun own => K ⟨n, k, env, own⟩) : ∃ st', Sat may w0 h0 st' a w ∧ K st' := by
  rw [sbEnv_eq, sbOwn_eq] at hp
  obtain ⟨L, F, h, h', s1, s2, s3, s4, s4', s5, ha, hsub, hnew⟩ := hsat
  refine ⟨_, ⟨⟨L, F, h', mem_sbOb s3 s4'.up, s4.up.agree ha, hsub.step (fun _ _ => rfl) s1, fun k hk2 => ?_⟩, hk⟩, hp⟩
  rcases s5 k hk2 with h1 | h1
  · exact hnew k h1
  · exact .inr h1
theorem frz_sat [HasGl P] {h0 : Base P} {i : Nat} {K : St → Prop} (hp : frzK st i K) (hs : Sat may w0 h0 st a w) : ∃ st', Sat may w0 h0 st' a w ∧ K st' := by
  obtain ⟨n, k, env, own⟩ := st
  unfold frzK at hp
  simp only at hp
  split at hp
  · rename_i e sz m f hi
    obtain ⟨⟨L, F, h, hm, ha, hsub, hnew⟩, hk⟩ := hs
    obtain ⟨h', s1, s2, s3, s4, s5⟩ := frz_row hm hi hp.1
    -- the same from h' on
    have s4' : SubstOk L L h' h' (sbR i sz m f) := by
      refine ⟨fun c v hd => ?_⟩
      unfold sbR
      split
      · rename_i j
        split
        · rename_i e
          have e := Nat.eq_of_beq_eq_true e
          subst e
          cases hd with
          | row _ A n c k1 k2 =>
            have := s4.out (.row j) _ (.row j A n c (by rw [← s2]; exact k1) k2)
            simpa [sbR] using this
        · exact hd
      · rename_i j sz' k off
        split
        · rename_i e
          have e' := e
          rw [Bool.and_eq_true] at e
          have e1 := Nat.eq_of_beq_eq_true e.1
          have e2 := Nat.eq_of_beq_eq_true e.2
          subst e1 e2
          cases hd with
          | rel _ _ _ _ a k1 k2 k3 =>
            have := s4.out (.rel j sz' k off) _ (.rel j sz' k off a (by rw [← s2]; exact k1) k2 k3)
            simpa [sbR] using this
        · exact hd
      · exact hd
    exact frz_fin ⟨L, F, h, h', s1, s2, s3, s4, s4', s5, ha, hsub, hnew⟩ hk hp.2
  · rename_i t cs hi
    obtain ⟨hcl, hp⟩ := ifD_and hp
    obtain ⟨⟨L, F, h, hm, ha, hsub, hnew⟩, hk⟩ := hs
    obtain ⟨h', s1, s2, s3, s4, s5⟩ := frz_cells hm hi hcl
    have s4' : SubstOk L L h' h' (sbO i cs) := by
      refine ⟨fun c v hd => ?_⟩
      unfold sbO
      split
      · rename_i j off
        split
        · rename_i e
          have e := Nat.eq_of_beq_eq_true e
          subst e
          cases hd with
          | own _ _ a k1 k2 =>
            have := s4.out (.own j off) _ (.own j off a (by rw [← s2]; exact k1) k2)
            simpa [sbO] using this
        · exact hd
      · exact hd
    exact frz_fin ⟨L, F, h, h', s1, s2, s3, s4, s4', s5, ha, hsub, hnew⟩ hk hp
  · exact ⟨_, hs, hp⟩
theorem frzL_sat [HasGl P] {h0 : Base P} : ∀ (l : List Nat) {K : St → Prop} (st : St), frzL l st K → Sat may w0 h0 st a w → ∃ st', Sat may w0 h0 st' a w ∧ K st'
  | [], K, st, hp, hs => ⟨st, hs, hp⟩
  | i :: r, K, st, hp, hs => by
    obtain ⟨st1, h1, h2⟩ := frz_sat (K := fun st => frzL r st K) hp hs
    exact frzL_sat r st1 h2 h1
end
end Go.Eng
set_option linter.unusedVariables false
set_option linter.unusedSimpArgs false
namespace Go.Eng
open Go Go.RowKit

/-- Where own object i goes. -/
def idx? : List (Option Nat) → Nat → Option Nat
  | [], _ => none
  | none :: r, i => match idx? r i with | some j => some (j + 1) | none => none
  | some x :: r, i => match Nat.beq x i with | true => some 0 | false => match idx? r i with | some j => some (j + 1) | none => none
def nodupB : List (Option Nat) → Bool
  | [] => true
  | none :: r => nodupB r
  | some x :: r => (match idx? r x with | none => true | some _ => false) && nodupB r
def renT (ob : List (Option Nat)) : IC → IC
  | .own i off => match idx? ob i with | some j => .own j off | none => .any
  | .row i => match idx? ob i with | some j => .row j | none => .any
  | .rel i sz k off => match idx? ob i with | some j => .rel j sz k off | none => .any
  | .view i sz k n c => match idx? ob i with | some j => .view j sz k n c | none => .any
  | .mp i => match idx? ob i with | some j => .mp j | none => .any
  | .ifc t c => match clo0 c with | true => .ifc t c | false => .any
  | .fn f cs => match cs.all (fun x => x.2.all clo0) with | true => .fn f cs | false => .any
  | c => c
def sel {α : Type} (L : Nat → α) (ob : List (Option Nat)) (j : Nat) : α := match ob[j]? with | some (some i) => L i | _ => L j
def normEnv (st : St) (s : IC → IC) : List Nat → Option (List (Nat × AV))
  | [] => some []
  | t :: r => match st.env.lookup t, normEnv st s r with
    | some a, some l => some ((t, sbA s a) :: l)
    | _, _ => none
def pickOwn (own : List (Option Ob)) (s : IC → IC) : Option Nat → Option Ob
  | some i => match own[i]? with | some (some o) => some (sbObj s o) | _ => none
  | none => none
def headOk (k : Nat) (ob : List (Option Nat)) : Bool := (List.range k).all fun i => match ob[i]? with | some (some j) => Nat.beq i j | some none => true | none => false
/-- Only these slots, and these objects, under their places in the list. -/
def normSt (slots : List Nat) (ob : List (Option Nat)) (st : St) : Option St :=
  match normEnv st (up (renT ob)) slots, headOk st.k ob with
  | some e, true => some ⟨st.n, st.k, e, ob.map (pickOwn st.own (up (renT ob)))⟩
  | _, _ => none
theorem idx_some : ∀ {ob : List (Option Nat)} {i j : Nat}, idx? ob i = some j → ob[j]? = some (some i)
  | [], i, j, h => by cases h
  | none :: r, i, j, h => by
    unfold idx? at h
    split at h
    · rename_i j' hj
      cases h
      simpa using idx_some hj
    · cases h
  | some x :: r, i, j, h => by
    unfold idx? at h
    split at h
    · rename_i e
      cases h
      have : x = i := Nat.eq_of_beq_eq_true e
      simp [this]
    · split at h
      · rename_i j' hj
        cases h
        simpa using idx_some hj
      · cases h
theorem idx_of : ∀ {ob : List (Option Nat)} {i j : Nat}, ob[j]? = some (some i) → ∃ k, idx? ob i = some k
  | [], i, j, h => by simp at h
  | none :: r, i, j, h => by
    cases j with
    | zero => simp at h
    | succ j =>
      obtain ⟨k, hk⟩ := idx_of (ob := r) (by simpa using h)
      exact ⟨k + 1, by simp [idx?, hk]⟩
  | some x :: r, i, j, h => by
    cases hx : Nat.beq x i with
    | true => exact ⟨0, by simp [idx?, hx]⟩
    | false =>
      cases j with
      | zero =>
        simp at h
        subst h
        simp at hx
      | succ j =>
        obtain ⟨k, hk⟩ := idx_of (ob := r) (by simpa using h)
        exact ⟨k + 1, by simp [idx?, hx, hk]⟩
theorem nodup_inj : ∀ {ob : List (Option Nat)} (hd : nodupB ob = true) {i j x : Nat}, ob[i]? = some (some x) → ob[j]? = some (some x) → i = j
  | [], _, i, j, x, h, _ => by simp at h
  | none :: r, hd, i, j, x, h, k => by
    cases i with
    | zero => simp at h
    | succ i =>
      cases j with
      | zero => simp at k
      | succ j =>
        have := nodup_inj (ob := r) hd (i := i) (j := j) (by simpa using h) (by simpa using k)
        omega
  | some y :: r, hd, i, j, x, h, k => by
    unfold nodupB at hd
    rw [Bool.and_eq_true] at hd
    cases i with
    | zero =>
      cases j with
      | zero => rfl
      | succ j =>
        simp at h
        subst h
        obtain ⟨m, hm⟩ := idx_of (ob := r) (j := j) (by simpa using k)
        rw [hm] at hd
        simp at hd
    | succ i =>
      cases j with
      | zero =>
        simp at k
        subst k
        obtain ⟨m, hm⟩ := idx_of (ob := r) (j := i) (by simpa using h)
        rw [hm] at hd
        simp at hd
      | succ j =>
        have := nodup_inj (ob := r) hd.2 (i := i) (j := j) (by simpa using h) (by simpa using k)
        omega
structure Weak (st st' : St) : Prop where
  out : ∀ {P : Program} [HasGl P] (may : Nat → Prop) (w0 : World) (h0 : Base P) (a : Act) (w : World), Sat may w0 h0 st a w → Sat may w0 h0 st' a w
theorem Weak.refl (st : St) : Weak st st := ⟨fun _ _ _ _ _ h => h⟩
theorem Weak.trans {a b c : St} (h : Weak a b) (k : Weak b c) : Weak a c := ⟨fun m w0 h0 x w hs => k.out m w0 h0 x w (h.out m w0 h0 x w hs)⟩
section
variable {P : Program} {T : TT} {mine may : Nat → Prop} {L : Nat → Value} {F : Nat → Nat → Prop} {h h' : Hp} {st : St} {a : Act} {w w0 : World} {own : List (Option Ob)} {ob : List (Option Nat)}
theorem sel_at {α : Type} {L : Nat → α} {i j : Nat} (h : idx? ob i = some j) : sel L ob j = L i ∧ j < ob.length := by
  have := idx_some h
  refine ⟨?_, (List.getElem?_eq_some_iff.1 this).1⟩
  unfold sel
  rw [this]
theorem ren_ok (L : Nat → Value) (h : Hp) (ob : List (Option Nat)) : SubstOk L (sel L ob) h ⟨h.m, ob.length⟩ (renT ob) := by
  refine ⟨fun c v hd => ?_⟩
  have h1 := hd.one
  cases hd with
  | own i off a k1 k2 =>
    simp only [renT]
    split
    · rename_i j hj
      obtain ⟨e1, e2⟩ := sel_at (L := L) hj
      exact .own _ _ a e2 (e1.trans k2)
    · exact .any _ h1
  | row i A n c k1 k2 =>
    simp only [renT]
    split
    · rename_i j hj
      obtain ⟨e1, e2⟩ := sel_at (L := L) hj
      exact .row _ A n c e2 (e1.trans k2)
    · exact .any _ h1
  | rel i sz k off a k1 k2 k3 =>
    simp only [renT]
    split
    · rename_i j hj
      obtain ⟨e1, e2⟩ := sel_at (L := L) hj
      exact .rel _ _ _ _ a e2 (by rw [e1]; exact k2) (by rw [e1]; exact k3)
    · exact .any _ h1
  | view i sz k n c a b k1 k2 k3 k4 k5 =>
    simp only [renT]
    split
    · rename_i j hj
      obtain ⟨e1, e2⟩ := sel_at (L := L) hj
      exact .view _ _ _ _ _ a b e2 (e1.trans k2) k3 k4 k5
    · exact .any _ h1
  | mp i r k1 k2 =>
    simp only [renT]
    split
    · rename_i j hj
      obtain ⟨e1, e2⟩ := sel_at (L := L) hj
      exact .mp _ r e2 (e1.trans k2)
    · exact .any _ h1
  | ifc t c v hr =>
    simp only [renT]
    split
    · rename_i e; exact (Den.ifc t c v hr).clo _ e
    · exact .any _ h1
  | fn f cs vs g hl hv h2 hr =>
    simp only [renT]
    split
    · rename_i e; exact (Den.fn f cs vs g hl hv h2 hr).clo _ e
    · exact .any _ h1
  | v _ h2 => exact .v _ h2
  | sl sz n f A c ad g hc hm hA hg hl hclo hr => exact (Den.sl sz n f A c ad g hc hm hA hg hl hclo hr).clo _ rfl
  | fp cs ad g hclo hg hr => exact (Den.fp cs ad g hclo hg hr).clo _ rfl
  | any _ h2 => exact .any _ h2
/-- Own cells under one round of the same: captured ones and those in interfaces too. -/
theorem renU_ok (L : Nat → Value) (h : Hp) (ob : List (Option Nat)) : SubstOk L (sel L ob) h ⟨h.m, ob.length⟩ (up (renT ob)) := (ren_ok L h ob).up
theorem normEnv_ok {s : IC → IC} {L' : Nat → Value} (hs : SubstOk L L' h h' s) (ha : Agree L h st a) : ∀ {slots : List Nat} {e : List (Nat × AV)}, normEnv st s slots = some e → ∀ t av, e.lookup t = some av → DenA L' h' av (a.tmps.getD t undef)
  | [], e, hn, t, av, hl => by cases hn; cases hl
  | x :: r, e, hn, t, av, hl => by
    unfold normEnv at hn
    split at hn
    · rename_i a0 l hx hr
      cases hn
      rw [List.lookup_cons] at hl
      by_cases et : t = x
      · subst et
        simp at hl
        subst hl
        exact hs.denA (ha.env t a0 hx)
      · have e' : (t == x) = false := by simpa using et
        rw [e'] at hl
        exact normEnv_ok hs ha hr t av hl
    · cases hn
theorem pick_some {s : IC → IC} {j : Nat} {o' : Ob} (hj : (ob.map (pickOwn own s))[j]? = some (some o')) : ∃ i o, ob[j]? = some (some i) ∧ own[i]? = some (some o) ∧ o' = sbObj s o := by
  rw [List.getElem?_map] at hj
  cases hb : ob[j]? with
  | none => rw [hb] at hj; cases hj
  | some x =>
    rw [hb] at hj
    simp only [Option.map_some, Option.some.injEq] at hj
    cases x with
    | none => cases hj
    | some i =>
      simp only [pickOwn] at hj
      split at hj
      · rename_i o ho
        cases hj
        exact ⟨i, o, rfl, ho, rfl⟩
      · cases hj
theorem mem_norm (hd : nodupB ob = true) (hm : Mem mine L F h own w) : Mem mine (sel L ob) (sel F ob) ⟨h.m, ob.length⟩ (ob.map (pickOwn own (up (renT ob)))) w := by
  have hsel : ∀ {α : Type} (M : Nat → α) (j i : Nat), ob[j]? = some (some i) → sel M ob j = M i := fun M j i hj => by unfold sel; rw [hj]
  refine ⟨by simp, hm.hsub, fun j o' hj => ?_, fun j o' b hj hb => ?_, fun i j oi oj b hi hj hbi hbj => ?_⟩
  · obtain ⟨i, o, h1, h2, rfl⟩ := pick_some hj
    rw [hsel L j i h1, hsel F j i h1]
    exact (renU_ok L h ob).obOk (fun _ _ e => e) (hm.obs i o h2)
  · obtain ⟨i, o, h1, h2, rfl⟩ := pick_some hj
    rw [hsel F j i h1] at hb
    exact hm.foot i o b h2 hb
  · obtain ⟨i', o1, h1, h2, rfl⟩ := pick_some hi
    obtain ⟨j', o2, k1, k2, rfl⟩ := pick_some hj
    rw [hsel F i i' h1] at hbi
    rw [hsel F j j' k1] at hbj
    have := hm.dis i' j' o1 o2 b h2 k2 hbi hbj
    subst this
    exact nodup_inj hd h1 k1
theorem subB_norm [HasGl P] {h0 : Base P} {k : Nat} (hh : headOk k ob = true) (hsub : SubB h0 k L h) : SubB h0 k (sel L ob) ⟨h.m, ob.length⟩ := by
  have key : ∀ i, i < k → ob[i]? = some (some i) ∨ ob[i]? = some none := fun i hi => by
    have := List.all_eq_true.1 hh i (List.mem_range.2 hi)
    split at this
    · rename_i j hj
      have : i = j := Nat.eq_of_beq_eq_true this
      rw [hj, this]; exact .inl rfl
    · rename_i hj; exact .inr hj
    · cases this
  refine ⟨⟨hsub.sub.m, ?_⟩, fun i hi => ?_, hsub.kk⟩
  · rw [← hsub.kk]
    show k ≤ ob.length
    rcases Nat.eq_zero_or_pos k with h0' | hp
    · omega
    · rcases key (k - 1) (by omega) with h1 | h1
      · have := (List.getElem?_eq_some_iff.1 h1).1; omega
      · have := (List.getElem?_eq_some_iff.1 h1).1; omega
  · have hk := hsub.kk
    have : sel L ob i = L i := by
      unfold sel
      rcases key i (by omega) with h1 | h1 <;> rw [h1]
    rw [this]
    exact hsub.at_ i hi
theorem norm_weak (slots : List Nat) (ob : List (Option Nat)) {st st' : St} (hn : normSt slots ob st = some st') (hd : nodupB ob = true) : Weak st st' := by
  refine ⟨fun may w0 h0 a w hs => ?_⟩
  obtain ⟨⟨L, F, h, hm, ha, hsub, hnew⟩, hk⟩ := hs
  unfold normSt at hn
  split at hn
  · rename_i e he hh
    cases hn
    exact ⟨⟨_, _, _, mem_norm hd hm, ⟨ha.size, fun t av ht => normEnv_ok (renU_ok L h ob) ha he t av ht, ha.defers⟩, subB_norm hh hsub, hnew⟩, hk⟩
  · cases hn
/-- A slot that holds nil may be taken for an own row without elements. -/
theorem nil_row (t : Nat) (e : TypeId) (sz : Nat) (f : Nat → List IC) {st : St} (hl : st.env.lookup t = some (.c (.v (.slice none 0 0)))) : Weak st ⟨st.n, st.k, (t, .c (.row st.own.length)) :: st.env, st.own ++ [some (.row e sz 0 f)]⟩ := by
  refine ⟨fun may w0 h0 a w hs => ?_⟩
  obtain ⟨⟨L, F, h, hm, ha, hsub, hnew⟩, hk⟩ := hs
  have hn := hm.hn
  have hL : ∀ i, i < h.n → upd L st.own.length (.slice none 0 0) i = L i := fun i hi => upd_lt (by omega)
  have hm' := mem_push (v := .slice none 0 0) (G := fun _ => False) (ob := .row e sz 0 f) hm ⟨[], World.ownsRow_nil w 0 e sz, (fun b hb => by cases hb), ⟨fun k hk => by omega, fun k hk => by omega⟩⟩ (fun b hb => hb.elim) (fun b hb => hb.elim)
  have ha' : Agree (upd L st.own.length (.slice none 0 0)) (h.more 1) st a := agree_more ha hL (sub_more h 1) rfl rfl
  refine ⟨⟨_, _, _, hm', ⟨ha'.size, fun t' av ht => ?_, ha'.defers⟩, hsub.step hL (sub_more h 1), hnew⟩, hk⟩
  have ht : ((t, AV.c (.row st.own.length)) :: st.env).lookup t' = some av := ht
  rw [List.lookup_cons] at ht
  by_cases et : t' = t
  · subst et
    simp at ht
    subst ht
    have := den_one (ha.env t' _ hl)
    show Den _ _ _ _
    rw [this]
    exact .row _ none 0 0 (by simp [Hp.more, hn]) upd_eq
  · have e' : (t' == t) = false := by simpa using et
    rw [e'] at ht
    exact ha'.env t' av ht
/-- .. and so may a cell of an own object. -/
theorem nil_cell (i j : Nat) (e : TypeId) (sz : Nat) (f : Nat → List IC) {st : St} {t : TypeId} {cs : List IC} (hi : st.own[i]? = some (some (.cells t cs))) (hj : cs[j]? = some (.v (.slice none 0 0))) :
    Weak st ⟨st.n, st.k, st.env, st.own.set i (some (.cells t (cs.set j (.row st.own.length)))) ++ [some (.row e sz 0 f)]⟩ := by
  refine ⟨fun may w0 h0 a w hs => ?_⟩
  obtain ⟨⟨L, F, h, hm, ha, hsub, hnew⟩, hk⟩ := hs
  have hn := hm.hn
  have hil : i < st.own.length := (List.getElem?_eq_some_iff.1 hi).1
  have hL : ∀ i, i < h.n → upd L st.own.length (.slice none 0 0) i = L i := fun i hi => upd_lt (by omega)
  have hm' := mem_push (v := .slice none 0 0) (G := fun _ => False) (ob := .row e sz 0 f) hm ⟨[], World.ownsRow_nil w 0 e sz, (fun b hb => by cases hb), ⟨fun k hk => by omega, fun k hk => by omega⟩⟩ (fun b hb => hb.elim) (fun b hb => hb.elim)
  have hi' : (st.own ++ [some (.row e sz 0 f)])[i]? = some (some (.cells t cs)) := by rw [List.getElem?_append_left hil]; exact hi
  have hm2 := mem_set (w' := w) (ob := .cells t (cs.set j (.row st.own.length))) hm' hi' rfl (fun _ _ => rfl) (by
    obtain ⟨b, vs, e1, e2, e3, e4⟩ := hm'.obs i _ hi'
    refine ⟨b, vs, e1, e2, e3, by rw [List.length_set]; exact e4.1, fun j' c u hc hu => ?_⟩
    rw [List.getElem?_set] at hc
    split at hc
    · rename_i ej
      subst ej
      split at hc
      · cases hc
        have := den_one (e4.2 j _ u hj hu)
        rw [this]
        exact .row _ none 0 0 (by simp [Hp.more, hn]) upd_eq
      · cases hc
    · exact e4.2 j' c u hc hu)
  rw [List.set_append, if_pos hil] at hm2
  exact ⟨⟨_, _, _, hm2, agree_more ha hL (sub_more h 1) rfl rfl, hsub.step hL (sub_more h 1), hnew⟩, hk⟩
/-- A row, told otherwise. -/
theorem row_ext (i : Nat) {st : St} {e : TypeId} {sz n : Nat} {f f' : Nat → List IC} (hi : st.own[i]? = some (some (.row e sz n f))) (hf : ∀ k, k < n → f' k = f k) : Weak st ⟨st.n, st.k, st.env, st.own.set i (some (.row e sz n f'))⟩ := by
  refine ⟨fun may w0 h0 a w hs => ?_⟩
  obtain ⟨⟨L, F, h, hm, ha, hsub, hnew⟩, hk⟩ := hs
  refine ⟨⟨L, F, h, mem_set hm hi rfl (fun _ _ => rfl) ?_, ⟨ha.size, ha.env, ha.defers⟩, hsub, hnew⟩, hk⟩
  obtain ⟨vs, h1, h2, h3⟩ := hm.obs i _ hi
  exact ⟨vs, h1, h2, ⟨fun k hk => by rw [hf k hk]; exact h3.len k hk, fun k hk j c hc => by rw [hf k hk] at hc; exact h3.den k hk j c hc⟩⟩
theorem frz_weak (i : Nat) {st st' : St} (hf : ∀ K : St → Prop, K st' → frzK st i K) : Weak st st' := by
  refine ⟨fun may w0 h0 a w hs => ?_⟩
  obtain ⟨st2, h1, h2⟩ := frz_sat (hf (fun x => x = st') rfl) hs
  subst h2
  exact h1
end
end Go.Eng
set_option linter.unusedVariables false
set_option linter.unusedSimpArgs false
namespace Go.Eng
open Go Go.RowKit

structure DenAs (L : Nat → Value) (h : Hp) (as : List AV) (vs : List Value) : Prop where
  len : as.length = vs.length
  den : ∀ (j : Nat) a v, as[j]? = some a → vs[j]? = some v → DenA L h a v
/-- What a call comes to: of what is handed in and of the own objects; the others are left alone. -/
structure CallV (P : Program) [HasGl P] (f : FuncId) (args : List AV) (own : List (Option Ob)) (Q : AV → List (Option Ob) → Prop) : Prop where
  out : ∀ (mine : Nat → Prop) (L : Nat → Value) (F : Nat → Nat → Prop) (h : Hp) (w : World) (vs : List Value), HasGl.ok P h.m → Mem mine L F h own w → DenAs L h args vs →
    Calls P f vs.toArray w (fun e w' => ∃ (r : AV) (v : Value) (L' : Nat → Value) (F' : Nat → Nat → Prop) (h' : Hp) (own' : List (Option Ob)), e = .returned v ∧ DenA L' h' r v ∧ (∀ i, i < h.n → L' i = L i) ∧ Mem (mineOf (footOf F own) w) L' F' h' own' w' ∧
      Keep (footOf F own) w w' ∧ Sub h h' ∧ (∀ k, h'.m k ≠ none → h.m k ≠ none ∨ mineOf (footOf F own) w k) ∧ Q r own')
theorem CallV.mono {P : Program} [HasGl P] {f : FuncId} {args : List AV} {own : List (Option Ob)} {Q Q' : AV → List (Option Ob) → Prop} (hc : CallV P f args own Q) (hq : ∀ r o, Q r o → Q' r o) : CallV P f args own Q' := by
  refine ⟨fun mine L F h w vs hgl hm ha => ?_⟩
  refine (hc.out mine L F h w vs hgl hm ha).mono ?_
  rintro e w' ⟨r, v, L', F', h', own', h1, h2, h3, h4, h5, h6, h7, h8⟩
  exact ⟨r, v, L', F', h', own', h1, h2, h3, h4, h5, h6, h7, hq _ _ h8⟩

/-- What a call of a function without a body comes to (the model's own entry). -/
structure ExtV (P : Program) [HasGl P] (f : FuncId) (args : List AV) (own : List (Option Ob)) (Q : AV → List (Option Ob) → Prop) : Prop where
  out : ∀ (mine : Nat → Prop) (L : Nat → Value) (F : Nat → Nat → Prop) (h : Hp) (w : World) (vs : List Value), HasGl.ok P h.m → Mem mine L F h own w → DenAs L h args vs →
    ∃ (v : Value) (w' : World), (callFunc f vs.toArray).run P w = .ok (.value v) w' ∧ ∃ (r : AV) (L' : Nat → Value) (F' : Nat → Nat → Prop) (h' : Hp) (own' : List (Option Ob)), DenA L' h' r v ∧ (∀ i, i < h.n → L' i = L i) ∧ Mem (mineOf (footOf F own) w) L' F' h' own' w' ∧
      Keep (footOf F own) w w' ∧ Sub h h' ∧ (∀ k, h'.m k ≠ none → h.m k ≠ none ∨ mineOf (footOf F own) w k) ∧ Q r own'
/-- The functions that may be called: are own rows that are handed in laid still? None: a function without a body. -/
abbrev FL := List (Nat × Option Bool)
def FTok (P : Program) (F : FL) : Prop := ∀ f b, F.lookup f = some (some b) → ∀ args w, (callFunc f args).run P w = .ok (.enter f args) w
theorem FTok.nil {P : Program} : FTok P [] := fun f b h => by cases h
theorem FTok.cons {P : Program} {F : FL} {f : FuncId} {b : Bool} {fn : Func} (hf : P.funcs[f]? = some fn) (hname : (fn.name == "runtime.NumGoroutine") = false) (hb : fn.body.isSome = true) (k : FTok P F) : FTok P ((f, some b) :: F) := by
  intro g b' hg args w
  rw [List.lookup_cons] at hg
  by_cases e : g = f
  · subst e
    have h1 : fn.name ≠ "runtime.NumGoroutine" := by simpa using hname
    obtain ⟨c, hc⟩ := Option.isSome_iff_exists.1 hb
    simp [callFunc, hf, h1, hc]
  · have e' : (g == f) = false := by simpa using e
    rw [e'] at hg
    exact k g b' hg args w
theorem FTok.consX {P : Program} {F : FL} {f : FuncId} (k : FTok P F) : FTok P ((f, none) :: F) := by
  intro g b' hg args w
  rw [List.lookup_cons] at hg
  by_cases e : g = f
  · subst e; simp at hg
  · have e' : (g == f) = false := by simpa using e
    rw [e'] at hg
    exact k g b' hg args w
def putK (st : St) (dst : Option Nat) (av : AV) (K : St → Prop) : Prop :=
  match dst with
  | some d => match st with
    | ⟨n, k, env, own⟩ => ifD (d < n) (forceA av fun av => K ⟨n, k, (d, av) :: env, own⟩)
  | none => K st
theorem putK_some {st : St} {d : Nat} {av : AV} {K : St → Prop} (h : putK st (some d) av K) : d < st.n ∧ K (st.put (some d) av) := by
  obtain ⟨n, k, env, own⟩ := st
  simp only [putK, forceA_eq] at h
  exact ifD_and h
/-- An object more; c: what names it. -/
def St.push (st : St) (ob : Ob) : St := { st with own := st.own ++ [some ob] }
def pushK (st : St) (ob : Ob) (c : Nat → IC) (dst : Option Nat) (K : St → Prop) : Prop :=
  match st with
  | ⟨n, k, env, own⟩ => forceN own.length fun l => forceL (own ++ [some ob]) fun own' => putK ⟨n, k, env, own'⟩ dst (.c (c l)) K
theorem pushK_eq {st : St} {ob : Ob} {c : Nat → IC} {dst : Option Nat} {K : St → Prop} : pushK st ob c dst K = putK (st.push ob) dst (.c (c st.own.length)) K := by
  obtain ⟨n, k, env, own⟩ := st
  simp only [pushK, forceN_eq, forceL_eq]
  rfl
def argsOf (st : St) : List Operand → Option (List AV)
  | [] => some []
  | x :: r => match ev st x, argsOf st r with
    | some a, some l => some (a :: l)
    | _, _ => none
def capsA : List (Bool × List IC) → List AV
  | [] => []
  | (false, [c]) :: r => .c c :: capsA r
  | (_, xs) :: r => .agg xs :: capsA r
/-- What function a value is, and what it has captured. -/
def fnOf : Option AV → Option (Nat × List AV)
  | some (.c (.v (.func (.func f) ⟨[]⟩ ⟨[]⟩))) => some (f, [])
  | some (.c (.fn f cs)) => some (f, capsA cs)
  | _ => none
def rowsC : List IC → List Nat
  | [] => []
  | .row j :: r => j :: rowsC r
  | _ :: r => rowsC r
def rowsA : List AV → List Nat
  | [] => []
  | .c x :: r => rowsC [x] ++ rowsA r
  | .agg xs :: r => rowsC xs ++ rowsA r
  | .tup _ :: r => rowsA r
  | .top :: r => rowsA r
def rowC (sz : Nat) : Nat → List (Nat × AV) → Option (List (List IC))
  | _, [] => some []
  | i, (j, av) :: r => match Nat.beq i j, cellsOf av, rowC sz (i + 1) r with
    | true, some cs, some rest => if cs.length = sz then some (cs :: rest) else none
    | _, _, _ => none
/-- Code points, bytes, as elements. -/
abbrev runeF (l : List Int) (k : Nat) : List IC := [.v (.int .i32 (l.getD k 0))]
abbrev byteF (l : List UInt8) (k : Nat) : List IC := [.v (.int .u8 ((l.getD k 0).toNat : Int))]
/-- What is appended to. -/
def oldOf (st : St) (e : TypeId) (sz : Nat) (av : AV) : Option (Option Nat × Nat × (Nat → List IC)) :=
  match av with
  | .c (.v (.slice none 0 0)) => some (none, 0, fun _ => [])
  | .c (.row i) => match st.own[i]? with
    | some (some (.row e' sz' n f)) => (match Nat.beq e e' && Nat.beq sz sz' with | true => some (some i, n, f) | false => none)
    | _ => none
  | _ => none
/-- What is appended. -/
def newsOf (st : St) (d : TypeDesc) (sz : Nat) (av : AV) : Option (Nat × (Nat → List IC)) :=
  match av with
  | .c (.v (.slice none 0 0)) => (match d with | .slice _ => some (0, fun _ => []) | _ => none)
  | .c (.row j) => (match d, st.own[j]? with
    | .slice _, some (some (.row _ sz' n f)) => (match Nat.beq sz sz' with | true => some (n, f) | false => none)
    | _, _ => none)
  | .c (.sl sz' n f) => (match d with | .slice _ => (match Nat.beq sz sz' with | true => some (n, f) | false => none) | _ => none)
  | .c (.v (.string s)) => (match d, Nat.beq sz 1 with | .string, true => some (s.size, byteF s.data.toList) | _, _ => none)
  | _ => none
/-- What copy, and append onto a part of an own array, read: under which condition, how many elements, which. -/
def vsrc (st : St) (d : TypeDesc) (sz : Nat) (av : AV) : Option ((Nat → Prop) × Nat × (Nat → List IC)) :=
  match av with
  | .c (.v (.slice none 0 0)) => (match d with | .slice _ => some (fun _ => True, 0, fun _ => []) | _ => none)
  | .c (.row j) => (match d, st.own[j]? with
    | .slice _, some (some (.row _ sz' n f)) => (match Nat.beq sz sz' with | true => some (fun _ => True, n, f) | false => none)
    | _, _ => none)
  | .c (.sl sz' n f) => (match d with | .slice _ => (match Nat.beq sz sz' with | true => some (fun _ => True, n, f) | false => none) | _ => none)
  | .c (.view j sz' k n _) => (match d, st.own[j]? with
    | .slice _, some (some (.arr _ sz'' _ N f)) => (match Nat.beq sz sz' && Nat.beq sz sz'' with | true => some (fun r => k + r ≤ N, n, fun q => f (k + q)) | false => none)
    | _, _ => none)
  | _ => none
def without (own : List (Option Ob)) : Option Nat → List (Option Ob)
  | some i => own.set i none
  | none => own
/-- The code points of a text. -/
def runesL (s : ByteArray) : List Int := (Conv.runesFrom s s.size 0 #[]).toList.map fun v => match v with | .int _ n => n | _ => 0
/-- An own object put otherwise, and a value handed back. -/
def setK (st : St) (i : Nat) (ob : Ob) (dst : Option Nat) (av : AV) (K : St → Prop) : Prop :=
  match st with
  | ⟨n, k, env, own⟩ => forceL (own.set i (some ob)) fun own' => putK ⟨n, k, env, own'⟩ dst av K
theorem setK_eq {st : St} {i : Nat} {ob : Ob} {dst : Option Nat} {av : AV} {K : St → Prop} : setK st i ob dst av K = putK ⟨st.n, st.k, st.env, st.own.set i (some ob)⟩ dst av K := by
  cases st
  simp only [setK, forceL_eq]
/-- Written from kd on: m elements. -/
def wrote (kd m N : Nat) (f g : Nat → List IC) (N' : Nat) (f' : Nat → List IC) : Prop := ∀ q, q < N' → (kd ≤ q ∧ q < kd + m ∧ f' q = g (q - kd)) ∨ ((q < kd ∨ kd + m ≤ q) ∧ q < N ∧ f' q = f q)
/-- Append onto a part of an own array. -/
def vappP (st : St) (e : TypeId) (te tj : TI) (i sz k n c : Nat) (aw : AV) (dst : Option Nat) (K : St → Prop) : Prop :=
  match st.own[i]? with
  | some (some (.arr e' sz' cap N f)) => ifD (te.size = sz ∧ sz = sz' ∧ te.zero.cells.size = te.size ∧ e = e') (match aw, tj.desc with
    | .c (.v (.int ki m)), .int _ => ifD (te.zero.cells.toList.all (·.oneCell') = true ∧ 0 < te.size) (k + n ≤ N ∧ (0 < m ∧ (c : Int) < n + m ∧ n + m ≤ 9223372036854775807 ∧ (n + m) * te.bytes ≤ 140737488355328) ∧ ∃ f' : Nat → List IC, (∀ q, q < n → f' q = f (k + q)) ∧ (∀ q, q < m.toNat → f' (n + q) = te.zero.cells.toList.map IC.v) ∧
        ∀ cap', n + m.toNat ≤ cap' → pushK st (.arr e sz cap' (n + m.toNat) f') (fun l => .view l sz 0 (n + m.toNat) cap') dst K)
    | _, _ => match vsrc st tj.desc sz aw with
      | some (pre, m, g) => pre m ∧ (k + n ≤ N ∧ k + c ≤ cap) ∧ (n + m ≤ c → ∃ (N' : Nat) (f' : Nat → List IC), wrote (k + n) m N f g N' f' ∧ setK st i (.arr e sz cap N' f') dst (.c (.view i sz k (n + m) c)) K) ∧
          (c < n + m → (n + m ≤ 9223372036854775807 ∧ (n + m) * te.bytes ≤ 140737488355328) ∧ ∃ f' : Nat → List IC, (∀ q, q < n → f' q = f (k + q)) ∧ (∀ q, q < m → f' (n + q) = g q) ∧
            ∀ cap', n + m ≤ cap' → pushK st (.arr e sz cap' (n + m) f') (fun l => .view l sz 0 (n + m) cap') dst K)
      | none => False)
  | _ => False
/-- copy into a part of an own array. -/
def vcopyP (st : St) (te tj : TI) (i sz k n c : Nat) (aw : AV) (dst : Option Nat) (K : St → Prop) : Prop :=
  match st.own[i]? with
  | some (some (.arr e' sz' cap N f)) => ifD (te.size = sz ∧ sz = sz') (match vsrc st tj.desc sz aw with
      | some (pre, m, g) => pre (min m n) ∧ k + n ≤ cap ∧ ∃ (N' : Nat) (f' : Nat → List IC), wrote k (min m n) N f g N' f' ∧ setK st i (.arr e' sz cap N' f') dst (.c (.v (.int .i64 ((min m n : Nat) : Int)))) K
      | none => False)
  | _ => False
/-- clear of a part of an own array. -/
def vclearP (st : St) (te : TI) (i sz k n c : Nat) (dst : Option Nat) (K : St → Prop) : Prop :=
  match st.own[i]? with
  | some (some (.arr e' sz' cap N f)) => ifD (te.size = sz ∧ sz = sz' ∧ te.zero.cells.size = te.size ∧ te.zero.cells.toList.all (·.oneCell') = true) (k + n ≤ cap ∧ ∃ (N' : Nat) (f' : Nat → List IC), wrote k n N f (fun _ => te.zero.cells.toList.map IC.v) N' f' ∧ setK st i (.arr e' sz cap N' f') dst (.tup []) K)
  | _ => False
/-- An operation whose law is the prover's own (maps). -/
structure OpV (P : Program) [HasGl P] (o : Oper) (st : St) (K : St → Prop) : Prop where
  out : ∀ (Q : Exit → Act → World → Prop) (may : Nat → Prop) (w0 : World) (h0 : Base P) (a : Act) (w : World), Sat may w0 h0 st a w → o.wp P a w (fun a' w' => ∃ st', Sat may w0 h0 st' a' w' ∧ K st') Q
/-- One operation, in the text's order. -/
def stepP (P : Program) [HasGl P] (T : TT) (F : FL) (o : Oper) (st : St) (K : St → Prop) : Prop :=
  match o.op with
  | .alloc t => match T.lookup t with
    | some ti => ifD (ti.zero.cells.toList.all (·.oneCell') = true) (forceL (ti.zero.cells.toList.map IC.v) fun cs => pushK st (.cells t cs) (fun l => .own l 0) o.dst K)
    | none => False
  | .box t x => match ev st x with
    | some av => (match cellsOf av with
      | some cs => forceL cs fun cs => pushK st (.cells t cs) (fun l => .own l 0) o.dst K
      | none => False)
    | none => False
  | .store t p x => match ev st p, ev st x, T.lookup t with
    | some (.c (.own i off)), some av, some ti => (match st.own[i]?, cellsOf av with
      | some (some (.cells u cs)), some vs => ifD (vs.length = ti.size) (ifD (off + vs.length ≤ cs.length) (ifD (o.dst = none) (forceL (cs.take off ++ vs ++ cs.drop (off + vs.length)) fun cs' => match st with | ⟨n, k, env, own⟩ => forceL (own.set i (some (.cells u cs'))) fun own' => K ⟨n, k, env, own'⟩)))
      | _, _ => False)
    | some (.c (.rel i sz k off)), some av, some ti => (match st.own[i]?, cellsOf av with
      | some (some (.row e sz' n f)), some vs => ifD (vs.length = ti.size) (ifD (sz = sz') (ifD (off + vs.length ≤ sz) (ifD (o.dst = none) (∃ f' : Nat → List IC, (∀ j, j < n → f' j = if j = k then (f k).take off ++ vs ++ (f k).drop (off + vs.length) else f j) ∧ (match st with | ⟨n', kk, env, own⟩ => forceL (own.set i (some (.row e sz n f'))) fun own' => K ⟨n', kk, env, own'⟩)))))
      | some (some (.arr e sz' cap n f)), some vs => ifD (vs.length = ti.size) (ifD (sz = sz') (ifD (off = 0 ∧ vs.length = sz) (ifD (o.dst = none) (k < n ∧ ∃ f' : Nat → List IC, (∀ j, j < n → f' j = if j = k then vs else f j) ∧ (match st with | ⟨n', kk, env, own⟩ => forceL (own.set i (some (.arr e sz cap n f'))) fun own' => K ⟨n', kk, env, own'⟩)))))
      | _, _ => False)
    | _, _, _ => False
  | .call { callee := .value x, args, argTypes := _ } => match argsOf st args.toList, fnOf (ev st x) with
    | some avs, some (f, _) => (match F.lookup f with
      | some fz => frzL (match fz with | some true => rowsA avs | _ => []) st fun st => match argsOf st args.toList, fnOf (ev st x) with
        | some avs, some (f2, caps) => ifD (f = f2) (match st with | ⟨n, k, env, own⟩ => match fz with
          | some _ => CallV P f (avs ++ caps) own (fun r own' => putK ⟨n, k, env, own'⟩ o.dst r K)
          | none => ExtV P f (avs ++ caps) own (fun r own' => putK ⟨n, k, env, own'⟩ o.dst r K))
        | _, _ => False
      | none => False)
    | _, _ => False
  | .buildSlice t len parts => match T.lookup t, partsOf st parts.toList with
    | some ti, some l => (match ti.desc with
      | .slice e => (match T.lookup e with
        | some te => (match len, parts.toList with
          | 0, [] => pushK st (.row e te.size 0 fun _ => []) .row o.dst K
          | len, _ => frzL (rowsA (l.map (·.2))) st fun st => (match partsOf st parts.toList with
          | some l => (match rowC te.size 0 l with
            | some xs => ifD (l.length = len) (ifD (0 < len * te.size) (ifD (len * te.size ≤ 16777216) (ifD (0 < te.zero.cells.size) (∃ f : Nat → List IC, (∀ k, k < len → f k = xs.getD k []) ∧ pushK st (.row e te.size len f) .row o.dst K))))
            | none => False)
          | none => False))
        | none => False)
      | _ => False)
    | _, _ => False
  | .call { callee := .builtin .append, args, argTypes } => match args.toList, argTypes.toList with
    | [x, y], [t, tx] => (match T.lookup t, T.lookup tx, ev st x, ev st y with
      | some ti, some tj, some av, some aw => (match ti.desc with
        | .slice e => (match T.lookup e with
          | some te => (match av with | .c (.view i sz k n c) => vappP st e te tj i sz k n c aw o.dst K | av => (match oldOf st e te.size av, newsOf st tj.desc te.size aw with
            | some (oi, n, f), some (m, g) => (n + m ≤ 9223372036854775807 ∧ (n + m) * te.bytes ≤ 140737488355328) ∧ ifD (te.zero.cells.size = te.size) (∃ (n' : Nat) (f' : Nat → List IC), n' = n + m ∧ (∀ k, k < n → f' k = f k) ∧ (∀ k, k < m → f' (n + k) = g k) ∧
                (match st with | ⟨s, k, env, own⟩ => pushK ⟨s, k, env, without own oi⟩ (.row e te.size n' f') .row o.dst K))
            | _, _ => False))
          | none => False)
        | _ => False)
      | _, _, _, _ => False)
    | _, _ => False
  | .call { callee := .builtin .copy, args, argTypes } => match args.toList, argTypes.toList with
    | [x, y], [t, tx] => (match T.lookup t, T.lookup tx, ev st x, ev st y with
      | some ti, some tj, some (.c (.view i sz k n c)), some aw => (match ti.desc with
        | .slice e => (match T.lookup e with | some te => vcopyP st te tj i sz k n c aw o.dst K | none => False)
        | _ => False)
      | _, _, _, _ => False)
    | _, _ => False
  | .call { callee := .builtin .clear, args, argTypes } => match args.toList, argTypes.toList with
    | [x], [t] => (match T.lookup t, ev st x with
      | some ti, some (.c (.view i sz k n c)) => (match ti.desc with
        | .slice e => (match T.lookup e with | some te => vclearP st te i sz k n c o.dst K | none => False)
        | _ => False)
      | _, _ => False)
    | _, _ => False
  | .makeSlice t x y => match T.lookup t, idxOf (ev st x), idxOf (ev st y) with
    | some ti, some (_, a), some (_, b) => (match ti.desc with
      | .slice e => (match T.lookup e with
        | some te => ifD (te.zero.cells.toList.all (·.oneCell') = true) (ifD (te.zero.cells.size = te.size) (ifD (0 < te.size) ((0 ≤ a ∧ a = b ∧ a * te.bytes ≤ 140737488355328 ∧ a ≤ 140737488355328) ∧ ∃ (n : Nat) (f : Nat → List IC), n = a.toNat ∧ (∀ k, k < n → f k = te.zero.cells.toList.map IC.v) ∧ pushK st (.row e te.size n f) .row o.dst K)))
        | none => False)
      | _ => False)
    | _, _, _ => False
  | .range t x => match T.lookup t, ev st x with
    | some ti, some (.c (.v (.string s))) => (match ti.desc with | .string => pushK st (.iter s 0) (fun l => .own l 0) o.dst K | _ => False)
    | some _, some (.c (.mp _)) => OpV P o st K
    | _, _ => False
  | .next x true => match ev st x with
    | some (.c (.own i 0)) => (match st.own[i]? with
      | some (some (.iter s pos)) => onIter (decide (pos < s.size))
          (match st with | ⟨n, k, env, own⟩ => forceL (own.set i (some (.iter s (pos + (Utf8.decode s pos).2)))) fun own' => putK ⟨n, k, env, own'⟩ o.dst (.tup [.c (.v (.bool true)), .c (.v (.int .i64 pos)), .c (.v (.int .i32 (Utf8.decode s pos).1))]) K)
          (putK st o.dst (.tup [.c (.v (.bool false))]) K)
      | _ => False)
    | _ => False
  | .convert src dst x => match T.lookup src, T.lookup dst, ev st x with
    | some ts, some td, some (.c (.v (.string s))) => (match ts.desc, td.desc with
      | .string, .slice e => (match T.lookup e with
        | some te => (match te.desc with
          | .int .i32 => ifD (te.size = 1) ((runesL s).length ≤ 70368744177664 ∧ pushK st (.row e 1 (runesL s).length (runeF (runesL s))) .row o.dst K)
          | .int .u8 => s.size ≤ 140737488355328 ∧ putK st o.dst (.c (.sl 1 s.size (byteF s.data.toList))) K
          | _ => False)
        | none => False)
      | _, _ => aopP T st (.convert src dst x) (fun av => putK st o.dst av K))
    | _, _, some a => frzL (rowsA [a]) st fun st => aopP T st (.convert src dst x) (fun av => putK st o.dst av K)
    | _, _, none => False
  | .slice t x lo hi mx => frzL (match ev st x with | some av => rowsA [av] | none => []) st fun st => aopP T st (.slice t x lo hi mx) (fun av => putK st o.dst av K)
  | .makeMap .. => OpV P o st K
  | .lookup .. => OpV P o st K
  | .mapUpdate .. => OpV P o st K
  | .next _ false => OpV P o st K
  | .entry .. => OpV P o st K
  | .mapEntry .. => OpV P o st K
  | .entryStore .. => OpV P o st K
  | _ => aopP T st o.op (fun av => putK st o.dst av K)
where onIter (b : Bool) (x y : Prop) : Prop := match b with | true => x | false => y

section
variable {P : Program} {T : TT} {FF : FL} {mine may : Nat → Prop} {L : Nat → Value} {F : Nat → Nat → Prop} {h : Hp} {st : St} {a : Act} {w w0 : World}
theorem keep_below {w' : World} (hk : Keep may w0 w) (hb : Below w.heap.size w w') : Keep may w0 w' :=
  ⟨hb.os.trans hk.os, hb.tape.trans hk.tape, hb.output.trans hk.output, Nat.le_trans hk.size hb.size, fun k hlt hn => by
    rw [hb.block k (Nat.lt_of_lt_of_le hlt hk.size)]
    exact hk.block k hlt hn⟩
theorem same_below {own : List (Option Ob)} {w' : World} (hm : Mem mine L F h own w) (hb : Below w.heap.size w w') : Same F own h w w' := fun b hbb => by
  refine hb.block b ?_
  rcases hbb with h1 | ⟨i, ob, hi, hF⟩
  · cases ho : h.m b with
    | none => exact absurd ho h1
    | some o => exact (Array.getElem?_eq_some_iff.1 (hm.hsub b o ho)).1
  · exact (hm.foot i ob b hi hF).1
theorem mem_same {own : List (Option Ob)} {w' : World} (hm : Mem mine L F h own w) (hs : Same F own h w w') (hsz : w.heap.size ≤ w'.heap.size) : Mem mine L F h own w' :=
  mem_move hm hsz (fun k o hk => hs k (.inl (by rw [hk]; simp))) (fun b hb => hs b (.inr hb))
theorem put_sat [HasGl P] {h0 : Base P} (hm : Mem (mineOf may w0) L F h st.own w) (ha : Agree L h st a) (hs : SubB h0 st.k L h) (hn : ∀ k, h.m k ≠ none → h0.h.m k ≠ none ∨ mineOf may w0 k) (hk : Keep may w0 w) {dst : Option Nat} {av : AV} {v : Value} (hok : DenA L h av v) {K : St → Prop}
    (hp : putK st dst av K) : ∃ st', Sat may w0 h0 st' (a.put dst v) w ∧ K st' := by
  cases dst with
  | none => exact ⟨st, ⟨⟨L, F, h, hm, ha, hs, hn⟩, hk⟩, hp⟩
  | some d => exact ⟨st.put (some d) av, ⟨⟨L, F, h, hm, agree_put ha (putK_some hp).1 hok, hs, hn⟩, hk⟩, (putK_some hp).2⟩
theorem heap_alloc_at (w : World) (o : Obj) : (w.alloc o).heap[w.heap.size]? = some o := by
  show (w.heap.push o)[w.heap.size]? = _
  simp
theorem below_alloc (w : World) (o : Obj) : Below w.heap.size w (w.alloc o) := (Below.refl _ w).alloc (Nat.le_refl _) o
/-- A new own object in a world that went on. -/
theorem push_sat [HasGl P] {h0 : Base P} {w' : World} {own : List (Option Ob)} (hm : Mem (mineOf may w0) L F h own w') (ha : Agree L h ⟨st.n, st.k, st.env, own⟩ a) (hs : SubB h0 st.k L h) (hn : ∀ k, h.m k ≠ none → h0.h.m k ≠ none ∨ mineOf may w0 k) (hk : Keep may w0 w')
    {v : Value} {G : Nat → Prop} {ob : Ob} {c : Nat → IC} (hob : ObOk (upd L own.length v) (h.more 1) w' v G ob) (hG : ∀ b, G b → b < w'.heap.size ∧ h.m b = none ∧ mineOf may w0 b) (hd : ∀ b, G b → ¬ footOf F own b)
    (hc : ∀ L' h', own.length < h'.n → L' own.length = v → Den L' h' (c own.length) v) {dst : Option Nat} {K : St → Prop} (hp : pushK ⟨st.n, st.k, st.env, own⟩ ob c dst K) : ∃ st', Sat may w0 h0 st' (a.put dst v) w' ∧ K st' := by
  rw [pushK_eq] at hp
  have hL : ∀ i, i < h.n → upd L own.length v i = L i := fun i hi => upd_lt (by have := hm.hn; omega)
  have hm' := mem_push hm hob hG hd
  have ha' : Agree (upd L own.length v) (h.more 1) (St.push ⟨st.n, st.k, st.env, own⟩ ob) a := agree_more ha hL (sub_more h 1) rfl rfl
  exact put_sat (st := St.push ⟨st.n, st.k, st.env, own⟩ ob) hm' ha' (hs.step hL (sub_more h 1)) hn hk (av := .c (c own.length)) (hc _ _ (by simp [Hp.more, hm.hn]) upd_eq) hp
/-- A new object in a new block. -/
theorem alloc_sat [HasGl P] {h0 : Base P} (hm : Mem (mineOf may w0) L F h st.own w) (ha : Agree L h st a) (hs : SubB h0 st.k L h) (hn : ∀ k, h.m k ≠ none → h0.h.m k ≠ none ∨ mineOf may w0 k) (hk : Keep may w0 w) {o : Obj} {v : Value} {ob : Ob} {c : Nat → IC}
    (hob : ∀ L' h', Sub h h' → (∀ i, i < h.n → L' i = L i) → ObOk L' h' (w.alloc o) v (fun b => b = w.heap.size) ob)
    (hc : ∀ L' h', st.own.length < h'.n → L' st.own.length = v → Den L' h' (c st.own.length) v) {dst : Option Nat} {K : St → Prop} (hp : pushK st ob c dst K) : ∃ st', Sat may w0 h0 st' (a.put dst v) (w.alloc o) ∧ K st' := by
  have hb := below_alloc w o
  have hm' := mem_same hm (same_below hm hb) hb.size
  have hn' := hm.hn
  refine push_sat (st := st) (own := st.own) (G := fun b => b = w.heap.size) hm' ⟨ha.size, ha.env, ha.defers⟩ hs hn (keep_below hk hb) (hob _ _ (sub_more h 1) (fun i hi => upd_lt (by omega))) (fun b hb => ?_) (fun b hb => ?_) hc hp
  · subst hb
    exact ⟨by simp, hp_new hm.hsub (Nat.le_refl _), .inr hk.size⟩
  · subst hb
    rintro ⟨i, oi, hi, hF⟩
    have := (hm.foot i oi _ hi hF).1
    omega
/-- A new own array in a new block, and a part of it. -/
theorem allocV_sat [HasGl P] {h0 : Base P} (hm : Mem (mineOf may w0) L F h st.own w) (ha : Agree L h st a) (hs : SubB h0 st.k L h) (hn : ∀ k, h.m k ≠ none → h0.h.m k ≠ none ∨ mineOf may w0 k) (hk : Keep may w0 w) {o : Obj} {u : Value} {ob : Ob} {c : Nat → IC}
    (hob : ∀ L' h', Sub h h' → (∀ i, i < h.n → L' i = L i) → ObOk L' h' (w.alloc o) (.pointer (some ⟨w.heap.size, 0, none⟩)) (fun b => b = w.heap.size) ob)
    (hc : ∀ L' h', st.own.length < h'.n → L' st.own.length = .pointer (some ⟨w.heap.size, 0, none⟩) → Den L' h' (c st.own.length) u) {dst : Option Nat} {K : St → Prop} (hp : pushK st ob c dst K) : ∃ st', Sat may w0 h0 st' (a.put dst u) (w.alloc o) ∧ K st' := by
  have hb := below_alloc w o
  have hm' := mem_same hm (same_below hm hb) hb.size
  have hn' := hm.hn
  rw [pushK_eq] at hp
  have hL : ∀ i, i < h.n → upd L st.own.length (.pointer (some ⟨w.heap.size, 0, none⟩)) i = L i := fun i hi => upd_lt (by have := hm.hn; omega)
  have hm2 := mem_push hm' (v := .pointer (some ⟨w.heap.size, 0, none⟩)) (G := fun b => b = w.heap.size) (hob _ _ (sub_more h 1) hL) (fun b hb => by
    subst hb
    exact ⟨by simp, hp_new hm.hsub (Nat.le_refl _), .inr hk.size⟩) (fun b hb => by
    subst hb
    rintro ⟨i, oi, hi, hF⟩
    have := (hm.foot i oi _ hi hF).1
    omega)
  have ha' : Agree (upd L st.own.length (.pointer (some ⟨w.heap.size, 0, none⟩))) (h.more 1) (St.push st ob) a := agree_more ha hL (sub_more h 1) rfl rfl
  exact put_sat (st := St.push st ob) hm2 ha' (hs.step hL (sub_more h 1)) hn (keep_below hk hb) (av := .c (c st.own.length)) (hc _ _ (by simp [Hp.more, hm.hn]) upd_eq) hp
theorem argsOf_ok (ha : Agree L h st a) : ∀ {xs : List Operand} {avs : List AV}, argsOf st xs = some avs → DenAs L h avs (xs.map a.eval)
  | [], avs, e => by cases e; exact ⟨rfl, fun j a v hj => by simp at hj⟩
  | x :: r, avs, e => by
    unfold argsOf at e
    split at e
    · rename_i av l hx hr
      cases e
      obtain ⟨h1, h2⟩ := argsOf_ok ha hr
      refine ⟨by simp [h1], fun j a' v hj hv => ?_⟩
      cases j with
      | zero => simp at hj hv; subst hj hv; exact ev_eval ha hx
      | succ j => simp at hj hv; exact h2 j a' v hj (by simpa using hv)
    · cases e
theorem DenAs.append {as bs : List AV} {us vs : List Value} (h1 : DenAs L h as us) (h2 : DenAs L h bs vs) : DenAs L h (as ++ bs) (us ++ vs) := by
  refine ⟨by simp [h1.len, h2.len], fun j x v hj hv => ?_⟩
  rcases Nat.lt_or_ge j as.length with hlt | hge
  · rw [List.getElem?_append_left hlt] at hj
    rw [List.getElem?_append_left (by rw [← h1.len]; exact hlt)] at hv
    exact h1.den j x v hj hv
  · rw [List.getElem?_append_right hge] at hj
    rw [List.getElem?_append_right (by rw [← h1.len]; exact hge), ← h1.len] at hv
    exact h2.den _ x v hj hv
theorem capsA_len : ∀ cs : List (Bool × List IC), (capsA cs).length = cs.length
  | [] => rfl
  | (false, []) :: r => by simp [capsA, capsA_len r]
  | (false, [c]) :: r => by simp [capsA, capsA_len r]
  | (false, c :: d :: l) :: r => by simp [capsA, capsA_len r]
  | (true, xs) :: r => by simp [capsA, capsA_len r]
theorem capsA_get : ∀ (cs : List (Bool × List IC)) (j : Nat), (capsA cs)[j]? = (cs[j]?).map fun p => match p with | (false, [c]) => .c c | (_, xs) => .agg xs
  | [], j => by simp [capsA]
  | p :: r, 0 => by
    obtain ⟨b, xs⟩ := p
    cases b <;> (try cases xs with | nil => simp [capsA] | cons c l => cases l <;> simp [capsA])
    all_goals (try simp [capsA])
  | p :: r, j + 1 => by
    obtain ⟨b, xs⟩ := p
    have := capsA_get r j
    cases b <;> (try cases xs with | nil => simpa [capsA] using this | cons c l => cases l <;> simpa [capsA] using this)
    all_goals (try simpa [capsA] using this)
theorem fnOf_ok (ha : Agree L h st a) {x : Operand} {f : Nat} {caps : List AV} (hf : fnOf (ev st x) = some (f, caps)) : ∃ vs : List Value, a.eval x = .func (.func f) #[] vs.toArray ∧ DenAs L h caps vs := by
  unfold fnOf at hf
  split at hf
  · rename_i f' hx
    cases hf
    exact ⟨[], ev_v ha hx, ⟨rfl, fun j a v hj => by simp at hj⟩⟩
  · rename_i f' cs hx
    cases hf
    have hd : Den L h _ _ := ev_eval ha hx
    generalize hz : a.eval x = z at hd
    cases hd with
    | fn _ _ vs g hl hv h1 hr =>
    refine ⟨vs, rfl, by rw [capsA_len]; exact hl, fun j x v hj hvj => ?_⟩
    rw [capsA_get] at hj
    cases hc : cs[j]? with
    | none => rw [hc] at hj; cases hj
    | some p =>
      rw [hc] at hj
      obtain ⟨b, xs⟩ := p
      have e := hv j b xs v hc hvj
      have hden := hr j b xs hc
      simp only [Option.map_some, Option.some.injEq] at hj
      split at hj
      · rename_i c heq
        cases heq
        subst hj
        simp at e
        subst e
        exact hden 0 c (by simp)
      · rename_i b' xs' hne heq
        cases heq
        subst hj
        cases b with
        | true =>
          simp at e
          exact ⟨_, by rw [e], DenL.of_fun (g := g j) hden⟩
        | false =>
          have hl1 := h1 j xs hc
          match xs, hl1, hne with
          | [c], _, hne => exact (hne c rfl rfl).elim
  · cases hf
end
end Go.Eng
set_option linter.unusedVariables false
set_option linter.unusedSimpArgs false
namespace Go.Eng
open Go Go.RowKit
section
variable {P : Program} (w : World)
theorem run_append_src_own (base : Nat) (t tx ty e : TypeId) (i : TypeInfo) (z : Value) (ht : P.underlying t = some (.slice e)) (hi : P.info? e = some i) (hz : i.zero = some z) (hzs : z.cells.size = i.size)
    (v : Value) (n : Nat) (xs : List Value) (hown : w.ownsRow base e i.size v n xs) (x : Value) (m : Nat) (news : List Value) (hs : Src P i.size tx x m news w)
    (h63 : n + m ≤ maxLen) (hbytes : (n + m) * i.bytes ≤ 140737488355328) (hbase : base ≤ w.heap.size) :
    ∃ v' w', (Builtin.append_ #[t, tx] ty #[v, x]).run P w = .ok v' w' ∧ w'.ownsRow base e i.size v' (n + m) (xs ++ news) ∧ w.grownBy w' v.ownBlock ∧
      (v'.ownBlock = none ∨ v'.ownBlock = v.ownBlock ∨ v'.ownBlock = some w.heap.size) := by
  have hsmall : n + m ≤ 9223372036854775807 := by simp only [maxLen] at h63; omega
  have hl := hs.newsLen
  have hlen : (xs ++ news).length = (n + m) * i.size := by rw [List.length_append, hown.1, hl, Nat.add_mul]
  have grown : ∀ (old : Nat), old < n + m → ∀ (row : Option Nat),
      (w.drew.alloc (.cells ((xs ++ news).toArray ++ Builtin.zeroCells z.cells (grownCap w (n + m) old e - (n + m))) e)).ownsRow base e i.size
        (.slice (some ⟨w.heap.size, 0, none⟩) (n + m) (grownCap w (n + m) old e)) (n + m) (xs ++ news) ∧
      w.grownBy (w.drew.alloc (.cells ((xs ++ news).toArray ++ Builtin.zeroCells z.cells (grownCap w (n + m) old e - (n + m))) e)) row := by
    intro old ho row
    have hge := grownCap_ge w (n + m) old e
    have hcm : grownCap w (n + m) old e ≤ maxLen := grownCap_le_maxLen w (n + m) old e h63
    refine ⟨⟨hlen, .inr ⟨w.heap.size, _, _, rfl, hbase, _root_.Go.heap_alloc_new w.drew _, hge, hcm, ?_, ?_⟩⟩, ⟨rfl, rfl, rfl, by simp, fun k hk _ => heap_alloc_old w.drew _ hk⟩⟩
    · simp only [Array.size_append, List.size_toArray, size_zeroCells, hzs, hlen, ← Nat.add_mul]
      congr 1
      omega
    · simp only [Array.toList_append]
      rw [← hlen]
      exact List.take_left
  rcases hown.2 with ⟨rfl, rfl⟩ | ⟨g, cap, cur, rfl, hbg, hg, hnc, hcm, hcs, htake⟩
  · have hx : xs = [] := List.eq_nil_of_length_eq_zero (by simpa using hown.1)
    subst hx
    by_cases hm : m = 0
    · subst hm
      have hn : news = [] := List.eq_nil_of_length_eq_zero (by simpa using hl)
      subst hn
      exact ⟨.slice none 0 0, w, run_append_nothing w t tx ty e i ht hi none 0 0 (Nat.le_refl _) x hs, World.ownsRow_nil w base e i.size, ⟨rfl, rfl, rfl, Nat.le_refl _, fun _ _ _ => rfl⟩, .inl rfl⟩
    · have hr := run_append_grow_src (P := P) w t tx ty e i z ht hi hz none 0 0 [] (run_firstCells_none w.drew i.size 0 0 0) x m news hs (by omega) (by omega) (growslice_fits (by omega) hbytes)
      have hgr := grown 0 (by omega) (Value.ownBlock (.slice none 0 0))
      exact ⟨_, _, hr, hgr.1, hgr.2, .inr (.inr rfl)⟩
  · by_cases hroom : n + m ≤ cap
    · have hfit : n * i.size + news.length ≤ cur.size := by rw [hl, hcs, ← Nat.add_mul]; exact Nat.mul_le_mul_right _ hroom
      have hst := run_storeCells_at (P := P) g (n * i.size) e news 0 cur w hg (by omega) hs.one
      simp only [Nat.add_zero] at hst
      have hr : (Builtin.append_ #[t, tx] ty #[.slice (some ⟨g, 0, none⟩) n cap, x]).run P w = .ok (.slice (some ⟨g, 0, none⟩) (n + m) cap) (w.setRow g (cur.toList.take (n * i.size) ++ news ++ cur.toList.drop (n * i.size + news.length)).toArray) := by
        rcases hs.kind with ⟨e', hk⟩ | hk <;> simp [Builtin.append_, run_underlying ht, run_underlying hk, sizeOf, typeInfo, hi, hs.len, hroom, hs.cells, Addr.add_lit, hst]
      refine ⟨_, _, hr, ⟨hlen, .inr ⟨g, cap, _, rfl, hbg, setRow_heap w g cur _ e _ hg, hroom, hcm, ?_, ?_⟩⟩, ⟨rfl, rfl, rfl, by simp, fun k _ hk => setRow_other w g k _ (fun e => hk (by simp [Value.ownBlock, e]))⟩, .inr (.inl rfl)⟩
      · simp only [List.size_toArray, List.length_append, List.length_take, List.length_drop, Array.length_toList]
        omega
      · rw [htake, ← hlen]
        exact List.take_left
    · have holds : ∀ j u, xs[j]? = some u → w.cell? ((⟨g, 0, none⟩ : Addr).add j) = some u := hown.cells (g := g) rfl
      have hr := run_append_grow_src (P := P) w t tx ty e i z ht hi hz (some ⟨g, 0, none⟩) n cap xs (run_firstCells_some w.drew i.size n _ n cap xs hown.1 (by simpa using holds)) x m news hs (by omega) (by omega) (growslice_fits (by omega) hbytes)
      have hgr := grown cap (by omega) (Value.ownBlock (.slice (some ⟨g, 0, none⟩) n cap))
      exact ⟨_, _, hr, hgr.1, hgr.2, .inr (.inr rfl)⟩
end

section
variable {P : Program} {T : TT} {FF : FL} {mine may : Nat → Prop} {L : Nat → Value} {F : Nat → Nat → Prop} {h : Hp} {st : St} {a : Act} {w w0 : World}
theorem value_upon {o : Oper} {v : Value} {w' : World} {Kc : Act → World → Prop} {Q : Exit → Act → World → Prop} (hr : (execOp a.eval o).run P w = .ok (.value v) w') (hk : Kc (a.put o.dst v) w') : o.wp P a w Kc Q := by
  unfold Oper.wp
  rw [hr]
  exact hk
theorem skip_upon {o : Oper} {w' : World} {Kc : Act → World → Prop} {Q : Exit → Act → World → Prop} (hr : (execOp a.eval o).run P w = .ok .skip w') (hk : Kc (a.put o.dst undef) w') : o.wp P a w Kc Q := by
  unfold Oper.wp
  rw [hr]
  exact hk
theorem keep_row (hk : Keep may w0 w) {b : Nat} (hb : mineOf may w0 b) (cs : Array Value) : Keep may w0 (w.setRow b cs) :=
  ⟨hk.os, hk.tape, hk.output, by rw [size_setRow]; exact hk.size, fun k hlt hn => by
    have hne : k ≠ b := fun e => by subst e; rcases hb with h | h; exact hn h; omega
    rw [setRow_other w b k _ hne]
    exact hk.block k hlt hn⟩
theorem denL_set {cs xs : List IC} {vs us : List Value} (h1 : DenL L h cs vs) (h2 : DenL L h xs us) (off : Nat) : DenL L h (cs.take off ++ xs ++ cs.drop (off + xs.length)) (vs.take off ++ us ++ vs.drop (off + us.length)) := by
  rw [h2.1]
  exact ((h1.take _).append h2).append (h1.drop _)
theorem blk_slice {v : Value} (hs : (∃ A n c, v = .slice A n c)) : blk v = v.ownBlock := by
  obtain ⟨A, n, c, rfl⟩ := hs
  cases A <;> rfl
theorem ownsRow_slice {w : World} {base e size n : Nat} {v : Value} {xs : List Value} (h : w.ownsRow base e size v n xs) : ∃ A n c, v = .slice A n c := by
  rcases h.2 with ⟨h, _⟩ | ⟨g, cap, cur, h, _⟩
  · exact ⟨_, _, _, h⟩
  · exact ⟨_, _, _, h⟩
/-- The values of n elements of sz cells, one behind the other. -/
def valsOf (n sz : Nat) (g : Nat → Nat → Value) : List Value := (List.range (n * sz)).map fun q => g (q / sz) (q % sz)
theorem valsOf_len (n sz : Nat) (g : Nat → Nat → Value) : (valsOf n sz g).length = n * sz := by simp [valsOf]
theorem valsOf_get {n sz : Nat} {g : Nat → Nat → Value} {k j : Nat} (hk : k < n) (hj : j < sz) : (valsOf n sz g)[k * sz + j]? = some (g k j) := by
  have hlt : k * sz + j < n * sz := by
    have : (k + 1) * sz ≤ n * sz := Nat.mul_le_mul_right _ hk
    rw [Nat.succ_mul] at this
    omega
  have hpos : 0 < sz := by omega
  have e1 : (k * sz + j) / sz = k := by rw [Nat.mul_comm, Nat.mul_add_div hpos, Nat.div_eq_of_lt hj, Nat.add_zero]
  have e2 : (k * sz + j) % sz = j := by rw [Nat.mul_comm, Nat.mul_add_mod, Nat.mod_eq_of_lt hj]
  simp [valsOf, hlt, e1, e2]
theorem valsOf_inv {n sz : Nat} {g : Nat → Nat → Value} {q : Nat} {u : Value} (hq : (valsOf n sz g)[q]? = some u) : ∃ k j, k < n ∧ j < sz ∧ q = k * sz + j ∧ u = g k j := by
  have hlt : q < n * sz := by have := (List.getElem?_eq_some_iff.1 hq).1; rwa [valsOf_len] at this
  have hpos : 0 < sz := by
    rcases Nat.eq_zero_or_pos sz with h0 | h0
    · subst h0; simp at hlt
    · exact h0
  refine ⟨q / sz, q % sz, ?_, Nat.mod_lt _ hpos, ?_, ?_⟩
  · exact (Nat.div_lt_iff_lt_mul hpos).2 hlt
  · rw [Nat.mul_comm]; exact (Nat.div_add_mod q sz).symm
  · simp [valsOf, hlt] at hq; exact hq.symm
theorem rowD_valsOf {n sz : Nat} {f : Nat → List IC} {g : Nat → Nat → Value} (hl : ∀ k, k < n → (f k).length = sz) (hr : ∀ k, k < n → ∀ (j : Nat) c, (f k)[j]? = some c → Den L h c (g k j)) : RowD L h sz n f (valsOf n sz g) := by
  refine ⟨hl, fun k hk j c hc => ⟨g k j, valsOf_get hk ?_, hr k hk j c hc⟩⟩
  have := (List.getElem?_eq_some_iff.1 hc).1
  rw [hl k hk] at this
  exact this
theorem newsOf_ok (hm : Mem mine L F h st.own w) {tx : TypeId} {d : TypeDesc} (hu : P.underlying tx = some d) {sz : Nat} {av : AV} {x : Value} (hd : DenA L h av x) {m : Nat} {g : Nat → List IC} (hn : newsOf st d sz av = some (m, g)) :
    ∃ vs, Src P sz tx x m vs w ∧ RowD L h sz m g vs := by
  unfold newsOf at hn
  split at hn
  · split at hn
    · rename_i e'
      cases hn
      obtain rfl := den_one hd
      exact ⟨[], Src.ofNil w hu 0, ⟨fun k hk => by omega, fun k hk => by omega⟩⟩
    · cases hn
  · rename_i j
    split at hn
    · rename_i e' e sz' n f ho
      split at hn
      · rename_i es
        have es := Nat.eq_of_beq_eq_true es
        subst es
        cases hn
        have hd : Den L h _ _ := hd
        cases hd with
        | row _ A n' c h1 h2 =>
        obtain ⟨vs, ⟨hl, hr⟩, hG, hR⟩ := hm.obs j _ ho
        rw [h2] at hr
        rcases hr with ⟨e1, e2⟩ | ⟨gb, cap, cur, e1, e2, e3, e4, e5, e6, e7⟩
        · cases e1
          refine ⟨[], ?_, ⟨fun k hk => by omega, fun k hk => by omega⟩⟩
          rw [e2]
          exact Src.ofNil w hu 0
        · cases e1
          refine ⟨vs, Src.ofSlice w hu ⟨gb, 0, none⟩ _ _ vs hl (fun q u hq => ?_) (fun u hu2 => ?_), hR⟩
          · rw [addr_plain, Nat.zero_add, blk_cell_at' e3]
            rw [← e7, List.getElem?_take] at hq
            split at hq
            · exact hq
            · cases hq
          · obtain ⟨q, hq, rfl⟩ := List.getElem_of_mem hu2
            have hlt : q < m * sz := by rw [← hl]; exact hq
            have hpos : 0 < sz := by
              rcases Nat.eq_zero_or_pos sz with h0 | h0
              · subst h0; simp at hlt
              · exact h0
            have hk : q / sz < m := (Nat.div_lt_iff_lt_mul hpos).2 hlt
            have hj : q % sz < (g (q / sz)).length := by rw [hR.len _ hk]; exact Nat.mod_lt _ hpos
            obtain ⟨u, h1, h2⟩ := hR.den _ hk (q % sz) (g (q / sz))[q % sz] (by simp [hj])
            have eq : q / sz * sz + q % sz = q := by rw [Nat.mul_comm]; exact Nat.div_add_mod q sz
            rw [eq, List.getElem?_eq_getElem hq] at h1
            cases h1
            exact h2.one
      · cases hn
    · cases hn
  · rename_i sz' n f
    split at hn
    · rename_i e'
      split at hn
      · rename_i es
        have es := Nat.eq_of_beq_eq_true es
        subst es
        cases hn
        have hd : Den L h _ _ := hd
        cases hd with
        | sl _ _ _ A c ad g' hc hmx hA hg hl hclo hr =>
        rcases Nat.eq_zero_or_pos m with h0 | hp
        · subst h0
          cases A with
          | none => exact ⟨[], Src.ofNil w hu c, ⟨fun k hk => by omega, fun k hk => by omega⟩⟩
          | some a2 => exact ⟨[], Src.ofSlice w hu a2 0 c [] (by simp) (fun j u hj => by simp at hj) (fun u hu => by simp at hu), ⟨fun k hk => by omega, fun k hk => by omega⟩⟩
        · obtain rfl := hA hp
          refine ⟨valsOf m sz g', Src.ofSlice w hu ad m c _ (valsOf_len _ _ _) (fun q u hq => ?_) (fun u hu2 => ?_), rowD_valsOf hl hr⟩
          · obtain ⟨k, j, hk, hj, rfl, rfl⟩ := valsOf_inv hq
            exact hcell_cell hm.hsub (hg k hk j hj)
          · obtain ⟨q, hq, e⟩ := List.getElem_of_mem hu2
            obtain ⟨k, j, hk, hj, rfl, rfl⟩ := valsOf_inv (q := q) (by rw [List.getElem?_eq_getElem hq, e])
            have hjl : j < (g k).length := by rw [hl k hk]; exact hj
            exact (hr k hk j (g k)[j] (by simp [hjl])).one
      · cases hn
    · cases hn
  · rename_i s
    split at hn
    · rename_i es
      have es := Nat.eq_of_beq_eq_true es
      subst es
      cases hn
      obtain rfl := den_one hd
      refine ⟨byteCells s, Src.ofString w hu s, ⟨fun k hk => rfl, fun k hk j c hc => ?_⟩⟩
      have hj : j = 0 := by have := (List.getElem?_eq_some_iff.1 hc).1; simp at this; exact this
      subst hj
      simp only [List.getElem?_cons_zero, Option.some.injEq] at hc
      subst hc
      refine ⟨.int .u8 ((s.data.toList.getD k 0).toNat : Int), ?_, .v _ rfl⟩
      have hk : k < s.data.toList.length := by simpa using hk
      have hk2 : k < s.data.size := by simpa using hk
      simp [byteCells, List.getD_eq_getElem?_getD]
      refine ⟨_, Array.getElem?_eq_getElem hk2, ?_⟩
      rw [Array.getElem?_eq_getElem hk2]
      rfl
    · cases hn
  · cases hn
theorem oldOf_ok (hm : Mem mine L F h st.own w) {e sz : Nat} {av : AV} {x : Value} (hd : DenA L h av x) {oi : Option Nat} {n : Nat} {f : Nat → List IC} (ho : oldOf st e sz av = some (oi, n, f)) :
    ∃ (vs : List Value) (G : Nat → Prop), w.ownsRow 0 e sz x n vs ∧ (∀ b, blk x = some b → G b) ∧ RowD L h sz n f vs ∧ (∀ b, G b → b < w.heap.size ∧ h.m b = none ∧ mine b) ∧ Mem mine L F h (without st.own oi) w ∧ (without st.own oi).length = st.own.length ∧ (∀ b, G b → ¬ footOf F (without st.own oi) b) := by
  unfold oldOf at ho
  split at ho
  · cases ho
    obtain rfl := den_one hd
    exact ⟨[], fun _ => False, World.ownsRow_nil w 0 e sz, (fun b hb => by cases hb), ⟨fun k hk => by omega, fun k hk => by omega⟩, (fun b hb => hb.elim), hm, rfl, fun b hb => hb.elim⟩
  · rename_i i
    split at ho
    · rename_i e' sz' n' f' hoi
      split at ho
      · rename_i es
        rw [Bool.and_eq_true] at es
        have e1 := Nat.eq_of_beq_eq_true es.1
        have e2 := Nat.eq_of_beq_eq_true es.2
        subst e1 e2
        cases ho
        have hd : Den L h _ _ := hd
        cases hd with
        | row _ A n' c h1 h2 =>
        obtain ⟨vs, k1, k2, k3⟩ := hm.obs i _ hoi
        rw [h2] at k1 k2
        refine ⟨vs, F i, k1, k2, k3, fun b hb => hm.foot i _ b hoi hb, mem_drop hm i, List.length_set .., fun b hb => ?_⟩
        rintro ⟨j, oj, hj, hF⟩
        obtain ⟨q1, q2⟩ := set_none_get hj
        exact q2 (hm.dis j i oj _ b q1 hoi hF hb)
      · cases ho
    · cases ho
  · cases ho
theorem append_ok (hT : TTok P T) (hm : Mem mine L F h st.own w) (hmine : ∀ b, w.heap.size ≤ b → mine b) {t tx ty e : TypeId} {te : TI} {d : TypeDesc} (hte : TF P e te) (ht : P.underlying t = some (.slice e)) (htx : P.underlying tx = some d) (hz : te.zero.cells.size = te.size)
    {av aw : AV} {vx vy : Value} (hx : DenA L h av vx) (hy : DenA L h aw vy) {oi : Option Nat} {n m : Nat} {f g : Nat → List IC} (ho : oldOf st e te.size av = some (oi, n, f)) (hn : newsOf st d te.size aw = some (m, g))
    (h63 : n + m ≤ 9223372036854775807) (hb : (n + m) * te.bytes ≤ 140737488355328) {n' : Nat} {f' : Nat → List IC} (hn' : n' = n + m) (hf1 : ∀ k, k < n → f' k = f k) (hf2 : ∀ k, k < m → f' (n + k) = g k) :
    ∃ v' w' G', (Builtin.append_ #[t, tx] ty #[vx, vy]).run P w = .ok v' w' ∧ Mem mine L F h (without st.own oi) w' ∧ (∀ L' h', Sub h h' → (∀ i, i < h.n → L' i = L i) → ObOk L' h' w' v' G' (.row e te.size n' f')) ∧ (∀ b, G' b → b < w'.heap.size ∧ h.m b = none ∧ mine b) ∧ (∀ b, G' b → ¬ footOf F (without st.own oi) b) ∧
      (without st.own oi).length = st.own.length ∧ (∃ A c, v' = .slice A n' c) ∧ (∀ may w0, mine = mineOf may w0 → Keep may w0 w → Keep may w0 w') := by
  subst hn'
  have hi := hte.info
  cases hinfo : P.info? e with
  | none => rw [hinfo] at hi; cases hi
  | some ie =>
  rw [hinfo] at hi
  simp only [Option.map_some, Option.some.injEq, Prod.mk.injEq] at hi
  obtain ⟨i1, i2, i3⟩ := hi
  have hml : maxLen = 9223372036854775807 := rfl
  obtain ⟨vs, G, q1, q2, q3, q4, q5, q6, q7⟩ := oldOf_ok hm hx ho
  obtain ⟨us, s1, s2⟩ := newsOf_ok hm htx hy hn
  have hsz : te.size = ie.size := i2.symm
  have q1' := q1
  have s1' := s1
  rw [hsz] at q1 s1
  obtain ⟨v', w', r1, r2, r3, r4⟩ := run_append_src_own (P := P) w 0 t tx ty e ie te.zero ht hinfo i1 (by rw [hz, hsz]) vx n vs q1 vy m us s1 (by rw [hml]; exact h63) (by rw [i3]; exact hb) (Nat.zero_le _)
  have hblk : blk vx = vx.ownBlock := blk_slice (ownsRow_slice q1)
  have hblk' : blk v' = v'.ownBlock := blk_slice (ownsRow_slice r2)
  have hw' : ∀ k, k < w.heap.size → ¬ G k → w'.heap[k]? = w.heap[k]? := fun k hk hn => r3.block k hk (fun e => hn (q2 k (by rw [hblk, ← e])))
  have hm1 : Mem mine L F h (without st.own oi) w' := by
    refine mem_move q5 r3.size (fun k o hk => ?_) (fun b hb => ?_)
    · refine hw' k (Array.getElem?_eq_some_iff.1 (hm.hsub k o hk)).1 (fun hG => ?_)
      have := (q4 k hG).2.1
      rw [this] at hk; cases hk
    · obtain ⟨j, oj, hj, hF⟩ := hb
      exact hw' b (q5.foot j oj b hj hF).1 (fun hG => q7 b hG ⟨j, oj, hj, hF⟩)
  have hnb : ∀ b, blk v' = some b → h.m b = none ∧ mine b ∧ ¬ footOf F (without st.own oi) b ∧ b < w'.heap.size := fun b hb => by
    have hlt : b < w'.heap.size := by
      rcases r2.2 with ⟨e1, _⟩ | ⟨g, cap, cur, e1, e2, e3, _⟩
      · rw [e1] at hb; cases hb
      · rw [e1] at hb; cases hb; exact (Array.getElem?_eq_some_iff.1 e3).1
    rw [hblk'] at hb
    rcases r4 with r4 | r4 | r4
    · rw [r4] at hb; cases hb
    · rw [r4, ← hblk] at hb
      have := q4 b (q2 b hb)
      exact ⟨this.2.1, this.2.2, q7 b (q2 b hb), hlt⟩
    · rw [r4] at hb
      cases hb
      refine ⟨hp_new hm.hsub (Nat.le_refl _), hmine _ (Nat.le_refl _), fun ⟨j, oj, hj, hF⟩ => ?_, hlt⟩
      have := (q5.foot j oj _ hj hF).1
      omega
  refine ⟨v', w', fun b => blk v' = some b, r1, hm1, fun L' h' hs hL => ⟨vs ++ us, by rw [hsz]; exact r2, fun b hb => hb, ?_⟩, fun b hb => ⟨(hnb b hb).2.2.2, (hnb b hb).1, (hnb b hb).2.1⟩, fun b hb => (hnb b hb).2.2.1, q6, ?_, fun may w0 hme hk => ?_⟩
  · have hR : RowD L h te.size (n + m) f' (vs ++ us) := by
      have hlen : vs.length = n * te.size := q1'.1
      refine ⟨fun k hk => ?_, fun k hk j c hc => ?_⟩
      · rcases Nat.lt_or_ge k n with hlt | hge
        · rw [hf1 k hlt]; exact q3.len k hlt
        · have := hf2 (k - n) (by omega)
          rw [show n + (k - n) = k by omega] at this
          rw [this]; exact s2.len _ (by omega)
      · rcases Nat.lt_or_ge k n with hlt | hge
        · rw [hf1 k hlt] at hc
          obtain ⟨u, h1, h2⟩ := q3.den k hlt j c hc
          refine ⟨u, ?_, h2⟩
          rw [List.getElem?_append_left (List.getElem?_eq_some_iff.1 h1).1]
          exact h1
        · have e1 := hf2 (k - n) (by omega)
          rw [show n + (k - n) = k by omega] at e1
          rw [e1] at hc
          obtain ⟨u, h1, h2⟩ := s2.den _ (by omega) j c hc
          refine ⟨u, ?_, h2⟩
          have e2 : k * te.size + j = vs.length + ((k - n) * te.size + j) := by
            rw [hlen]
            have : k * te.size = n * te.size + (k - n) * te.size := by rw [← Nat.add_mul]; congr 1; omega
            omega
          rw [e2, List.getElem?_append_right (by omega), Nat.add_sub_cancel_left]
          exact h1
    exact hR.mono hs hL
  · rcases r2.2 with ⟨e1, e2⟩ | ⟨g, cap, cur, e1, _⟩
    · exact ⟨none, 0, by rw [e1, e2]⟩
    · exact ⟨_, _, e1⟩
  · refine ⟨r3.os.trans hk.os, r3.tape.trans hk.tape, r3.output.trans hk.output, Nat.le_trans hk.size r3.size, fun k hlt hno => ?_⟩
    rw [hw' k (Nat.lt_of_lt_of_le hlt hk.size) (fun hG => by
      have := (q4 k hG).2.2
      rw [hme] at this
      rcases this with h3 | h3
      · exact hno h3
      · omega)]
    exact hk.block k hlt hno
end
end Go.Eng
set_option linter.unusedVariables false
set_option linter.unusedSimpArgs false
namespace Go.Eng
open Go Go.RowKit
section
variable {P : Program} {T : TT} {FF : FL} {mine may : Nat → Prop} {L : Nat → Value} {F : Nat → Nat → Prop} {h : Hp} {st : St} {a : Act} {w w0 : World}
/-- Rows of a literal. -/
theorem rowC_ok {sz : Nat} : ∀ {l : List (Nat × AV)} {vs : List (Nat × Value)} {i : Nat} {xs : List (List IC)}, rowC sz i l = some xs → DenP L h l vs →
    xs.length = l.length ∧ vs = (((vs.map (·.2)).zipIdx i).map fun x => (x.2, x.1)) ∧ (∀ v, v ∈ vs.map (·.2) → v.cells.size = sz) ∧ (∀ y, y ∈ xs → y.length = sz) ∧ DenL L h xs.flatten ((vs.map (·.2)).flatMap fun v => v.cells.toList)
  | [], _, i, xs, hr, .nil => by cases hr; exact ⟨rfl, rfl, (fun v hv => nomatch hv), (fun y hy => nomatch hy), DenL.nil⟩
  | (j, av) :: r, _, i, xs, hr, .cons (v := v) (r := us) h1 h2 => by
    unfold rowC at hr
    split at hr
    · rename_i cs rest hb hc hrest
      split at hr
      · rename_i hcond
        cases hr
        obtain ⟨k1, k2, k3, k4, k5⟩ := rowC_ok hrest h2
        have hj : i = j := Nat.eq_of_beq_eq_true hb
        have hd := cellsOf_all hc h1
        refine ⟨by simp [k1], ?_, fun u hu => ?_, fun y hy => ?_, ?_⟩
        · rw [List.map_cons, List.zipIdx_cons, List.map_cons, ← k2, hj]
        · rw [List.map_cons] at hu
          rcases List.mem_cons.1 hu with rfl | hu
          · have := hd.1; rw [← hcond, this]; simp
          · exact k3 u hu
        · rcases List.mem_cons.1 hy with rfl | hy
          · exact hcond
          · exact k4 y hy
        · rw [List.map_cons, List.flatMap_cons, List.flatten_cons]
          exact hd.append k5
      · cases hr
    · cases hr
theorem flatten_len {α : Type} {sz : Nat} : ∀ {xs : List (List α)} (hx : ∀ x, x ∈ xs → x.length = sz), xs.flatten.length = xs.length * sz
  | [], _ => by simp
  | x :: r, hx => by rw [List.flatten_cons, List.length_append, hx x (by simp), flatten_len (fun y hy => hx y (by simp [hy])), List.length_cons, Nat.succ_mul, Nat.add_comm]
theorem flatten_get {sz : Nat} : ∀ {xs : List (List IC)} (hx : ∀ x, x ∈ xs → x.length = sz) {k : Nat} {cs : List IC} (hk : xs[k]? = some cs) {j : Nat} {c : IC} (hj : cs[j]? = some c), xs.flatten[k * sz + j]? = some c
  | [], _, k, cs, hk, _, _, _ => by simp at hk
  | x :: xs, hx, 0, cs, hk, j, c, hj => by
    simp only [List.getElem?_cons_zero, Option.some.injEq] at hk
    subst hk
    rw [List.flatten_cons, Nat.zero_mul, Nat.zero_add, List.getElem?_append_left (List.getElem?_eq_some_iff.1 hj).1]
    exact hj
  | x :: xs, hx, k + 1, cs, hk, j, c, hj => by
    simp only [List.getElem?_cons_succ] at hk
    have hl := hx x (by simp)
    rw [List.flatten_cons, List.getElem?_append_right (by rw [hl, Nat.succ_mul]; omega), hl]
    have e : (k + 1) * sz + j - sz = k * sz + j := by rw [Nat.succ_mul]; omega
    rw [e]
    exact flatten_get (fun x hm => hx x (by simp [hm])) hk hj
theorem rowD_flat {sz n : Nat} {f : Nat → List IC} {xs : List (List IC)} {vs : List Value} (hx : ∀ x, x ∈ xs → x.length = sz) (hn : xs.length = n) (hf : ∀ k, k < n → f k = xs.getD k []) (hd : DenL L h xs.flatten vs) : RowD L h sz n f vs := by
  have hget : ∀ k, k < n → xs[k]? = some (f k) := fun k hk => by
    have hk' : k < xs.length := by omega
    rw [hf k hk]
    simp [List.getD_eq_getElem?_getD, hk']
  refine ⟨fun k hk => hx _ (List.mem_of_getElem? (hget k hk)), fun k hk j c hc => ?_⟩
  have h1 := flatten_get hx (hget k hk) hc
  have hlt : k * sz + j < vs.length := by rw [← hd.1]; exact (List.getElem?_eq_some_iff.1 h1).1
  exact ⟨_, List.getElem?_eq_getElem hlt, hd.2 _ c _ h1 (List.getElem?_eq_getElem hlt)⟩
/-- A store into an own row. -/
theorem row_store (hm : Mem mine L F h st.own w) {i : Nat} {e : TypeId} {sz n : Nat} {f f' : Nat → List IC} (hi : st.own[i]? = some (some (.row e sz n f))) {k off : Nat} {p : Value} (hp : Den L h (.rel i sz k off) p) {xs : List IC} {us : List Value} (hd : DenL L h xs us) (hl : off + xs.length ≤ sz)
    (hf : ∀ j, j < n → f' j = if j = k then (f k).take off ++ xs ++ (f k).drop (off + xs.length) else f j) :
    ∃ g cur, p = .pointer (some ⟨g, k * sz + off, none⟩) ∧ w.heap[g]? = some (.cells cur e (0, 0)) ∧ F i g ∧ k * sz + off + us.length ≤ cur.size ∧
      Mem mine L F h (st.own.set i (some (.row e sz n f'))) (w.setRow g (cur.toList.take (k * sz + off) ++ us ++ cur.toList.drop (k * sz + off + us.length)).toArray) := by
  obtain ⟨vs, ⟨hvl, hr⟩, hG, hR⟩ := hm.obs i _ hi
  cases hp with
  | rel _ _ _ _ ad h1 h2 h3 =>
  rcases hr with ⟨e1, e2⟩ | ⟨g, cap, cur, e1, e2, e3, e4, e5, e6, e7⟩
  · rw [e1] at h2; cases h2
  have hk := h3 _ _ _ e1
  rw [e1] at h2
  cases h2
  have hFg := hG g (by rw [e1]; rfl)
  have hle : k * sz + off + us.length ≤ n * sz := by
    have : (k + 1) * sz ≤ n * sz := Nat.mul_le_mul_right _ hk
    rw [Nat.succ_mul] at this
    have := hd.1
    omega
  have hcap : n * sz ≤ cur.size := by rw [e6]; exact Nat.mul_le_mul_right _ e4
  refine ⟨g, cur, by rw [addr_plain, Nat.zero_add], e3, hFg, by omega, mem_set hm hi (size_setRow ..) (fun b hb => ?_) ⟨vs.take (k * sz + off) ++ us ++ vs.drop (k * sz + off + us.length), ⟨?_, .inr ⟨g, cap, _, e1, e2, setRow_heap w g cur _ e (0, 0) e3, e4, e5, ?_, ?_⟩⟩, hG, ⟨fun j hj => ?_, fun j hj q c hc => ?_⟩⟩⟩
  · exact setRow_other w g b _ (fun e => hb (by rw [e]; exact hFg))
  · simp only [List.length_append, List.length_take, List.length_drop]; omega
  · simp only [List.size_toArray, List.length_append, List.length_take, List.length_drop, Array.length_toList]; omega
  · rw [← e7]
    simp only
    have e8 : (cur.toList.take (k * sz + off) ++ us).length = k * sz + off + us.length := by rw [List.length_append, List.length_take, Array.length_toList]; omega
    rw [List.take_append, List.take_of_length_le (by omega), e8, List.take_take, Nat.min_eq_left (by omega), List.drop_take]
  · rw [hf j hj]
    split
    · rename_i e; subst e
      have := hR.len j hk
      simp; omega
    · exact hR.len j hj
  · rw [hf j hj] at hc
    have hmid : ∀ q' u, q' < k * sz + off ∨ k * sz + off + us.length ≤ q' → vs[q']? = some u → (vs.take (k * sz + off) ++ us ++ vs.drop (k * sz + off + us.length))[q']? = some u := fun q' u hq' hu => by
      rcases hq' with hq' | hq'
      · rw [List.append_assoc, List.getElem?_append_left (by rw [List.length_take]; omega), List.getElem?_take, if_pos hq']; exact hu
      · have e8 : (vs.take (k * sz + off) ++ us).length = k * sz + off + us.length := by rw [List.length_append, List.length_take]; omega
        rw [List.getElem?_append_right (by omega), e8, List.getElem?_drop]
        rw [show k * sz + off + us.length + (q' - (k * sz + off + us.length)) = q' by omega]; exact hu
    split at hc
    · rename_i e; subst e
      have hfl := hR.len j hk
      rcases Nat.lt_or_ge q off with hq | hq
      · rw [List.append_assoc, List.getElem?_append_left (by rw [List.length_take]; omega), List.getElem?_take, if_pos hq] at hc
        obtain ⟨u, q1, q2⟩ := hR.den j hj q c hc
        exact ⟨u, hmid _ u (by omega) q1, q2⟩
      · rcases Nat.lt_or_ge q (off + xs.length) with hq2 | hq2
        · rw [List.append_assoc, List.getElem?_append_right (by rw [List.length_take]; omega), List.length_take, Nat.min_eq_left (by omega), List.getElem?_append_left (by omega)] at hc
          have hlt : q - off < us.length := by have := hd.1; omega
          refine ⟨us[q - off], ?_, hd.2 _ c _ hc (List.getElem?_eq_getElem hlt)⟩
          rw [List.append_assoc, List.getElem?_append_right (by rw [List.length_take]; omega), List.length_take, Nat.min_eq_left (by omega), List.getElem?_append_left (by omega)]
          rw [show j * sz + q - (j * sz + off) = q - off by omega]
          exact List.getElem?_eq_getElem hlt
        · have e8 : ((f j).take off ++ xs).length = off + xs.length := by rw [List.length_append, List.length_take]; omega
          rw [List.getElem?_append_right (by omega), e8, List.getElem?_drop, show off + xs.length + (q - (off + xs.length)) = q by omega] at hc
          obtain ⟨u, q1, q2⟩ := hR.den j hj q c hc
          exact ⟨u, hmid _ u (by have := hd.1; omega) q1, q2⟩
    · rename_i hne
      obtain ⟨u, q1, q2⟩ := hR.den j hj q c hc
      have hq : q < sz := by have := (List.getElem?_eq_some_iff.1 hc).1; rw [hR.len j hj] at this; exact this
      refine ⟨u, hmid _ u ?_ q1, q2⟩
      rcases Nat.lt_or_gt_of_ne hne with hlt | hgt
      · left
        have : (j + 1) * sz ≤ k * sz := Nat.mul_le_mul_right _ hlt
        rw [Nat.succ_mul] at this
        omega
      · right
        have : (k + 1) * sz ≤ j * sz := Nat.mul_le_mul_right _ hgt
        rw [Nat.succ_mul] at this
        have := hd.1
        omega
end
end Go.Eng
