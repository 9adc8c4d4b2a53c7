/- A part of the proof: what the functions of the program come to, told by a small reckoner of states. -/
import Derived.Test.YteglopjljejjkaaDoorA6
set_option linter.unusedVariables false
set_option linter.unusedSimpArgs false
namespace Go.Eng
open Go Go.RowKit

theorem clo_of0 {c : IC} (h : clo0 c = true) : clo c = true := by cases c <;> simp_all [clo, clo0]
section
variable {L L' : Nat → Value} {h h' : Hp}
/-- What holds no place of the call's own is told by what stays alone. -/
theorem Den.clo {c : IC} {v : Value} (hd : Den L h c v) (n' : Nat) : Go.Eng.clo c = true → Den L' ⟨h.m, n'⟩ c v := by
  induction hd with
  | v x h1 => exact fun _ => .v x h1
  | sl sz n f A c ad g hc hm hA hg hl hclo hr ih => exact fun _ => .sl sz n f A c ad g hc hm hA hg hl hclo (fun k hk j c' hj => ih k hk j c' hj (List.all_eq_true.1 (hclo k hk) c' (List.mem_of_getElem? hj)))
  | fp cs ad g hclo hg hr ih => exact fun _ => .fp cs ad g hclo hg (fun j c' hj => ih j c' hj (List.all_eq_true.1 hclo c' (List.mem_of_getElem? hj)))
  | own i off a h1 h2 => intro e; cases e
  | row i A n c h1 h2 => intro e; cases e
  | rel i sz k off a h1 h2 h3 => intro e; cases e
  | view i sz k n c a b h1 h2 h3 h4 h5 => intro e; cases e
  | fn f cs vs g hl hv h1 hr ih =>
    intro e
    refine .fn f cs vs g hl hv h1 (fun j b xs hj i c' hi => ih j b xs hj i c' hi (clo_of0 ?_))
    have := List.all_eq_true.1 e (b, xs) (List.mem_of_getElem? hj)
    exact List.all_eq_true.1 this c' (List.mem_of_getElem? hi)
  | ifc t c v hr ih => exact fun e => .ifc t c v (ih (clo_of0 e))
  | mp i r h1 h2 => intro e; cases e
  | any x h1 => exact fun _ => .any x h1
theorem DenL.clo {cs : List IC} {vs : List Value} (hd : DenL L h cs vs) (n' : Nat) (hc : cs.all Go.Eng.clo = true) : DenL L' ⟨h.m, n'⟩ cs vs :=
  ⟨hd.1, fun j c u hj hu => (hd.2 j c u hj hu).clo n' (List.all_eq_true.1 hc c (List.mem_of_getElem? hj))⟩
def clo1 : AV → Bool
  | .c x => clo x
  | .agg xs => xs.all clo
  | .tup _ => false
  | .top => false
def cloA : AV → Bool
  | .tup as => as.all clo1
  | a => clo1 a
theorem Den1.clo {a : AV} {v : Value} (hd : Den1 L h a v) (n' : Nat) (hc : clo1 a = true) : Den1 L' ⟨h.m, n'⟩ a v := by
  cases a with
  | c x => exact Den.clo hd n' hc
  | agg xs => obtain ⟨vs, e, hd⟩ := hd; exact ⟨vs, e, hd.clo n' hc⟩
  | tup as => cases hc
  | top => cases hc
theorem DenA.clo {a : AV} {v : Value} (hd : DenA L h a v) (n' : Nat) (hc : cloA a = true) : DenA L' ⟨h.m, n'⟩ a v := by
  cases a with
  | c x => exact Den1.clo (a := .c x) hd n' hc
  | agg xs => exact Den1.clo (a := .agg xs) hd n' hc
  | tup as =>
    obtain ⟨vs, e, hl, hd⟩ := hd
    exact ⟨vs, e, hl, fun j a u ha hu => (hd j a u ha hu).clo n' (List.all_eq_true.1 hc a (List.mem_of_getElem? ha))⟩
  | top => cases hc
/-! ### Putting other cells in the place of cells -/
def up (s0 : IC → IC) : IC → IC
  | .fn f cs => .fn f (cs.map fun x => (x.1, x.2.map s0))
  | .ifc t c => .ifc t (s0 c)
  | c => s0 c
structure SubstOk (L L' : Nat → Value) (h h' : Hp) (s : IC → IC) : Prop where
  out : ∀ c v, Den L h c v → Den L' h' (s c) v
theorem map_caps {s0 : IC → IC} {cs : List (Bool × List IC)} {j : Nat} {b : Bool} {xs : List IC} (hj : (cs.map fun x => (x.1, x.2.map s0))[j]? = some (b, xs)) : ∃ ys, cs[j]? = some (b, ys) ∧ xs = ys.map s0 := by
  rw [List.getElem?_map] at hj
  cases hx : cs[j]? with
  | none => rw [hx] at hj; cases hj
  | some p =>
    rw [hx] at hj
    obtain ⟨b0, ys⟩ := p
    simp only [Option.map_some, Option.some.injEq, Prod.mk.injEq] at hj
    obtain ⟨rfl, rfl⟩ := hj
    exact ⟨ys, rfl, rfl⟩
theorem SubstOk.up {s0 : IC → IC} (hs : SubstOk L L' h h' s0) : SubstOk L L' h h' (up s0) := by
  refine ⟨fun c v hd => ?_⟩
  cases hd with
  | fn f cs vs g hl hv h1 hr =>
    refine .fn f _ vs g (by rw [List.length_map]; exact hl) (fun j b xs u hj hu => ?_) (fun j xs hj => ?_) (fun j b xs hj i c' hi => ?_)
    · obtain ⟨ys, hx, rfl⟩ := map_caps hj
      rw [List.length_map]; exact hv j _ _ u hx hu
    · obtain ⟨ys, hx, rfl⟩ := map_caps hj
      rw [List.length_map]; exact h1 j _ hx
    · obtain ⟨ys, hx, rfl⟩ := map_caps hj
      rw [List.getElem?_map] at hi
      cases hy : ys[i]? with
      | none => rw [hy] at hi; cases hi
      | some c0 =>
        rw [hy] at hi
        cases hi
        exact hs.out _ _ (hr j _ _ hx i c0 hy)
  | ifc t c v hr => exact .ifc t _ v (hs.out _ _ hr)
  | v _ h1 => exact hs.out _ _ (.v _ h1)
  | sl sz n f A c ad g hc hm hA hg hl hclo hr => exact hs.out _ _ (.sl sz n f A c ad g hc hm hA hg hl hclo hr)
  | fp cs ad g hclo hg hr => exact hs.out _ _ (.fp cs ad g hclo hg hr)
  | own i off a h1 h2 => exact hs.out _ _ (.own i off a h1 h2)
  | row i A n c h1 h2 => exact hs.out _ _ (.row i A n c h1 h2)
  | rel i sz k off a h1 h2 h3 => exact hs.out _ _ (.rel i sz k off a h1 h2 h3)
  | view i sz k n c a b h1 h2 h3 h4 h5 => exact hs.out _ _ (.view i sz k n c a b h1 h2 h3 h4 h5)
  | mp i r h1 h2 => exact hs.out _ _ (.mp i r h1 h2)
  | any _ h1 => exact hs.out _ _ (.any _ h1)
def sb1 (g : IC → IC) : AV → AV
  | .c x => .c (g x)
  | .agg xs => .agg (xs.map g)
  | .tup a => .tup a
  | .top => .top
def sbA (g : IC → IC) : AV → AV
  | .tup as => .tup (as.map (sb1 g))
  | a => sb1 g a
theorem SubstOk.denL {s : IC → IC} (hs : SubstOk L L' h h' s) {cs : List IC} {vs : List Value} (hd : DenL L h cs vs) : DenL L' h' (cs.map s) vs := by
  refine ⟨by rw [List.length_map]; exact hd.1, fun j c u hj hu => ?_⟩
  rw [List.getElem?_map] at hj
  cases hx : cs[j]? with
  | none => rw [hx] at hj; cases hj
  | some c0 => rw [hx] at hj; cases hj; exact hs.out _ _ (hd.2 j c0 u hx hu)
theorem SubstOk.den1 {s : IC → IC} (hs : SubstOk L L' h h' s) {a : AV} {v : Value} (hd : Den1 L h a v) : Den1 L' h' (sb1 s a) v := by
  cases a with
  | c x => exact hs.out _ _ hd
  | agg xs => obtain ⟨vs, e, hd⟩ := hd; exact ⟨vs, e, hs.denL hd⟩
  | tup as => exact hd
  | top => exact hd
theorem SubstOk.denA {s : IC → IC} (hs : SubstOk L L' h h' s) {a : AV} {v : Value} (hd : DenA L h a v) : DenA L' h' (sbA s a) v := by
  cases a with
  | c x => exact hs.out _ _ hd
  | agg xs => exact hs.den1 (a := .agg xs) hd
  | tup as =>
    obtain ⟨vs, e, hl, hd⟩ := hd
    refine ⟨vs, e, by rw [List.length_map]; exact hl, fun j a u ha hu => ?_⟩
    rw [List.getElem?_map] at ha
    cases hx : as[j]? with
    | none => rw [hx] at ha; cases ha
    | some a0 => rw [hx] at ha; cases ha; exact hs.den1 (hd j a0 u hx hu)
  | top => trivial
theorem SubstOk.rowD {s : IC → IC} (hs : SubstOk L L' h h' s) {sz n : Nat} {f : Nat → List IC} {vs : List Value} (hd : RowD L h sz n f vs) : RowD L' h' sz n (fun k => (f k).map s) vs := by
  refine ⟨fun k hk => by rw [List.length_map]; exact hd.len k hk, fun k hk j c hj => ?_⟩
  rw [List.getElem?_map] at hj
  cases hx : (f k)[j]? with
  | none => rw [hx] at hj; cases hj
  | some c0 =>
    rw [hx] at hj
    cases hj
    obtain ⟨u, h1, h2⟩ := hd.den k hk j c0 hx
    exact ⟨u, h1, hs.out _ _ h2⟩
/-- An object's cells, put otherwise. -/
def sbObj (s : IC → IC) : Ob → Ob
  | .cells t cs => .cells t (cs.map s)
  | .row e sz n f => .row e sz n (fun k => (f k).map s)
  | .arr e sz cap n f => .arr e sz cap n (fun k => (f k).map s)
  | .mp t es => .mp t (es.map fun x => (x.1, sb1 s x.2))
  | .iter b p => .iter b p
  | .abs p => .abs p
theorem SubstOk.obOk {s : IC → IC} (hs : SubstOk L L' h h' s) (hm : ∀ k o, h.m k = some o → h'.m k = some o) {w : World} {v : Value} {F : Nat → Prop} {o : Ob} (hd : ObOk L h w v F o) : ObOk L' h' w v F (sbObj s o) := by
  cases o with
  | cells t cs => obtain ⟨b, vs, h1, h2, h3, h4⟩ := hd; exact ⟨b, vs, h1, h2, h3, hs.denL h4⟩
  | row e sz n f => obtain ⟨vs, h1, h2, h3⟩ := hd; exact ⟨vs, h1, h2, hs.rowD h3⟩
  | arr e sz cap n f => obtain ⟨b, cur, h1, h2, h3, h4, h5, h6, h7⟩ := hd; exact ⟨b, cur, h1, h2, h3, h4, h5, h6, hs.rowD h7⟩
  | mp t es =>
    obtain ⟨r, ents, clock, h1, h2, h3, h4, h5⟩ := hd
    refine ⟨r, ents, clock, h1, h2, h3, by rw [List.length_map]; exact h4, fun j k a en hj hk => ?_⟩
    rw [List.getElem?_map] at hj
    cases hx : es[j]? with
    | none => rw [hx] at hj; cases hj
    | some p =>
      rw [hx] at hj
      cases hj
      exact ⟨(h5 j _ _ en hx hk).1, hs.den1 (h5 j _ _ en hx hk).2⟩
  | iter b p => exact hd
  | abs p => exact ⟨hd.1, hd.1.out _ _ _ _ _ _ hd.2 hm (fun _ _ => rfl)⟩
def sbEnv (g : IC → IC) : List (Nat × AV) → (List (Nat × AV) → Prop) → Prop
  | [], K => K []
  | x :: r, K => forceA (sbA g x.2) fun a => sbEnv g r fun r => K ((x.1, a) :: r)
theorem sbEnv_eq (g : IC → IC) : ∀ (l : List (Nat × AV)) (K : List (Nat × AV) → Prop), sbEnv g l K = K (l.map fun x => (x.1, sbA g x.2))
  | [], K => rfl
  | x :: r, K => by rw [sbEnv, forceA_eq, sbEnv_eq g r]; rfl
/-- The cells' objects alone: what else there is stays as it is told. -/
def sbOb (g : IC → IC) : Option Ob → Option Ob
  | some (.cells t cs) => some (.cells t (cs.map g))
  | o => o
def sbOwn (g : IC → IC) : List (Option Ob) → (List (Option Ob) → Prop) → Prop
  | [], K => K []
  | o :: r, K => match o with
    | some (.cells t cs) => forceL (cs.map g) fun cs => sbOwn g r fun r => K (some (.cells t cs) :: r)
    | o => sbOwn g r fun r => K (o :: r)
theorem sbOwn_eq (g : IC → IC) : ∀ (l : List (Option Ob)) (K : List (Option Ob) → Prop), sbOwn g l K = K (l.map (sbOb g))
  | [], K => rfl
  | o :: r, K => by
    unfold sbOwn
    split
    · rw [forceL_eq, sbOwn_eq g r]; rfl
    · rename_i ho
      rw [sbOwn_eq g r]
      rw [List.map_cons]
      congr 2
      unfold sbOb
      split
      · rename_i t cs
        exact absurd rfl (ho t cs)
      · rfl
theorem lookup_map {f : AV → AV} : ∀ (l : List (Nat × AV)) (t : Nat), (l.map fun x => (x.1, f x.2)).lookup t = (l.lookup t).map f
  | [], t => rfl
  | x :: r, t => by
    rw [List.map_cons, List.lookup_cons, List.lookup_cons, lookup_map r t]
    split <;> rfl
theorem SubstOk.agree {s : IC → IC} (hs : SubstOk L L' h h' s) {st : St} {a : Act} (ha : Agree L h st a) {own : List (Option Ob)} {k : Nat} : Agree L' h' ⟨st.n, k, st.env.map fun x => (x.1, sbA s x.2), own⟩ a := by
  refine ⟨ha.size, fun t av ht => ?_, ha.defers⟩
  simp only [lookup_map] at ht
  cases hx : st.env.lookup t with
  | none => rw [hx] at ht; cases ht
  | some a0 => rw [hx] at ht; cases ht; exact hs.denA (ha.env t a0 hx)
end
/-! ### Laying own objects still -/
def sbR (i sz n : Nat) (f : Nat → List IC) : IC → IC
  | .row j => match Nat.beq j i with | true => .sl sz n f | false => .row j
  | .rel j sz' k off => match Nat.beq j i && Nat.beq sz' sz with | true => .fp ((f k).drop off) | false => .rel j sz' k off
  | c => c
def sbO (i : Nat) (cs : List IC) : IC → IC
  | .own j off => match Nat.beq j i with | true => .fp (cs.drop off) | false => .own j off
  | c => c
/-- Lay own object i still, where it is a row, or cells. -/
def frzK (st : St) (i : Nat) (K : St → Prop) : Prop :=
  match st with
  | ⟨n, k, env, own⟩ => match own[i]? with
    | some (some (.row e sz m f)) => (∀ j, j < m → (f j).all clo = true) ∧ sbEnv (up (sbR i sz m f)) env fun env => sbOwn (up (sbR i sz m f)) (own.set i none) fun own => K ⟨n, k, env, own⟩
    | some (some (.cells t cs)) => ifD (cs.all clo = true) (sbEnv (up (sbO i cs)) env fun env => sbOwn (up (sbO i cs)) (own.set i none) fun own => K ⟨n, k, env, own⟩)
    | _ => K ⟨n, k, env, own⟩
def frzL (l : List Nat) : St → (St → Prop) → Prop :=
  List.rec (motive := fun _ => St → (St → Prop) → Prop) (fun st K => K st) (fun i _ ih st K => frzK st i fun st => ih st K) l
section
variable {P : Program} {T : TT} {mine may : Nat → Prop} {L : Nat → Value} {F : Nat → Nat → Prop} {h h' : Hp} {st : St} {a : Act} {w w0 : World} {own : List (Option Ob)}
theorem Hp.eta (h : Hp) : (⟨h.m, h.n⟩ : Hp) = h := by cases h; rfl
/-- A block less that is own, one more that stays. -/
theorem mem_stay (hm : Mem mine L F h own w) {i : Nat} {o : Ob} (hi : own[i]? = some (some o)) {g : Nat} (hF : F i g) {ob : Obj} (hg : w.heap[g]? = some ob) :
    ∃ h', Sub h h' ∧ h'.n = h.n ∧ Mem mine L F h' (own.set i none) w ∧ h'.m g = some ob ∧ (∀ k, h'.m k ≠ none → h.m k ≠ none ∨ mine k) := by
  obtain ⟨f1, f2, f3⟩ := hm.foot i o g hi hF
  have hd := mem_drop hm i
  let h' : Hp := ⟨fun k => if k = g then some ob else h.m k, h.n⟩
  have hs : Sub h h' := ⟨fun k o hk => by
    show (if k = g then _ else _) = _
    by_cases ek : k = g
    · subst ek; rw [f2] at hk; cases hk
    · rw [if_neg ek]; exact hk, Nat.le_refl _⟩
  refine ⟨h', hs, rfl, ⟨hd.hn, fun k o hk => ?_, fun j oj hj => ?_, fun j oj b hj hb => ?_, hd.dis⟩, by show (if g = g then _ else _) = _; rw [if_pos rfl], fun k hk => ?_⟩
  · have hk : (if k = g then some ob else h.m k) = some o := hk
    by_cases ek : k = g
    · subst ek; rw [if_pos rfl] at hk; cases hk; exact hg
    · rw [if_neg ek] at hk; exact hm.hsub k o hk
  · exact obOk_move (hd.obs j oj hj) (fun _ _ => rfl) (fun _ _ => rfl) hs
  · obtain ⟨k1, k2, k3⟩ := hd.foot j oj b hj hb
    refine ⟨k1, ?_, k3⟩
    have hne : b ≠ g := fun e => by
      subst e
      have := set_none_get hj
      exact this.2 (hm.dis j i oj o b this.1 hi hb hF)
    show (if b = g then _ else _) = _
    rw [if_neg hne]; exact k2
  · have hk : (if k = g then some ob else h.m k) ≠ none := hk
    by_cases ek : k = g
    · subst ek; exact .inr f3
    · rw [if_neg ek] at hk; exact .inl hk
theorem hcell_at {h : Hp} {g : Nat} {cur : Array Value} {t : TypeId} {z : Nat × Nat} (hg : h.m g = some (.cells cur t z)) (j : Nat) : hcell h ⟨g, j, none⟩ = cur.toList[j]? := by
  unfold hcell
  simp [hg]
/-- An own row laid still. -/
theorem frz_row (hm : Mem mine L F h own w) {i : Nat} {e : TypeId} {sz m : Nat} {f : Nat → List IC} (hi : own[i]? = some (some (.row e sz m f))) (hcl : ∀ j, j < m → (f j).all clo = true) :
    ∃ h', Sub h h' ∧ h'.n = h.n ∧ Mem mine L F h' (own.set i none) w ∧ SubstOk L L h h' (sbR i sz m f) ∧ (∀ k, h'.m k ≠ none → h.m k ≠ none ∨ mine k) := by
  obtain ⟨vs, ⟨hl, hr⟩, hG, hR⟩ := hm.obs i _ hi
  have fin : ∀ h' : Hp, Sub h h' → (∀ v, L i = v → Den L h' (.sl sz m f) v) → (∀ k off a, k < m → baseOf (L i) = some a → Den L h' (.fp ((f k).drop off)) (.pointer (some (a.add (k * sz + off))))) → (∀ A n c, L i = .slice A n c → n = m) → SubstOk L L h h' (sbR i sz m f) := fun h' hs h1 h2 h3 => by
    refine ⟨fun c v hd => ?_⟩
    unfold sbR
    split
    · rename_i j
      split
      · rename_i e
        have e := Nat.eq_of_beq_eq_true e
        subst e
        cases hd with
        | row _ A n c k1 k2 => exact h1 _ k2
      · exact hd.mono hs (fun _ _ => rfl)
    · rename_i j sz' k off
      split
      · rename_i e
        rw [Bool.and_eq_true] at e
        have e1 := Nat.eq_of_beq_eq_true e.1
        have e2 := Nat.eq_of_beq_eq_true e.2
        subst e1 e2
        cases hd with
        | rel _ _ _ _ a k1 k2 k3 =>
          refine h2 k off a ?_ k2
          rcases hr with ⟨e1, e2⟩ | ⟨g, cap, cur, e1, _⟩
          · rw [e1] at k2; cases k2
          · exact k3 _ _ _ e1
      · exact hd.mono hs (fun _ _ => rfl)
    · exact hd.mono hs (fun _ _ => rfl)
  rcases hr with ⟨e1, e2⟩ | ⟨g, cap, cur, e1, e2, e3, e4, e5, e6, e7⟩
  · refine ⟨h, Sub.refl h, rfl, mem_drop hm i, fin h (Sub.refl h) (fun v hv => ?_) (fun k off a hk hb => by omega) (fun A n c e => ?_), fun k hk => .inl hk⟩
    · rw [e1] at hv
      subst hv
      rw [e2]
      exact .sl _ _ _ _ _ ⟨0, 0, none⟩ (fun _ _ => undef) (Nat.le_refl _) (by omega) (fun hp => by omega) (fun k hk => by omega) (fun k hk => by omega) (fun k hk => by omega) (fun k hk => by omega)
    · rw [e1] at e; cases e; exact e2.symm
  · have hFg := hG g (by rw [e1]; rfl)
    obtain ⟨h', s1, s2, s3, s4, s5⟩ := mem_stay hm hi hFg e3
    refine ⟨h', s1, s2, s3, fin h' s1 (fun v hv => ?_) (fun k off a hk hb => ?_) (fun A n c e => by rw [e1] at e; cases e; rfl), s5⟩
    · rw [e1] at hv
      subst hv
      refine .sl _ _ _ _ _ ⟨g, 0, none⟩ (fun k j => (vs[k * sz + j]?).getD undef) e4 (by unfold maxLen at e5; omega) (fun _ => rfl) (fun k hk j hj => ?_) hR.len hcl (fun k hk j c' hc' => ?_)
      · rw [addr_plain, Nat.zero_add, hcell_at s4]
        have hlt : j < (f k).length := by rw [hR.len k hk]; exact hj
        obtain ⟨u, q1, q2⟩ := hR.den k hk j (f k)[j] (by simp [hlt])
        rw [q1]
        rw [← e7, List.getElem?_take] at q1
        split at q1
        · rw [q1]; rfl
        · cases q1
      · obtain ⟨u, q1, q2⟩ := hR.den k hk j c' hc'
        rw [q1]
        exact q2.mono s1 (fun _ _ => rfl)
    · rw [e1] at hb
      cases hb
      refine .fp _ _ (fun j => (vs[k * sz + (off + j)]?).getD undef) (List.all_eq_true.2 (fun x hx => List.all_eq_true.1 (hcl k hk) x (List.mem_of_mem_drop hx))) (fun j hj => ?_) (fun j c' hc' => ?_)
      · rw [addr_plain, addr_plain, Nat.zero_add, hcell_at s4, Nat.add_assoc]
        have hlt : off + j < (f k).length := by simp at hj; omega
        obtain ⟨u, q1, q2⟩ := hR.den k hk (off + j) (f k)[off + j] (by simp [hlt])
        rw [q1]
        rw [← e7, List.getElem?_take] at q1
        split at q1
        · rw [q1]; rfl
        · cases q1
      · rw [List.getElem?_drop] at hc'
        obtain ⟨u, q1, q2⟩ := hR.den k hk _ c' hc'
        rw [q1]
        exact q2.mono s1 (fun _ _ => rfl)
/-- Own cells laid still. -/
theorem frz_cells (hm : Mem mine L F h own w) {i : Nat} {t : TypeId} {cs : List IC} (hi : own[i]? = some (some (.cells t cs))) (hcl : cs.all clo = true) :
    ∃ h', Sub h h' ∧ h'.n = h.n ∧ Mem mine L F h' (own.set i none) w ∧ SubstOk L L h h' (sbO i cs) ∧ (∀ k, h'.m k ≠ none → h.m k ≠ none ∨ mine k) := by
  obtain ⟨b, vs, e1, e2, e3, e4⟩ := hm.obs i _ hi
  obtain ⟨h', s1, s2, s3, s4, s5⟩ := mem_stay hm hi e2 e3
  refine ⟨h', s1, s2, s3, ⟨fun c v hd => ?_⟩, s5⟩
  unfold sbO
  split
  · rename_i j off
    split
    · rename_i e
      have e := Nat.eq_of_beq_eq_true e
      subst e
      cases hd with
      | own _ _ a k1 k2 =>
        rw [e1] at k2
        cases k2
        refine .fp _ _ (fun j => (vs[off + j]?).getD undef) (List.all_eq_true.2 (fun x hx => List.all_eq_true.1 hcl x (List.mem_of_mem_drop hx))) (fun j hj => ?_) (fun j c' hc' => ?_)
        · rw [addr_plain, addr_plain, Nat.zero_add, hcell_at s4]
          have hlt : off + j < vs.length := by have := e4.1; simp at hj; omega
          simp [hlt]
        · rw [List.getElem?_drop] at hc'
          have hlt : off + j < vs.length := by have := (List.getElem?_eq_some_iff.1 hc').1; have := e4.1; omega
          have hv : vs[off + j]? = some vs[off + j] := by simp [hlt]
          rw [hv]
          exact (e4.2 _ _ _ hc' hv).mono s1 (fun _ _ => rfl)
    · exact hd.mono s1 (fun _ _ => rfl)
  · exact hd.mono s1 (fun _ _ => rfl)
theorem map_sbOb_get {g : IC → IC} {own : List (Option Ob)} {j : Nat} {oj : Ob} (hj : (own.map (sbOb g))[j]? = some (some oj)) : ∃ oj', own[j]? = some (some oj') ∧ (oj = oj' ∨ ∃ t cs, oj' = .cells t cs ∧ oj = .cells t (cs.map g)) := by
  rw [List.getElem?_map] at hj
  cases ho : own[j]? with
  | none => rw [ho] at hj; cases hj
  | some o =>
    rw [ho] at hj
    simp only [Option.map_some, Option.some.injEq] at hj
    cases o with
    | none => cases hj
    | some o =>
      refine ⟨o, rfl, ?_⟩
      unfold sbOb at hj
      split at hj
      · rename_i t cs heq
        cases heq
        cases hj
        exact .inr ⟨t, cs, rfl, rfl⟩
      · cases hj; exact .inl rfl
theorem mem_sbOb {g : IC → IC} (hm : Mem mine L F h own w) (hg : SubstOk L L h h g) : Mem mine L F h (own.map (sbOb g)) w := by
  refine ⟨by rw [List.length_map]; exact hm.hn, hm.hsub, fun j oj hj => ?_, fun j oj b hj hb => ?_, fun j k oj ok b hj hk hb1 hb2 => ?_⟩
  · obtain ⟨oj', h1, h2⟩ := map_sbOb_get hj
    have ho := hm.obs j oj' h1
    rcases h2 with rfl | ⟨t, cs, rfl, rfl⟩
    · exact ho
    · exact hg.obOk (fun _ _ e => e) ho
  · obtain ⟨oj', h1, _⟩ := map_sbOb_get hj
    exact hm.foot j oj' b h1 hb
  · obtain ⟨oj', h1, _⟩ := map_sbOb_get hj
    obtain ⟨ok', h2, _⟩ := map_sbOb_get hk
    exact hm.dis j k oj' ok' b h1 h2 hb1 hb2
theorem frz_fin [HasGl P] {h0 : Base P} {n k : Nat} {env : List (Nat × AV)} {s : IC → IC} {i : Nat} {K : St → Prop} (hsat : ∃ L F h h', Sub h h' ∧ h'.n = h.n ∧ Mem (mineOf may w0) L F h' (own.set i none) w ∧ SubstOk L L h h' s ∧ SubstOk L L h' h' s ∧ (∀ k, h'.m k ≠ none → h.m k ≠ none ∨ mineOf may w0 k) ∧ Agree L h ⟨n, k, env, own⟩ a ∧ SubB h0 k L h ∧ (∀ k, h.m k ≠ none → h0.h.m k ≠ none ∨ mineOf may w0 k))
    (hk : Keep may w0 w) (hp : sbEnv (up s) env fun env => sbOwn (up s) (own.set i none) fun own => K ⟨n, k, env, own⟩) : ∃ st', Sat may w0 h0 st' a w ∧ K st' := by
  rw [sbEnv_eq, sbOwn_eq] at hp
  obtain ⟨L, F, h, h', s1, s2, s3, s4, s4', s5, ha, hsub, hnew⟩ := hsat
  refine ⟨_, ⟨⟨L, F, h', mem_sbOb s3 s4'.up, s4.up.agree ha, hsub.step (fun _ _ => rfl) s1, fun k hk2 => ?_⟩, hk⟩, hp⟩
  rcases s5 k hk2 with h1 | h1
  · exact hnew k h1
  · exact .inr h1
theorem frz_sat [HasGl P] {h0 : Base P} {i : Nat} {K : St → Prop} (hp : frzK st i K) (hs : Sat may w0 h0 st a w) : ∃ st', Sat may w0 h0 st' a w ∧ K st' := by
  obtain ⟨n, k, env, own⟩ := st
  unfold frzK at hp
  simp only at hp
  split at hp
  · rename_i e sz m f hi
    obtain ⟨⟨L, F, h, hm, ha, hsub, hnew⟩, hk⟩ := hs
    obtain ⟨h', s1, s2, s3, s4, s5⟩ := frz_row hm hi hp.1
    -- the same from h' on
    have s4' : SubstOk L L h' h' (sbR i sz m f) := by
      refine ⟨fun c v hd => ?_⟩
      unfold sbR
      split
      · rename_i j
        split
        · rename_i e
          have e := Nat.eq_of_beq_eq_true e
          subst e
          cases hd with
          | row _ A n c k1 k2 =>
            have := s4.out (.row j) _ (.row j A n c (by rw [← s2]; exact k1) k2)
            simpa [sbR] using this
        · exact hd
      · rename_i j sz' k off
        split
        · rename_i e
          have e' := e
          rw [Bool.and_eq_true] at e
          have e1 := Nat.eq_of_beq_eq_true e.1
          have e2 := Nat.eq_of_beq_eq_true e.2
          subst e1 e2
          cases hd with
          | rel _ _ _ _ a k1 k2 k3 =>
            have := s4.out (.rel j sz' k off) _ (.rel j sz' k off a (by rw [← s2]; exact k1) k2 k3)
            simpa [sbR] using this
        · exact hd
      · exact hd
    exact frz_fin ⟨L, F, h, h', s1, s2, s3, s4, s4', s5, ha, hsub, hnew⟩ hk hp.2
  · rename_i t cs hi
    obtain ⟨hcl, hp⟩ := ifD_and hp
    obtain ⟨⟨L, F, h, hm, ha, hsub, hnew⟩, hk⟩ := hs
    obtain ⟨h', s1, s2, s3, s4, s5⟩ := frz_cells hm hi hcl
    have s4' : SubstOk L L h' h' (sbO i cs) := by
      refine ⟨fun c v hd => ?_⟩
      unfold sbO
      split
      · rename_i j off
        split
        · rename_i e
          have e := Nat.eq_of_beq_eq_true e
          subst e
          cases hd with
          | own _ _ a k1 k2 =>
            have := s4.out (.own j off) _ (.own j off a (by rw [← s2]; exact k1) k2)
            simpa [sbO] using this
        · exact hd
      · exact hd
    exact frz_fin ⟨L, F, h, h', s1, s2, s3, s4, s4', s5, ha, hsub, hnew⟩ hk hp
  · exact ⟨_, hs, hp⟩
theorem frzL_sat [HasGl P] {h0 : Base P} : ∀ (l : List Nat) {K : St → Prop} (st : St), frzL l st K → Sat may w0 h0 st a w → ∃ st', Sat may w0 h0 st' a w ∧ K st'
  | [], K, st, hp, hs => ⟨st, hs, hp⟩
  | i :: r, K, st, hp, hs => by
    obtain ⟨st1, h1, h2⟩ := frz_sat (K := fun st => frzL r st K) hp hs
    exact frzL_sat r st1 h2 h1
end
end Go.Eng
