/- A region that draws its order: reads in any order among calls and appends whose order is forced; then the others. -/
import Derived.Test.YteglopjljejjkaaDoorA17
set_option linter.unusedVariables false
set_option linter.unusedSimpArgs false
namespace Go.Eng
open Go
section
variable {P : Program} {ops : Array Oper} {Q : Exit → Act → World → Prop} {md : Region.Mode} {C : World → Prop}
/-- In state 'a', in every world of the class, operation 'o' leaves 'v' in its temporary, and the world as it was. -/
def YieldsW (P : Program) (ops : Array Oper) (C : World → Prop) (o : Oper) (v : Value) (a : Act) : Prop :=
  (Region.wanted o (yielded ops a.tmps) = true ∧ ∀ w, C w → (execOp a.eval o).run P w = .ok (.value v) w) ∨
  (Region.wanted o (yielded ops a.tmps) = false ∧ v = undef)
theorem YieldsW.of_same {o : Oper} {v : Value} {a a' : Act} (hy : YieldsW P ops C o v a) (he : execOp a'.eval o = execOp a.eval o)
    (hw : Region.wanted o (yielded ops a'.tmps) = Region.wanted o (yielded ops a.tmps)) : YieldsW P ops C o v a' := by
  unfold YieldsW at *
  rw [he, hw]
  exact hy
theorem YieldsW.wpOp {i : Nat} {o : Oper} {v : Value} {a : Act} (hi : ops[i]? = some o) (hy : YieldsW P ops C o v a) {K : Act → World → Prop} {w : World} (hw : C w) (h : K (a.put o.dst v) w) : wpOp P ops Q i K a w := by
  unfold Go.wpOp
  simp only [hi]
  rcases hy with ⟨h1, h2⟩ | ⟨h1, rfl⟩
  · simp only [h1, if_true, Oper.wp, h2 w hw, Oper.upon]; exact .inl h
  · simp only [h1, Bool.false_eq_true, if_false]; exact h
/-- As the kit's 'wpOp_put', for a value that is the same in every world of a class. -/
theorem wpOp_putC {j : Nat} {oi oj : Oper} {v : Value} (hj : ops[j]? = some oj) (hap : oi.apart ops oj = true)
    (hsi : ∀ cs b, oi.op ≠ .select cs b) (hsj : ∀ cs b, oj.op ≠ .select cs b)
    (hQ : ∀ c a w, Q (.panic c) (a.put oi.dst v) w → Q (.panic c) a w) {K : Act → World → Prop} {a : Act} {w : World}
    (hy : YieldsW P ops C oi v a) (h : wpOp P ops Q j K (a.put oi.dst v) w) :
    wpOp P ops Q j (fun a' w' => YieldsW P ops C oi v a' ∧ K (a'.put oi.dst v) w') a w := by
  obtain ⟨h1, h2, h3⟩ := Oper.apart_spec hap
  have keep : ∀ (a : Act), YieldsW P ops C oi v a → ∀ u, YieldsW P ops C oi v (a.put oj.dst u) := fun a hy u =>
    hy.of_same (execOp_put oi hsi a oj.dst u h3) (wanted_put oi a oj.dst u h3)
  have keepD : ∀ d, YieldsW P ops C oi v { a with defers := d :: a.defers } := fun d => hy.of_same rfl rfl
  unfold wpOp at *
  simp only [hj] at *
  rw [wanted_put oj a oi.dst v h1] at h
  split
  · rename_i hw
    simp only [hw, if_true] at h
    rcases h with h | ⟨hasks, hlets⟩
    case inr => exact .inr ⟨by unfold Oper.asks at *; rw [execOp_put oj hsj a oi.dst v h1] at hasks; exact hasks, hlets⟩
    refine .inl ?_
    unfold Oper.wp at *
    rw [execOp_put oj hsj a oi.dst v h1] at h
    generalize (execOp a.eval oj).run P w = r at *
    cases r with
    | ok n w' =>
      cases n <;> simp only [Oper.upon] at h ⊢
      case value u => exact ⟨keep a hy u, by rw [← Act.put_comm a v u h2]; exact h⟩
      case skip => exact ⟨keep a hy _, by rw [← Act.put_comm a v undef h2]; exact h⟩
      case defer d =>
        refine ⟨keep _ (keepD d) _, ?_⟩
        rw [← Act.put_comm _ v undef h2, ← Act.put_defers]
        exact h
      case enter f args =>
        refine Calls.mono h fun e w'' he => ?_
        cases e with
        | returned u => exact ⟨keep a hy u, by rw [← Act.put_comm a v u h2]; exact he⟩
        | panicked c => exact hQ _ _ _ he
        | outgrown => exact he
      case row row args => exact Rows.mono h fun u w'' he => ⟨keep a hy u, by rw [← Act.put_comm a v u h2]; exact he⟩
    | halt x w' =>
      cases x <;> simp only [Oper.upon] at h ⊢
      case panic u => exact hQ _ _ _ h
  · rename_i hw
    simp only [hw] at h
    exact ⟨keep a hy _, by rw [← Act.put_comm a v undef h2]; exact h⟩
/-- Whatever order those of S come up in: each leaves a world of the class. -/
def wpAnyX (P : Program) (md : Region.Mode) (ops : Array Oper) (Q : Exit → Act → World → Prop) (C : World → Prop) (S : Nat → Bool) (R : Act → World → Prop) : Nat → Array Bool → Act → World → Prop
  | 0, listed, a, w => (∀ j, j < ops.size → S j = true → listed.getD j false = true) ∧ R a w
  | fuel + 1, listed, a, w => (∃ j, j < ops.size ∧ S j = true ∧ listed.getD j true = false) ∧ ∀ i, i ∈ Region.ready md ops listed → S i = true → wpOp P ops Q i (fun a' w' => C w' ∧ wpAnyX P md ops Q C S R fuel (listed.setIfInBounds i true) a' w') a w
theorem wpAnyX_first {S : Nat → Bool} {R : Act → World → Prop} {i : Nat} {oi : Oper} {v : Value} (hik : S i = true) (hi : ops[i]? = some oi) (hsel : ∀ (j : Nat) (o : Oper) cs b, ops[j]? = some o → o.op ≠ .select cs b)
    (hQ : ∀ c a w, Q (.panic c) (a.put oi.dst v) w → Q (.panic c) a w) :
    ∀ (fuel : Nat) (listed : Array Bool) (a : Act) (w : World), C w →
      (∀ j oj, ops[j]? = some oj → j ≠ i → listed.getD j true = false → (∀ e ∈ oj.after, Region.binds md e = true → e.on ≠ i) → oi.apart ops oj = true) →
      i ∈ Region.ready md ops listed → YieldsW P ops C oi v a →
      wpAnyX P md ops Q C S R fuel (listed.setIfInBounds i true) (a.put oi.dst v) w → wpAnyX P md ops Q C S R (fuel + 1) listed a w := by
  intro fuel
  induction fuel with
  | zero =>
    intro listed a w hw _ hr hy H
    have hilt : i < ops.size := (Array.getElem?_eq_some_iff.1 hi).1
    refine ⟨⟨i, hilt, hik, (mem_ready.1 hr).1⟩, fun j hj hjk => ?_⟩
    by_cases hji : j = i
    · subst hji; exact hy.wpOp hi hw ⟨hw, H⟩
    · have h1 := (mem_ready.1 (ready_mono hj hji)).1
      obtain ⟨hjun, oj, hoj, hall⟩ := mem_ready.1 hj
      exact (getD_flip h1 (H.1 j (Array.getElem?_eq_some_iff.1 hoj).1 hjk)).elim
  | succ fuel ih =>
    intro listed a w hw hfree hr hy H
    have hilt : i < ops.size := (Array.getElem?_eq_some_iff.1 hi).1
    refine ⟨⟨i, hilt, hik, (mem_ready.1 hr).1⟩, fun j hj hjk => ?_⟩
    by_cases hji : j = i
    · subst hji; exact hy.wpOp hi hw ⟨hw, H⟩
    · obtain ⟨hjun, oj, hoj, hall⟩ := mem_ready.1 hj
      have hnot : ∀ e ∈ oj.after, Region.binds md e = true → e.on ≠ i := fun e he hb heq => by
        have h1 := hall e he hb
        have h0 := (mem_ready.1 hr).1
        rw [heq] at h1
        exact getD_flip h0 h1
      have hfree' : ∀ m om, ops[m]? = some om → m ≠ i → (listed.setIfInBounds j true).getD m true = false →
          (∀ e ∈ om.after, Region.binds md e = true → e.on ≠ i) → oi.apart ops om = true := fun m om hm hmi hun hno => by
        refine hfree m om hm hmi ?_ hno
        by_cases hjm : j = m
        · subst hjm; exact hjun
        · rw [getD_set_ne true hjm] at hun; exact hun
      have h1 := H.2 j (ready_mono hj hji) hjk
      have h2 := wpOp_putC hoj (hfree j oj hoj hji hjun hnot) (fun cs b => hsel i oi cs b hi) (fun cs b => hsel j oj cs b hoj) hQ hy h1
      refine wpOp_mono (fun a' w' h3 => ⟨h3.2.1, ih (listed.setIfInBounds j true) a' w' h3.2.1 hfree' (ready_mono hr (Ne.symm hji)) h3.1 ?_⟩) h2
      rw [Array.setIfInBounds_comm _ _ hji]
      exact h3.2.2
/-- The reads in a given order, then what follows. -/
def wpHoist (P : Program) (ops : Array Oper) (C : World → Prop) (Q : Act → Prop) : List Nat → Act → Prop
  | [], a => Q a
  | i :: r, a => ∃ o v, ops[i]? = some o ∧ YieldsW P ops C o v a ∧ wpHoist P ops C Q r (a.put o.dst v)
/-- Each of a list may come up when it is its turn, and is free to. -/
def preB (md : Region.Mode) (ops : Array Oper) : List Nat → Array Bool → Bool
  | [], _ => true
  | p :: r, listed => (Region.ready md ops listed).contains p && Region.free md ops listed p && preB md ops r (listed.setIfInBounds p true)
def setAll (l : List Nat) (listed : Array Bool) : Array Bool := l.foldl (fun x i => x.setIfInBounds i true) listed
theorem wpAnyX_hoist {S : Nat → Bool} {R : Act → World → Prop} (hs : Region.noSelect ops = true) (hQ : ∀ d v c a w, Q (.panic c) (a.put d v) w → Q (.panic c) a w) {K : Act → Prop} (n : Nat) : ∀ (l : List Nat) (listed : Array Bool) (a : Act) (w : World), C w → (∀ i, i ∈ l → S i = true) →
    preB md ops l listed = true → wpHoist P ops C K l a → (∀ a', K a' → wpAnyX P md ops Q C S R n (setAll l listed) a' w) → wpAnyX P md ops Q C S R (n + l.length) listed a w
  | [], listed, a, w, hw, hS, hB, h, hK => hK a h
  | i :: r, listed, a, w, hw, hS, hB, h, hK => by
    obtain ⟨o, v, h0, hy, h⟩ := h
    simp only [preB, Bool.and_eq_true] at hB
    obtain ⟨⟨hr, hf⟩, hB'⟩ := hB
    have := wpAnyX_hoist hs hQ n r (listed.setIfInBounds i true) (a.put o.dst v) w hw (fun j hj => hS j (List.mem_cons_of_mem _ hj)) hB' h hK
    exact wpAnyX_first (hS i (List.mem_cons_self ..)) h0 (Region.noSelect_spec hs) (hQ o.dst v) (n + r.length) listed a w hw (Region.free_spec h0 hf) (by simpa using hr) hy this
/-- Those whose order is forced. -/
def wpListI (P : Program) (ops : Array Oper) (Q : Exit → Act → World → Prop) (C : World → Prop) (R : Act → World → Prop) : List Nat → Act → World → Prop
  | [], a, w => R a w
  | i :: r, a, w => wpOp P ops Q i (fun a' w' => C w' ∧ wpListI P ops Q C R r a' w') a w
/-- Each waits for those ahead of it. -/
def chainB (md : Region.Mode) (ops : Array Oper) : List Nat → Bool
  | [] => true
  | i :: r => decide (i < ops.size) && r.all (fun j => (clos md ops j (depsOf md ops j)).contains i) && chainB md ops r
theorem wpAnyX_chain {S : Nat → Bool} {R : Act → World → Prop} : ∀ (l : List Nat) (listed : Array Bool) (a : Act) (w : World), listed.size = ops.size → Lclosed md ops listed → chainB md ops l = true →
    (∀ i, i ∈ l → S i = true ∧ listed.getD i true = false) → (∀ j, j < ops.size → S j = true → j ∉ l → listed.getD j false = true) → l.Nodup → wpListI P ops Q C R l a w → wpAnyX P md ops Q C S R l.length listed a w
  | [], listed, a, w, hz, hc, hB, h1, h2, hn, h => ⟨fun j hj hS => h2 j hj hS (by simp), h⟩
  | i :: r, listed, a, w, hz, hc, hB, h1, h2, hn, h => by
    simp only [chainB, Bool.and_eq_true, decide_eq_true_eq] at hB
    obtain ⟨⟨hi, hall⟩, hB'⟩ := hB
    have hnd := List.nodup_cons.1 hn
    refine ⟨⟨i, hi, (h1 i (List.mem_cons_self ..)).1, (h1 i (List.mem_cons_self ..)).2⟩, fun j hj hS => ?_⟩
    obtain ⟨g1, g2, g3⟩ := ready_deps hj
    have hji : j = i := by
      by_cases hm : j ∈ i :: r
      · rcases List.mem_cons.1 hm with e | hm
        · exact e
        · have hcl : i ∈ clos md ops j (depsOf md ops j) := by simpa using List.all_eq_true.1 hall j hm
          exact (getD_flip (h1 i (List.mem_cons_self ..)).2 (clos_listed hc j _ g3 i hcl)).elim
      · exact (getD_flip g2 (h2 j g1 hS hm)).elim
    subst hji
    refine wpOp_mono (fun a' w' h3 => ⟨h3.1, wpAnyX_chain r _ a' w' (by simp [hz]) (closed_set hc hj) hB' (fun x hx => ?_) (fun x hx hS hm => ?_) hnd.2 h3.2⟩) h
    · have hne : j ≠ x := fun e => hnd.1 (e ▸ hx)
      rw [getD_set_ne true hne]
      exact h1 x (List.mem_cons_of_mem _ hx)
    · by_cases e : j = x
      · subst e; simp [hz, hi]
      · rw [getD_set_ne false e]
        exact h2 x hx hS (fun hm' => (List.mem_cons.1 hm').elim (fun e' => e e'.symm) hm)
theorem wpAny_of_X {k : Nat} {R : Act → World → Prop} (ht : tailB md ops k = true) (hk : k ≤ ops.size) (m : Nat)
    (hR : ∀ (listed : Array Bool) (a : Act) (w : World), R a w → listed.size = ops.size → (∀ j, j < k → listed.getD j false = true) → (∀ j, k ≤ j → j < ops.size → listed.getD j true = false) → Lclosed md ops listed → wpAny P md ops Q m listed a w) :
    ∀ (fuel : Nat) (listed : Array Bool) (a : Act) (w : World), listed.size = ops.size → (∀ j, k ≤ j → j < ops.size → listed.getD j true = false) → Lclosed md ops listed → wpAnyX P md ops Q C (fun i => decide (i < k)) R fuel listed a w → wpAny P md ops Q (fuel + m) listed a w
  | 0, listed, a, w, hsz, hun, hc, H => by
    rw [Nat.zero_add]
    exact hR listed a w H.2 hsz (fun j hj => H.1 j (by omega) (decide_eq_true hj)) hun hc
  | fuel + 1, listed, a, w, hsz, hun, hc, H => by
    rw [show fuel + 1 + m = (fuel + m) + 1 by omega]
    obtain ⟨j0, hj0, hjS, hju⟩ := H.1
    have hj0k : j0 < k := of_decide_eq_true hjS
    refine ⟨fun e => absurd e (least_ready ht hk ⟨j0, hj0k, hju⟩), fun i hi => ?_⟩
    have hik : i < k := by
      rcases Nat.lt_or_ge i k with h | h
      · exact h
      · exact (getD_flip hju (ready_tail ht hc hi h j0 (by omega))).elim
    refine wpOp_mono (fun a' w' h => wpAny_of_X ht hk m hR fuel _ a' w' (by simp [hsz]) (fun j h1 h2 => ?_) (closed_set hc hi) h.2) (H.2 i hi (decide_eq_true hik))
    rw [getD_set_ne true (by omega)]
    exact hun j h1 h2
/-- What a region must be: reads h, then e in a forced order, both below k; behind them the rest, forced as well. -/
def loudB (ops : Array Oper) (k : Nat) (h e : List Nat) : Bool :=
  Region.noSelect ops && decide (k ≤ ops.size) && tailB .any ops k && preB .any ops h (Array.replicate ops.size false) && chainB .any ops e && h.all (fun i => decide (i < k)) && e.all (fun i => decide (i < k) && !h.contains i) && decide e.Nodup && (List.range k).all (fun i => h.contains i || e.contains i) && decide (e.length + h.length = k)
theorem setAll_size : ∀ (l : List Nat) (x : Array Bool), (setAll l x).size = x.size
  | [], x => rfl
  | i :: r, x => by show (setAll r (x.setIfInBounds i true)).size = _; rw [setAll_size r]; simp
theorem setAll_get : ∀ (l : List Nat) (x : Array Bool) (j : Nat) (d : Bool), j < x.size → (setAll l x).getD j d = (l.contains j || x.getD j d)
  | [], x, j, d, h => by simp [setAll]
  | i :: r, x, j, d, h => by
    show (setAll r (x.setIfInBounds i true)).getD j d = _
    rw [setAll_get r _ j d (by simpa using h)]
    by_cases e : i = j
    · subst e; simp [h]
    · rw [getD_set_ne d e]
      simp [List.contains_cons, Ne.symm e]
theorem preB_closed : ∀ (l : List Nat) (x : Array Bool), Lclosed md ops x → preB md ops l x = true → Lclosed md ops (setAll l x)
  | [], x, hc, _ => hc
  | i :: r, x, hc, hB => by
    simp only [preB, Bool.and_eq_true] at hB
    exact preB_closed r _ (closed_set hc (by simpa using hB.1.1)) hB.2
/-- **Reads in any order among others whose order is forced, then the rest.** -/
theorem wp_region_loud {id k : Nat} {hl el : List Nat} {a : Act} {w : World} (hmx : P.follows .mixedOrders = true) (hB : loudB ops k hl el = true) (hQ : ∀ d v c a w, Q (.panic c) (a.put d v) w → Q (.panic c) a w) (hC : C { w with drawn := w.drawn + 1 })
    (h : wpHoist P ops C (fun a' => wpListI P ops Q C (fun a'' w' => wpList P ops Q (ops.toList.drop k) a'' w') el a' { w with drawn := w.drawn + 1 }) hl a) : (Code.region id ops true).wp P Q a w := by
  unfold loudB at hB
  simp only [Bool.and_eq_true, decide_eq_true_eq] at hB
  obtain ⟨⟨⟨⟨⟨⟨⟨⟨⟨hs, hk⟩, ht⟩, hp⟩, hch⟩, hhk⟩, hek⟩, hnd⟩, hcov⟩, hlen⟩ := hB
  refine wp_region_any hmx ?_
  have hsz0 : (Array.replicate ops.size false).size = ops.size := by simp
  have hcl : Lclosed .any ops (Array.replicate ops.size false) := fun i hi hx => by simp [hi] at hx
  have hX : wpAnyX P .any ops Q C (fun i => decide (i < k)) (fun a'' w' => wpList P ops Q (ops.toList.drop k) a'' w') (el.length + hl.length) (Array.replicate ops.size false) a { w with drawn := w.drawn + 1 } := by
    refine wpAnyX_hoist hs hQ el.length hl _ a _ hC (fun i hi => List.all_eq_true.1 hhk i hi) hp h (fun a' hK => ?_)
    refine wpAnyX_chain el _ a' _ (by rw [setAll_size, hsz0]) (preB_closed hl _ hcl hp) hch (fun i hi => ?_) (fun j hj hS hm => ?_) hnd hK
    · have h1 := List.all_eq_true.1 hek i hi
      simp only [Bool.and_eq_true, Bool.not_eq_true'] at h1
      have hik : i < k := of_decide_eq_true h1.1
      refine ⟨h1.1, ?_⟩
      rw [setAll_get _ _ _ _ (by rw [hsz0]; omega), h1.2]
      simp [show i < ops.size by omega]
    · have h1 := List.all_eq_true.1 hcov j (List.mem_range.2 (of_decide_eq_true hS))
      rw [Bool.or_eq_true] at h1
      rw [setAll_get _ _ _ _ (by rw [hsz0]; exact hj)]
      rcases h1 with h1 | h1
      · rw [h1]; rfl
      · exact absurd (by simpa using h1) hm
  have hlenk : el.length + hl.length + (ops.toList.drop k).length = ops.size := by
    rw [hlen, List.length_drop, Array.length_toList]; omega
  have key := wpAny_of_X (Q := Q) ht hk (ops.toList.drop k).length (fun listed a' w' hR hz h1 h2 hc =>
    wpAny_tail ht (ops.toList.drop k) k listed a' w' (fun j => by rw [List.getElem?_drop, Array.getElem?_toList]) (by simp; omega) (Nat.le_refl _) hz h1 h2 hc hR) (el.length + hl.length) _ a _ hsz0 (fun j _ hj => by simp [hj]) hcl hX
  rw [hlenk] at key
  exact key
end

/-! ### The reckoner's form -/
def hideL (ch : List Nat) : Nat → List (Option Ob) → List (Option Ob)
  | _, [] => []
  | i, o :: r => (match ch.contains i with | true => none | false => o) :: hideL ch (i + 1) r
def onlyL (ch : List Nat) : Nat → List (Option Ob) → List (Option Ob)
  | _, [] => []
  | i, o :: r => (match ch.contains i with | true => o | false => none) :: onlyL ch (i + 1) r
def mergeL (ch : List Nat) : Nat → List (Option Ob) → List (Option Ob) → List (Option Ob)
  | i, o :: r, o2 :: r2 => (match ch.contains i, o with | false, some x => some x | _, _ => o2) :: mergeL ch (i + 1) r r2
  | _, [], r2 => r2
  | _, _ :: _, [] => []
def emptyL (ch : List Nat) : Nat → List (Option Ob) → List (Option Ob) → Bool
  | i, o :: r, o2 :: r2 => (match ch.contains i, o, o2 with | false, some _, some _ => false | _, _, _ => true) && emptyL ch (i + 1) r r2
  | _, _, _ => true
def getO (ops : Array Oper) : List Nat → List Oper
  | [] => []
  | i :: r => match ops[i]? with | some o => o :: getO ops r | none => getO ops r
def hopsP (T : TT) (l : List Oper) : St → (St → Prop) → Prop :=
  List.rec (motive := fun _ => St → (St → Prop) → Prop) (fun st K => K st)
    (fun o _ ih st K => match o.guard with | none => aopP T st o.op (fun av => putK st o.dst av (fun st' => ih st' K)) | some _ => False) l
def loudP (P : Program) [HasGl P] (T : TT) (F : FL) (ops : Array Oper) (k : Nat) (hl el ch : List Nat) (st : St) (K : St → Prop) : Prop :=
  match st with
  | ⟨n, kk, env, own⟩ => forceL (hideL ch 0 own) fun ownH => hopsP T (getO ops hl) ⟨n, kk, env, ownH⟩ (fun st1 => match st1 with
    | ⟨n1, _, env1, _⟩ => forceL (onlyL ch 0 own) fun ownE => opsP P T F ops (getO ops el) ⟨n1, own.length, env1, ownE⟩ (fun st2 => match st2 with
      | ⟨n2, _, env2, own2⟩ => emptyL ch 0 own own2 = true ∧ forceL (mergeL ch 0 own own2) fun own3 => opsP P T F ops (ops.toList.drop k) ⟨n2, kk, env2, own3⟩ K))
theorem hideL_get (ch : List Nat) : ∀ (own : List (Option Ob)) (i k : Nat) (ob : Ob), (hideL ch i own)[k]? = some (some ob) ↔ own[k]? = some (some ob) ∧ ch.contains (i + k) = false
  | [], i, k, ob => by simp [hideL]
  | o :: r, i, 0, ob => by
    unfold hideL
    cases hc : ch.contains i <;> simp [hc]
  | o :: r, i, k + 1, ob => by
    unfold hideL
    rw [List.getElem?_cons_succ, List.getElem?_cons_succ, hideL_get ch r (i + 1) k ob, show i + 1 + k = i + (k + 1) from by omega]
theorem onlyL_get (ch : List Nat) : ∀ (own : List (Option Ob)) (i k : Nat) (ob : Ob), (onlyL ch i own)[k]? = some (some ob) ↔ own[k]? = some (some ob) ∧ ch.contains (i + k) = true
  | [], i, k, ob => by simp [onlyL]
  | o :: r, i, 0, ob => by
    unfold onlyL
    cases hc : ch.contains i <;> simp [hc]
  | o :: r, i, k + 1, ob => by
    unfold onlyL
    rw [List.getElem?_cons_succ, List.getElem?_cons_succ, onlyL_get ch r (i + 1) k ob, show i + 1 + k = i + (k + 1) from by omega]
theorem hideL_len (ch : List Nat) : ∀ (own : List (Option Ob)) (i : Nat), (hideL ch i own).length = own.length
  | [], i => rfl
  | o :: r, i => by unfold hideL; rw [List.length_cons, List.length_cons, hideL_len ch r]
theorem onlyL_len (ch : List Nat) : ∀ (own : List (Option Ob)) (i : Nat), (onlyL ch i own).length = own.length
  | [], i => rfl
  | o :: r, i => by unfold onlyL; rw [List.length_cons, List.length_cons, onlyL_len ch r]
theorem mergeL_len (ch : List Nat) : ∀ (own own2 : List (Option Ob)) (i : Nat), (mergeL ch i own own2).length = own2.length
  | [], own2, i => by unfold mergeL; rfl
  | o :: r, [], i => rfl
  | o :: r, o2 :: r2, i => by unfold mergeL; rw [List.length_cons, List.length_cons, mergeL_len ch r r2]
/-- Where each comes from. -/
theorem mergeL_get (ch : List Nat) : ∀ (own own2 : List (Option Ob)) (i k : Nat) (ob : Ob), (mergeL ch i own own2)[k]? = some (some ob) → (own[k]? = some (some ob) ∧ ch.contains (i + k) = false) ∨ (own2[k]? = some (some ob) ∧ ∀ x, own[k]? = some (some x) → ch.contains (i + k) = true)
  | [], own2, i, k, ob, h => by unfold mergeL at h; exact .inr ⟨h, fun x hx => by simp at hx⟩
  | o :: r, [], i, k, ob, h => by unfold mergeL at h; simp at h
  | o :: r, o2 :: r2, i, 0, ob, h => by
    unfold mergeL at h
    simp only [List.getElem?_cons_zero, Option.some.injEq] at h
    split at h
    · rename_i x hc
      cases h
      exact .inl ⟨rfl, hc⟩
    · rename_i hno
      subst h
      refine .inr ⟨rfl, fun x hx => ?_⟩
      simp only [List.getElem?_cons_zero, Option.some.injEq] at hx
      cases hc : ch.contains (i + 0) with
      | true => rfl
      | false => exact absurd hx (fun e => hno x hc e)
  | o :: r, o2 :: r2, i, k + 1, ob, h => by
    unfold mergeL at h
    rw [List.getElem?_cons_succ] at h
    have := mergeL_get ch r r2 (i + 1) k ob h
    rw [show i + 1 + k = i + (k + 1) from by omega] at this
    rw [List.getElem?_cons_succ, List.getElem?_cons_succ]
    exact this
section
variable {P : Program} {T : TT} {FF : FL} {mine may : Nat → Prop} {L : Nat → Value} {F : Nat → Nat → Prop} {h : Hp} {w w0 : World} {ops : Array Oper}
theorem hoist_ok (hT : TTok P T) {own : List (Option Ob)} {kk : Nat} (hm : Mem mine L F h own w) {C : World → Prop} (hC : ∀ w', C w' → Same F own h w w') {K : St → Prop} : ∀ (l : List Nat) (st : St) (a : Act), (∀ i, i ∈ l → i < ops.size) → (st.own = own ∧ st.k = kk) → hopsP T (getO ops l) st K → Agree L h st a →
    wpHoist P ops C (fun a' => ∃ st', Agree L h st' a' ∧ (st'.own = own ∧ st'.k = kk) ∧ K st') l a
  | [], st, a, hl, ho, hp, ha => ⟨st, ha, ho, hp⟩
  | i :: r, st, a, hl, ho, hp, ha => by
    have hi : i < ops.size := hl i (List.mem_cons_self ..)
    have hoi : ops[i]? = some ops[i] := Array.getElem?_eq_getElem hi
    unfold getO at hp
    rw [hoi] at hp
    generalize ops[i] = o at hoi hp
    change (match o.guard with | none => aopP T st o.op (fun av => putK st o.dst av (fun st' => hopsP T (getO ops r) st' K)) | some _ => False) at hp
    split at hp
    · rename_i hg
      have hm1 := hm
      rw [← ho.1] at hm1
      obtain ⟨av, v, h1, h2, h3⟩ := aop_ok hT hm1 ha (o := o) hp
      obtain ⟨st', k1, k2, k3⟩ := put_agree ha h2 h1
      refine ⟨o, v, hoi, .inl ⟨?_, fun w' hw' => h3 w' (ho.1 ▸ hC w' hw')⟩, hoist_ok hT hm hC r st' _ (fun j hj => hl j (List.mem_cons_of_mem _ hj)) ⟨k2.1.trans ho.1, k2.2.trans ho.2⟩ k3 k1⟩
      unfold Region.wanted
      rw [hg]
    · exact hp.elim
theorem listI_ok [HasGl P] {h0 : Base P} (hT : TTok P T) (hF : FTok P FF) {C : World → Prop} {Q : Exit → Act → World → Prop} {K : St → Prop} (hC : ∀ w', Keep may w0 w' → C w') : ∀ (l : List Nat) (st : St) (a : Act) (w : World), (∀ i, i ∈ l → i < ops.size) → opsP P T FF ops (getO ops l) st K → Sat may w0 h0 st a w →
    wpListI P ops Q C (fun a' w' => ∃ st', Sat may w0 h0 st' a' w' ∧ K st') l a w
  | [], st, a, w, hl, hp, hs => ⟨st, hs, hp⟩
  | i :: r, st, a, w, hl, hp, hs => by
    have hi : i < ops.size := hl i (List.mem_cons_self ..)
    have hoi : ops[i]? = some ops[i] := Array.getElem?_eq_getElem hi
    unfold getO at hp
    rw [hoi] at hp
    generalize ops[i] = o at hoi hp
    obtain ⟨⟨L, F, h, hm, ha, hsub, hnew⟩, hk⟩ := hs
    unfold wpListI wpOp
    simp only [hoi]
    have next : ∀ a' w' st', Sat may w0 h0 st' a' w' → opsP P T FF ops (getO ops r) st' K → C w' ∧ wpListI P ops Q C (fun a' w' => ∃ st', Sat may w0 h0 st' a' w' ∧ K st') r a' w' := fun a' w' st' h1 h2 => ⟨hC w' h1.keep, listI_ok hT hF hC r st' a' w' (fun j hj => hl j (List.mem_cons_of_mem _ hj)) h2 h1⟩
    rcases guard_wanted ha hp with ⟨hw, hp⟩ | ⟨hw, hp⟩
    · rw [if_pos hw]
      refine .inl (Oper.wp_mono (fun a' w' ⟨st', h1, h2⟩ => next a' w' st' h1 h2) (step_ok (Q := Q) hT hF hp ⟨⟨L, F, h, hm, ha, hsub, hnew⟩, hk⟩))
    · rw [if_neg (by rw [hw]; simp)]
      obtain ⟨st', h1, h2⟩ := put_sat hm ha hsub hnew hk (av := .tup []) tup_nil hp
      exact next _ _ st' h1 h2
theorem emptyL_spec (ch : List Nat) : ∀ (own own2 : List (Option Ob)) (i k : Nat) (x y : Ob), emptyL ch i own own2 = true → own[k]? = some (some x) → ch.contains (i + k) = false → own2[k]? ≠ some (some y)
  | [], own2, i, k, x, y, _, h, _ => by simp at h
  | o :: r, [], i, k, x, y, _, _, _ => by simp
  | o :: r, o2 :: r2, i, 0, x, y, he, hx, hc => by
    intro hy
    simp only [List.getElem?_cons_zero, Option.some.injEq] at hx hy
    subst hx hy
    unfold emptyL at he
    rw [Nat.add_zero] at hc
    rw [hc] at he
    cases he
  | o :: r, o2 :: r2, i, k + 1, x, y, he, hx, hc => by
    unfold emptyL at he
    rw [Bool.and_eq_true] at he
    rw [List.getElem?_cons_succ] at hx ⊢
    exact emptyL_spec ch r r2 (i + 1) k x y he.2 hx (by rw [show i + 1 + k = i + (k + 1) from by omega]; exact hc)
theorem wpListI_mono {Q : Exit → Act → World → Prop} {C : World → Prop} {R R' : Act → World → Prop} (hq : ∀ a w, R a w → R' a w) : ∀ (l : List Nat) (a : Act) (w : World), wpListI P ops Q C R l a w → wpListI P ops Q C R' l a w
  | [], a, w, h => hq a w h
  | i :: r, a, w, h => wpOp_mono (fun a' w' h => ⟨h.1, wpListI_mono hq r a' w' h.2⟩) h
theorem wpHoist_mono {C : World → Prop} {Q Q' : Act → Prop} (hq : ∀ a, Q a → Q' a) : ∀ (l : List Nat) (a : Act), wpHoist P ops C Q l a → wpHoist P ops C Q' l a
  | [], a, h => hq a h
  | i :: r, a, ⟨o, v, h1, h2, h3⟩ => ⟨o, v, h1, h2, wpHoist_mono hq r _ h3⟩
/-- **A region that draws its order, with calls and appends among reads**: the reads hl in any order, then el in a forced order, which may change the own objects ch alone; then the rest. -/
theorem drawV_loud [HasGl P] (k : Nat) (hl el ch : List Nat) {id : Nat} {K : St → Prop} {st : St} (hmx : P.follows .mixedOrders = true) (hB : loudB ops k hl el = true) (hT : TTok P T) (hF : FTok P FF)
    (hp : loudP P T FF ops k hl el ch st K) : DrawV P id ops K st := by
  refine ⟨fun may w0 h0 a w hs => ?_⟩
  obtain ⟨n, kk, env, own⟩ := st
  obtain ⟨⟨L, F, h, hm, ha, hsub, hnew⟩, hk⟩ := hs
  have hk0 : Keep may w0 { w with drawn := w.drawn + 1 } := ⟨hk.os, hk.tape, hk.output, hk.size, hk.block⟩
  have hm0 : Mem (mineOf may w0) L F h own { w with drawn := w.drawn + 1 } := mem_same hm (fun b _ => rfl) (Nat.le_refl _)
  have hBk := hB
  unfold loudB at hBk
  simp only [Bool.and_eq_true, decide_eq_true_eq] at hBk
  obtain ⟨⟨⟨⟨⟨⟨⟨⟨⟨_, hkk⟩, _⟩, _⟩, _⟩, hhk⟩, hek⟩, _⟩, _⟩, _⟩ := hBk
  generalize hwd : ({ w with drawn := w.drawn + 1 } : World) = wd at hk0 hm0
  let may' : Nat → Prop := footOf F (onlyL ch 0 own)
  have hmayF : ∀ b, may' b → ∃ i ob, own[i]? = some (some ob) ∧ ch.contains i = true ∧ F i b := fun b ⟨i, ob, hi, hb⟩ => by
    have := (onlyL_get ch own 0 i ob).1 hi
    rw [Nat.zero_add] at this
    exact ⟨i, ob, this.1, this.2, hb⟩
  have hmay : ∀ b, may' b → mineOf may w0 b := fun b hb => by
    obtain ⟨i, ob, h1, _, h3⟩ := hmayF b hb
    exact (hm0.foot i ob b h1 h3).2.2
  have hmine' : ∀ b, mineOf may' wd b → mineOf may w0 b := fun b hb => by
    rcases hb with hb | hb
    · exact hmay b hb
    · exact .inr (Nat.le_trans hk0.size hb)
  -- the objects that are read, and those that may change
  have hmH : Mem (mineOf may w0) L F h (hideL ch 0 own) wd :=
    ⟨by rw [hideL_len]; exact hm0.hn, hm0.hsub, fun i ob hi => hm0.obs i ob ((hideL_get ch own 0 i ob).1 hi).1, fun i ob b hi => hm0.foot i ob b ((hideL_get ch own 0 i ob).1 hi).1,
      fun i j oi oj b hi hj => hm0.dis i j oi oj b ((hideL_get ch own 0 i oi).1 hi).1 ((hideL_get ch own 0 j oj).1 hj).1⟩
  have hmE : Mem (mineOf may' wd) L F h (onlyL ch 0 own) wd :=
    ⟨by rw [onlyL_len]; exact hm0.hn, hm0.hsub, fun i ob hi => hm0.obs i ob ((onlyL_get ch own 0 i ob).1 hi).1, fun i ob b hi hb => ⟨(hm0.foot i ob b ((onlyL_get ch own 0 i ob).1 hi).1 hb).1, (hm0.foot i ob b ((onlyL_get ch own 0 i ob).1 hi).1 hb).2.1, .inl ⟨i, ob, hi, hb⟩⟩,
      fun i j oi oj b hi hj => hm0.dis i j oi oj b ((onlyL_get ch own 0 i oi).1 hi).1 ((onlyL_get ch own 0 j oj).1 hj).1⟩
  have hout : ∀ (i : Nat) (ob : Ob) (b : Nat), own[i]? = some (some ob) → ch.contains i = false → F i b → ¬ may' b := fun i ob b hi hc hb hmb => by
    obtain ⟨j, oj, h1, h2, h3⟩ := hmayF b hmb
    have := hm0.dis i j ob oj b hi h1 hb h3
    subst this
    rw [hc] at h2; cases h2
  have hC : ∀ w', Keep may' wd w' → Same F (hideL ch 0 own) h wd w' := fun w' hw' b hb => by
    rcases hb with hb | ⟨i, ob, hi, hb⟩
    · cases ho : h.m b with
      | none => exact absurd ho hb
      | some o =>
        refine hw'.block b (Array.getElem?_eq_some_iff.1 (hm0.hsub b o ho)).1 (fun hmb => ?_)
        obtain ⟨j, oj, h1, _, h3⟩ := hmayF b hmb
        exact hb (hm0.foot j oj b h1 h3).2.1
    · have h1 := (hideL_get ch own 0 i ob).1 hi
      rw [Nat.zero_add] at h1
      exact hw'.block b (hm0.foot i ob b h1.1 hb).1 (hout i ob b h1.1 h1.2 hb)
  have hlsz : ∀ i, i ∈ hl → i < ops.size := fun i hi => by
    have : i < k := of_decide_eq_true (List.all_eq_true.1 hhk i hi)
    omega
  have elsz : ∀ i, i ∈ el → i < ops.size := fun i hi => by
    have := List.all_eq_true.1 hek i hi
    rw [Bool.and_eq_true] at this
    have : i < k := of_decide_eq_true this.1
    omega
  refine wp_region_loud (k := k) (hl := hl) (el := el) (C := Keep may' wd) hmx hB (fun d v c a w h => by cases h.1) (by rw [hwd]; exact Keep.refl _ _) ?_
  rw [hwd]
  unfold loudP at hp
  simp only [forceL_eq] at hp
  have hH := hoist_ok (mine := mineOf may w0) (C := Keep may' wd) hT hmH hC hl ⟨n, kk, env, hideL ch 0 own⟩ a hlsz ⟨rfl, rfl⟩ hp ⟨ha.size, ha.env, ha.defers⟩
  refine wpHoist_mono (fun a1 h1 => ?_) hl a hH
  obtain ⟨⟨n1, kk1, env1, own1⟩, ha1, ⟨rfl, rfl⟩, hp1⟩ := h1
  simp only at hp1
  have hsatE : Sat may' wd (⟨h, L, HasGl.mono h0.gl hsub.sub.m⟩ : Base P) ⟨n1, own.length, env1, onlyL ch 0 own⟩ a1 wd :=
    ⟨⟨L, F, h, hmE, ⟨ha1.size, ha1.env, ha1.defers⟩, ⟨Sub.refl h, fun i hi => rfl, hm0.hn.symm⟩, fun k hk => .inl hk⟩, Keep.refl _ _⟩
  have hE := listI_ok (Q := fun e a' w' => e = .normal ∧ ∃ st', Sat may w0 h0 st' a' w' ∧ K st') (C := Keep may' wd) hT hF (fun w' hw' => hw') el _ a1 wd elsz hp1 hsatE
  refine wpListI_mono (fun a2 w2 h2 => ?_) el a1 wd hE
  obtain ⟨⟨n2, kk2, env2, own2⟩, ⟨⟨L2, F2, h2, hm2, ha2, hsub2, hnew2⟩, hk2⟩, hem, hp2⟩ := h2
  have hLL : ∀ i, i < h.n → L2 i = L i := fun i hi => hsub2.at_ i hi
  have hS2 : Sub h h2 := hsub2.sub
  let F3 : Nat → Nat → Prop := fun i b => (∃ x, own[i]? = some (some x) ∧ ch.contains i = false ∧ F i b) ∨ ((∀ x, own[i]? = some (some x) → ch.contains i = true) ∧ F2 i b)
  have hnot : ∀ (i j : Nat) (ob o2 : Ob) (b : Nat), own[i]? = some (some ob) → ch.contains i = false → F i b → own2[j]? = some (some o2) → F2 j b → False := fun i j ob o2 b hi hc hb hj hb2 => by
    obtain ⟨q1, q2, q3⟩ := hm2.foot j o2 b hj hb2
    rcases q3 with q3 | q3
    · exact hout i ob b hi hc hb q3
    · have := (hm0.foot i ob b hi hb).1
      omega
  have hF3a : ∀ (i : Nat) (ob : Ob), own[i]? = some (some ob) → ch.contains i = false → F3 i = F i := fun i ob hi hc => by
    funext b
    refine propext ⟨fun hb => ?_, fun hb => .inl ⟨ob, hi, hc, hb⟩⟩
    rcases hb with ⟨_, _, _, hb⟩ | ⟨hx, _⟩
    · exact hb
    · rw [hx ob hi] at hc; cases hc
  have hF3b : ∀ (i : Nat), (∀ x, own[i]? = some (some x) → ch.contains i = true) → F3 i = F2 i := fun i hx => by
    funext b
    refine propext ⟨fun hb => ?_, fun hb => .inr ⟨hx, hb⟩⟩
    rcases hb with ⟨x, h1, h2, _⟩ | ⟨_, hb⟩
    · rw [hx x h1] at h2; cases h2
    · exact hb
  have hmg : ∀ (i : Nat) (ob : Ob), (mergeL ch 0 own own2)[i]? = some (some ob) → (own[i]? = some (some ob) ∧ ch.contains i = false ∧ F3 i = F i) ∨ (own2[i]? = some (some ob) ∧ F3 i = F2 i) := fun i ob hi => by
    have := mergeL_get ch own own2 0 i ob hi
    rw [Nat.zero_add] at this
    rcases this with ⟨h1, h2⟩ | ⟨h1, h2⟩
    · exact .inl ⟨h1, h2, hF3a i ob h1 h2⟩
    · exact .inr ⟨h1, hF3b i h2⟩
  have hm3 : Mem (mineOf may w0) L2 F3 h2 (mergeL ch 0 own own2) w2 := by
    refine ⟨by rw [mergeL_len]; exact hm2.hn, hm2.hsub, fun i ob hi => ?_, fun i ob b hi hb => ?_, fun i j oi oj b hi hj hbi hbj => ?_⟩
    · rcases hmg i ob hi with ⟨q1, q2, q3⟩ | ⟨q1, q3⟩
      · have hlt : i < h.n := by rw [hm0.hn]; exact (List.getElem?_eq_some_iff.1 q1).1
        rw [q3, hLL i hlt]
        exact obOk_move (hm0.obs i ob q1) (fun b hb => hk2.block b (hm0.foot i ob b q1 hb).1 (hout i ob b q1 q2 hb)) hLL hS2
      · rw [q3]; exact hm2.obs i ob q1
    · rcases hmg i ob hi with ⟨q1, q2, q3⟩ | ⟨q1, q3⟩
      · rw [q3] at hb
        obtain ⟨f1, f2, f3⟩ := hm0.foot i ob b q1 hb
        refine ⟨Nat.lt_of_lt_of_le f1 hk2.size, ?_, f3⟩
        cases ho : h2.m b with
        | none => rfl
        | some o =>
          rcases hnew2 b (by rw [ho]; simp) with h9 | h9 | h9
          · exact absurd f2 h9
          · exact absurd h9 (hout i ob b q1 q2 hb)
          · omega
      · rw [q3] at hb
        obtain ⟨f1, f2, f3⟩ := hm2.foot i ob b q1 hb
        exact ⟨f1, f2, hmine' b f3⟩
    · rcases hmg i oi hi with ⟨q1, q2, q3⟩ | ⟨q1, q3⟩ <;> rcases hmg j oj hj with ⟨r1, r2, r3⟩ | ⟨r1, r3⟩ <;> rw [q3] at hbi <;> rw [r3] at hbj
      · exact hm0.dis i j oi oj b q1 r1 hbi hbj
      · exact (hnot i j oi oj b q1 q2 hbi r1 hbj).elim
      · exact (hnot j i oj oi b r1 r2 hbj q1 hbi).elim
      · exact hm2.dis i j oi oj b q1 r1 hbi hbj
  refine ops_ok (may := may) (w0 := w0) (h0 := h0) (K := K) hT hF (fun st'' a'' w'' h1 h2 => ⟨rfl, st'', h1, h2⟩) _ _ a2 w2 hp2 ⟨⟨L2, F3, h2, hm3, ⟨ha2.size, ha2.env, ha2.defers⟩, hsub.step hLL hS2, fun x hx => ?_⟩, hk0.trans hk2 hmay⟩
  rcases hnew2 x hx with h9 | h9
  · exact hnew x h9
  · exact .inr (hmine' x h9)
end
end Go.Eng
