/- A part of the proof: what the functions of the program come to, told by a small reckoner of states. -/
import Derived.Test.YteglopjljejjkaaEng8
import Derived.Orders
set_option linter.unusedVariables false
set_option linter.unusedSimpArgs false
namespace Go.Eng
open Go Go.RowKit

/-! ### A region that draws its order: first operations that only read, in any order; then the others, whose order is forced -/
def depsOf (md : Region.Mode) (ops : Array Oper) (i : Nat) : List Nat := match ops[i]? with
  | some o => (o.after.toList.filter (fun e => Region.binds md e)).map (fun e => e.on)
  | none => []
def clos (md : Region.Mode) (ops : Array Oper) : Nat → List Nat → List Nat
  | 0, S => S
  | f + 1, S => clos md ops f ((S ++ S.flatMap (depsOf md ops)).eraseDups)
def tailB (md : Region.Mode) (ops : Array Oper) (k : Nat) : Bool :=
  (List.range ops.size).all fun i => (depsOf md ops i).all (fun j => decide (j < i)) && (decide (i < k) || (List.range i).all (fun j => (clos md ops i (depsOf md ops i)).contains j))
def lexPre (md : Region.Mode) (ops : Array Oper) : Nat → Nat → Array Bool → Bool
  | 0, p, listed => (List.range p).all (fun j => listed.getD j false)
  | fuel + 1, p, listed => (Region.ready md ops listed).contains p && Region.free md ops listed p && lexPre md ops fuel (p + 1) (listed.setIfInBounds p true)
def mixB (ops : Array Oper) (k : Nat) : Bool := Region.noSelect ops && decide (k ≤ ops.size) && tailB .any ops k && lexPre .any ops k 0 (Array.replicate ops.size false)
def Lclosed (md : Region.Mode) (ops : Array Oper) (listed : Array Bool) : Prop := ∀ i, i < ops.size → listed.getD i false = true → ∀ j, j ∈ depsOf md ops i → listed.getD j false = true
section
variable {P : Program} {ops : Array Oper} {md : Region.Mode} {C : World → Prop} {k : Nat}
theorem mem_deps {i j : Nat} {o : Oper} (ho : ops[i]? = some o) : j ∈ depsOf md ops i ↔ ∃ e, e ∈ o.after ∧ Region.binds md e = true ∧ e.on = j := by
  unfold depsOf
  rw [ho]
  simp only [List.mem_map, List.mem_filter, Array.mem_toList_iff]
  exact ⟨fun ⟨e, ⟨h1, h2⟩, h3⟩ => ⟨e, h1, h2, h3⟩, fun ⟨e, h1, h2, h3⟩ => ⟨e, ⟨h1, h2⟩, h3⟩⟩
theorem ready_deps {i : Nat} {listed : Array Bool} (hr : i ∈ Region.ready md ops listed) : i < ops.size ∧ listed.getD i true = false ∧ ∀ j, j ∈ depsOf md ops i → listed.getD j false = true := by
  obtain ⟨h1, o, ho, h2⟩ := mem_ready.1 hr
  refine ⟨(Array.getElem?_eq_some_iff.1 ho).1, h1, fun j hj => ?_⟩
  obtain ⟨e, he, hb, rfl⟩ := (mem_deps ho).1 hj
  exact h2 e he hb
theorem ready_of {i : Nat} {listed : Array Bool} (hi : i < ops.size) (h1 : listed.getD i true = false) (h2 : ∀ j, j ∈ depsOf md ops i → listed.getD j false = true) : i ∈ Region.ready md ops listed := by
  have ho : ops[i]? = some ops[i] := Array.getElem?_eq_getElem hi
  exact mem_ready.2 ⟨h1, _, ho, fun e he hb => h2 _ ((mem_deps ho).2 ⟨e, he, hb, rfl⟩)⟩
theorem clos_listed {listed : Array Bool} (hc : Lclosed md ops listed) : ∀ (f : Nat) (S : List Nat), (∀ j, j ∈ S → listed.getD j false = true) → ∀ j, j ∈ clos md ops f S → listed.getD j false = true
  | 0, S, hS, j, hj => hS j hj
  | f + 1, S, hS, j, hj => by
    refine clos_listed hc f _ (fun i hi => ?_) j hj
    rw [List.mem_eraseDups, List.mem_append, List.mem_flatMap] at hi
    rcases hi with hi | ⟨x, hx, hi⟩
    · exact hS i hi
    · by_cases hlt : x < ops.size
      · exact hc x hlt (hS x hx) i hi
      · unfold depsOf at hi
        rw [Array.getElem?_eq_none (by omega)] at hi
        cases hi
theorem tailB_spec (h : tailB md ops k = true) (i : Nat) (hi : i < ops.size) : (∀ j, j ∈ depsOf md ops i → j < i) ∧ (k ≤ i → ∀ j, j < i → j ∈ clos md ops i (depsOf md ops i)) := by
  have := List.all_eq_true.1 h i (List.mem_range.2 hi)
  rw [Bool.and_eq_true, Bool.or_eq_true] at this
  refine ⟨fun j hj => by simpa using List.all_eq_true.1 this.1 j hj, fun hk j hj => ?_⟩
  rcases this.2 with h2 | h2
  · simp at h2; omega
  · simpa using List.all_eq_true.1 h2 j (List.mem_range.2 hj)
theorem ready_tail (h : tailB md ops k = true) {listed : Array Bool} (hc : Lclosed md ops listed) {i : Nat} (hr : i ∈ Region.ready md ops listed) (hk : k ≤ i) : ∀ j, j < i → listed.getD j false = true := by
  obtain ⟨h1, h2, h3⟩ := ready_deps hr
  exact fun j hj => clos_listed hc i _ h3 j ((tailB_spec h i h1).2 hk j hj)
theorem getD_flip {listed : Array Bool} {j : Nat} (h1 : listed.getD j true = false) (h2 : listed.getD j false = true) : False := by
  rcases Nat.lt_or_ge j listed.size with h | h
  · simp [h] at h1 h2; rw [h1] at h2; cases h2
  · simp [Array.getElem?_eq_none h] at h2
theorem closed_set {listed : Array Bool} (hc : Lclosed md ops listed) {i : Nat} (hr : i ∈ Region.ready md ops listed) : Lclosed md ops (listed.setIfInBounds i true) := by
  intro x hx hl j hj
  obtain ⟨h1, h2, h3⟩ := ready_deps hr
  by_cases e : i = x
  · subst e
    exact getD_set_true (h3 j hj)
  · rw [getD_set_ne false e] at hl
    exact getD_set_true (hc x hx hl j hj)
/-- Whatever order the first k come up in. -/
def wpAnyT (P : Program) (md : Region.Mode) (ops : Array Oper) (C : World → Prop) (k : Nat) (R : Act → Prop) : Nat → Array Bool → Act → Prop
  | 0, listed, a => (∀ j, j < k → listed.getD j false = true) ∧ R a
  | fuel + 1, listed, a => (∃ j, j < k ∧ listed.getD j true = false) ∧ ∀ i, i ∈ Region.ready md ops listed → i < k → qOp P ops C i (wpAnyT P md ops C k R fuel (listed.setIfInBounds i true)) a
theorem wpAnyT_first {R : Act → Prop} {i : Nat} {oi : Oper} {v : Value} (hik : i < k) (hi : ops[i]? = some oi) (hsel : ∀ (j : Nat) (o : Oper) cs b, ops[j]? = some o → o.op ≠ .select cs b) :
    ∀ (fuel : Nat) (listed : Array Bool) (a : Act),
      (∀ j oj, ops[j]? = some oj → j ≠ i → listed.getD j true = false → (∀ e ∈ oj.after, Region.binds md e = true → e.on ≠ i) → oi.apart ops oj = true) →
      i ∈ Region.ready md ops listed → YieldsIn P ops C oi v a →
      wpAnyT P md ops C k R fuel (listed.setIfInBounds i true) (a.put oi.dst v) → wpAnyT P md ops C k R (fuel + 1) listed a := by
  intro fuel
  induction fuel with
  | zero =>
    intro listed a _ hr hy H
    refine ⟨⟨i, hik, (mem_ready.1 hr).1⟩, fun j hj hjk => ?_⟩
    by_cases hji : j = i
    · subst hji; exact hy.qOp hi H
    · have h1 := (mem_ready.1 (ready_mono hj hji)).1
      exact (getD_flip h1 (H.1 j hjk)).elim
  | succ fuel ih =>
    intro listed a hfree hr hy H
    refine ⟨⟨i, hik, (mem_ready.1 hr).1⟩, fun j hj hjk => ?_⟩
    by_cases hji : j = i
    · subst hji; exact hy.qOp hi H
    · have h1 := H.2 j (ready_mono hj hji) hjk
      obtain ⟨hjun, oj, hoj, hall⟩ := mem_ready.1 hj
      have hnot : ∀ e ∈ oj.after, Region.binds md e = true → e.on ≠ i := fun e he hb heq => by
        have h1 := hall e he hb
        have h0 := (mem_ready.1 hr).1
        rw [heq] at h1
        exact getD_flip h0 h1
      have h2 := qOp_put hoj (hfree j oj hoj hji hjun hnot) (fun cs b => hsel i oi cs b hi) (fun cs b => hsel j oj cs b hoj) hy h1
      have hfree' : ∀ m om, ops[m]? = some om → m ≠ i → (listed.setIfInBounds j true).getD m true = false →
          (∀ e ∈ om.after, Region.binds md e = true → e.on ≠ i) → oi.apart ops om = true := fun m om hm hmi hun hno => by
        refine hfree m om hm hmi ?_ hno
        by_cases hjm : j = m
        · subst hjm; exact hjun
        · rw [getD_set_ne true hjm] at hun; exact hun
      refine qOp_mono (fun a' h3 => ih (listed.setIfInBounds j true) a' hfree' (ready_mono hr (Ne.symm hji)) h3.1 ?_) h2
      rw [Array.setIfInBounds_comm _ _ hji]
      exact h3.2
theorem wpAnyT_lex {R : Act → Prop} (hs : Region.noSelect ops = true) : ∀ (l : List Oper) (p : Nat) (listed : Array Bool) (a : Act), (∀ j, j < l.length → l[j]? = ops[p + j]?) → p + l.length = k →
    lexPre md ops l.length p listed = true → wpQuiet P ops C R l a → wpAnyT P md ops C k R l.length listed a
  | [], p, listed, a, _, hk, hB, h => by
    refine ⟨fun j hj => ?_, h⟩
    simp at hk
    exact List.all_eq_true.1 hB j (List.mem_range.2 (by omega))
  | o :: l, p, listed, a, hl, hk, hB, h => by
    have h0 : ops[p]? = some o := by simpa using (hl 0 (by simp)).symm
    simp only [List.length_cons] at hk
    simp only [List.length_cons, lexPre, Bool.and_eq_true] at hB
    obtain ⟨⟨hr, hf⟩, hB'⟩ := hB
    have hst : qOp P ops C p (wpQuiet P ops C R l) a := by unfold qOp; simp only [h0]; exact h
    obtain ⟨v, hy, hK⟩ := yieldsIn_of_qOp h0 hst
    exact wpAnyT_first (by omega) h0 (Region.noSelect_spec hs) l.length listed a (Region.free_spec h0 hf) (by simpa using hr) hy
      (wpAnyT_lex hs l (p + 1) _ _ (fun j hj => by have := hl (j + 1) (by simp; omega); simpa [Nat.add_assoc, Nat.add_comm 1 j] using this) (by omega) hB' hK)
theorem least_ready (h : tailB md ops k = true) (hk : k ≤ ops.size) {listed : Array Bool} (hex : ∃ j, j < k ∧ listed.getD j true = false) : Region.ready md ops listed ≠ [] := by
  have key : ∀ n, ∀ j, j < n → j < k → listed.getD j true = false → ∃ i, i ∈ Region.ready md ops listed := by
    intro n
    induction n with
    | zero => intro j hj; omega
    | succ n ih =>
      intro j hj hjk hun
      by_cases hall : ∀ x, x < j → listed.getD x false = true
      · exact ⟨j, ready_of (by omega) hun (fun x hx => hall x ((tailB_spec h j (by omega)).1 x hx))⟩
      · obtain ⟨x, hx⟩ := Classical.not_forall.1 hall
        obtain ⟨hxj, hxu⟩ := Classical.not_imp.1 hx
        rcases Nat.lt_or_ge x listed.size with hs | hs
        · refine ih x (by omega) (by omega) ?_
          simp [hs] at hxu ⊢
          exact hxu
        · have hj2 : listed.getD j true = true := by simp [Array.getElem?_eq_none (show listed.size ≤ j by omega)]
          rw [hj2] at hun; cases hun
  obtain ⟨j, hjk, hun⟩ := hex
  obtain ⟨i, hi⟩ := key (j + 1) j (by omega) hjk hun
  intro e
  rw [e] at hi
  cases hi
theorem wpAny_of_T {R : Act → Prop} {Q : Exit → Act → World → Prop} (ht : tailB md ops k = true) (hk : k ≤ ops.size) (m : Nat)
    (hR : ∀ (listed : Array Bool) (a : Act) (w : World), C w → R a → listed.size = ops.size → (∀ j, j < k → listed.getD j false = true) → (∀ j, k ≤ j → j < ops.size → listed.getD j true = false) → Lclosed md ops listed → wpAny P md ops Q m listed a w) :
    ∀ (fuel : Nat) (listed : Array Bool) (a : Act) (w : World), C w → listed.size = ops.size → (∀ j, k ≤ j → j < ops.size → listed.getD j true = false) → Lclosed md ops listed → wpAnyT P md ops C k R fuel listed a → wpAny P md ops Q (fuel + m) listed a w
  | 0, listed, a, w, hw, hsz, hun, hc, H => by rw [Nat.zero_add]; exact hR listed a w hw H.2 hsz H.1 hun hc
  | fuel + 1, listed, a, w, hw, hsz, hun, hc, H => by
    rw [show fuel + 1 + m = (fuel + m) + 1 by omega]
    refine ⟨fun e => absurd e (least_ready ht hk H.1), fun i hi => ?_⟩
    have hik : i < k := by
      rcases Nat.lt_or_ge i k with h | h
      · exact h
      · obtain ⟨j, hjk, hju⟩ := H.1
        exact (getD_flip hju (ready_tail ht hc hi h j (by omega))).elim
    refine wpOp_of_qOp hw (fun a' w' hw' h => wpAny_of_T ht hk m hR fuel _ a' w' hw' (by simp [hsz]) (fun j h1 h2 => ?_) (closed_set hc hi) h) (H.2 i hi hik)
    rw [getD_set_ne true (by omega)]
    exact hun j h1 h2
theorem wpAny_tail {Q : Exit → Act → World → Prop} (ht : tailB md ops k = true) : ∀ (l : List Oper) (m : Nat) (listed : Array Bool) (a : Act) (w : World), (∀ j, l[j]? = ops[m + j]?) → m + l.length = ops.size → k ≤ m → listed.size = ops.size → (∀ j, j < m → listed.getD j false = true) →
    (∀ j, m ≤ j → j < ops.size → listed.getD j true = false) → Lclosed md ops listed → wpList P ops Q l a w → wpAny P md ops Q l.length listed a w
  | [], m, listed, a, w, hl, hm, hk, hsz, h1, h2, hc, hw => by
    refine ⟨?_, hw⟩
    refine List.eq_nil_iff_forall_not_mem.2 (fun i hi => ?_)
    obtain ⟨hi1, hi2, _⟩ := ready_deps hi
    simp at hm
    exact getD_flip hi2 (h1 i (by omega))
  | o :: l, m, listed, a, w, hl, hm, hk, hsz, h1, h2, hc, hw => by
    have h0 : ops[m]? = some o := by simpa using (hl 0).symm
    simp only [List.length_cons] at hm
    have hml : m < ops.size := by omega
    have hmr : m ∈ Region.ready md ops listed := ready_of hml (h2 m (Nat.le_refl _) hml) (fun j hj => h1 j ((tailB_spec ht m hml).1 j hj))
    refine ⟨(fun e => by rw [e] at hmr; cases hmr), fun i hi => ?_⟩
    have him : i = m := by
      obtain ⟨hi1, hi2, _⟩ := ready_deps hi
      rcases Nat.lt_trichotomy i m with h | h | h
      · exact (getD_flip hi2 (h1 i h)).elim
      · exact h
      · exact (getD_flip (h2 m (Nat.le_refl _) hml) (ready_tail ht hc hi (by omega) m h)).elim
    subst him
    have hop : wpOp P ops Q i (wpList P ops Q l) a w := by
      unfold wpOp
      simp only [h0]
      exact hw
    refine wpOp_mono (fun a' w' h => wpAny_tail ht l (i + 1) _ a' w' (fun j => by have := hl (j + 1); simpa [Nat.add_assoc, Nat.add_comm 1 j] using this) (by omega) (by omega) (by simp [hsz]) (fun j hj => ?_) (fun j hj1 hj2 => ?_) (closed_set hc hi) h) hop
    · by_cases e : i = j
      · subst e
        simp [hsz, hml]
      · rw [getD_set_ne false e]; exact h1 j (by omega)
    · rw [getD_set_ne true (by omega)]; exact h2 j (by omega) hj2
/-- The first k in any order, then the others. -/
theorem wp_region_mix {id : Nat} {Q : Exit → Act → World → Prop} {a : Act} {w : World} (hmx : P.follows .mixedOrders = true) (hB : mixB ops k = true) (hC : C { w with drawn := w.drawn + 1 })
    (h : wpQuiet P ops C (fun a' => ∀ w', C w' → wpList P ops Q (ops.toList.drop k) a' w') (ops.toList.take k) a) : (Code.region id ops true).wp P Q a w := by
  unfold mixB at hB
  simp only [Bool.and_eq_true, decide_eq_true_eq] at hB
  obtain ⟨⟨⟨hs, hk⟩, ht⟩, hl⟩ := hB
  refine wp_region_any hmx ?_
  have hlen : (ops.toList.take k).length = k := by simp; omega
  have hT := wpAnyT_lex (P := P) (md := .any) (C := C) (k := k) hs (ops.toList.take k) 0 (Array.replicate ops.size false) a (fun j hj => by
    rw [hlen] at hj
    rw [List.getElem?_take, if_pos hj, Nat.zero_add, Array.getElem?_toList]) (by omega) (by rw [hlen]; exact hl) h
  rw [hlen] at hT
  have hsz : ops.size = k + (ops.toList.drop k).length := by simp; omega
  have hcl : Lclosed .any ops (Array.replicate ops.size false) := fun i hi hx => by simp [hi] at hx
  have key := wpAny_of_T (Q := Q) ht hk (ops.toList.drop k).length (fun listed a' w' hw' hR hz h1 h2 hc =>
    wpAny_tail ht (ops.toList.drop k) k listed a' w' (fun j => by rw [List.getElem?_drop, Array.getElem?_toList]) (by simp; omega) (Nat.le_refl _) hz h1 h2 hc (hR w' hw')) k _ a _ hC (by simp) (fun j _ hj => by simp [hj]) hcl hT
  rw [← hsz] at key
  exact key
end
section
variable {P : Program} {T : TT} {F : FL} {st : St}
/-- **A region that draws its order**: k operations that only read, then the others in the text's order. -/
theorem drawV_mix (k : Nat) {id : Nat} {ops : Array Oper} {K : St → Prop} (hmx : P.follows .mixedOrders = true) (hB : mixB ops k = true) (hT : TTok P T) (hF : FTok P F)
    (hp : qopsP P T F ops (ops.toList.take k) st (fun st' => opsP P T F ops (ops.toList.drop k) st' K)) : DrawV P id ops K st := by
  refine ⟨fun may w0 h0 a w hs => ?_⟩
  obtain ⟨⟨L, h, hm, ha, hsub, hnew⟩, hk⟩ := hs
  refine wp_region_mix (k := k) (C := fun w' => Below w.heap.size w w') hmx hB ⟨rfl, rfl, rfl, Nat.le_refl _, fun _ _ => rfl⟩ ?_
  refine wpQuiet_mono (fun a' hq w' hw' => ?_) _ _ (quiet_ops hT hF hm (fun b hb => .inr (Nat.le_trans hk.size hb)) (ops.toList.take k) st a ⟨rfl, rfl⟩ hp ha)
  obtain ⟨st', k1, k2, k3⟩ := hq
  refine ops_ok (may := may) (w0 := w0) (h0 := h0) (K := K) hT hF (fun st'' a'' w'' h1 h2 => ⟨rfl, st'', h1, h2⟩) _ st' a' w' k3 ⟨⟨L, h, ?_, k1, by rw [k2.2]; exact hsub, hnew⟩, keep_below hk hw'⟩
  rw [k2.1]
  exact mem_below hm hw'
end
end Go.Eng
