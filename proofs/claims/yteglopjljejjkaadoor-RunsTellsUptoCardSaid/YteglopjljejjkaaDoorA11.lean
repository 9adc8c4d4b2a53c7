/- A part of the proof: what the functions of the program come to, told by a small reckoner of states. -/
import Derived.Test.YteglopjljejjkaaDoorA10
import Derived.Laws.OwnMore
set_option linter.unusedVariables false
set_option linter.unusedSimpArgs false
namespace Go.Eng
open Go Go.RowKit
section
variable {P : Program} {T : TT} {FF : FL} {mine may : Nat → Prop} {L : Nat → Value} {F : Nat → Nat → Prop} {h : Hp} {st : St} {a : Act} {w w0 : World}
/-- Rows of a literal. -/
theorem rowC_ok {sz : Nat} : ∀ {l : List (Nat × AV)} {vs : List (Nat × Value)} {i : Nat} {xs : List (List IC)}, rowC sz i l = some xs → DenP L h l vs →
    xs.length = l.length ∧ vs = (((vs.map (·.2)).zipIdx i).map fun x => (x.2, x.1)) ∧ (∀ v, v ∈ vs.map (·.2) → v.cells.size = sz) ∧ (∀ y, y ∈ xs → y.length = sz) ∧ DenL L h xs.flatten ((vs.map (·.2)).flatMap fun v => v.cells.toList)
  | [], _, i, xs, hr, .nil => by cases hr; exact ⟨rfl, rfl, (fun v hv => nomatch hv), (fun y hy => nomatch hy), DenL.nil⟩
  | (j, av) :: r, _, i, xs, hr, .cons (v := v) (r := us) h1 h2 => by
    unfold rowC at hr
    split at hr
    · rename_i cs rest hb hc hrest
      split at hr
      · rename_i hcond
        cases hr
        obtain ⟨k1, k2, k3, k4, k5⟩ := rowC_ok hrest h2
        have hj : i = j := Nat.eq_of_beq_eq_true hb
        have hd := cellsOf_all hc h1
        refine ⟨by simp [k1], ?_, fun u hu => ?_, fun y hy => ?_, ?_⟩
        · rw [List.map_cons, List.zipIdx_cons, List.map_cons, ← k2, hj]
        · rw [List.map_cons] at hu
          rcases List.mem_cons.1 hu with rfl | hu
          · have := hd.1; rw [← hcond, this]; simp
          · exact k3 u hu
        · rcases List.mem_cons.1 hy with rfl | hy
          · exact hcond
          · exact k4 y hy
        · rw [List.map_cons, List.flatMap_cons, List.flatten_cons]
          exact hd.append k5
      · cases hr
    · cases hr
theorem flatten_len {α : Type} {sz : Nat} : ∀ {xs : List (List α)} (hx : ∀ x, x ∈ xs → x.length = sz), xs.flatten.length = xs.length * sz
  | [], _ => by simp
  | x :: r, hx => by rw [List.flatten_cons, List.length_append, hx x (by simp), flatten_len (fun y hy => hx y (by simp [hy])), List.length_cons, Nat.succ_mul, Nat.add_comm]
theorem flatten_get {sz : Nat} : ∀ {xs : List (List IC)} (hx : ∀ x, x ∈ xs → x.length = sz) {k : Nat} {cs : List IC} (hk : xs[k]? = some cs) {j : Nat} {c : IC} (hj : cs[j]? = some c), xs.flatten[k * sz + j]? = some c
  | [], _, k, cs, hk, _, _, _ => by simp at hk
  | x :: xs, hx, 0, cs, hk, j, c, hj => by
    simp only [List.getElem?_cons_zero, Option.some.injEq] at hk
    subst hk
    rw [List.flatten_cons, Nat.zero_mul, Nat.zero_add, List.getElem?_append_left (List.getElem?_eq_some_iff.1 hj).1]
    exact hj
  | x :: xs, hx, k + 1, cs, hk, j, c, hj => by
    simp only [List.getElem?_cons_succ] at hk
    have hl := hx x (by simp)
    rw [List.flatten_cons, List.getElem?_append_right (by rw [hl, Nat.succ_mul]; omega), hl]
    have e : (k + 1) * sz + j - sz = k * sz + j := by rw [Nat.succ_mul]; omega
    rw [e]
    exact flatten_get (fun x hm => hx x (by simp [hm])) hk hj
theorem rowD_flat {sz n : Nat} {f : Nat → List IC} {xs : List (List IC)} {vs : List Value} (hx : ∀ x, x ∈ xs → x.length = sz) (hn : xs.length = n) (hf : ∀ k, k < n → f k = xs.getD k []) (hd : DenL L h xs.flatten vs) : RowD L h sz n f vs := by
  have hget : ∀ k, k < n → xs[k]? = some (f k) := fun k hk => by
    have hk' : k < xs.length := by omega
    rw [hf k hk]
    simp [List.getD_eq_getElem?_getD, hk']
  refine ⟨fun k hk => hx _ (List.mem_of_getElem? (hget k hk)), fun k hk j c hc => ?_⟩
  have h1 := flatten_get hx (hget k hk) hc
  have hlt : k * sz + j < vs.length := by rw [← hd.1]; exact (List.getElem?_eq_some_iff.1 h1).1
  exact ⟨_, List.getElem?_eq_getElem hlt, hd.2 _ c _ h1 (List.getElem?_eq_getElem hlt)⟩
/-- A store into an own row. -/
theorem row_store (hm : Mem mine L F h st.own w) {i : Nat} {e : TypeId} {sz n : Nat} {f f' : Nat → List IC} (hi : st.own[i]? = some (some (.row e sz n f))) {k off : Nat} {p : Value} (hp : Den L h (.rel i sz k off) p) {xs : List IC} {us : List Value} (hd : DenL L h xs us) (hl : off + xs.length ≤ sz)
    (hf : ∀ j, j < n → f' j = if j = k then (f k).take off ++ xs ++ (f k).drop (off + xs.length) else f j) :
    ∃ g cur, p = .pointer (some ⟨g, k * sz + off, none⟩) ∧ w.heap[g]? = some (.cells cur e (0, 0)) ∧ F i g ∧ k * sz + off + us.length ≤ cur.size ∧
      Mem mine L F h (st.own.set i (some (.row e sz n f'))) (w.setRow g (cur.toList.take (k * sz + off) ++ us ++ cur.toList.drop (k * sz + off + us.length)).toArray) := by
  obtain ⟨vs, ⟨hvl, hr⟩, hG, hR⟩ := hm.obs i _ hi
  cases hp with
  | rel _ _ _ _ ad h1 h2 h3 =>
  rcases hr with ⟨e1, e2⟩ | ⟨g, cap, cur, e1, e2, e3, e4, e5, e6, e7⟩
  · rw [e1] at h2; cases h2
  have hk := h3 _ _ _ e1
  rw [e1] at h2
  cases h2
  have hFg := hG g (by rw [e1]; rfl)
  have hle : k * sz + off + us.length ≤ n * sz := by
    have : (k + 1) * sz ≤ n * sz := Nat.mul_le_mul_right _ hk
    rw [Nat.succ_mul] at this
    have := hd.1
    omega
  have hcap : n * sz ≤ cur.size := by rw [e6]; exact Nat.mul_le_mul_right _ e4
  refine ⟨g, cur, by rw [addr_plain, Nat.zero_add], e3, hFg, by omega, mem_set hm hi (size_setRow ..) (fun b hb => ?_) ⟨vs.take (k * sz + off) ++ us ++ vs.drop (k * sz + off + us.length), ⟨?_, .inr ⟨g, cap, _, e1, e2, setRow_heap w g cur _ e (0, 0) e3, e4, e5, ?_, ?_⟩⟩, hG, ⟨fun j hj => ?_, fun j hj q c hc => ?_⟩⟩⟩
  · exact setRow_other w g b _ (fun e => hb (by rw [e]; exact hFg))
  · simp only [List.length_append, List.length_take, List.length_drop]; omega
  · simp only [List.size_toArray, List.length_append, List.length_take, List.length_drop, Array.length_toList]; omega
  · rw [← e7]
    simp only
    have e8 : (cur.toList.take (k * sz + off) ++ us).length = k * sz + off + us.length := by rw [List.length_append, List.length_take, Array.length_toList]; omega
    rw [List.take_append, List.take_of_length_le (by omega), e8, List.take_take, Nat.min_eq_left (by omega), List.drop_take]
  · rw [hf j hj]
    split
    · rename_i e; subst e
      have := hR.len j hk
      simp; omega
    · exact hR.len j hj
  · rw [hf j hj] at hc
    have hmid : ∀ q' u, q' < k * sz + off ∨ k * sz + off + us.length ≤ q' → vs[q']? = some u → (vs.take (k * sz + off) ++ us ++ vs.drop (k * sz + off + us.length))[q']? = some u := fun q' u hq' hu => by
      rcases hq' with hq' | hq'
      · rw [List.append_assoc, List.getElem?_append_left (by rw [List.length_take]; omega), List.getElem?_take, if_pos hq']; exact hu
      · have e8 : (vs.take (k * sz + off) ++ us).length = k * sz + off + us.length := by rw [List.length_append, List.length_take]; omega
        rw [List.getElem?_append_right (by omega), e8, List.getElem?_drop]
        rw [show k * sz + off + us.length + (q' - (k * sz + off + us.length)) = q' by omega]; exact hu
    split at hc
    · rename_i e; subst e
      have hfl := hR.len j hk
      rcases Nat.lt_or_ge q off with hq | hq
      · rw [List.append_assoc, List.getElem?_append_left (by rw [List.length_take]; omega), List.getElem?_take, if_pos hq] at hc
        obtain ⟨u, q1, q2⟩ := hR.den j hj q c hc
        exact ⟨u, hmid _ u (by omega) q1, q2⟩
      · rcases Nat.lt_or_ge q (off + xs.length) with hq2 | hq2
        · rw [List.append_assoc, List.getElem?_append_right (by rw [List.length_take]; omega), List.length_take, Nat.min_eq_left (by omega), List.getElem?_append_left (by omega)] at hc
          have hlt : q - off < us.length := by have := hd.1; omega
          refine ⟨us[q - off], ?_, hd.2 _ c _ hc (List.getElem?_eq_getElem hlt)⟩
          rw [List.append_assoc, List.getElem?_append_right (by rw [List.length_take]; omega), List.length_take, Nat.min_eq_left (by omega), List.getElem?_append_left (by omega)]
          rw [show j * sz + q - (j * sz + off) = q - off by omega]
          exact List.getElem?_eq_getElem hlt
        · have e8 : ((f j).take off ++ xs).length = off + xs.length := by rw [List.length_append, List.length_take]; omega
          rw [List.getElem?_append_right (by omega), e8, List.getElem?_drop, show off + xs.length + (q - (off + xs.length)) = q by omega] at hc
          obtain ⟨u, q1, q2⟩ := hR.den j hj q c hc
          exact ⟨u, hmid _ u (by have := hd.1; omega) q1, q2⟩
    · rename_i hne
      obtain ⟨u, q1, q2⟩ := hR.den j hj q c hc
      have hq : q < sz := by have := (List.getElem?_eq_some_iff.1 hc).1; rw [hR.len j hj] at this; exact this
      refine ⟨u, hmid _ u ?_ q1, q2⟩
      rcases Nat.lt_or_gt_of_ne hne with hlt | hgt
      · left
        have : (j + 1) * sz ≤ k * sz := Nat.mul_le_mul_right _ hlt
        rw [Nat.succ_mul] at this
        omega
      · right
        have : (k + 1) * sz ≤ j * sz := Nat.mul_le_mul_right _ hgt
        rw [Nat.succ_mul] at this
        have := hd.1
        omega
end
end Go.Eng
