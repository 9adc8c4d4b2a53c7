/- Items' runs' items are these items: the mathematics. -/
import Derived.Test.YteglopjljejjkaaDoorBRuns5
set_option linter.unusedVariables false
set_option linter.unusedSimpArgs false
namespace Go.Eng
open Go Go.RowKit
def okRun (r : Ru) (cs : List Int) : Prop := r.text = runesBytes cs ∧ vals cs ∧ 0 < cs.length ∧ u32P r.id ∧ u32P r.left ∧ u32P r.right ∧ r.id.1 ≠ 0 ∧ r.id.2 + cs.length - 1 ≤ lastC
theorem rb_one (c : Int) : runesBytes [c] = Utf8.encode c := by
  unfold runesBytes
  rw [List.foldl_cons, List.foldl_nil]
  apply ba_ext
  simp
theorem okRun_chars {r : Ru} {cs : List Int} (h : okRun r cs) : charsF r.text = some cs := by rw [h.1]; exact bytes_charsF h.2.1
theorem okRun_chOf {r : Ru} {cs : List Int} (h : okRun r cs) : chOf r = cs := by unfold chOf; rw [okRun_chars h]; rfl
theorem okRun_may {r : Ru} {cs : List Int} (h : okRun r cs) : mayR r = true := by
  rw [mayR_some (okRun_chars h)]
  exact decide_eq_true ⟨h.2.2.1, h.2.2.2.2.2.2.1, h.2.2.2.2.2.2.2⟩
theorem addT_snoc (acc : List Ru) (r : Ru) (c : Int) : addT (acc ++ [r]) c = acc ++ [{ r with text := r.text ++ Utf8.encode c }] := by
  unfold addT
  have e : (acc ++ [r]).length - 1 = acc.length := by simp
  have g : (acc ++ [r]).getD acc.length ru0 = r := by rw [getD_append, if_neg (by omega), Nat.sub_self]; rfl
  rw [e, g, List.set_append_right _ _ (Nat.le_refl _), Nat.sub_self]
  rfl
theorem itsR_of {r : Ru} {cs : List Int} (h : okRun r cs) : itsR r = (List.range cs.length).map (itAt r cs) := by unfold itsR; rw [okRun_chOf h]
theorem itemsR_app (a b : List Ru) : itemsR (a ++ b) = itemsR a ++ itemsR b := by unfold itemsR; rw [List.flatMap_append]
theorem itemsR_one (r : Ru) : itemsR [r] = itsR r := by unfold itemsR; simp
theorem of_inv (x : List It) (hx : (∀ j, j < x.length → goodIt (x.getD j it0)) ∧ ∀ j, j < x.length → itOk (x.getD j it0)) : ∀ k, k ≤ x.length → itemsR (ofK x k) = x.take k ∧ (∀ r, r ∈ ofK x k → ∃ cs, okRun r cs) ∧
    (0 < k → ∃ acc r cs, ofK x k = acc ++ [r] ∧ okRun r cs ∧ (x.getD (k - 1) it0).id = (r.id.1, r.id.2 + cs.length - 1) ∧ (x.getD (k - 1) it0).right = r.right)
  | 0, _ => ⟨by simp [ofK, itemsR], fun r hr => by simp [ofK] at hr, fun h => by omega⟩
  | k + 1, hk => by
    obtain ⟨h1, h2, h3⟩ := of_inv x hx k (by omega)
    obtain ⟨y, hy⟩ : ∃ y, x.getD k it0 = y := ⟨_, rfl⟩
    have hg : goodIt y := hy ▸ hx.1 k (by omega)
    have ho : itOk y := hy ▸ hx.2 k (by omega)
    have ht : x.take (k + 1) = x.take k ++ [y] := by rw [take_snoc (d := it0) (by omega), hy]
    by_cases hc : 0 < k ∧ onR y (x.getD (k - 1) it0)
    · obtain ⟨acc, r, cs, e1, e2, e3, e4⟩ := h3 hc.1
      rw [ofK_yes hy hc.1 hc.2, e1, addT_snoc]
      obtain ⟨o1, o2, o3, o4⟩ := hc.2
      rw [e3] at o1 o2 o3
      rw [e4] at o4
      have hb : r.id.2 + cs.length ≤ lastC := by
        unfold aftC at o1
        split at o1
        · cases o1
        · split at o1
          · cases o1
          · rename_i q; simp only at q; omega
      have hr' : okRun { r with text := r.text ++ Utf8.encode y.ch } (cs ++ [y.ch]) := by
        refine ⟨?_, vals_append e2.2.1 (fun v hv => ?_), by simp, e2.2.2.2.1, e2.2.2.2.2.1, e2.2.2.2.2.2.1, e2.2.2.2.2.2.2.1, ?_⟩
        · show r.text ++ Utf8.encode y.ch = _
          rw [rb_append, rb_one, e2.1]
        · rw [List.mem_singleton.1 hv]; exact hg.1
        · show r.id.2 + ((cs ++ [y.ch]).length : Nat) - 1 ≤ lastC
          rw [List.length_append, List.length_singleton]
          omega
      have hid := e2.2.2.2.1
      have hitem : itAt { r with text := r.text ++ Utf8.encode y.ch } (cs ++ [y.ch]) cs.length = y := by
        have hn := e2.2.2.1
        unfold lastC at hb
        refine it_ext ?_ ?_ ?_ ?_ ?_ ?_ ?_
        · show r.id.1 = y.id.1
          rw [o2]
        · show clk r.id.2 cs.length = y.id.2
          rw [o2]
          show clk r.id.2 cs.length = r.id.2 + cs.length - 1 + 1
          unfold clk
          have := hid.2
          omega
        · show (leftAt _ cs.length).1 = _
          unfold leftAt
          rw [if_neg (by omega), o3]
        · show (leftAt _ cs.length).2 = _
          unfold leftAt
          rw [if_neg (by omega), o3]
          show clk r.id.2 (cs.length - 1) = r.id.2 + cs.length - 1
          unfold clk
          have := hid.2
          omega
        · show r.right.1 = _
          rw [o4]
        · show r.right.2 = _
          rw [o4]
        · show (cs ++ [y.ch]).getD cs.length 0 = y.ch
          rw [getD_append, if_neg (by omega), Nat.sub_self]
          rfl
      refine ⟨?_, fun q hq => ?_, fun _ => ⟨acc, _, cs ++ [y.ch], rfl, hr', ?_, ?_⟩⟩
      · rw [e1, itemsR_app, itemsR_one, itsR_of e2] at h1
        rw [itemsR_app, itemsR_one, itsR_of hr', ht, ← h1, List.length_append, List.length_singleton, List.range_succ, List.map_append, List.append_assoc]
        congr 1
        rw [List.map_cons, List.map_nil, hitem]
        congr 1
        refine List.map_congr_left (fun j hj => ?_)
        have hj := List.mem_range.1 hj
        unfold itAt
        rw [getD_append, if_pos hj]
        rfl
      · rcases List.mem_append.1 hq with hq | hq
        · exact h2 q (by rw [e1]; exact List.mem_append_left _ hq)
        · rw [List.mem_singleton.1 hq]; exact ⟨_, hr'⟩
      · rw [Nat.add_sub_cancel, hy, o2, List.length_append, List.length_singleton]
        show (r.id.1, r.id.2 + (cs.length : Int) - 1 + 1) = (r.id.1, r.id.2 + ((cs.length + 1 : Nat) : Int) - 1)
        congr 1
        omega
      · rw [Nat.add_sub_cancel, hy, o4]
    · rw [ofK_no hy hc]
      have hid := ho.1
      have hr' : okRun (newR y) [y.ch] := by
        refine ⟨(rb_one y.ch).symm, fun v hv => by rw [List.mem_singleton.1 hv]; exact hg.1, by simp, ho.1, ho.2.1, ho.2.2, hg.2.1, ?_⟩
        show y.id.2 + ((([y.ch] : List Int).length : Nat) : Int) - 1 ≤ lastC
        have := hg.2.2
        simp
        omega
      refine ⟨?_, fun q hq => ?_, fun _ => ⟨ofK x k, newR y, [y.ch], rfl, hr', ?_, ?_⟩⟩
      · rw [itemsR_app, itemsR_one, itsR_of hr', h1, ht]
        congr 1
        have : itAt (newR y) [y.ch] 0 = y := by
          refine it_ext rfl ?_ rfl rfl rfl rfl rfl
          show clk y.id.2 0 = y.id.2
          exact clk_0 hid.2
        show [itAt (newR y) [y.ch] 0] = [y]
        rw [this]
      · rcases List.mem_append.1 hq with hq | hq
        · exact h2 q hq
        · rw [List.mem_singleton.1 hq]; exact ⟨_, hr'⟩
      · rw [Nat.add_sub_cancel, hy]
        show y.id = (y.id.1, y.id.2 + (1 : Nat) - 1)
        refine Prod.ext rfl ?_
        show y.id.2 = y.id.2 + (1 : Nat) - 1
        omega
      · rw [Nat.add_sub_cancel, hy]
        rfl
end Go.Eng
