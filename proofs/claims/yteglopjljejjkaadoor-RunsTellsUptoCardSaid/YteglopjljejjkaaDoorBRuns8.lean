/- The laws RunsTells, RunsBack. -/
import Derived.Test.YteglopjljejjkaaDoorBRuns7
set_option linter.unusedVariables false
set_option linter.unusedSimpArgs false
set_option maxRecDepth 100000
set_option maxHeartbeats 4000000
namespace Go.Eng
open Go Go.RowKit Go.Proofs
theorem mem_getD {α : Type} {l : List α} {x d : α} (h : x ∈ l) : ∃ j, j < l.length ∧ l.getD j d = x := by
  obtain ⟨j, hj, e⟩ := List.getElem_of_mem h
  exact ⟨j, hj, by rw [List.getD_eq_getElem?_getD, List.getElem?_eq_getElem hj]; exact e⟩
theorem rd_id {B d : Nat} {cs : List IC} (h : Rd tt B (d + 2) 47 cs) : ∃ a : I2, u32P a ∧ cs = idF a := by
  obtain ⟨x1, y1, ⟨v, w1, rfl⟩, ⟨x2, y2, ⟨w, w2, rfl⟩, rfl, rfl⟩, rfl⟩ := h
  have h1 := wf_u32 w1
  have h2 := wf_u32 w2
  exact ⟨(v, w), ⟨h1, h2⟩, rfl⟩
theorem rd_item {B d : Nat} {cs : List IC} (h : Rd tt B (d + 3) 63 cs) : ∃ x : It, itOk x ∧ cs = itF x := by
  obtain ⟨x1, y1, ha, ⟨x2, y2, hb, ⟨x3, y3, hc, ⟨x4, y4, ⟨v, wv, rfl⟩, rfl, rfl⟩, rfl⟩, rfl⟩, rfl⟩ := h
  obtain ⟨a, ka, rfl⟩ := rd_id ha
  obtain ⟨b, kb, rfl⟩ := rd_id hb
  obtain ⟨c, kc, rfl⟩ := rd_id hc
  exact ⟨⟨a, b, c, v⟩, ⟨ka, kb, kc⟩, rfl⟩
theorem rd_run {d : Nat} {cs : List IC} (h : Rd tt 1048576 (d + 3) 49 cs) : ∃ x : Ru, ruOk x ∧ cs = ruF x := by
  obtain ⟨x1, y1, ha, ⟨x2, y2, hb, ⟨x3, y3, hc, ⟨x4, y4, ⟨v, wv, rfl⟩, rfl, rfl⟩, rfl⟩, rfl⟩, rfl⟩ := h
  obtain ⟨a, ka, rfl⟩ := rd_id ha
  obtain ⟨b, kb, rfl⟩ := rd_id hb
  obtain ⟨c, kc, rfl⟩ := rd_id hc
  exact ⟨⟨a, b, c, v⟩, ⟨ka, kb, kc, wv⟩, rfl⟩
theorem rd_items {B d : Nat} {a : AV} (h : RdA tt B (d + 4) 45 a) : ∃ l : List It, (∀ x, x ∈ l → itOk x) ∧ l.length ≤ B ∧ ∀ (L : Nat → Value) (hp : Hp) v, DenA L hp a v → DenA L hp (itS l) v := by
  obtain ⟨c, ⟨n, f, hn, hf, e⟩, rfl⟩ := h
  cases e
  obtain ⟨l, hl, hf2, hR⟩ := list_of (enc := itF) (R := itOk) it0 (fun k hk => rd_item (hf k hk))
  refine ⟨l, fun x hx => ?_, by omega, fun L hp v hd => ?_⟩
  · obtain ⟨j, hj, rfl⟩ := mem_getD (d := it0) hx
    exact hR j (by omega)
  · subst hl
    exact den_sl_ext hd (fun k hk => (hf2 k hk).symm)
theorem rd_runs {d : Nat} {a : AV} (h : RdA tt 1048576 (d + 4) 44 a) : ∃ l : List Ru, (∀ x, x ∈ l → ruOk x) ∧ l.length ≤ 1048576 ∧ ∀ (L : Nat → Value) (hp : Hp) v, DenA L hp a v → DenA L hp (ruS l) v := by
  obtain ⟨c, ⟨n, f, hn, hf, e⟩, rfl⟩ := h
  cases e
  obtain ⟨l, hl, hf2, hR⟩ := list_of (enc := ruF) (R := ruOk) ru0 (fun k hk => rd_run (hf k hk))
  refine ⟨l, fun x hx => ?_, by omega, fun L hp v hd => ?_⟩
  · obtain ⟨j, hj, rfl⟩ := mem_getD (d := ru0) hx
    exact hR j (by omega)
  · subst hl
    exact den_sl_ext hd (fun k hk => (hf2 k hk).symm)
theorem ofK_ok {x : List It} (h : risL x x) : itemsR (ofK x x.length) = x ∧ ∀ r, r ∈ ofK x x.length → ∃ cs, okRun r cs := by
  obtain ⟨h1, h2, _⟩ := of_inv x ⟨h.1.1, fun j hj => itOk_at h.2 hj⟩ x.length (Nat.le_refl _)
  rw [List.take_length] at h1
  exact ⟨h1, h2⟩
theorem ofK_all {x : List It} (hl : x.length ≤ 1000) (h : risL x x) : ∀ r, r ∈ ofK x x.length → ruOk r ∧ (charsF r.text).isSome = true ∧ mayR r = true := by
  intro r hr
  obtain ⟨cs, hc⟩ := (ofK_ok h).2 r hr
  obtain ⟨j, hj, rfl⟩ := mem_getD (d := ru0) hr
  have hs := ofK_size x x.length j
  exact ⟨⟨hc.2.2.2.1, hc.2.2.2.2.1, hc.2.2.2.2.2.1, by omega⟩, by rw [okRun_chars hc]; rfl, okRun_may hc⟩
theorem risL_self {m x : List It} (h : risL m x) : risL x x := h
def rbI (l : List Ru) (n : Nat) (st : St) : Prop := ∃ k : Nat, n = l.length - k ∧ k ≤ l.length ∧ st = ⟨51, 0, [(3, vcb true), (5, ruS l), (7, vci .i64 (k : Int))], []⟩
theorem rback_c (m : List It) (hm : m.length ≤ 1048576) (hok : ∀ x, x ∈ m → itOk x) : CallV Tryd.prog 6 [itS m] [] (fun r own' => own' = [] ∧ r = vcb true) := by
  refine callV_pure Tryd.func6 rfl ttok ftok rfl rfl rfl (Nat.le_of_ble_eq_true rfl) ?_
  conv => whnf
  refine call_pure (up_c) rfl ?_
  rintro _ rfl
  conv => whnf
  refine onB_intro (fun h => ?_) (fun h => ?_)
  · conv => whnf
    try rfl
  have h := of_decide_eq_false h
  conv => whnf
  refine call_pure (rising_c m (by omega) hok) rfl ?_
  rintro _ ⟨x, hx, hr, rfl⟩
  have hxl : x.length ≤ 100 := by omega
  have hlen := (ofK_len x x.length).1
  obtain ⟨hit, _⟩ := ofK_ok (risL_self hr)
  have hall := ofK_all (by omega) (risL_self hr)
  conv => whnf
  refine call_pure (of_c x (by omega) hr.2) rfl ?_
  rintro _ rfl
  obtain ⟨l, hl⟩ : ∃ l, ofK x x.length = l := ⟨_, rfl⟩
  rw [hl] at hlen hit hall ⊢
  conv => whnf
  refine call_pure (items_c l (by omega) (fun r hr => ⟨(hall r hr).1, (hall r hr).2.1⟩)) rfl ?_
  rintro _ rfl
  rw [hit]
  conv => whnf
  refine call_pure (sameit_c x x (by omega) (by omega)) rfl ?_
  rintro _ (⟨_, rfl⟩ | ⟨hne, _⟩)
  rotate_left
  · exact absurd rfl hne
  conv => whnf
  refine call_pure (items_c l (by omega) (fun r hr => ⟨(hall r hr).1, (hall r hr).2.1⟩)) rfl ?_
  rintro _ rfl
  rw [hit]
  conv => whnf
  refine call_pure (of_c x (by omega) hr.2) rfl ?_
  rintro _ rfl
  rw [hl]
  conv => whnf
  refine call_pure (samerun_c l l (by omega) (by omega)) rfl ?_
  rintro _ (⟨_, rfl⟩ | ⟨hne, _⟩)
  rotate_left
  · exact absurd rfl hne
  conv => whnf
  rw [show decide (((l.length : Nat) : Int) > ((x.length : Nat) : Int)) = false from decide_eq_false (by omega)]
  conv => whnf
  refine loopV ttok ftok (rbI l) (env_weak [3, 5, 7] rfl) ⟨0, rfl, Nat.zero_le _, rfl⟩ ?_
  rintro n st ⟨k, rfl, hk, rfl⟩
  conv => whnf
  refine onB_intro (fun g => ?_) (fun g => ?_)
  · have g := of_decide_eq_true g
    have hk2 : k < l.length := by omega
    have hmem : l.getD k ru0 ∈ l := by rw [List.getD_eq_getElem?_getD, List.getElem?_eq_getElem hk2]; exact List.getElem_mem hk2
    obtain ⟨q1, q2, q3⟩ := hall _ hmem
    conv => whnf
    refine ⟨⟨by omega, by omega⟩, ?_⟩
    conv => whnf
    simp only [ti_nat]
    refine call_pure (may_c (l.getD k ru0) q1) rfl ?_
    rintro _ rfl
    rw [q3]
    conv => whnf
    rw [show IntKind.i64.wrap ((k : Int) + 1) = ((k + 1 : Nat) : Int) from by rw [w_i64 (by omega) (by omega)]; omega]
    exact ⟨l.length - (k + 1), _, by omega, env_weak [3, 5, 7] rfl, k + 1, rfl, by omega, rfl⟩
  · conv => whnf
    try rfl
theorem runsBack_law : ∀ avs, RdArgs tt 1048576 30 [45] avs → CallV Tryd.prog 6 avs [] (fun r own' => own' = [] ∧ r = vcb true) := by
  rintro avs ⟨a0, r0, h0, rfl, rfl⟩
  obtain ⟨m, hok, hm, hd⟩ := rd_items h0
  refine callV_args (argsLe_cons hd (argsLe_refl _)) ?_
  exact rback_c m hm hok
end Go.Eng
