/- The example at the head of the vectors' laws. -/
import Derived.Test.YteglopjljejjkabBVecS
import Derived.Test.YteglopjljejjkabA21
set_option linter.unusedVariables false
set_option linter.unusedSimpArgs false
set_option maxRecDepth 100000
set_option maxHeartbeats 4000000
namespace Go.Eng
open Go Go.RowKit Go.Proofs
theorem may52 : mayV [(5, 2)] := ⟨by simp [srt], by simp⟩
theorem up_c : CallV Try.prog 11 [] [] (fun r own' => own' = [] ∧ r = vcb true) := by
  refine callV_pure Try.func11 rfl ttok ftok rfl rfl rfl (Nat.le_of_ble_eq_true rfl) ?_
  conv => whnf
  refine callV_args (argsLe_nil 2 (ckR []) (argsLe_refl _)) ?_
  refine call_pure (set_c [] (by simp) (by simp [srt]) 5 2 (by omega) (by omega)) rfl ?_
  rintro _ rfl
  rw [show setR [] 5 2 = [(5, 2)] from rfl]
  conv => whnf
  refine ⟨ckR [(5, 2)], fun j hj => ?_, ?_⟩
  · obtain rfl : j = 0 := by omega
    rfl
  conv => whnf
  refine ⟨fun j hj => rfl, ?_⟩
  conv => whnf
  refine call_pure (same_c [(5, 2)] [(5, 2)] (by simp) (by simp)) rfl ?_
  rintro _ rfl
  rw [show decide (([(5, 2)] : CV) = [(5, 2)]) = true from decide_eq_true rfl]
  conv => whnf
  refine call_pure (may_c [(5, 2)] (by simp) (by simp)) rfl ?_
  rintro _ ⟨b, hb, rfl⟩
  obtain rfl : b = true := hb.2 may52
  conv => whnf
  refine call_pure (next_c [(5, 2)] (by simp) may52.1 5) rfl ?_
  rintro _ rfl
  rw [show nxt [(5, 2)] 5 = 2 from rfl]
  conv => whnf
  refine callV_args (argsLe_same (argsLe_nil 2 (ckR []) (argsLe_refl _))) ?_
  refine call_pure (covers_c [(5, 2)] [] may52.1 (by simp) (by simp)) rfl ?_
  rintro _ rfl
  rw [show coversR [(5, 2)] [] = true from rfl]
  conv => whnf
  refine callV_args (argsLe_nil 2 (ckR []) (argsLe_refl _)) ?_
  refine call_pure (covers_c [] [(5, 2)] (by simp [srt]) (by simp) (by simp)) rfl ?_
  rintro _ rfl
  rw [show coversR [] [(5, 2)] = false from rfl]
  conv => whnf
  all_goals first | rfl | exact ⟨rfl, rfl⟩
theorem rd_clk {T : TT} {B d : Nat} {cs : List IC} (t : TypeId) (h : Rd tt B (d + 3) 90 cs) : ∃ a : Int × Int, (0 ≤ a.1 ∧ 0 ≤ a.2) ∧ cs = ckF a := by
  obtain ⟨x1, y1, ⟨v, w1, rfl⟩, ⟨x2, y2, ⟨w, w2, rfl⟩, rfl, rfl⟩, rfl⟩ := h
  exact ⟨(v, w), ⟨(wf_u32 w1).1, (wf_u32 w2).1⟩, rfl⟩
/-- A slice of clocks that is handed in. -/
theorem rd_clks {T : TT} {B d : Nat} {a : AV} (h : RdA tt B (d + 5) 22 a) : ∃ l : CV, (∀ x ∈ l, 0 ≤ x.1 ∧ 0 ≤ x.2) ∧ l.length ≤ B ∧ ∀ (L : Nat → Value) (hp : Hp) v, DenA L hp a v → DenA L hp (ckS l) v := by
  obtain ⟨c, ⟨n, f, hn, hf, e⟩, rfl⟩ := h
  cases e
  obtain ⟨l, hl, hf2, hR⟩ := list_of (enc := ckF) (R := fun x : Int × Int => 0 ≤ x.1 ∧ 0 ≤ x.2) (0, 0) (fun k hk => rd_clk (T := tt) 0 (hf k hk))
  refine ⟨l, fun x hx => ?_, by omega, fun L hp v hd => ?_⟩
  · obtain ⟨j, hj, rfl⟩ := mem_getD (d := (0, 0)) hx
    exact hR j (by omega)
  · subst hl
    exact den_sl_ext hd (fun k hk => (hf2 k hk).symm)
end Go.Eng
