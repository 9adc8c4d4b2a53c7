/- Runs' items, as the reference tells them. -/
import Derived.Test.YteglopjljejjkaaDoorBRuns3
set_option linter.unusedVariables false
set_option linter.unusedSimpArgs false
set_option maxRecDepth 100000
set_option maxHeartbeats 4000000
namespace Go.Eng
open Go Go.RowKit Go.Proofs
def rmO (m : List Ru) (n : Nat) (st : St) : Prop := ∃ (k : Nat), n = m.length - k ∧ k ≤ m.length ∧ st = ⟨69, 0, [(0, ruS m), (3, .c (.row 0)), (4, vci .i64 (k : Int))], [itRow (itemsR (m.take k))]⟩
def rmI (m : List Ru) (k : Nat) (P : List It) (r : Ru) (n : Nat) (st : St) : Prop := ∃ (j : Nat), n = (chOf r).length - j ∧ j ≤ (chOf r).length ∧
  st = ⟨69, 0, [(0, ruS m), (3, .c (.row 0)), (4, vci .i64 (k : Int)), (5, rns (chOf r)), (7, .c (.own 1 0)), (8, vci .i64 (j : Int))], [itRow (P ++ (List.range j).map (itAt r (chOf r))), some (.cells 47 (idF (leftAt r j)))]⟩
theorem ritems_c (m : List Ru) (hm : m.length ≤ 1000) (hok : ∀ x, x ∈ m → ruOk x ∧ (charsF x.text).isSome = true) : CallV Tryd.prog 25 [ruS m] [] (fun r own' => own' = [] ∧ r = itS (itemsR m)) := by
  refine callV_pure Tryd.func25 rfl ttok ftok rfl rfl rfl (Nat.le_of_ble_eq_true rfl) ?_
  conv => whnf
  refine loopV ttok ftok (rmO m) ((nil_row 3 63 7 (fun k => itF (([] : List It).getD k it0)) rfl).trans (norm_weak [0, 3, 4] [some 0] rfl rfl)) ⟨0, rfl, Nat.zero_le _, rfl⟩ ?_
  rintro n st ⟨k, rfl, hk, rfl⟩
  have e1 : IntKind.i64.wrap ((k : Int) + 1) = ((k + 1 : Nat) : Int) := by rw [w_i64 (by omega) (by omega)]; omega
  conv => whnf
  refine onB_intro (fun h => ?_) (fun h => ?_)
  · have h := of_decide_eq_true h
    have hk2 : k < m.length := by omega
    conv => whnf
    refine ⟨⟨by omega, by omega⟩, ?_⟩
    conv => whnf
    simp only [ti_nat]
    obtain ⟨r, hr⟩ : ∃ r, m.getD k ru0 = r := ⟨_, rfl⟩
    have hmem : r ∈ m := by rw [← hr, List.getD_eq_getElem?_getD, List.getElem?_eq_getElem hk2]; exact List.getElem_mem hk2
    obtain ⟨⟨hid, hlf, hrt, hsz⟩, hch⟩ := hok r hmem
    obtain ⟨L, hL⟩ : ∃ L, charsF r.text = some L := Option.isSome_iff_exists.1 hch
    have hLc : chOf r = L := by unfold chOf; rw [hL]; rfl
    have hP : (itemsR (m.take k)).length ≤ 1000 * 1048576 := by
      have := itemsR_len 1048576 (m.take k) (fun x hx => (hok x (List.mem_of_mem_take hx)).1.2.2.2)
      rw [List.length_take] at this
      refine Nat.le_trans this (Nat.mul_le_mul_right _ (by omega))
    have hcl := chOf_len r
    generalize hPP : itemsR (m.take k) = P at hP
    rw [hr]
    refine call_pure (chars_c r.text (by omega)) rfl ?_
    rintro _ rfl
    unfold charsV
    rw [hL, ← hLc]
    conv => whnf
    refine ⟨⟨by omega, by omega⟩, ?_⟩
    conv => whnf
    simp only [ti_nat, hr]
    conv => whnf
    refine loopV ttok ftok (rmI m k P r) (norm_weak [0, 3, 4, 5, 7, 8] [some 0, some 1] rfl rfl) ⟨0, rfl, Nat.zero_le _, ?_⟩ ?_
    · simp only [List.range_zero, List.map_nil, List.append_nil]
      rfl
    rintro n st ⟨j, rfl, hj, rfl⟩
    have e2 : IntKind.i64.wrap ((j : Int) + 1) = ((j + 1 : Nat) : Int) := by rw [w_i64 (by omega) (by omega)]; omega
    conv => whnf
    refine onB_intro (fun g => ?_) (fun g => ?_)
    · have g := of_decide_eq_true g
      have hj2 : j < (chOf r).length := by omega
      conv => whnf
      refine drawV_sched (.rd 0 (.rd 1 (.rd 2 (.rd 3 (.rd 4 (.rd 5 (.rd 6 (.rd 7 (.rd 8 (.rd 9 (.rd 10 (.rd 11 (.rd 12 (.rd 13 (.rd 14 (.rd 15 (.ef 16 (.ef 17 (.nil))))))))))))))))))) [2] mixed (by kernel_rfl) ttok ftok ?_
      conv => whnf
      refine ⟨⟨by omega, by omega⟩, ?_⟩
      conv => whnf
      refine ⟨⟨by omega, by omega⟩, ?_⟩
      conv => whnf
      simp only [ti_nat, hr]
      rw [show IntKind.u32.wrap (r.id.2 + IntKind.u32.wrap (j : Int)) = clk r.id.2 j from by simp only [w_u32]; unfold clk; omega]
      conv => whnf
      refine drawV_sched (.rd 0 (.rd 1 (.rd 2 (.rd 3 (.rd 4 (.rd 5 (.rd 6 (.rd 7 (.rd 8 (.rd 9 (.rd 10 (.rd 11 (.rd 12 (.ef 13 (.ef 14 (.rd 15 (.nil))))))))))))))))) [0, 3] mixed (by kernel_rfl) ttok ftok ?_
      conv => whnf
      refine ⟨⟨by omega, by omega⟩, ?_⟩
      conv => whnf
      refine ⟨⟨by omega, by omega⟩, ?_⟩
      conv => whnf
      simp only [ti_nat, hr]
      refine ⟨fun _ => itF (itAt r (chOf r) j), one_at _, ?_⟩
      conv => whnf
      have hlen : (P ++ (List.range j).map (itAt r (chOf r))).length = P.length + j := by simp
      refine ⟨⟨by rw [hlen]; omega, by simp only [hlen, show ti63.bytes = 28 from rfl]; omega⟩, ?_⟩
      conv => whnf
      refine app1 (enc := itF) (d := it0) (itAt r (chOf r) j) (fun k hk => rfl) rfl ?_
      conv => whnf
      rw [e2, ← range_snoc]
      refine ⟨(chOf r).length - (j + 1), _, by omega, norm_weak [0, 3, 4, 5, 7, 8] [some 4, some 1] rfl rfl, j + 1, rfl, by omega, ?_⟩
      rfl
    · have g := of_decide_eq_false g
      obtain rfl : j = (chOf r).length := by omega
      conv => whnf
      rw [e1]
      refine ⟨m.length - (k + 1), _, by omega, norm_weak [0, 3, 4] [some 0] rfl rfl, k + 1, rfl, by omega, ?_⟩
      rw [take_snoc hk2 (d := ru0), hr, itemsR_snoc, hPP]
      rfl
  · have h := of_decide_eq_false h
    obtain rfl : k = m.length := by omega
    rw [List.take_length]
    conv => whnf
    refine ⟨fun j hj => rfl, ?_⟩
    conv => whnf
    try rfl
end Go.Eng
