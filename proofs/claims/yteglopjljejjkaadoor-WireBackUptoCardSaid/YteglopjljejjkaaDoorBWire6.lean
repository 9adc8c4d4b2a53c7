/- The law WireBack. -/
import Derived.Test.YteglopjljejjkaaDoorBWire5
set_option linter.unusedVariables false
set_option linter.unusedSimpArgs false
set_option maxRecDepth 100000
set_option maxHeartbeats 4000000
namespace Go.Eng
open Go Go.RowKit Go.Proofs
theorem putT_len (s : ByteArray) : (putT s).length = (putN s.size).length + s.size := by unfold putT; rw [List.length_append, ba_len']
theorem wback_c (v : Nat) (hv : v < 4294967296) (s : ByteArray) (hs : s.size ≤ 1048576) (a : List UInt8) (ha : a.length ≤ 1048576) (r : List UInt8) (hr : r.length ≤ 1048576) (cut : Int) (hc1 : -9223372036854775808 ≤ cut) (hc2 : cut ≤ 9223372036854775807) :
    CallV Tryd.prog 4 [vci .u32 (v : Nat), vcs s, bS a, bS r, vci .i64 cut] [] (fun r own' => own' = [] ∧ r = vcb true) := by
  have hbl := be_u32 hv
  refine callV_pure Tryd.func4 rfl ttok ftok rfl rfl rfl (Nat.le_of_ble_eq_true rfl) ?_
  conv => whnf
  refine call_pure (up_c) rfl ?_
  rintro _ rfl
  conv => whnf
  refine call_pure (chars_c s (by omega)) rfl ?_
  rintro _ rfl
  unfold charsV
  cases hch : charsF s with
  | none =>
    conv => whnf
    refine ⟨by omega, ?_⟩
    conv => whnf
    refine onB_intro (fun h => ?_) (fun h => ?_)
    · conv => whnf
      try rfl
    · simp [pickB, isLit] at h
  | some L =>
    conv => whnf
    refine ⟨by omega, ?_⟩
    conv => whnf
    refine onB_intro (fun h => ?_) (fun h => ?_)
    · conv => whnf
      try rfl
    have hsm : s.size ≤ 300 ∧ a.length ≤ 300 ∧ r.length ≤ 300 := by
      simp [pickB, isLit] at h
      omega
    clear h
    obtain ⟨h1, h2, h3⟩ := hsm
    have hok : (charsF s).isSome = true := by rw [hch]; rfl
    have hp := putN_len v
    have hpt := putT_len s
    have hps := putN_len s.size
    have hbs := be_u32 (v := s.size) (by omega)
    conv => whnf
    refine call_pure (put_f v hv) rfl ?_
    rintro _ rfl
    conv => whnf
    refine call_pure (ptext_f s (by omega)) rfl ?_
    rintro _ rfl
    conv => whnf
    refine ⟨⟨by omega, by simp only [show ti5.bytes = 1 from rfl]; omega⟩, ?_⟩
    conv => whnf
    refine app_two ([] : List UInt8) a rfl rfl (fun j hj => absurd hj (by simp)) (fun j hj => rfl) ?_
    rw [List.nil_append]
    conv => whnf
    refine ⟨⟨by (try simp only [List.length_append]); omega, by simp only [List.length_append, show ti5.bytes = 1 from rfl]; omega⟩, ?_⟩
    conv => whnf
    refine app_two (a) (putN v) rfl rfl (fun j hj => rfl) (fun j hj => rfl) ?_
    conv => whnf
    refine ⟨⟨by (try simp only [List.length_append]); omega, by simp only [List.length_append, show ti5.bytes = 1 from rfl]; omega⟩, ?_⟩
    conv => whnf
    refine app_two (a ++ putN v) (r) rfl rfl (fun j hj => rfl) (fun j hj => rfl) ?_
    conv => whnf
    refine ⟨fun _ _ => rfl, ?_⟩
    conv => whnf
    refine call_pure (get_c (a ++ putN v ++ r) (by simp; omega) (a.length : Nat) (by omega) (by omega)) rfl ?_
    rintro _ rfl
    rw [getN_put v hv]
    conv => whnf
    refine ⟨⟨by omega, by simp only [show ti5.bytes = 1 from rfl]; omega⟩, ?_⟩
    conv => whnf
    refine app_two ([] : List UInt8) a rfl rfl (fun j hj => absurd hj (by simp)) (fun j hj => rfl) ?_
    rw [List.nil_append]
    conv => whnf
    refine ⟨⟨by (try simp only [List.length_append]); omega, by simp only [List.length_append, show ti5.bytes = 1 from rfl]; omega⟩, ?_⟩
    conv => whnf
    refine app_two (a) (putT s) rfl rfl (fun j hj => rfl) (fun j hj => rfl) ?_
    conv => whnf
    refine ⟨⟨by (try simp only [List.length_append]); omega, by simp only [List.length_append, show ti5.bytes = 1 from rfl]; omega⟩, ?_⟩
    conv => whnf
    refine app_two (a ++ putT s) (r) rfl rfl (fun j hj => rfl) (fun j hj => rfl) ?_
    conv => whnf
    refine ⟨fun _ _ => rfl, ?_⟩
    conv => whnf
    refine call_pure (gtext_c (a ++ putT s ++ r) (by simp; omega) (a.length : Nat) (by omega) (by omega)) rfl ?_
    rintro _ rfl
    rw [getT_put s (by omega) hok]
    conv => whnf
    refine call_pure (pick_c cut ((putN v).length : Nat) hc1 hc2 (by omega) (by omega)) rfl ?_
    rintro _ rfl
    obtain ⟨k1, hk1⟩ : ∃ k : Nat, cut % ((putN v).length : Nat) = (k : Int) := ⟨(cut % ((putN v).length : Nat)).toNat, by rw [Int.toNat_of_nonneg (Int.emod_nonneg _ (by omega))]⟩
    have hk1l : k1 < (putN v).length := by
      have := Int.emod_lt_of_pos cut (show (0 : Int) < ((putN v).length : Nat) by omega)
      omega
    rw [hk1]
    conv => whnf
    refine ⟨by omega, ?_⟩
    conv => whnf
    refine sl_ex (enc := b1) (d := 0) ((putN v).take k1) (by rw [List.length_take, ti_nat]; show _ = k1 - 0; omega) (fun j hj => ?_) ?_
    · rw [List.length_take] at hj
      rw [getD_take _ _ _ _ (by omega)]
      show _ = byteF (putN v) (0 + j)
      rw [Nat.zero_add]
    conv => whnf
    refine call_pure (get_c ((putN v).take k1) (by rw [List.length_take]; omega) 0 (by decide) (by decide)) rfl ?_
    rintro _ rfl
    rw [getN_cut v hv k1 hk1l]
    conv => whnf
    refine call_pure (pick_c cut ((putT s).length : Nat) hc1 hc2 (by omega) (by omega)) rfl ?_
    rintro _ rfl
    obtain ⟨k2, hk2⟩ : ∃ k : Nat, cut % ((putT s).length : Nat) = (k : Int) := ⟨(cut % ((putT s).length : Nat)).toNat, by rw [Int.toNat_of_nonneg (Int.emod_nonneg _ (by omega))]⟩
    have hk2l : k2 < (putT s).length := by
      have := Int.emod_lt_of_pos cut (show (0 : Int) < ((putT s).length : Nat) by omega)
      omega
    rw [hk2]
    conv => whnf
    refine ⟨by omega, ?_⟩
    conv => whnf
    refine sl_ex (enc := b1) (d := 0) ((putT s).take k2) (by rw [List.length_take, ti_nat]; show _ = k2 - 0; omega) (fun j hj => ?_) ?_
    · rw [List.length_take] at hj
      rw [getD_take _ _ _ _ (by omega)]
      show _ = byteF (putT s) (0 + j)
      rw [Nat.zero_add]
    conv => whnf
    refine call_pure (gtext_c ((putT s).take k2) (by rw [List.length_take]; omega) 0 (by decide) (by decide)) rfl ?_
    rintro _ rfl
    rw [getT_cut s (by omega) k2 hk2l]
    conv => whnf
    refine onB_intro (fun h => absurd h (by simp [pickB, isLit])) (fun h => ?_)
    clear h
    conv => whnf
    refine call_pure (get_c r (by omega) 0 (by decide) (by decide)) rfl ?_
    rintro _ rfl
    cases hg : getN r 0 with
    | none =>
      conv => whnf
      refine drawV_sched (.rd 0 (.rd 1 (.rd 2 (.rd 3 (.rd 4 (.rd 5 (.rd 6 (.rd 7 (.rd 8 (.rd 9 (.rd 10 (.rd 13 (.rd 14 (.rd 15 (.rd 16 (.rd 17 (.rd 18 (.rd 19 (.rd 20 (.ef 11 (.rd 12 (.rd 21 (.rd 22 (.rd 23 (.rd 24 (.rd 25 (.nil))))))))))))))))))))))))))) [] mixed (by kernel_rfl) ttok ftok ?_
      conv => whnf
      try rfl
    | some x =>
      obtain ⟨y, m⟩ := x
      obtain ⟨g1, g2, g3⟩ := put_get r hg
      conv => whnf
      refine drawV_sched (.rd 0 (.rd 1 (.rd 2 (.rd 3 (.rd 4 (.rd 5 (.rd 6 (.rd 7 (.rd 8 (.rd 9 (.rd 10 (.rd 13 (.rd 14 (.rd 15 (.rd 16 (.rd 17 (.rd 18 (.rd 19 (.rd 20 (.ef 11 (.rd 12 (.rd 21 (.rd 22 (.rd 23 (.rd 24 (.rd 25 (.nil))))))))))))))))))))))))))) [] mixed (by kernel_rfl) ttok ftok ?_
      conv => whnf
      rw [show decide ((m : Int) ≤ (r.length : Int)) = true from decide_eq_true (by omega)]
      conv => whnf
      have em : maxI (minI (m : Int) (r.length : Int)) 0 = (m : Int) := by unfold maxI minI; split <;> split <;> omega
      simp only [em, ti_nat]
      refine ⟨by omega, ?_⟩
      refine sl_ex (enc := b1) (d := 0) (r.take m) (by rw [List.length_take]; show _ = m - 0; omega) (fun j hj => ?_) ?_
      · rw [List.length_take] at hj
        rw [getD_take _ _ _ _ (by omega)]
        show _ = byteF r (0 + j)
        rw [Nat.zero_add]
      conv => whnf
      refine ⟨r.take m, rfl, fun _ _ => rfl, ?_⟩
      conv => whnf
      refine call_pure (put_f y g2) rfl ?_
      rintro _ rfl
      rw [g3]
      conv => whnf
      refine ⟨r.take m, rfl, fun _ _ => rfl, ?_⟩
      conv => whnf
      rw [show decide ((⟨(r.take m).toArray⟩ : ByteArray) = ⟨(r.take m).toArray⟩) = true from decide_eq_true rfl]
      try rfl
theorem wireBack_law : ∀ avs, RdArgs tt 1048576 30 [22, 9, 23, 23, 3] avs → CallV Tryd.prog 4 avs [] (fun r own' => own' = [] ∧ r = vcb true) := by
  rintro avs ⟨a0, r0, ⟨c0, ⟨v, wv, e0⟩, rfl⟩, ⟨a1, r1, ⟨c1, ⟨s, hs, e1⟩, rfl⟩, ⟨a2, r2, h2, ⟨a3, r3, h3, ⟨a4, r4, ⟨c4, ⟨cut, wa, e4⟩, rfl⟩, rfl, rfl⟩, rfl⟩, rfl⟩, rfl⟩, rfl⟩
  cases e0
  cases e1
  cases e4
  have wv := wf_u32 wv
  have wa := wf_i64 wa
  obtain ⟨a, ha, hda⟩ := rd_bytes h2
  obtain ⟨r, hr, hdr⟩ := rd_bytes h3
  obtain ⟨v, rfl⟩ : ∃ n : Nat, v = (n : Int) := ⟨v.toNat, by omega⟩
  refine callV_args (argsLe_same (argsLe_same (argsLe_cons hda (argsLe_cons hdr (argsLe_refl _))))) ?_
  exact wback_c v (by omega) s hs a ha r hr cut wa.1 wa.2
end Go.Eng
