/- The law WireTells. -/
import Derived.Test.YteglopjljejjkaaDoorBWire3
set_option linter.unusedVariables false
set_option linter.unusedSimpArgs false
set_option maxRecDepth 100000
set_option maxHeartbeats 4000000
namespace Go.Eng
open Go Go.RowKit Go.Proofs
theorem rd_byte {B d : Nat} {cs : List IC} (h : Rd tt B (d + 1) 5 cs) : ∃ c : UInt8, True ∧ cs = b1 c := by
  obtain ⟨v, w, rfl⟩ := h
  have := wf_u8 w
  refine ⟨UInt8.ofNat v.toNat, trivial, ?_⟩
  rw [b1, nb (by omega), Int.toNat_of_nonneg this.1]
theorem rd_bytes {B d : Nat} {a : AV} (h : RdA tt B (d + 2) 23 a) : ∃ l : List UInt8, l.length ≤ B ∧ ∀ (L : Nat → Value) (hp : Hp) v, DenA L hp a v → DenA L hp (bS l) v := by
  obtain ⟨c, ⟨n, f, hn, hf, e⟩, rfl⟩ := h
  cases e
  obtain ⟨l, hl, hf2, _⟩ := list_of (enc := b1) (R := fun _ => True) (0 : UInt8) (fun k hk => rd_byte (hf k hk))
  refine ⟨l, by omega, fun L hp v hd => ?_⟩
  subst hl
  exact den_sl_ext hd (fun k hk => (hf2 k hk).symm)
theorem tells_c (v : Nat) (hv : v < 4294967296) (s : ByteArray) (hs : s.size ≤ 1048576) (b : List UInt8) (hb : b.length ≤ 1048576) (at_ : Int) (ha1 : -9223372036854775808 ≤ at_) (ha2 : at_ ≤ 9223372036854775807) :
    CallV Tryd.prog 3 [vci .u32 (v : Nat), vcs s, bS b, vci .i64 at_] [] (fun r own' => own' = [] ∧ r = vcb true) := by
  refine callV_pure Tryd.func3 rfl ttok ftok rfl rfl rfl (Nat.le_of_ble_eq_true rfl) ?_
  conv => whnf
  refine call_pure (up_c) rfl ?_
  rintro _ rfl
  conv => whnf
  refine ⟨by omega, ?_⟩
  conv => whnf
  refine onB_intro (fun h => ?_) (fun h => ?_)
  · conv => whnf
    try rfl
  clear h
  conv => whnf
  refine call_pure (get_c b (by omega) at_ ha1 ha2) rfl ?_
  rintro _ rfl
  cases hg : getN b at_ with
  | none =>
    have ht : getT b at_ = none := by unfold getT; rw [hg]
    conv => whnf
    refine call_pure (rget_c b (by omega) at_ ha1 ha2) rfl ?_
    rintro _ rfl
    rw [hg]
    conv => whnf
    refine call_pure (gtext_c b (by omega) at_ ha1 ha2) rfl ?_
    rintro _ rfl
    rw [ht]
    conv => whnf
    refine call_pure (rgtext_c b (by omega) at_ ha1 ha2) rfl ?_
    rintro _ rfl
    rw [ht]
    conv => whnf
    refine call_pure (code_2) rfl ?_
    rintro _ rfl
    conv => whnf
    refine call_pure (code_2) rfl ?_
    rintro _ rfl
    conv => whnf
    refine drawV_sched (.rd 0 (.rd 1 (.rd 2 (.rd 5 (.ef 3 (.rd 4 (.ef 6 (.rd 7 (.rd 8 (.rd 9 (.rd 10 (.rd 11 (.rd 14 (.ef 12 (.rd 13 (.ef 15 (.rd 16 (.rd 17 (.rd 18 (.rd 19 (.nil))))))))))))))))))))) [] mixed (by kernel_rfl) ttok ftok ?_
    conv => whnf
    refine call_pure (put_f v hv) rfl ?_
    rintro _ rfl
    conv => whnf
    refine ⟨putN v, rfl, fun _ _ => rfl, ?_⟩
    conv => whnf
    refine call_pure (rput_f v hv) rfl ?_
    rintro _ rfl
    conv => whnf
    refine ⟨putN v, rfl, fun _ _ => rfl, ?_⟩
    conv => whnf
    rw [show decide ((⟨(putN v).toArray⟩ : ByteArray) = (⟨(putN v).toArray⟩ : ByteArray)) = true from decide_eq_true rfl]
    conv => whnf
    refine call_pure (ptext_f s (by omega)) rfl ?_
    rintro _ rfl
    conv => whnf
    refine ⟨putT s, rfl, fun _ _ => rfl, ?_⟩
    conv => whnf
    refine call_pure (rptext_f s (by omega)) rfl ?_
    rintro _ rfl
    conv => whnf
    refine ⟨putT s, rfl, fun _ _ => rfl, ?_⟩
    conv => whnf
    rw [show decide ((⟨(putT s).toArray⟩ : ByteArray) = ⟨(putT s).toArray⟩) = true from decide_eq_true rfl]
    try rfl
  | some x =>
    obtain ⟨x, n⟩ := x
    conv => whnf
    refine call_pure (rget_c b (by omega) at_ ha1 ha2) rfl ?_
    rintro _ rfl
    rw [hg]
    conv => whnf
    refine call_pure (gtext_c b (by omega) at_ ha1 ha2) rfl ?_
    rintro _ rfl
    cases ht : getT b at_ with
    | none =>
      conv => whnf
      refine call_pure (rgtext_c b (by omega) at_ ha1 ha2) rfl ?_
      rintro _ rfl
      rw [ht]
      conv => whnf
      rw [show (((x : Nat) : Int) != x) = false from bne_self_eq_false _]
      conv => whnf
      rw [show (((n : Nat) : Int) != n) = false from bne_self_eq_false _]
      conv => whnf
      refine call_pure (code_2) rfl ?_
      rintro _ rfl
      conv => whnf
      refine drawV_sched (.rd 0 (.rd 1 (.rd 2 (.rd 5 (.ef 3 (.rd 4 (.ef 6 (.rd 7 (.rd 8 (.rd 9 (.rd 10 (.rd 11 (.rd 14 (.ef 12 (.rd 13 (.ef 15 (.rd 16 (.rd 17 (.rd 18 (.rd 19 (.nil))))))))))))))))))))) [] mixed (by kernel_rfl) ttok ftok ?_
      conv => whnf
      refine call_pure (put_f v hv) rfl ?_
      rintro _ rfl
      conv => whnf
      refine ⟨putN v, rfl, fun _ _ => rfl, ?_⟩
      conv => whnf
      refine call_pure (rput_f v hv) rfl ?_
      rintro _ rfl
      conv => whnf
      refine ⟨putN v, rfl, fun _ _ => rfl, ?_⟩
      conv => whnf
      rw [show decide ((⟨(putN v).toArray⟩ : ByteArray) = (⟨(putN v).toArray⟩ : ByteArray)) = true from decide_eq_true rfl]
      conv => whnf
      refine call_pure (ptext_f s (by omega)) rfl ?_
      rintro _ rfl
      conv => whnf
      refine ⟨putT s, rfl, fun _ _ => rfl, ?_⟩
      conv => whnf
      refine call_pure (rptext_f s (by omega)) rfl ?_
      rintro _ rfl
      conv => whnf
      refine ⟨putT s, rfl, fun _ _ => rfl, ?_⟩
      conv => whnf
      rw [show decide ((⟨(putT s).toArray⟩ : ByteArray) = ⟨(putT s).toArray⟩) = true from decide_eq_true rfl]
      try rfl
    | some y =>
      obtain ⟨t, k⟩ := y
      conv => whnf
      refine call_pure (rgtext_c b (by omega) at_ ha1 ha2) rfl ?_
      rintro _ rfl
      rw [ht]
      conv => whnf
      rw [show (((x : Nat) : Int) != x) = false from bne_self_eq_false _]
      conv => whnf
      rw [show (((n : Nat) : Int) != n) = false from bne_self_eq_false _]
      conv => whnf
      rw [show decide (t = t) = true from decide_eq_true rfl]
      conv => whnf
      rw [show (((k : Nat) : Int) != k) = false from bne_self_eq_false _]
      conv => whnf
      refine drawV_sched (.rd 0 (.rd 1 (.rd 2 (.rd 5 (.ef 3 (.rd 4 (.ef 6 (.rd 7 (.rd 8 (.rd 9 (.rd 10 (.rd 11 (.rd 14 (.ef 12 (.rd 13 (.ef 15 (.rd 16 (.rd 17 (.rd 18 (.rd 19 (.nil))))))))))))))))))))) [] mixed (by kernel_rfl) ttok ftok ?_
      conv => whnf
      refine call_pure (put_f v hv) rfl ?_
      rintro _ rfl
      conv => whnf
      refine ⟨putN v, rfl, fun _ _ => rfl, ?_⟩
      conv => whnf
      refine call_pure (rput_f v hv) rfl ?_
      rintro _ rfl
      conv => whnf
      refine ⟨putN v, rfl, fun _ _ => rfl, ?_⟩
      conv => whnf
      rw [show decide ((⟨(putN v).toArray⟩ : ByteArray) = (⟨(putN v).toArray⟩ : ByteArray)) = true from decide_eq_true rfl]
      conv => whnf
      refine call_pure (ptext_f s (by omega)) rfl ?_
      rintro _ rfl
      conv => whnf
      refine ⟨putT s, rfl, fun _ _ => rfl, ?_⟩
      conv => whnf
      refine call_pure (rptext_f s (by omega)) rfl ?_
      rintro _ rfl
      conv => whnf
      refine ⟨putT s, rfl, fun _ _ => rfl, ?_⟩
      conv => whnf
      rw [show decide ((⟨(putT s).toArray⟩ : ByteArray) = ⟨(putT s).toArray⟩) = true from decide_eq_true rfl]
      try rfl
theorem wireTells_law : ∀ avs, RdArgs tt 1048576 30 [22, 9, 23, 3] avs → CallV Tryd.prog 3 avs [] (fun r own' => own' = [] ∧ r = vcb true) := by
  rintro avs ⟨a0, r0, ⟨c0, ⟨v, wv, e0⟩, rfl⟩, ⟨a1, r1, ⟨c1, ⟨s, hs, e1⟩, rfl⟩, ⟨a2, r2, h2, ⟨a3, r3, ⟨c3, ⟨at_, wa, e3⟩, rfl⟩, rfl, rfl⟩, rfl⟩, rfl⟩, rfl⟩
  cases e0
  cases e1
  cases e3
  have wv := wf_u32 wv
  have wa := wf_i64 wa
  obtain ⟨b, hb, hd⟩ := rd_bytes h2
  obtain ⟨v, rfl⟩ : ∃ n : Nat, v = (n : Int) := ⟨v.toNat, by omega⟩
  refine callV_args (argsLe_same (argsLe_same (argsLe_cons hd (argsLe_refl _)))) ?_
  exact tells_c v (by omega) s hs b hb at_ wa.1 wa.2
end Go.Eng
