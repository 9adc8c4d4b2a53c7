/- The example at the head of the laws of bytes; the law WireTells. -/
import Derived.Test.YteglopjljejjkaaDoorBWire2
import Derived.Test.YteglopjljejjkaaDoorA25
import Derived.Test.YteglopjljejjkaaDoorA21
set_option linter.unusedVariables false
set_option linter.unusedSimpArgs false
set_option maxRecDepth 100000
set_option maxHeartbeats 4000000
namespace Go.Eng
open Go Go.RowKit Go.Proofs
theorem byte_clo (b : List UInt8) : ∀ j, j < b.length → (byteF b j).all clo = true := fun j hj => rfl
theorem put_f (v : Nat) (hv : v < 4294967296) : CallV Tryd.prog 13 [vci .u32 (v : Nat)] [] (fun r own' => own' = [] ∧ r = bS (putN v)) :=
  callV_frzR (i := 0) (e := 5) (byte_clo _) ((put_c v hv).mono fun r o h => ⟨h.2, by rw [h.1]; rfl⟩)
theorem rput_f (v : Nat) (hv : v < 4294967296) : CallV Tryd.prog 14 [vci .u32 (v : Nat)] [] (fun r own' => own' = [] ∧ r = bS (putN v)) :=
  callV_frzR (i := 0) (e := 5) (byte_clo _) ((rput_c v hv).mono fun r o h => ⟨h.2, by rw [h.1]; rfl⟩)
theorem ptext_f (s : ByteArray) (hs : s.size ≤ 1000000000) : CallV Tryd.prog 15 [vcs s] [] (fun r own' => own' = [] ∧ r = bS (putT s)) :=
  callV_frzR (i := 1) (e := 5) (byte_clo _) ((ptext_c s hs).mono fun r o h => ⟨h.2, by rw [h.1]; rfl⟩)
theorem rptext_f (s : ByteArray) (hs : s.size ≤ 1000000000) : CallV Tryd.prog 16 [vcs s] [] (fun r own' => own' = [] ∧ r = bS (putT s)) :=
  callV_frzR (i := 1) (e := 5) (byte_clo _) ((rptext_c s hs).mono fun r o h => ⟨h.2, by rw [h.1]; rfl⟩)
theorem be_1 : be 1 = [1] := by rw [be_pos (by decide), show 1 / 256 = 0 from rfl, be_0]; rfl
theorem be_258 : be 258 = [1, 2] := by rw [be_pos (by decide), show 258 / 256 = 1 from rfl, be_1]; rfl
theorem put_258 : putN 258 = [2, 1, 2] := by unfold putN; rw [be_258]; rfl
theorem put_a : putT ⟨#[97]⟩ = [1, 1, 97] := by unfold putT putN; rw [show (⟨#[97]⟩ : ByteArray).size = 1 from rfl, be_1]; rfl
theorem get_212 : getN [2, 1, 2] 0 = some (258, 3) := by decide
theorem three_b (a b c : UInt8) {k : Nat} (hk : k < 3) : byteF [a, b, c] k = [b1 a, b1 b, b1 c].getD k [] := by
  match k, hk with
  | 0, _ => rfl
  | 1, _ => rfl
  | 2, _ => rfl
theorem up_c : CallV Tryd.prog 7 [] [] (fun r own' => own' = [] ∧ r = vcb true) := by
  refine callV_pure Tryd.func7 rfl ttok ftok rfl rfl rfl (Nat.le_of_ble_eq_true rfl) ?_
  conv => whnf
  refine ⟨byteF [2, 1, 2], fun k hk => three_b _ _ _ hk, ?_⟩
  conv => whnf
  refine ⟨fun _ _ => rfl, ?_⟩
  conv => whnf
  refine call_pure (get_c [2, 1, 2] (by decide) 0 (by decide) (by decide)) rfl ?_
  rintro _ rfl
  rw [get_212]
  conv => whnf
  refine drawV_sched (.alt (.ef 0 (.rd 1 (.ef 2 (.rd 3 (.rd 4 (.rd 5 (.rd 6 (.rd 7 (.rd 8 (.rd 9 (.rd 10 (.rd 11 (.rd 12 (.rd 13 (.rd 14 (.rd 15 (.rd 16 (.rd 17 (.alt (.ef 18 (.rd 19 (.ef 20 (.rd 21 (.rd 22 (.rd 23 (.rd 24 (.nil)))))))) (.ef 20 (.rd 21 (.ef 18 (.rd 19 (.rd 22 (.rd 23 (.rd 24 (.nil))))))))))))))))))))))))))) (.ef 2 (.rd 3 (.ef 0 (.rd 1 (.rd 4 (.rd 5 (.rd 6 (.rd 7 (.rd 8 (.rd 9 (.rd 10 (.rd 11 (.rd 12 (.rd 13 (.rd 14 (.rd 15 (.rd 16 (.rd 17 (.alt (.ef 18 (.rd 19 (.ef 20 (.rd 21 (.rd 22 (.rd 23 (.rd 24 (.nil)))))))) (.ef 20 (.rd 21 (.ef 18 (.rd 19 (.rd 22 (.rd 23 (.rd 24 (.nil)))))))))))))))))))))))))))) [] mixed (by kernel_rfl) ttok ftok ?_
  conv => whnf
  refine ⟨?_, ?_⟩
  · conv => whnf
    refine call_pure (put_f 258 (by decide)) rfl ?_
    rintro _ rfl
    rw [put_258]
    conv => whnf
    refine ⟨[2, 1, 2], rfl, fun _ _ => rfl, ?_⟩
    conv => whnf
    refine ⟨byteF [2, 1, 2], fun k hk => three_b _ _ _ hk, ?_⟩
    conv => whnf
    refine ⟨[2, 1, 2], rfl, fun _ _ => rfl, ?_⟩
    conv => whnf
    refine ⟨?_, ?_⟩
    · conv => whnf
      refine call_pure (ptext_f ⟨#[97]⟩ (by decide)) rfl ?_
      rintro _ rfl
      rw [put_a]
      conv => whnf
      refine ⟨[1, 1, 97], rfl, fun _ _ => rfl, ?_⟩
      conv => whnf
      refine ⟨byteF [1, 1, 97], fun k hk => three_b _ _ _ hk, ?_⟩
      conv => whnf
      refine ⟨[1, 1, 97], rfl, fun _ _ => rfl, ?_⟩
      conv => whnf
      try rfl
    · conv => whnf
      refine ⟨byteF [1, 1, 97], fun k hk => three_b _ _ _ hk, ?_⟩
      conv => whnf
      refine ⟨[1, 1, 97], rfl, fun _ _ => rfl, ?_⟩
      conv => whnf
      refine call_pure (ptext_f ⟨#[97]⟩ (by decide)) rfl ?_
      rintro _ rfl
      rw [put_a]
      conv => whnf
      refine ⟨[1, 1, 97], rfl, fun _ _ => rfl, ?_⟩
      conv => whnf
      try rfl
  · conv => whnf
    refine ⟨byteF [2, 1, 2], fun k hk => three_b _ _ _ hk, ?_⟩
    conv => whnf
    refine ⟨[2, 1, 2], rfl, fun _ _ => rfl, ?_⟩
    conv => whnf
    refine call_pure (put_f 258 (by decide)) rfl ?_
    rintro _ rfl
    rw [put_258]
    conv => whnf
    refine ⟨[2, 1, 2], rfl, fun _ _ => rfl, ?_⟩
    conv => whnf
    refine ⟨?_, ?_⟩
    · conv => whnf
      refine call_pure (ptext_f ⟨#[97]⟩ (by decide)) rfl ?_
      rintro _ rfl
      rw [put_a]
      conv => whnf
      refine ⟨[1, 1, 97], rfl, fun _ _ => rfl, ?_⟩
      conv => whnf
      refine ⟨byteF [1, 1, 97], fun k hk => three_b _ _ _ hk, ?_⟩
      conv => whnf
      refine ⟨[1, 1, 97], rfl, fun _ _ => rfl, ?_⟩
      conv => whnf
      try rfl
    · conv => whnf
      refine ⟨byteF [1, 1, 97], fun k hk => three_b _ _ _ hk, ?_⟩
      conv => whnf
      refine ⟨[1, 1, 97], rfl, fun _ _ => rfl, ?_⟩
      conv => whnf
      refine call_pure (ptext_f ⟨#[97]⟩ (by decide)) rfl ?_
      rintro _ rfl
      rw [put_a]
      conv => whnf
      refine ⟨[1, 1, 97], rfl, fun _ _ => rfl, ?_⟩
      conv => whnf
      try rfl
end Go.Eng
