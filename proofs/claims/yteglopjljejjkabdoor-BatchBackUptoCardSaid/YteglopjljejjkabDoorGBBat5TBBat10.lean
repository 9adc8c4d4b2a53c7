/- A part of the proof: what the functions of the program come to, told by a small reckoner of states. -/
import Derived.Test.YteglopjljejjkabDoorGBRuns5TBBat4
/- Batches: the reader of bytes. -/
set_option linter.unusedVariables false
set_option linter.unusedSimpArgs false
set_option maxRecDepth 100000
set_option maxHeartbeats 4000000
namespace Go.Eng
open Go Go.RowKit Go.Proofs
abbrev RS := Nat × Bool
abbrev badC (bad : Bool) : IC := .v (match bad with | true => .iface 58 (.int .i64 2) | false => .nilIface)
abbrev rO (b : List UInt8) (s : RS) : Option Ob := some (.cells 67 [.sl 1 b.length (byteF b), vi s.1, badC s.2])
def numS (b : List UInt8) (s : RS) : Nat × RS := match s.2 with
  | true => (0, s)
  | false => match getN b s.1 with
    | some (v, n) => (v, (s.1 + n, false))
    | none => (0, (s.1, true))
theorem numS_le {b : List UInt8} {s : RS} (h : s.1 ≤ b.length) : (numS b s).2.1 ≤ b.length ∧ (numS b s).1 < 4294967296 := by
  obtain ⟨at_, bad⟩ := s
  unfold numS
  cases bad with
  | true => exact ⟨h, Nat.zero_lt_succ _⟩
  | false =>
    simp only
    cases hg : getN b (at_ : Nat) with
    | none => exact ⟨h, Nat.zero_lt_succ _⟩
    | some x =>
      obtain ⟨v, n⟩ := x
      obtain ⟨i, hi, h1, h2, h3, h4, h5, _⟩ := getN_some hg
      obtain rfl : at_ = i := by omega
      exact ⟨h4, h5⟩
theorem number_c (b : List UInt8) (hb : b.length ≤ 100000) (s : RS) (hs : s.1 ≤ b.length) : CallV Tryd.prog 26 [.c (.own 0 0)] [rO b s] (fun r own' => r = vci .u32 ((numS b s).1 : Nat) ∧ own' = [rO b (numS b s).2]) := by
  obtain ⟨at_, bad⟩ := s
  simp only at hs
  refine callV_own Tryd.func26 rfl ttok ftok rfl rfl rfl (Nat.le_of_ble_eq_true rfl) rfl ?_
  conv => whnf
  cases bad with
  | true =>
    conv => whnf
    refine ⟨_, Weak.refl _, ?_⟩
    conv => whnf
    exact ⟨[some 0], rfl, rfl, rfl, rfl⟩
  | false =>
    conv => whnf
    refine drawV_sched (.rd 0 (.rd 1 (.rd 2 (.rd 3 (.rd 4 (.rd 5 (.rd 6 (.rd 7 (.ef 8 (.rd 9 (.rd 10 (.rd 11 (.rd 12 (.rd 13 (.rd 14 (.rd 15 (.nil))))))))))))))))) [] mixed (by kernel_rfl) ttok ftok ?_
    conv => whnf
    refine call_pure (get_c b (by omega) (at_ : Nat) (by omega) (by omega)) rfl ?_
    rintro _ rfl
    have hle := numS_le (b := b) (s := (at_, false)) hs
    cases hg : getN b (at_ : Nat) with
    | none =>
      have he : numS b (at_, false) = (0, (at_, true)) := by unfold numS; simp only [hg]
      rw [he]
      have e1 : IntKind.i64.wrap ((at_ : Int) + 0) = (at_ : Int) := by rw [Int.add_zero]; exact w_i64 (by omega) (by omega)
      conv => whnf
      simp only [e1]
      refine ⟨_, Weak.refl _, ?_⟩
      conv => whnf
      exact ⟨[some 0], rfl, rfl, rfl, rfl⟩
    | some x =>
      obtain ⟨v, n⟩ := x
      have he : numS b (at_, false) = (v, (at_ + n, false)) := by unfold numS; simp only [hg]
      rw [he] at hle ⊢
      simp only at hle
      have e1 : IntKind.i64.wrap ((at_ : Int) + (n : Int)) = ((at_ + n : Nat) : Int) := by rw [w_i64 (by omega) (by omega)]; omega
      conv => whnf
      simp only [e1]
      refine ⟨_, Weak.refl _, ?_⟩
      conv => whnf
      exact ⟨[some 0], rfl, rfl, rfl, rfl⟩
def idS (b : List UInt8) (s : RS) : I2 × RS := (((numS b s).1, (numS b (numS b s).2).1), (numS b (numS b s).2).2)
theorem rdid_c (b : List UInt8) (hb : b.length ≤ 100000) (s : RS) (hs : s.1 ≤ b.length) : CallV Tryd.prog 43 [.c (.own 0 0)] [rO b s] (fun r own' => r = idA (idS b s).1 ∧ own' = [rO b (idS b s).2]) := by
  have h1 := numS_le hs
  refine callV_own Tryd.func43 rfl ttok ftok rfl rfl rfl (Nat.le_of_ble_eq_true rfl) rfl ?_
  conv => whnf
  refine call_frame2 [some 0] rfl rfl rfl rfl (number_c b hb s hs) ?_
  rintro r own2 ⟨rfl, rfl⟩
  refine ⟨_, _, rfl, rfl, ?_⟩
  conv => whnf
  refine call_frame2 [some 0] rfl rfl rfl rfl (number_c b hb (numS b s).2 h1.1) ?_
  rintro r own2 ⟨rfl, rfl⟩
  refine ⟨_, _, rfl, rfl, ?_⟩
  conv => whnf
  refine ⟨_, Weak.refl _, ?_⟩
  conv => whnf
  exact ⟨[some 0], rfl, rfl, rfl, rfl⟩
theorem idS_le {b : List UInt8} {s : RS} (h : s.1 ≤ b.length) : (idS b s).2.1 ≤ b.length ∧ u32P (idS b s).1 := by
  have h1 := numS_le h
  have h2 := numS_le h1.1
  refine ⟨h2.1, ?_⟩
  unfold idS u32P
  refine ⟨⟨by simp only; omega, by simp only; omega⟩, by simp only; omega, by simp only; omega⟩
def txtS (b : List UInt8) (s : RS) : ByteArray × RS := match s.2 with
  | true => (⟨#[]⟩, s)
  | false => match getT b s.1 with
    | some (t, n) => (t, (s.1 + n, false))
    | none => (⟨#[]⟩, (s.1, true))
theorem getT_le {b : List UInt8} {i : Nat} {t : ByteArray} {n : Nat} (h : getT b (i : Nat) = some (t, n)) : i + n ≤ b.length ∧ t.size ≤ n ∧ 1 ≤ n := by
  unfold getT at h
  split at h
  · cases h
  · rename_i m k hg
    obtain ⟨i', hi, h1, h2, h3, h4, h5, _⟩ := getN_some hg
    obtain rfl : i = i' := by omega
    split at h
    · cases h
    · split at h
      · cases h
        refine ⟨by omega, ?_, by omega⟩
        show ((List.take m (List.drop ((i : Int).toNat + k) b)).toArray).size ≤ _
        simp
        omega
      · cases h
theorem txtS_le {b : List UInt8} {s : RS} (h : s.1 ≤ b.length) : (txtS b s).2.1 ≤ b.length ∧ (txtS b s).1.size ≤ b.length := by
  obtain ⟨at_, bad⟩ := s
  unfold txtS
  cases bad with
  | true => exact ⟨h, Nat.zero_le _⟩
  | false =>
    simp only
    cases hg : getT b (at_ : Nat) with
    | none => exact ⟨h, Nat.zero_le _⟩
    | some x =>
      obtain ⟨t, n⟩ := x
      have := getT_le hg
      exact ⟨this.1, by simp only; omega⟩
theorem rdtext_c (b : List UInt8) (hb : b.length ≤ 100000) (s : RS) (hs : s.1 ≤ b.length) : CallV Tryd.prog 44 [.c (.own 0 0)] [rO b s] (fun r own' => r = vcs (txtS b s).1 ∧ own' = [rO b (txtS b s).2]) := by
  obtain ⟨at_, bad⟩ := s
  simp only at hs
  refine callV_own Tryd.func44 rfl ttok ftok rfl rfl rfl (Nat.le_of_ble_eq_true rfl) rfl ?_
  conv => whnf
  cases bad with
  | true =>
    conv => whnf
    refine ⟨_, Weak.refl _, ?_⟩
    conv => whnf
    exact ⟨[some 0], rfl, rfl, rfl, rfl⟩
  | false =>
    conv => whnf
    refine drawV_sched (.rd 0 (.rd 1 (.rd 2 (.rd 3 (.rd 4 (.rd 5 (.rd 6 (.rd 7 (.ef 8 (.rd 9 (.rd 10 (.rd 11 (.rd 12 (.rd 13 (.rd 14 (.rd 15 (.nil))))))))))))))))) [] mixed (by kernel_rfl) ttok ftok ?_
    conv => whnf
    refine call_pure (gtext_c b (by omega) (at_ : Nat) (by omega) (by omega)) rfl ?_
    rintro _ rfl
    have hle := txtS_le (b := b) (s := (at_, false)) hs
    cases hg : getT b (at_ : Nat) with
    | none =>
      have he : txtS b (at_, false) = (⟨#[]⟩, (at_, true)) := by unfold txtS; simp only [hg]
      rw [he]
      have e1 : IntKind.i64.wrap ((at_ : Int) + 0) = (at_ : Int) := by rw [Int.add_zero]; exact w_i64 (by omega) (by omega)
      conv => whnf
      simp only [e1]
      refine ⟨_, Weak.refl _, ?_⟩
      conv => whnf
      exact ⟨[some 0], rfl, rfl, rfl, rfl⟩
    | some x =>
      obtain ⟨v, n⟩ := x
      have he : txtS b (at_, false) = (v, (at_ + n, false)) := by unfold txtS; simp only [hg]
      rw [he] at hle ⊢
      simp only at hle
      have e1 : IntKind.i64.wrap ((at_ : Int) + (n : Int)) = ((at_ + n : Nat) : Int) := by rw [w_i64 (by omega) (by omega)]; omega
      conv => whnf
      simp only [e1]
      refine ⟨_, Weak.refl _, ?_⟩
      conv => whnf
      exact ⟨[some 0], rfl, rfl, rfl, rfl⟩
def runS (b : List UInt8) (s : RS) : Ru × RS :=
  let a := idS b s
  let l := idS b a.2
  let r := idS b l.2
  let t := txtS b r.2
  (⟨a.1, l.1, r.1, t.1⟩, t.2)
theorem runS_le {b : List UInt8} {s : RS} (h : s.1 ≤ b.length) (hb : b.length ≤ 100000) : (runS b s).2.1 ≤ b.length ∧ ruOk (runS b s).1 ∧ (runS b s).1.text.size ≤ b.length := by
  have h1 := idS_le h
  have h2 := idS_le h1.1
  have h3 := idS_le h2.1
  have h4 := txtS_le h3.1
  exact ⟨h4.1, ⟨h1.2, h2.2, h3.2, Nat.le_trans h4.2 (by omega)⟩, h4.2⟩
theorem rdrun_c (b : List UInt8) (hb : b.length ≤ 100000) (s : RS) (hs : s.1 ≤ b.length) : CallV Tryd.prog 27 [.c (.own 0 0)] [rO b s] (fun r own' => r = .agg (ruF (runS b s).1) ∧ own' = [rO b (runS b s).2]) := by
  have h1 := idS_le hs
  have h2 := idS_le h1.1
  have h3 := idS_le h2.1
  refine callV_own Tryd.func27 rfl ttok ftok rfl rfl rfl (Nat.le_of_ble_eq_true rfl) rfl ?_
  conv => whnf
  refine call_frame2 [some 0] rfl rfl rfl rfl (rdid_c b hb s hs) ?_
  rintro r own2 ⟨rfl, rfl⟩
  refine ⟨_, _, rfl, rfl, ?_⟩
  conv => whnf
  refine call_frame2 [some 0] rfl rfl rfl rfl (rdid_c b hb (idS b s).2 h1.1) ?_
  rintro r own2 ⟨rfl, rfl⟩
  refine ⟨_, _, rfl, rfl, ?_⟩
  conv => whnf
  refine call_frame2 [some 0] rfl rfl rfl rfl (rdid_c b hb _ h2.1) ?_
  rintro r own2 ⟨rfl, rfl⟩
  refine ⟨_, _, rfl, rfl, ?_⟩
  conv => whnf
  refine drawV_sched (.rd 0 (.rd 1 (.rd 2 (.rd 3 (.ef 4 (.rd 5 (.ef 6 (.nil)))))))) [0, 1] mixed (by kernel_rfl) ttok ftok ?_
  conv => whnf
  refine call_frame2 [some 0] rfl rfl rfl rfl (rdtext_c b hb _ h3.1) ?_
  rintro r own2 ⟨rfl, rfl⟩
  refine ⟨_, _, rfl, rfl, ?_⟩
  conv => whnf
  refine ⟨_, Weak.refl _, ?_⟩
  conv => whnf
  exact ⟨[some 0], rfl, rfl, rfl, rfl⟩
def spanS (b : List UInt8) (s : RS) : Sp × RS :=
  let c := numS b s
  let f := numS b c.2
  let t := numS b f.2
  (⟨c.1, f.1, t.1⟩, t.2)
theorem spanS_le {b : List UInt8} {s : RS} (h : s.1 ≤ b.length) : (spanS b s).2.1 ≤ b.length ∧ spOk (spanS b s).1 := by
  have h1 := numS_le h
  have h2 := numS_le h1.1
  have h3 := numS_le h2.1
  refine ⟨h3.1, ⟨?_, ?_⟩, ⟨?_, ?_⟩, ?_, ?_⟩ <;> (unfold spanS; simp only; omega)
theorem rdspan_c (b : List UInt8) (hb : b.length ≤ 100000) (s : RS) (hs : s.1 ≤ b.length) : CallV Tryd.prog 28 [.c (.own 0 0)] [rO b s] (fun r own' => r = .agg (spF (spanS b s).1) ∧ own' = [rO b (spanS b s).2]) := by
  have h1 := numS_le hs
  have h2 := numS_le h1.1
  refine callV_own Tryd.func28 rfl ttok ftok rfl rfl rfl (Nat.le_of_ble_eq_true rfl) rfl ?_
  conv => whnf
  refine call_frame2 [some 0] rfl rfl rfl rfl (number_c b hb s hs) ?_
  rintro r own2 ⟨rfl, rfl⟩
  refine ⟨_, _, rfl, rfl, ?_⟩
  conv => whnf
  refine call_frame2 [some 0] rfl rfl rfl rfl (number_c b hb _ h1.1) ?_
  rintro r own2 ⟨rfl, rfl⟩
  refine ⟨_, _, rfl, rfl, ?_⟩
  conv => whnf
  refine call_frame2 [some 0] rfl rfl rfl rfl (number_c b hb _ h2.1) ?_
  rintro r own2 ⟨rfl, rfl⟩
  refine ⟨_, _, rfl, rfl, ?_⟩
  conv => whnf
  refine ⟨_, Weak.refl _, ?_⟩
  conv => whnf
  exact ⟨[some 0], rfl, rfl, rfl, rfl⟩
end Go.Eng
/- Batches: what Get tells. -/
set_option linter.unusedVariables false
set_option linter.unusedSimpArgs false
set_option maxRecDepth 100000
set_option maxHeartbeats 4000000
namespace Go.Eng
open Go Go.RowKit Go.Proofs
abbrev spRow (l : List Sp) : Option Ob := some (.row 62 3 l.length fun k => spF (l.getD k sp0))
def runsS (b : List UInt8) : Nat → List Ru → RS → List Ru × RS
  | 0, acc, s => (acc, s)
  | n + 1, acc, s => match s.2 with
    | true => (acc, s)
    | false => runsS b n (acc ++ [(runS b s).1]) (runS b s).2
def spansS (b : List UInt8) : Nat → List Sp → RS → List Sp × RS
  | 0, acc, s => (acc, s)
  | n + 1, acc, s => match s.2 with
    | true => (acc, s)
    | false => spansS b n (acc ++ [(spanS b s).1]) (spanS b s).2
def sizes (l : List Ru) : Nat := (l.map fun r => r.text.size).sum
theorem sizes_snoc (l : List Ru) (r : Ru) : sizes (l ++ [r]) = sizes l + r.text.size := by unfold sizes; rw [List.map_append, List.sum_append]; simp
/-- What is read goes on. -/
theorem numS_go (b : List UInt8) (s : RS) : s.1 ≤ (numS b s).2.1 ∧ (s.2 = true → (numS b s).2 = s) ∧ ((numS b s).2.2 = false → s.1 + 1 ≤ (numS b s).2.1) := by
  obtain ⟨at_, bad⟩ := s
  unfold numS
  cases bad with
  | true => exact ⟨Nat.le_refl _, fun _ => rfl, fun h => (nomatch h)⟩
  | false =>
    simp only
    cases hg : getN b (at_ : Nat) with
    | none => exact ⟨Nat.le_refl _, fun h => (nomatch h), fun h => (nomatch h)⟩
    | some x =>
      obtain ⟨v, n⟩ := x
      obtain ⟨i, hi, h1, h2, _⟩ := getN_some hg
      exact ⟨by simp only; omega, fun h => (nomatch h), fun _ => by simp only; omega⟩
theorem txtS_go (b : List UInt8) (s : RS) : s.1 + (txtS b s).1.size ≤ (txtS b s).2.1 := by
  obtain ⟨at_, bad⟩ := s
  unfold txtS
  cases bad with
  | true => exact Nat.le_refl _
  | false =>
    simp only
    cases hg : getT b (at_ : Nat) with
    | none => exact Nat.le_refl _
    | some x =>
      obtain ⟨t, n⟩ := x
      have := getT_le hg
      simp only
      omega
theorem txtS_bad (b : List UInt8) (s : RS) (h : s.2 = true) : (txtS b s).2.2 = true := by
  unfold txtS
  rw [h]
  simp only
  exact h
theorem numS_bad (b : List UInt8) (s : RS) (h : s.2 = true) : (numS b s).2.2 = true := by rw [(numS_go b s).2.1 h]; exact h
theorem idS_go (b : List UInt8) (s : RS) : s.1 ≤ (idS b s).2.1 ∧ ((idS b s).2.2 = false → s.1 + 1 ≤ (idS b s).2.1) := by
  have h1 := numS_go b s
  have h2 := numS_go b (numS b s).2
  unfold idS
  simp only
  refine ⟨by omega, fun h => ?_⟩
  have := h2.2.2 h
  omega
theorem runS_go (b : List UInt8) (s : RS) : s.1 + (runS b s).1.text.size ≤ (runS b s).2.1 ∧ ((runS b s).2.2 = false → s.1 + 1 ≤ (runS b s).2.1) := by
  have h1 := idS_go b s
  have h2 := idS_go b (idS b s).2
  have h3 := idS_go b (idS b (idS b s).2).2
  have h4 := txtS_go b (idS b (idS b (idS b s).2).2).2
  unfold runS
  simp only
  refine ⟨by omega, fun h => ?_⟩
  have h5 : (idS b (idS b (idS b s).2).2).2.2 = false := by
    cases hq : (idS b (idS b (idS b s).2).2).2.2 with
    | false => rfl
    | true => rw [txtS_bad b _ hq] at h; cases h
  have := h3.2 h5
  omega
theorem spanS_go (b : List UInt8) (s : RS) : s.1 ≤ (spanS b s).2.1 ∧ ((spanS b s).2.2 = false → s.1 + 1 ≤ (spanS b s).2.1) := by
  have h1 := numS_go b s
  have h2 := numS_go b (numS b s).2
  have h3 := numS_go b (numS b (numS b s).2).2
  unfold spanS
  simp only
  refine ⟨by omega, fun h => ?_⟩
  have := h3.2.2 h
  omega
/-- What the runs that are read so far are. -/
def goodR (b : List UInt8) (acc : List Ru) (s : RS) : Prop := s.1 ≤ b.length ∧ acc.length ≤ s.1 + (match s.2 with | true => 1 | false => 0) ∧ sizes acc ≤ s.1 ∧ ∀ r, r ∈ acc → ruOk r ∧ r.text.size ≤ b.length
theorem goodR_go {b : List UInt8} {acc : List Ru} {s : RS} (h : goodR b acc s) (hs : s.2 = false) (hb : b.length ≤ 100000) : goodR b (acc ++ [(runS b s).1]) (runS b s).2 := by
  obtain ⟨h1, h2, h3, h4⟩ := h
  have g1 := runS_le h1 hb
  have g2 := runS_go b s
  rw [hs] at h2
  refine ⟨g1.1, ?_, ?_, fun r hr => ?_⟩
  · rw [List.length_append, List.length_singleton]
    cases hq : (runS b s).2.2 with
    | true => simp only at h2 ⊢; omega
    | false => have := g2.2 hq; simp only at h2 ⊢; omega
  · rw [sizes_snoc]; omega
  · rcases List.mem_append.1 hr with hr | hr
    · exact h4 r hr
    · rw [List.mem_singleton.1 hr]; exact ⟨g1.2.1, g1.2.2⟩
def goodP (b : List UInt8) (acc : List Sp) (s : RS) : Prop := s.1 ≤ b.length ∧ acc.length ≤ s.1 + (match s.2 with | true => 1 | false => 0) ∧ ∀ r, r ∈ acc → spOk r
theorem goodP_go {b : List UInt8} {acc : List Sp} {s : RS} (h : goodP b acc s) (hs : s.2 = false) : goodP b (acc ++ [(spanS b s).1]) (spanS b s).2 := by
  obtain ⟨h1, h2, h4⟩ := h
  have g1 := spanS_le h1
  have g2 := spanS_go b s
  rw [hs] at h2
  refine ⟨g1.1, ?_, fun r hr => ?_⟩
  · rw [List.length_append, List.length_singleton]
    cases hq : (spanS b s).2.2 with
    | true => simp only at h2 ⊢; omega
    | false => have := g2.2 hq; simp only at h2 ⊢; omega
  · rcases List.mem_append.1 hr with hr | hr
    · exact h4 r hr
    · rw [List.mem_singleton.1 hr]; exact g1.2
theorem itemsR_sizes : ∀ rs : List Ru, (itemsR rs).length ≤ sizes rs
  | [] => by simp [itemsR]
  | r :: rs => by
    have h1 := itemsR_sizes rs
    have h3 := chOf_len r
    have e : itemsR (r :: rs) = itsR r ++ itemsR rs := by unfold itemsR; rw [List.flatMap_cons]
    rw [e, List.length_append, itsR_len]
    unfold sizes at h1 ⊢
    rw [List.map_cons, List.sum_cons]
    omega
def getS (b : List UInt8) : Ba × RS :=
  let n := numS b (0, false)
  let R := runsS b n.1 [] n.2
  let m := numS b R.2
  let D := spansS b m.1 [] m.2
  (⟨R.1, D.1⟩, D.2)
def isB (b : List UInt8) : Prop := b.length ≤ 20000 ∧ (getS b).2 = (b.length, false) ∧ mayB (getS b).1
def bgI (b : List UInt8) (T : List Ru × RS) (n : Nat) (st : St) : Prop := ∃ (acc : List Ru) (s : RS), runsS b n acc s = T ∧ goodR b acc s ∧ n < 4294967296 ∧
  st = ⟨78, 0, [(0, bS b), (2, .c (.own 0 0)), (4, .c (.own 1 0)), (5, .c (.own 2 0)), (6, vci .u32 (n : Nat))], [some (.cells 25 [.v (.slice none 0 0), .v (.slice none 0 0)]), rO b s, some (.cells 25 [.row 3, .row 4]), ruRow acc, spRow []]⟩
def bhI (b : List UInt8) (R : List Ru) (T : List Sp × RS) (n : Nat) (st : St) : Prop := ∃ (acc : List Sp) (s : RS), spansS b n acc s = T ∧ goodP b acc s ∧ n < 4294967296 ∧
  st = ⟨78, 0, [(0, bS b), (2, .c (.own 0 0)), (4, .c (.own 1 0)), (5, .c (.own 2 0)), (7, vci .u32 (n : Nat))], [some (.cells 25 [.v (.slice none 0 0), .v (.slice none 0 0)]), rO b s, some (.cells 25 [.row 3, .row 4]), ruRow R, spRow acc]⟩
theorem bget_c (b : List UInt8) (hb : b.length ≤ 1048576) : CallV Tryd.prog 10 [bS b] [] (fun r own' => own' = [] ∧ ((isB b ∧ r = .tup [.agg (baF (getS b).1), .c (.v .nilIface)]) ∨ (¬ isB b ∧ r = .tup [.agg [.v (.slice none 0 0), .v (.slice none 0 0)], errM]))) := by
  refine callV_pure Tryd.func10 rfl ttok ftok rfl rfl rfl (Nat.le_of_ble_eq_true rfl) ?_
  conv => whnf
  by_cases hbig : b.length ≤ 20000
  · rw [show decide (((b.length : Nat) : Int) > 20000) = false from decide_eq_false (by omega)]
    conv => whnf
    refine call_frame2 [some 1] rfl rfl rfl rfl (number_c b (by omega) (0, false) (Nat.zero_le _)) ?_
    rintro r own2 ⟨rfl, rfl⟩
    refine ⟨_, _, rfl, rfl, ?_⟩
    have hn1 := numS_le (b := b) (s := (0, false)) (Nat.zero_le _)
    conv => whnf
    have hT : ∃ T, runsS b (numS b (0, false)).1 [] (numS b (0, false)).2 = T := ⟨_, rfl⟩
    obtain ⟨T, hT⟩ := hT
    refine loopV_cut 0 (fun st => goodR b T.1 T.2 ∧ st = ⟨78, 0, [(0, bS b), (2, .c (.own 0 0)), (4, .c (.own 1 0)), (5, .c (.own 2 0))], [some (.cells 25 [.v (.slice none 0 0), .v (.slice none 0 0)]), rO b T.2, some (.cells 25 [.row 3, .row 4]), ruRow T.1, spRow []]⟩) ?_ ?_
    · refine loopV ttok ftok (bgI b T) (((nil_cell 2 0 49 7 (fun k => ruF (([] : List Ru).getD k ru0)) rfl rfl).trans (nil_cell 2 1 62 3 (fun k => spF (([] : List Sp).getD k sp0)) rfl rfl)).trans (norm_weak [0, 2, 4, 5, 6] [some 0, some 1, some 2, some 3, some 4] rfl rfl))
        ⟨[], (numS b (0, false)).2, hT, ⟨hn1.1, by simp, by simp [sizes], fun r hr => by simp at hr⟩, hn1.2, rfl⟩ ?_
      rintro n st ⟨acc, ⟨at_, bad⟩, hrun, hgood, hn, rfl⟩
      have hgood0 := hgood
      obtain ⟨h1, h2, h3, h4⟩ := hgood
      simp only at h1 h2
      cases bad with
      | true =>
        have hT2 : T = (acc, (at_, true)) := by rw [← hrun]; cases n <;> rfl
        conv => whnf
        refine onB_intro (fun h => absurd h (by simp [pickB, isLit])) (fun _ => ?_)
        conv => whnf
        exact ⟨rfl, _, norm_weak [0, 2, 4, 5] [some 0, some 1, some 2, some 3, some 4] rfl rfl, by rw [hT2]; exact hgood0, by rw [hT2]; rfl⟩
      | false =>
        simp only at h2
        cases n with
        | zero =>
          have hT2 : T = (acc, (at_, false)) := hrun.symm
          conv => whnf
          exact ⟨rfl, _, norm_weak [0, 2, 4, 5] [some 0, some 1, some 2, some 3, some 4] rfl rfl, by rw [hT2]; exact hgood0, by rw [hT2]; rfl⟩
        | succ n =>
          have hrun : runsS b n (acc ++ [(runS b (at_, false)).1]) (runS b (at_, false)).2 = T := hrun
          have hgn := goodR_go hgood0 rfl (by omega)
          conv => whnf
          refine onB_intro (fun _ => ?_) (fun h => absurd h (by simp [pickB, isLit]))
          conv => whnf
          refine drawV_loud 5 [0, 1, 2] [3, 4] [1, 3] mixed (by kernel_rfl) ttok ftok ?_
          conv => whnf
          refine call_frame2 [some 1] rfl rfl rfl rfl (rdrun_c b (by omega) (at_, false) h1) ?_
          rintro r own2 ⟨rfl, rfl⟩
          refine ⟨.agg (ruF (runS b (at_, false)).1), [none, rO b (runS b (at_, false)).2, none, ruRow acc, none], rfl, rfl, ?_⟩
          generalize runS b (at_, false) = q at hrun hgn
          conv => whnf
          refine ⟨fun _ => ruF q.1, one_at _, ?_⟩
          conv => whnf
          refine ⟨rfl, ?_⟩
          conv => whnf
          refine ⟨⟨by omega, by simp only [show ti49.bytes = 40 from rfl]; omega⟩, ?_⟩
          conv => whnf
          refine app1 (enc := ruF) (d := ru0) q.1 (fun k hk => rfl) rfl ?_
          conv => whnf
          rw [show IntKind.u32.wrap (((n + 1 : Nat) : Int) - 1) = (n : Int) from by rw [w_u32]; omega]
          exact ⟨n, _, by omega, norm_weak [0, 2, 4, 5, 6] [some 0, some 1, some 2, some 6, some 4] rfl rfl, acc ++ [q.1], q.2, hrun, hgn, by omega, rfl⟩
    rintro st ⟨hgood, rfl⟩
    have hgs : getS b = (⟨T.1, (spansS b (numS b T.2).1 [] (numS b T.2).2).1⟩, (spansS b (numS b T.2).1 [] (numS b T.2).2).2) := by unfold getS; simp only [hT]
    obtain ⟨R, s1⟩ := T
    simp only at hgood hgs ⊢
    have hn3 := numS_le (b := b) (s := s1) hgood.1
    conv => whnf
    refine call_frame2 [some 1] rfl rfl rfl rfl (number_c b (by omega) s1 hgood.1) ?_
    rintro r own2 ⟨rfl, rfl⟩
    refine ⟨_, _, rfl, rfl, ?_⟩
    conv => whnf
    obtain ⟨T2, hT2⟩ : ∃ T2, spansS b (numS b s1).1 [] (numS b s1).2 = T2 := ⟨_, rfl⟩
    rw [hT2] at hgs
    refine loopV_cut 2 (fun st => goodP b T2.1 T2.2 ∧ st = ⟨78, 0, [(0, bS b), (2, .c (.own 0 0)), (4, .c (.own 1 0)), (5, .c (.own 2 0))], [some (.cells 25 [.v (.slice none 0 0), .v (.slice none 0 0)]), rO b T2.2, some (.cells 25 [.row 3, .row 4]), ruRow R, spRow T2.1]⟩) ?_ ?_
    · refine loopV ttok ftok (bhI b R T2) (norm_weak [0, 2, 4, 5, 7] [some 0, some 1, some 2, some 3, some 4] rfl rfl)
        ⟨[], (numS b s1).2, hT2, ⟨hn3.1, by simp, fun r hr => by simp at hr⟩, hn3.2, rfl⟩ ?_
      rintro n st ⟨acc, ⟨at_, bad⟩, hrun, hgood2, hn, rfl⟩
      have hgood0 := hgood2
      obtain ⟨h1, h2, h4⟩ := hgood2
      simp only at h1 h2
      cases bad with
      | true =>
        have hT3 : T2 = (acc, (at_, true)) := by rw [← hrun]; cases n <;> rfl
        conv => whnf
        refine onB_intro (fun h => absurd h (by simp [pickB, isLit])) (fun _ => ?_)
        conv => whnf
        exact ⟨rfl, _, norm_weak [0, 2, 4, 5] [some 0, some 1, some 2, some 3, some 4] rfl rfl, by rw [hT3]; exact hgood0, by rw [hT3]; rfl⟩
      | false =>
        simp only at h2
        cases n with
        | zero =>
          have hT3 : T2 = (acc, (at_, false)) := hrun.symm
          conv => whnf
          exact ⟨rfl, _, norm_weak [0, 2, 4, 5] [some 0, some 1, some 2, some 3, some 4] rfl rfl, by rw [hT3]; exact hgood0, by rw [hT3]; rfl⟩
        | succ n =>
          have hrun : spansS b n (acc ++ [(spanS b (at_, false)).1]) (spanS b (at_, false)).2 = T2 := hrun
          have hgn := goodP_go hgood0 rfl
          conv => whnf
          refine onB_intro (fun _ => ?_) (fun h => absurd h (by simp [pickB, isLit]))
          conv => whnf
          refine drawV_loud 5 [0, 1, 2] [3, 4] [1, 4] mixed (by kernel_rfl) ttok ftok ?_
          conv => whnf
          refine call_frame2 [some 1] rfl rfl rfl rfl (rdspan_c b (by omega) (at_, false) h1) ?_
          rintro r own2 ⟨rfl, rfl⟩
          refine ⟨.agg (spF (spanS b (at_, false)).1), [none, rO b (spanS b (at_, false)).2, none, none, spRow acc], rfl, rfl, ?_⟩
          generalize spanS b (at_, false) = q at hrun hgn
          conv => whnf
          refine ⟨fun _ => spF q.1, one_at _, ?_⟩
          conv => whnf
          refine ⟨rfl, ?_⟩
          conv => whnf
          refine ⟨⟨by omega, by simp only [show ti62.bytes = 12 from rfl]; omega⟩, ?_⟩
          conv => whnf
          refine app1 (enc := spF) (d := sp0) q.1 (fun k hk => rfl) rfl ?_
          conv => whnf
          rw [show IntKind.u32.wrap (((n + 1 : Nat) : Int) - 1) = (n : Int) from by rw [w_u32]; omega]
          exact ⟨n, _, by omega, norm_weak [0, 2, 4, 5, 7] [some 0, some 1, some 2, some 3, some 6] rfl rfl, acc ++ [q.1], q.2, hrun, hgn, by omega, rfl⟩
    rintro st ⟨hgood2, rfl⟩
    obtain ⟨D, at_, bad⟩ := T2
    simp only at hgood2 hgs ⊢
    have his : isB b ↔ (bad = false ∧ at_ = b.length ∧ mayB ⟨R, D⟩) := by
      unfold isB
      rw [hgs]
      simp only [Prod.mk.injEq]
      exact ⟨fun h => ⟨h.2.1.2, h.2.1.1, h.2.2⟩, fun h => ⟨hbig, ⟨h.2.1, h.1⟩, h.2.2⟩⟩
    rw [hgs]
    cases bad with
    | true =>
      conv => whnf
      exact .inr ⟨fun e => (nomatch (his.1 e).1), rfl⟩
    | false =>
      have hRl : R.length ≤ 20001 := by
        have := hgood.2.1
        have := hgood.1
        cases hq : s1.2 with
        | true => simp only [hq] at *; omega
        | false => simp only [hq] at *; omega
      have hDl : D.length ≤ 20000 := by
        have := hgood2.2.1
        have := hgood2.1
        simp only at *
        omega
      have hbok : baOk ⟨R, D⟩ := ⟨fun r hr => (hgood.2.2.2 r hr).1, by simp only; omega, by simp only; omega, by
        have h1 := itemsR_sizes R
        have h2 := hgood.2.2.1
        have h3 := hgood.1
        simp only
        omega⟩
      conv => whnf
      by_cases hat : at_ = b.length
      · rw [show ((((at_, false) : Nat × Bool).1 : Int) != (b.length : Int)) = false from by rw [hat]; exact bne_self_eq_false _]
        conv => whnf
        refine ⟨fun _ _ => rfl, ?_⟩
        conv => whnf
        refine ⟨fun _ _ => rfl, ?_⟩
        conv => whnf
        refine call_pure (bmay_c ⟨R, D⟩ hbok) rfl ?_
        rintro _ ⟨c, hc, rfl⟩
        cases c with
        | false =>
          conv => whnf
          exact .inr ⟨fun e => absurd (hc.2 (his.1 e).2.2) (by decide), rfl⟩
        | true =>
          conv => whnf
          exact .inl ⟨his.2 ⟨rfl, hat, hc.1 rfl⟩, rfl⟩
      · rw [show ((((at_, false) : Nat × Bool).1 : Int) != (b.length : Int)) = true from bne_iff_ne.2 (fun e => hat (by simp only at e; omega))]
        conv => whnf
        exact .inr ⟨fun e => hat (his.1 e).2.1, rfl⟩
  · rw [show decide (((b.length : Nat) : Int) > 20000) = true from decide_eq_true (by omega)]
    conv => whnf
    exact .inr ⟨fun e => hbig e.1, rfl⟩
end Go.Eng
/- Batches: what the reference reads. -/
set_option linter.unusedVariables false
set_option linter.unusedSimpArgs false
set_option maxRecDepth 100000
set_option maxHeartbeats 4000000
namespace Go.Eng
open Go Go.RowKit Go.Proofs
abbrev uS (l : List Int) : AV := .c (.sl 1 l.length fun k => uF (l.getD k 0))
def numsP (b : List UInt8) : Nat → Nat → List Int → Option (List Int × Nat)
  | 0, at_, acc => some (acc, at_)
  | n + 1, at_, acc => match getN b (at_ : Nat) with
    | none => none
    | some (v, k) => numsP b n (at_ + k) (acc ++ [(v : Int)])
def numsS (b : List UInt8) : Nat → RS → List Int → List Int × RS
  | 0, s, acc => (acc, s)
  | n + 1, s, acc => numsS b n (numS b s).2 (acc ++ [((numS b s).1 : Int)])
theorem numsS_bad (b : List UInt8) : ∀ n (s : RS) acc, s.2 = true → (numsS b n s acc).2.2 = true
  | 0, s, acc, h => h
  | n + 1, s, acc, h => by unfold numsS; exact numsS_bad b n _ _ (numS_bad b s h)
theorem numsS_P (b : List UInt8) : ∀ n at_ acc, match numsP b n at_ acc with
    | some (l, a) => numsS b n (at_, false) acc = (l, (a, false))
    | none => (numsS b n (at_, false) acc).2.2 = true
  | 0, at_, acc => rfl
  | n + 1, at_, acc => by
    unfold numsP numsS
    cases hg : getN b (at_ : Nat) with
    | none =>
      simp only
      refine numsS_bad b n _ _ ?_
      unfold numS
      simp only [hg]
    | some x =>
      obtain ⟨v, k⟩ := x
      have e : numS b (at_, false) = (v, (at_ + k, false)) := by unfold numS; simp only [hg]
      simp only [e]
      exact numsS_P b n (at_ + k) (acc ++ [(v : Int)])
theorem numsP_le {b : List UInt8} : ∀ {n at_ acc l a}, at_ ≤ b.length → numsP b n at_ acc = some (l, a) → a ≤ b.length ∧ l.length = acc.length + n
  | 0, at_, acc, l, a, h, e => by cases e; exact ⟨h, by omega⟩
  | n + 1, at_, acc, l, a, h, e => by
    unfold numsP at e
    split at e
    · cases e
    · rename_i v k hg
      obtain ⟨i, hi, h1, h2, h3, h4, _⟩ := getN_some hg
      obtain rfl : at_ = i := by omega
      have := numsP_le h4 e
      rw [List.length_append, List.length_singleton] at this
      exact ⟨this.1, by omega⟩
def rnV (o : Option (List Int × Nat)) : AV := match o with
  | some (l, a) => .tup [uS l, vci .i64 a, vcb true]
  | none => .tup [nilS, vci .i64 0, vcb false]
def rnI (b : List UInt8) (N : Nat) (T : Option (List Int × Nat)) (n : Nat) (st : St) : Prop := ∃ (k at_ : Nat) (acc : List Int), n = N - k ∧ k ≤ N ∧ acc.length = k ∧ at_ ≤ b.length ∧ numsP b (N - k) at_ acc = T ∧
  st = ⟨37, 0, [(0, bS b), (1, vci .i64 (at_ : Int)), (2, vci .i64 (N : Int)), (9, .c (.row 0)), (10, vci .i64 (k : Int))], [uRow acc]⟩
theorem rnums_c (b : List UInt8) (hb : b.length ≤ 1048576) (at_ : Nat) (ha : at_ ≤ b.length) (N : Nat) (hN : N ≤ 100) : CallV Tryd.prog 29 [bS b, vci .i64 (at_ : Int), vci .i64 (N : Int)] [] (fun r own' => own' = [] ∧ r = rnV (numsP b N at_ [])) := by
  obtain ⟨T, hT⟩ : ∃ T, numsP b N at_ [] = T := ⟨_, rfl⟩
  rw [hT]
  refine callV_pure Tryd.func29 rfl ttok ftok rfl rfl rfl (Nat.le_of_ble_eq_true rfl) ?_
  conv => whnf
  refine loopV ttok ftok (rnI b N T) ((nil_row 9 45 1 (fun k => uF (([] : List Int).getD k 0)) rfl).trans (norm_weak [0, 1, 2, 9, 10] [some 0] rfl rfl)) ⟨0, at_, [], rfl, Nat.zero_le _, rfl, ha, hT, rfl⟩ ?_
  rintro n st ⟨k, a, acc, rfl, hk, hacc, hal, hrun, rfl⟩
  have e1 : IntKind.i64.wrap ((k : Int) + 1) = ((k + 1 : Nat) : Int) := by rw [w_i64 (by omega) (by omega)]; omega
  conv => whnf
  refine onB_intro (fun h => ?_) (fun h => ?_)
  · have h := of_decide_eq_true h
    obtain ⟨q, hq⟩ : ∃ q, N - k = q + 1 := ⟨N - k - 1, by omega⟩
    rw [hq] at hrun
    unfold numsP at hrun
    conv => whnf
    refine call_pure (rget_c b (by omega) (a : Nat) (by omega) (by omega)) rfl ?_
    rintro _ rfl
    cases hg : getN b (a : Nat) with
    | none =>
      rw [hg] at hrun
      subst hrun
      conv => whnf
      try rfl
    | some x =>
      obtain ⟨v, m⟩ := x
      rw [hg] at hrun
      simp only at hrun
      obtain ⟨i, hi, h1, h2, h3, h4, h5, _⟩ := getN_some hg
      obtain rfl : a = i := by omega
      have e2 : IntKind.i64.wrap ((a : Int) + (m : Int)) = ((a + m : Nat) : Int) := by rw [w_i64 (by omega) (by omega)]; omega
      conv => whnf
      refine ⟨fun _ => uF (v : Int), one_at _, ?_⟩
      conv => whnf
      refine ⟨⟨by omega, by simp only [show ti45.bytes = 4 from rfl]; omega⟩, ?_⟩
      conv => whnf
      refine app1 (enc := uF) (d := (0 : Int)) (v : Int) (fun k hk => rfl) rfl ?_
      conv => whnf
      rw [e1, e2]
      refine ⟨N - (k + 1), _, by omega, norm_weak [0, 1, 2, 9, 10] [some 2] rfl rfl, k + 1, a + m, acc ++ [(v : Int)], rfl, by omega, by simp [hacc], h4, ?_, rfl⟩
      rw [show N - (k + 1) = q from by omega]
      exact hrun
  · have h := of_decide_eq_false h
    rw [show N - k = 0 from by omega] at hrun
    unfold numsP at hrun
    subst hrun
    conv => whnf
    refine ⟨fun _ _ => rfl, ?_⟩
    conv => whnf
    try rfl
end Go.Eng
/- Batches: what the reference's GetBatch tells. -/
set_option linter.unusedVariables false
set_option linter.unusedSimpArgs false
set_option maxRecDepth 100000
set_option maxHeartbeats 4000000
namespace Go.Eng
open Go Go.RowKit Go.Proofs
theorem runS_nums (b : List UInt8) (s : RS) : runS b s = (⟨((numsS b 6 s []).1.getD 0 0, (numsS b 6 s []).1.getD 1 0), ((numsS b 6 s []).1.getD 2 0, (numsS b 6 s []).1.getD 3 0), ((numsS b 6 s []).1.getD 4 0, (numsS b 6 s []).1.getD 5 0), (txtS b (numsS b 6 s []).2).1⟩, (txtS b (numsS b 6 s []).2).2) := rfl
theorem spanS_nums (b : List UInt8) (s : RS) : spanS b s = (⟨(numsS b 3 s []).1.getD 0 0, (numsS b 3 s []).1.getD 1 0, (numsS b 3 s []).1.getD 2 0⟩, (numsS b 3 s []).2) := rfl
theorem numS_nums (b : List UInt8) (s : RS) : numsS b 1 s [] = ([((numS b s).1 : Int)], (numS b s).2) := rfl
theorem run_none {b : List UInt8} {at_ : Nat} (h : numsP b 6 at_ [] = none) : (runS b (at_, false)).2.2 = true := by
  have := numsS_P b 6 at_ []
  rw [h] at this
  rw [runS_nums]
  exact txtS_bad b _ this
theorem run_some {b : List UInt8} {at_ nx : Nat} {l : List Int} (h : numsP b 6 at_ [] = some (l, nx)) : match getT b (nx : Nat) with
    | none => (runS b (at_, false)).2.2 = true
    | some (t, k) => runS b (at_, false) = (⟨(l.getD 0 0, l.getD 1 0), (l.getD 2 0, l.getD 3 0), (l.getD 4 0, l.getD 5 0), t⟩, (nx + k, false)) := by
  have := numsS_P b 6 at_ []
  rw [h] at this
  simp only at this
  rw [runS_nums, this]
  cases hg : getT b (nx : Nat) with
  | none => simp only [txtS, hg]
  | some x =>
    obtain ⟨t, k⟩ := x
    simp only [txtS, hg]
theorem span_none {b : List UInt8} {at_ : Nat} (h : numsP b 3 at_ [] = none) : (spanS b (at_, false)).2.2 = true := by
  have := numsS_P b 3 at_ []
  rw [h] at this
  rw [spanS_nums]
  exact this
theorem span_some {b : List UInt8} {at_ nx : Nat} {l : List Int} (h : numsP b 3 at_ [] = some (l, nx)) : spanS b (at_, false) = (⟨l.getD 0 0, l.getD 1 0, l.getD 2 0⟩, (nx, false)) := by
  have := numsS_P b 3 at_ []
  rw [h] at this
  simp only at this
  rw [spanS_nums, this]
theorem num_none {b : List UInt8} {at_ : Nat} (h : numsP b 1 at_ [] = none) : (numS b (at_, false)).2.2 = true := by
  have := numsS_P b 1 at_ []
  rw [h, numS_nums] at this
  exact this
theorem num_some {b : List UInt8} {at_ nx : Nat} {l : List Int} (h : numsP b 1 at_ [] = some (l, nx)) : l = [((numS b (at_, false)).1 : Int)] ∧ (numS b (at_, false)).2 = (nx, false) := by
  have := numsS_P b 1 at_ []
  rw [h, numS_nums] at this
  simp only [Prod.mk.injEq] at this
  exact ⟨this.1.symm, this.2⟩
theorem runsS_bad (b : List UInt8) : ∀ n acc (s : RS), s.2 = true → runsS b n acc s = (acc, s)
  | 0, acc, s, h => rfl
  | n + 1, acc, s, h => by unfold runsS; rw [h]
theorem spansS_bad (b : List UInt8) : ∀ n acc (s : RS), s.2 = true → spansS b n acc s = (acc, s)
  | 0, acc, s, h => rfl
  | n + 1, acc, s, h => by unfold spansS; rw [h]
theorem not_isB2 {b : List UInt8} (h : (getS b).2.2 = true) : ¬ isB b := fun e => by rw [e.2.1] at h; cases h
theorem not_isB1 {b : List UInt8} (h : (runsS b (numS b (0, false)).1 [] (numS b (0, false)).2).2.2 = true) : ¬ isB b := by
  refine not_isB2 ?_
  unfold getS
  simp only
  have h2 := numS_bad b _ h
  rw [spansS_bad b _ _ _ h2]
  exact h2
theorem runs_next {b : List UInt8} {N k at_ : Nat} {acc : List Ru} {T : List Ru × RS} (hk : k < N) (h : runsS b (N - k) acc (at_, false) = T) : runsS b (N - (k + 1)) (acc ++ [(runS b (at_, false)).1]) (runS b (at_, false)).2 = T := by
  obtain ⟨q, hq⟩ : ∃ q, N - k = q + 1 := ⟨N - k - 1, by omega⟩
  rw [hq] at h
  rw [show N - (k + 1) = q from by omega]
  exact h
theorem runs_badT {b : List UInt8} {N k at_ : Nat} {acc : List Ru} {T : List Ru × RS} (hk : k < N) (h : runsS b (N - k) acc (at_, false) = T) (hb : (runS b (at_, false)).2.2 = true) : T.2.2 = true := by
  have := runs_next hk h
  rw [runsS_bad b _ _ _ hb] at this
  rw [← this]
  exact hb
theorem spans_next {b : List UInt8} {N k at_ : Nat} {acc : List Sp} {T : List Sp × RS} (hk : k < N) (h : spansS b (N - k) acc (at_, false) = T) : spansS b (N - (k + 1)) (acc ++ [(spanS b (at_, false)).1]) (spanS b (at_, false)).2 = T := by
  obtain ⟨q, hq⟩ : ∃ q, N - k = q + 1 := ⟨N - k - 1, by omega⟩
  rw [hq] at h
  rw [show N - (k + 1) = q from by omega]
  exact h
theorem spans_badT {b : List UInt8} {N k at_ : Nat} {acc : List Sp} {T : List Sp × RS} (hk : k < N) (h : spansS b (N - k) acc (at_, false) = T) (hb : (spanS b (at_, false)).2.2 = true) : T.2.2 = true := by
  have := spans_next hk h
  rw [spansS_bad b _ _ _ hb] at this
  rw [← this]
  exact hb
def gbI (b : List UInt8) (N : Nat) (T : List Ru × RS) (n : Nat) (st : St) : Prop := ∃ (k at_ : Nat) (acc : List Ru), n = N - k ∧ k ≤ N ∧ runsS b (N - k) acc (at_, false) = T ∧ goodR b acc (at_, false) ∧ acc.length = k ∧
  st = ⟨153, 0, [(0, bS b), (2, .c (.own 0 0)), (4, .c (.own 1 0)), (5, uS [(N : Int)]), (6, vci .i64 (at_ : Int)), (8, vci .i64 (k : Int))], [some (.cells 25 [.v (.slice none 0 0), .v (.slice none 0 0)]), some (.cells 25 [.row 2, .row 3]), ruRow acc, spRow []]⟩
def gcI (b : List UInt8) (R : List Ru) (N : Nat) (T : List Sp × RS) (n : Nat) (st : St) : Prop := ∃ (k at_ : Nat) (acc : List Sp), n = N - k ∧ k ≤ N ∧ spansS b (N - k) acc (at_, false) = T ∧ goodP b acc (at_, false) ∧ acc.length = k ∧
  st = ⟨153, 0, [(0, bS b), (2, .c (.own 0 0)), (4, .c (.own 1 0)), (6, vci .i64 (at_ : Int)), (15, uS [(N : Int)]), (18, vci .i64 (k : Int))], [some (.cells 25 [.v (.slice none 0 0), .v (.slice none 0 0)]), some (.cells 25 [.row 2, .row 3]), ruRow R, spRow acc]⟩
theorem rgetb_c (b : List UInt8) (hb : b.length ≤ 1048576) : CallV Tryd.prog 11 [bS b] [] (fun r own' => own' = [] ∧ ((isB b ∧ r = .tup [.agg (baF (getS b).1), vcb true]) ∨ (¬ isB b ∧ r = .tup [.agg [.v (.slice none 0 0), .v (.slice none 0 0)], vcb false]))) := by
  refine callV_pure Tryd.func11 rfl ttok ftok rfl rfl rfl (Nat.le_of_ble_eq_true rfl) ?_
  conv => whnf
  refine call_pure (rnums_c b hb 0 (Nat.zero_le _) 1 (by decide)) rfl ?_
  rintro _ rfl
  cases h0 : numsP b 1 0 [] with
  | none =>
    have hbad := num_none h0
    conv => whnf
    exact .inr ⟨not_isB1 (by rw [runsS_bad b _ _ _ hbad]; exact hbad), rfl⟩
  | some x =>
    obtain ⟨l, a0⟩ := x
    obtain ⟨hl, hs⟩ := num_some h0
    have hn := numS_le (b := b) (s := (0, false)) (Nat.zero_le _)
    obtain ⟨N, hN⟩ : ∃ N, (numS b (0, false)).1 = N := ⟨_, rfl⟩
    rw [hN] at hl hn
    subst hl
    have ha0 : a0 ≤ b.length := by rw [hs] at hn; exact hn.1
    by_cases hbig : b.length ≤ 20000
    · conv => whnf
      rw [show decide (((b.length : Nat) : Int) > 20000) = false from decide_eq_false (by omega)]
      conv => whnf
      obtain ⟨T, hT⟩ : ∃ T, runsS b N [] (a0, false) = T := ⟨_, rfl⟩
      have hT1 : runsS b (numS b (0, false)).1 [] (numS b (0, false)).2 = T := by rw [hN, hs, hT]
      have eN : IntKind.i64.wrap (N : Int) = (N : Int) := w_i64 (by omega) (by omega)
      refine loopV ttok ftok (gbI b N T) (((nil_cell 1 0 49 7 (fun k => ruF (([] : List Ru).getD k ru0)) rfl rfl).trans (nil_cell 1 1 62 3 (fun k => spF (([] : List Sp).getD k sp0)) rfl rfl)).trans (norm_weak [0, 2, 4, 5, 6, 8] [some 0, some 1, some 2, some 3] rfl rfl))
        ⟨0, a0, [], rfl, Nat.zero_le _, hT, ⟨ha0, Nat.zero_le _, Nat.zero_le _, fun r hr => by simp at hr⟩, rfl, rfl⟩ ?_
      rintro n st ⟨k, at_, acc, rfl, hk, hrun, hgood, hacc, rfl⟩
      have hgood0 := hgood
      obtain ⟨h1, h2, h3, h4⟩ := hgood
      simp only at h1 h2
      conv => whnf
      refine ⟨⟨by decide, by simp⟩, ?_⟩
      conv => whnf
      rw [show IntKind.i64.wrap ([(N : Int)].getD (Int.toNat 0) 0) = (N : Int) from eN]
      refine onB_intro (fun g => ?_) (fun g => ?_)
      · have g := of_decide_eq_true g
        have hkN : k < N := by omega
        have e1 : IntKind.i64.wrap ((k : Int) + 1) = ((k + 1 : Nat) : Int) := by rw [w_i64 (by omega) (by omega)]; omega
        conv => whnf
        refine call_pure (rnums_c b hb at_ h1 6 (by decide)) rfl ?_
        rintro _ rfl
        cases h6 : numsP b 6 at_ [] with
        | none =>
          conv => whnf
          exact .inr ⟨not_isB1 (by rw [hT1]; exact runs_badT hkN hrun (run_none h6)), rfl⟩
        | some x =>
          obtain ⟨l, nx⟩ := x
          obtain ⟨hnx, hll⟩ := numsP_le h1 h6
          simp only [List.length_nil, Nat.zero_add] at hll
          have hrs := run_some h6
          conv => whnf
          refine call_pure (rgtext_c b (by omega) (nx : Nat) (by omega) (by omega)) rfl ?_
          rintro _ rfl
          cases ht : getT b (nx : Nat) with
          | none =>
            rw [ht] at hrs
            conv => whnf
            exact .inr ⟨not_isB1 (by rw [hT1]; exact runs_badT hkN hrun hrs), rfl⟩
          | some y =>
            obtain ⟨t, kk⟩ := y
            rw [ht] at hrs
            simp only at hrs
            have htl := getT_le ht
            have hnext := runs_next hkN hrun
            have hgn := goodR_go hgood0 rfl (by omega)
            rw [hrs] at hnext hgn
            have e2 : IntKind.i64.wrap ((nx : Int) + (kk : Int)) = ((nx + kk : Nat) : Int) := by rw [w_i64 (by omega) (by omega)]; omega
            conv => whnf
            refine drawV_loud 26 [0, 1, 2, 3, 4, 5, 6, 7, 8, 9, 10, 11, 12, 13, 14, 15, 16, 17, 18, 19, 20, 21, 22, 23, 24] [25] [] mixed (by kernel_rfl) ttok ftok ?_
            conv => whnf
            refine ⟨by omega, ?_⟩
            conv => whnf
            refine ⟨by omega, ?_⟩
            conv => whnf
            refine ⟨by omega, ?_⟩
            conv => whnf
            refine ⟨by omega, ?_⟩
            conv => whnf
            refine ⟨by omega, ?_⟩
            conv => whnf
            refine ⟨by omega, ?_⟩
            conv => whnf
            generalize hR0 : (⟨(l.getD 0 0, l.getD 1 0), (l.getD 2 0, l.getD 3 0), (l.getD 4 0, l.getD 5 0), t⟩ : Ru) = R0 at hnext hgn
            refine ⟨fun _ => ruF R0, fun i hi => by
              obtain rfl : i = 0 := by omega
              rw [← hR0]
              rfl, ?_⟩
            conv => whnf
            refine ⟨rfl, ?_⟩
            conv => whnf
            refine ⟨⟨by omega, by simp only [show ti49.bytes = 40 from rfl]; omega⟩, ?_⟩
            conv => whnf
            refine app1 (enc := ruF) (d := ru0) R0 (fun k hk => rfl) rfl ?_
            conv => whnf
            rw [e1, e2]
            exact ⟨N - (k + 1), _, by omega, norm_weak [0, 2, 4, 5, 6, 8] [some 0, some 1, some 5, some 3] rfl rfl, k + 1, nx + kk, acc ++ [R0], rfl, by omega, hnext, hgn, by simp [hacc], rfl⟩
      · have g := of_decide_eq_false g
        rw [show N - k = 0 from by omega] at hrun
        have hTR : T = (acc, (at_, false)) := hrun.symm
        have hgs : getS b = (⟨acc, (spansS b (numS b (at_, false)).1 [] (numS b (at_, false)).2).1⟩, (spansS b (numS b (at_, false)).1 [] (numS b (at_, false)).2).2) := by unfold getS; simp only [hT1, hTR]
        conv => whnf
        refine call_pure (rnums_c b hb at_ h1 1 (by decide)) rfl ?_
        rintro _ rfl
        cases h9 : numsP b 1 at_ [] with
        | none =>
          have hbad := num_none h9
          conv => whnf
          exact .inr ⟨not_isB2 (by rw [hgs, spansS_bad b _ _ _ hbad]; exact hbad), rfl⟩
        | some x =>
          obtain ⟨l, a2⟩ := x
          obtain ⟨hl, hs2⟩ := num_some h9
          have hn2 := numS_le (b := b) (s := (at_, false)) h1
          obtain ⟨M, hM⟩ : ∃ M, (numS b (at_, false)).1 = M := ⟨_, rfl⟩
          rw [hM] at hl hn2
          subst hl
          have ha2 : a2 ≤ b.length := by rw [hs2] at hn2; exact hn2.1
          obtain ⟨T2, hT2⟩ : ∃ T2, spansS b M [] (a2, false) = T2 := ⟨_, rfl⟩
          rw [hM, hs2, hT2] at hgs
          have eM : IntKind.i64.wrap (M : Int) = (M : Int) := w_i64 (by omega) (by omega)
          conv => whnf
          refine loopV ttok ftok (gcI b acc M T2) (norm_weak [0, 2, 4, 6, 15, 18] [some 0, some 1, some 2, some 3] rfl rfl)
            ⟨0, a2, [], rfl, Nat.zero_le _, hT2, ⟨ha2, Nat.zero_le _, fun r hr => by simp at hr⟩, rfl, rfl⟩ ?_
          rintro n st ⟨k2, a3, acc2, rfl, hk2, hrun2, hgood2, hacc2, rfl⟩
          have hgood20 := hgood2
          obtain ⟨p1, p2, p4⟩ := hgood2
          simp only at p1 p2
          conv => whnf
          refine ⟨⟨by decide, by simp⟩, ?_⟩
          conv => whnf
          rw [show IntKind.i64.wrap ([(M : Int)].getD (Int.toNat 0) 0) = (M : Int) from eM]
          refine onB_intro (fun g => ?_) (fun g => ?_)
          · have g := of_decide_eq_true g
            have hkM : k2 < M := by omega
            have e1 : IntKind.i64.wrap ((k2 : Int) + 1) = ((k2 + 1 : Nat) : Int) := by rw [w_i64 (by omega) (by omega)]; omega
            conv => whnf
            refine call_pure (rnums_c b hb a3 p1 3 (by decide)) rfl ?_
            rintro _ rfl
            cases h3x : numsP b 3 a3 [] with
            | none =>
              conv => whnf
              exact .inr ⟨not_isB2 (by rw [hgs]; exact spans_badT hkM hrun2 (span_none h3x)), rfl⟩
            | some x =>
              obtain ⟨l, nx⟩ := x
              obtain ⟨hnx, hll⟩ := numsP_le p1 h3x
              simp only [List.length_nil, Nat.zero_add] at hll
              have hss := span_some h3x
              have hnext := spans_next hkM hrun2
              have hgn := goodP_go hgood20 rfl
              rw [hss] at hnext hgn
              conv => whnf
              refine drawV_loud 13 [0, 1, 2, 3, 4, 5, 6, 7, 8, 9, 10, 11] [12] [] mixed (by kernel_rfl) ttok ftok ?_
              conv => whnf
              refine ⟨by omega, ?_⟩
              conv => whnf
              refine ⟨by omega, ?_⟩
              conv => whnf
              refine ⟨by omega, ?_⟩
              conv => whnf
              generalize hR0 : (⟨l.getD 0 0, l.getD 1 0, l.getD 2 0⟩ : Sp) = R0 at hnext hgn
              refine ⟨fun _ => spF R0, fun i hi => by
                obtain rfl : i = 0 := by omega
                rw [← hR0]
                rfl, ?_⟩
              conv => whnf
              refine ⟨rfl, ?_⟩
              conv => whnf
              refine ⟨⟨by omega, by simp only [show ti62.bytes = 12 from rfl]; omega⟩, ?_⟩
              conv => whnf
              refine app1 (enc := spF) (d := sp0) R0 (fun k hk => rfl) rfl ?_
              conv => whnf
              rw [e1]
              exact ⟨M - (k2 + 1), _, by omega, norm_weak [0, 2, 4, 6, 15, 18] [some 0, some 1, some 2, some 5] rfl rfl, k2 + 1, nx, acc2 ++ [R0], rfl, by omega, hnext, hgn, by simp [hacc2], rfl⟩
          · have g := of_decide_eq_false g
            rw [show M - k2 = 0 from by omega] at hrun2
            have hTR2 : T2 = (acc2, (a3, false)) := hrun2.symm
            rw [hTR2] at hgs
            have his : isB b ↔ (a3 = b.length ∧ mayB ⟨acc, acc2⟩) := by
              unfold isB
              rw [hgs]
              simp only [Prod.mk.injEq]
              exact ⟨fun h => ⟨h.2.1.1, h.2.2⟩, fun h => ⟨hbig, ⟨h.1, trivial⟩, h.2⟩⟩
            rw [hgs]
            have hbok : baOk ⟨acc, acc2⟩ := ⟨fun r hr => (h4 r hr).1, by simp only; omega, by simp only; omega, by
              have q1 := itemsR_sizes acc
              simp only at h3 ⊢
              omega⟩
            conv => whnf
            refine ⟨fun _ _ => rfl, ?_⟩
            conv => whnf
            refine ⟨fun _ _ => rfl, ?_⟩
            conv => whnf
            refine call_pure (rmayb_c ⟨acc, acc2⟩ hbok) rfl ?_
            rintro _ ⟨c, hc, rfl⟩
            by_cases hat : a3 = b.length
            · conv => whnf
              rw [show ((a3 : Int) != (b.length : Int)) = false from by rw [hat]; exact bne_self_eq_false _]
              cases c with
              | true =>
                conv => whnf
                exact .inl ⟨his.2 ⟨hat, hc.1 rfl⟩, rfl⟩
              | false =>
                conv => whnf
                exact .inr ⟨fun e => absurd (hc.2 (his.1 e).2) (by decide), rfl⟩
            · conv => whnf
              rw [show ((a3 : Int) != (b.length : Int)) = true from bne_iff_ne.2 (fun e => hat (by omega))]
              conv => whnf
              exact .inr ⟨fun e => hat (his.1 e).1, rfl⟩
    · conv => whnf
      rw [show decide (((b.length : Nat) : Int) > 20000) = true from decide_eq_true (by omega)]
      conv => whnf
      exact .inr ⟨fun e => hbig e.1, rfl⟩
end Go.Eng
/- What a given value of these types is: ids, items, runs, spans, bytes, batches. -/
set_option linter.unusedVariables false
set_option linter.unusedSimpArgs false
set_option maxRecDepth 100000
set_option maxHeartbeats 4000000
namespace Go.Eng
open Go Go.RowKit Go.Proofs
theorem rd_id {B d : Nat} {cs : List IC} (h : Rd tt B (d + 2) 47 cs) : ∃ a : I2, u32P a ∧ cs = idF a := by
  obtain ⟨x1, y1, ⟨v, w1, rfl⟩, ⟨x2, y2, ⟨w, w2, rfl⟩, rfl, rfl⟩, rfl⟩ := h
  have h1 := wf_u32 w1
  have h2 := wf_u32 w2
  exact ⟨(v, w), ⟨h1, h2⟩, rfl⟩
theorem rd_run {d : Nat} {cs : List IC} (h : Rd tt 1048576 (d + 3) 49 cs) : ∃ x : Ru, ruOk x ∧ cs = ruF x := by
  obtain ⟨x1, y1, ha, ⟨x2, y2, hb, ⟨x3, y3, hc, ⟨x4, y4, ⟨v, wv, rfl⟩, rfl, rfl⟩, rfl⟩, rfl⟩, rfl⟩ := h
  obtain ⟨a, ka, rfl⟩ := rd_id ha
  obtain ⟨b, kb, rfl⟩ := rd_id hb
  obtain ⟨c, kc, rfl⟩ := rd_id hc
  exact ⟨⟨a, b, c, v⟩, ⟨ka, kb, kc, wv⟩, rfl⟩
theorem rd_span {B d : Nat} {cs : List IC} (h : Rd tt B (d + 2) 62 cs) : ∃ s : Sp, spOk s ∧ cs = spF s := by
  obtain ⟨x1, y1, ⟨v, w1, rfl⟩, ⟨x2, y2, ⟨w, w2, rfl⟩, ⟨x3, y3, ⟨u, w3, rfl⟩, rfl, rfl⟩, rfl⟩, rfl⟩ := h
  have h1 := wf_u32 w1
  have h2 := wf_u32 w2
  have h3 := wf_u32 w3
  exact ⟨⟨v, w, u⟩, ⟨h1, h2, h3⟩, rfl⟩
theorem rd_byte {B d : Nat} {cs : List IC} (h : Rd tt B (d + 1) 5 cs) : ∃ c : UInt8, True ∧ cs = b1 c := by
  obtain ⟨v, w, rfl⟩ := h
  have := wf_u8 w
  refine ⟨UInt8.ofNat v.toNat, trivial, ?_⟩
  rw [b1, nb (by omega), Int.toNat_of_nonneg this.1]
theorem rd_bytes {B d : Nat} {a : AV} (h : RdA tt B (d + 2) 26 a) : ∃ l : List UInt8, l.length ≤ B ∧ ∀ (L : Nat → Value) (hp : Hp) v, DenA L hp a v → DenA L hp (bS l) v := by
  obtain ⟨c, ⟨n, f, hn, hf, e⟩, rfl⟩ := h
  cases e
  obtain ⟨l, hl, hf2, _⟩ := list_of (enc := b1) (R := fun _ => True) (0 : UInt8) (fun k hk => rd_byte (hf k hk))
  refine ⟨l, by omega, fun L hp v hd => ?_⟩
  subst hl
  exact den_sl_ext hd (fun k hk => (hf2 k hk).symm)
theorem rd_batch {d : Nat} {a : AV} (h : RdA tt 1048576 (d + 5) 25 a) : ∃ x : Ba, (∀ r, r ∈ x.runs → ruOk r) ∧ x.runs.length ≤ 1048576 ∧ x.dels.length ≤ 1048576 ∧ (∀ s, s ∈ x.dels → spOk s) ∧ ∀ (L : Nat → Value) (hp : Hp) v, DenA L hp a v → DenA L hp (.agg (baF x)) v := by
  obtain ⟨cs, ⟨x1, y1, ⟨n, f, hn, hf, e⟩, ⟨x2, y2, ⟨n2, f2, hn2, hf2, e2⟩, rfl, rfl⟩, rfl⟩, rfl⟩ := h
  cases e
  cases e2
  obtain ⟨l, hl, hl2, hR⟩ := list_of (enc := ruF) (R := ruOk) ru0 (fun k hk => rd_run (hf k hk))
  obtain ⟨m, hm, hm2, hS⟩ := list_of (enc := spF) (R := spOk) sp0 (fun k hk => rd_span (hf2 k hk))
  refine ⟨⟨l, m⟩, fun x hx => ?_, by simp only; omega, by simp only; omega, fun x hx => ?_, fun L hp v hd => ?_⟩
  · obtain ⟨j, hj, rfl⟩ := mem_getD' (d := ru0) hx
    exact hR j (by simp only at hj; omega)
  · obtain ⟨j, hj, rfl⟩ := mem_getD' (d := sp0) hx
    exact hS j (by simp only at hj; omega)
  · subst hl
    subst hm
    obtain ⟨vs, rfl, hl, hd⟩ := hd
    refine ⟨vs, rfl, hl, fun j c u hc hu => ?_⟩
    match j with
    | 0 =>
      cases hc
      exact den_sl_ext (hd 0 _ u rfl hu) (fun k hk => (hl2 k hk).symm)
    | 1 =>
      cases hc
      exact den_sl_ext (hd 1 _ u rfl hu) (fun k hk => (hm2 k hk).symm)
    | j + 2 => simp at hc
end Go.Eng
/- The law BatchTells. -/
set_option linter.unusedVariables false
set_option linter.unusedSimpArgs false
set_option maxRecDepth 100000
set_option maxHeartbeats 4000000
namespace Go.Eng
open Go Go.RowKit Go.Proofs
def sbI (a b : Ba) (n : Nat) (st : St) : Prop := ∃ k : Nat, n = a.runs.length - k ∧ k ≤ a.runs.length ∧ (∀ j, j < k → a.runs.getD j ru0 = b.runs.getD j ru0) ∧
  st = ⟨36, 0, [(2, .c (.own 0 0)), (3, .c (.own 1 0)), (5, vci .i64 (k : Int))], [some (.cells 25 (baF a)), some (.cells 25 (baF b))]⟩
theorem sameb_c (a b : Ba) (ha : a.runs.length ≤ 1000000) (hb : b.runs.length ≤ 1000000) (ha2 : a.dels.length ≤ 1000000) (hb2 : b.dels.length ≤ 1000000) : CallV Tryd.prog 12 [.agg (baF a), .agg (baF b)] [] (fun r own' => own' = [] ∧ ((a = b ∧ r = vcb true) ∨ (a ≠ b ∧ r = vcb false))) := by
  refine callV_pure Tryd.func12 rfl ttok ftok rfl rfl rfl (Nat.le_of_ble_eq_true rfl) ?_
  conv => whnf
  by_cases hl : a.runs.length = b.runs.length
  · rw [show (((a.runs.length : Nat) : Int) != (b.runs.length : Nat)) = false from by rw [hl]; exact bne_self_eq_false _]
    conv => whnf
    refine loopV ttok ftok (sbI a b) (norm_weak [2, 3, 5] [some 0, some 1] rfl rfl) ⟨0, rfl, Nat.zero_le _, fun j hj => by omega, rfl⟩ ?_
    rintro n st ⟨k, rfl, hk, hj, rfl⟩
    conv => whnf
    refine onB_intro (fun h => ?_) (fun h => ?_)
    · have h := of_decide_eq_true h
      have hk2 : k < a.runs.length := by omega
      conv => whnf
      refine drawV_join mixed (by kernel_rfl) ttok ?_
      conv => whnf
      refine ⟨⟨by omega, by omega⟩, ?_⟩
      conv => whnf
      refine ⟨⟨by omega, by omega⟩, ?_⟩
      conv => whnf
      simp only [ti_nat]
      refine onB_intro (fun g => ?_) (fun g => ?_)
      · conv => whnf
        refine .inr ⟨fun e => ?_, rfl⟩
        subst e
        simp [ba_bne] at g
      · have e : a.runs.getD k ru0 = b.runs.getD k ru0 := by
          simp [- List.getD_eq_getElem?_getD] at g
          obtain ⟨⟨q1, q2⟩, ⟨q3, q4⟩, ⟨q5, q6⟩, q7⟩ := g
          exact ru_ext q1 q2 q3 q4 q5 q6 ((ba_beq _ _).1 q7)
        conv => whnf
        rw [show IntKind.i64.wrap ((k : Int) + 1) = ((k + 1 : Nat) : Int) from by rw [w_i64 (by omega) (by omega)]; omega]
        refine ⟨a.runs.length - (k + 1), _, by omega, norm_weak [2, 3, 5] [some 0, some 1] rfl rfl, k + 1, rfl, by omega, fun j h2 => ?_, rfl⟩
        rcases Nat.lt_succ_iff_lt_or_eq.1 h2 with h3 | rfl
        · exact hj j h3
        · exact e
    · have h := of_decide_eq_false h
      have hre : a.runs = b.runs := slist_eq ru0 hl (fun j h2 => hj j (by omega))
      conv => whnf
      refine call_pure (sameset_c a.dels b.dels (by omega) (by omega)) rfl ?_
      rintro _ (⟨h1, rfl⟩ | ⟨h1, rfl⟩)
      · conv => whnf
        refine .inl ⟨?_, rfl⟩
        obtain ⟨a1, a2⟩ := a
        obtain ⟨b1, b2⟩ := b
        simp only at hre h1
        rw [hre, h1]
      · conv => whnf
        exact .inr ⟨fun e => h1 (by rw [e]), rfl⟩
  · rw [show (((a.runs.length : Nat) : Int) != (b.runs.length : Nat)) = true from bne_iff_ne.2 (fun e => hl (by omega))]
    conv => whnf
    exact .inr ⟨fun e => hl (by rw [e]), rfl⟩
def smB (x : Ba) : Prop := x.runs.length ≤ 40 ∧ x.dels.length ≤ 40 ∧ ∀ r, r ∈ x.runs → r.text.size ≤ 200
def smI (x : Ba) (n : Nat) (st : St) : Prop := ∃ k : Nat, n = x.runs.length - k ∧ k ≤ x.runs.length ∧ (∀ j, j < k → (x.runs.getD j ru0).text.size ≤ 200) ∧ st = ⟨29, 0, [(1, .c (.own 0 0)), (3, vci .i64 (k : Int))], [some (.cells 25 (baF x))]⟩
theorem small_c (x : Ba) (h1 : x.runs.length ≤ 1048576) (h2 : x.dels.length ≤ 1048576) (h3 : ∀ r, r ∈ x.runs → r.text.size ≤ 1048576) : CallV Tryd.prog 6 [.agg (baF x)] [] (fun r own' => own' = [] ∧ (r = vci .i64 0 ∨ (smB x ∧ r = vci .i64 1))) := by
  refine callV_pure Tryd.func6 rfl ttok ftok rfl rfl rfl (Nat.le_of_ble_eq_true rfl) ?_
  conv => whnf
  refine onB_intro (fun h => ?_) (fun h => ?_)
  · conv => whnf
    exact .inl rfl
  have hs : x.runs.length ≤ 40 ∧ x.dels.length ≤ 40 := by
    simp [pickB, isLit] at h
    omega
  clear h
  conv => whnf
  refine loopV ttok ftok (smI x) (norm_weak [1, 3] [some 0] rfl rfl) ⟨0, rfl, Nat.zero_le _, fun j hj => by omega, rfl⟩ ?_
  rintro n st ⟨k, rfl, hk, hj, rfl⟩
  conv => whnf
  refine onB_intro (fun h => ?_) (fun h => ?_)
  · have h := of_decide_eq_true h
    have hk2 : k < x.runs.length := by omega
    have hsz : (x.runs.getD k ru0).text.size ≤ 1048576 := h3 _ (by rw [List.getD_eq_getElem?_getD, List.getElem?_eq_getElem hk2]; exact List.getElem_mem hk2)
    conv => whnf
    refine ⟨⟨by omega, by omega⟩, ?_⟩
    conv => whnf
    simp only [ti_nat]
    refine ⟨by omega, ?_⟩
    conv => whnf
    refine onB_intro (fun g => ?_) (fun g => ?_)
    · conv => whnf
      exact .inl rfl
    · have g := of_decide_eq_false g
      conv => whnf
      rw [show IntKind.i64.wrap ((k : Int) + 1) = ((k + 1 : Nat) : Int) from by rw [w_i64 (by omega) (by omega)]; omega]
      refine ⟨x.runs.length - (k + 1), _, by omega, norm_weak [1, 3] [some 0] rfl rfl, k + 1, rfl, by omega, fun j h2 => ?_, rfl⟩
      rcases Nat.lt_succ_iff_lt_or_eq.1 h2 with h4 | rfl
      · exact hj j h4
      · omega
  · have h := of_decide_eq_false h
    conv => whnf
    refine .inr ⟨⟨hs.1, hs.2, fun r hr => ?_⟩, rfl⟩
    obtain ⟨j, hj2, rfl⟩ := mem_getD' (d := ru0) hr
    exact hj j (by omega)
def ba0 : Ba := ⟨[], []⟩
theorem nilB {L : Nat → Value} {h : Hp} {v : Value} (hd : DenA L h (.agg [.v (.slice none 0 0), .v (.slice none 0 0)]) v) : DenA L h (.agg (baF ba0)) v := by
  obtain ⟨vs, rfl, hl, hd⟩ := hd
  refine ⟨vs, rfl, hl, fun j c u hc hu => ?_⟩
  match j with
  | 0 =>
    cases hc
    exact den_nil_sl 7 _ (hd 0 _ u rfl hu)
  | 1 =>
    cases hc
    exact den_nil_sl 3 _ (hd 1 _ u rfl hu)
  | j + 2 => simp at hc
theorem baSm_0 : baSm ba0 := ⟨⟨fun r hr => by simp [ba0] at hr, by simp [ba0], by simp [ba0], by simp [ba0, itemsR]⟩, by simp [ba0], by simp [ba0], fun r hr => by simp [ba0] at hr, fun r hr => by simp [ba0] at hr⟩
theorem mayB_0 : mayB ba0 := ⟨fun r hr => by simp [ba0] at hr, fun k hk => by simp [ba0] at hk, fun j hj => by simp [ba0, itemsR] at hj, rfl⟩
theorem encB_0 : encB ba0 = [0, 0] := by
  unfold encB encB2 encB1 putN ba0
  simp [be_0]
theorem notB_0 : ¬ isB [0] := fun e => by
  have h1 : numS [0] (0, false) = (0, (1, false)) := by unfold numS; rw [show getN [0] ((0 : Nat) : Int) = some (0, 1) from by decide]
  have h2 : (getS [0]).2.2 = true := by
    unfold getS
    simp only [h1]
    rfl
  exact not_isB2 h2 e
theorem up_c : CallV Tryd.prog 5 [] [] (fun r own' => own' = [] ∧ r = vcb true) := by
  refine callV_pure Tryd.func5 rfl ttok ftok rfl rfl rfl (Nat.le_of_ble_eq_true rfl) ?_
  conv => whnf
  refine callV_args (argsLe_cons (fun L h v hd => nilB hd) (argsLe_refl _)) ?_
  refine call_pure (bput_c ba0 baSm_0) rfl ?_
  rintro _ (⟨_, _, rfl⟩ | ⟨h, _⟩)
  rotate_left
  · exact absurd ⟨mayB_0, by rw [encB_0]; decide⟩ h
  rw [encB_0]
  conv => whnf
  refine ⟨byteF [0], fun k hk => by
    obtain rfl : k = 0 := by omega
    rfl, ?_⟩
  conv => whnf
  refine ⟨fun _ _ => rfl, ?_⟩
  conv => whnf
  refine call_pure (bget_c [0] (by decide)) rfl ?_
  rintro _ (⟨h, _⟩ | ⟨_, rfl⟩)
  · exact absurd h notB_0
  conv => whnf
  refine ⟨[0, 0], rfl, fun _ _ => rfl, ?_⟩
  conv => whnf
  refine ⟨byteF [0, 0], fun k hk => by
    match k, hk with
    | 0, _ => rfl
    | 1, _ => rfl, ?_⟩
  conv => whnf
  refine ⟨fun _ _ => rfl, ?_⟩
  conv => whnf
  refine ⟨[0, 0], rfl, fun _ _ => rfl, ?_⟩
  conv => whnf
  refine call_pure (code_2) rfl ?_
  rintro _ rfl
  conv => whnf
  try rfl
theorem smB_sm {x : Ba} (hr : ∀ r, r ∈ x.runs → ruOk r) (hsp : ∀ s, s ∈ x.dels → spOk s) (h : smB x) : baSm x := by
  obtain ⟨h1, h2, h3⟩ := h
  have hi := itemsR_len 200 x.runs h3
  have h4 : x.runs.length * 200 ≤ 40 * 200 := Nat.mul_le_mul_right _ h1
  exact ⟨⟨hr, by omega, by omega, by omega⟩, by omega, by omega, fun r hr => by have := h3 r hr; omega, hsp⟩
theorem runsS_good {b : List UInt8} (hb : b.length ≤ 100000) : ∀ n acc (s : RS), goodR b acc s → goodR b (runsS b n acc s).1 (runsS b n acc s).2
  | 0, acc, s, h => h
  | n + 1, acc, s, h => by
    unfold runsS
    split
    · exact h
    · rename_i hs
      exact runsS_good hb n _ _ (goodR_go h hs hb)
theorem spansS_good {b : List UInt8} : ∀ n acc (s : RS), goodP b acc s → goodP b (spansS b n acc s).1 (spansS b n acc s).2
  | 0, acc, s, h => h
  | n + 1, acc, s, h => by
    unfold spansS
    split
    · exact h
    · rename_i hs
      exact spansS_good n _ _ (goodP_go h hs)
theorem getS_ok {b : List UInt8} (hb : b.length ≤ 20000) : baOk (getS b).1 ∧ (getS b).1.runs.length ≤ b.length + 1 ∧ (getS b).1.dels.length ≤ b.length + 1 ∧ (∀ r, r ∈ (getS b).1.runs → r.text.size ≤ b.length) ∧ ∀ s, s ∈ (getS b).1.dels → spOk s := by
  have hn1 := numS_le (b := b) (s := (0, false)) (Nat.zero_le _)
  have g1 := runsS_good (b := b) (by omega) (numS b (0, false)).1 [] (numS b (0, false)).2 ⟨hn1.1, by simp, by simp [sizes], fun r hr => by simp at hr⟩
  have hn2 := numS_le (b := b) (s := (runsS b (numS b (0, false)).1 [] (numS b (0, false)).2).2) g1.1
  have g2 := spansS_good (b := b) (numS b (runsS b (numS b (0, false)).1 [] (numS b (0, false)).2).2).1 [] (numS b (runsS b (numS b (0, false)).1 [] (numS b (0, false)).2).2).2 ⟨hn2.1, by simp, fun r hr => by simp at hr⟩
  unfold getS
  simp only
  generalize runsS b (numS b (0, false)).1 [] (numS b (0, false)).2 = T at g1 g2 hn2 ⊢
  generalize spansS b (numS b T.2).1 [] (numS b T.2).2 = T2 at g2 ⊢
  obtain ⟨a1, a2, a3, a4⟩ := g1
  obtain ⟨c1, c2, c3⟩ := g2
  have e1 : T.1.length ≤ b.length + 1 := by
    cases hq : T.2.2 with
    | true => rw [hq] at a2; simp only at a2; omega
    | false => rw [hq] at a2; simp only at a2; omega
  have e2 : T2.1.length ≤ b.length + 1 := by
    cases hq : T2.2.2 with
    | true => rw [hq] at c2; simp only at c2; omega
    | false => rw [hq] at c2; simp only at c2; omega
  have q1 := itemsR_sizes T.1
  exact ⟨⟨fun r hr => (a4 r hr).1, by simp only; omega, by simp only; omega, by simp only; omega⟩, e1, e2, fun r hr => (a4 r hr).2, c3⟩
theorem code_1 : CallV Tryd.prog 14 [errK 1] [] (fun r own' => own' = [] ∧ r = vci .i64 1) := by
  refine callV_pure Tryd.func14 rfl ttok ftok rfl rfl rfl (Nat.le_of_ble_eq_true rfl) ?_
  conv => whnf
  refine loop_rounds 8 ttok ftok ?_
  conv => whnf
  try rfl
theorem tells_c (x : Ba) (hr : ∀ r, r ∈ x.runs → ruOk r) (h1 : x.runs.length ≤ 1048576) (h2 : x.dels.length ≤ 1048576) (hsp : ∀ s, s ∈ x.dels → spOk s) (b : List UInt8) (hb : b.length ≤ 1048576) : CallV Tryd.prog 3 [.agg (baF x), bS b] [] (fun r own' => own' = [] ∧ r = vcb true) := by
  refine callV_pure Tryd.func3 rfl ttok ftok rfl rfl rfl (Nat.le_of_ble_eq_true rfl) ?_
  conv => whnf
  refine call_pure (up_c) rfl ?_
  rintro _ rfl
  conv => whnf
  refine call_pure (small_c x h1 h2 (fun r h => (hr r h).2.2.2)) rfl ?_
  rintro _ (rfl | ⟨hsm, rfl⟩)
  · conv => whnf
    try rfl
  have hx := smB_sm hr hsp hsm
  conv => whnf
  by_cases hbl : b.length ≤ 3000
  · rw [show decide (((b.length : Nat) : Int) > 3000) = false from decide_eq_false (by omega)]
    conv => whnf
    refine call_pure (rmayb_c x hx.1) rfl ?_
    rintro _ ⟨m, hm, rfl⟩
    conv => whnf
    refine call_pure (bput_c x hx) rfl ?_
    rintro _ (⟨hm1, hl1, rfl⟩ | ⟨hno, rfl⟩)
    · obtain rfl : m = true := hm.2 hm1
      conv => whnf
      refine call_pure (rbatch_c x hx) rfl ?_
      rintro _ (⟨_, _, rfl⟩ | ⟨h, _⟩)
      rotate_left
      · exact absurd ⟨hm1, hl1⟩ h
      conv => whnf
      refine call_pure (bget_c b hb) rfl ?_
      rintro _ (⟨hb1, rfl⟩ | ⟨hb1, rfl⟩)
      · conv => whnf
        refine call_pure (rgetb_c b hb) rfl ?_
        rintro _ (⟨_, rfl⟩ | ⟨h, _⟩)
        rotate_left
        · exact absurd hb1 h
        have hgo := getS_ok (b := b) (by omega)
        obtain ⟨g1, g2, g3, _⟩ := hgo
        conv => whnf
        refine call_pure (sameb_c (getS b).1 (getS b).1 (by omega) (by omega) (by omega) (by omega)) rfl ?_
        rintro _ (⟨_, rfl⟩ | ⟨h, _⟩)
        rotate_left
        · exact absurd rfl h
        conv => whnf
        refine call_pure (bmay_c x hx.1) rfl ?_
        rintro _ ⟨m2, hm2, rfl⟩
        obtain rfl : m2 = true := hm2.2 hm1
        conv => whnf
        refine ⟨encB x, rfl, fun _ _ => rfl, ?_⟩
        conv => whnf
        refine ⟨encB x, rfl, fun _ _ => rfl, ?_⟩
        conv => whnf
        rw [show decide ((⟨(encB x).toArray⟩ : ByteArray) = ⟨(encB x).toArray⟩) = true from decide_eq_true rfl]
        conv => whnf
      · conv => whnf
        refine call_pure (rgetb_c b hb) rfl ?_
        rintro _ (⟨h, _⟩ | ⟨_, rfl⟩)
        · exact absurd h hb1
        conv => whnf
        refine callV_args (argsLe_cons (fun L h v hd => nilB hd) (argsLe_cons (fun L h v hd => nilB hd) (argsLe_refl _))) ?_
        refine call_pure (sameb_c ba0 ba0 (by decide) (by decide) (by decide) (by decide)) rfl ?_
        rintro _ (⟨_, rfl⟩ | ⟨h, _⟩)
        rotate_left
        · exact absurd rfl h
        conv => whnf
        refine call_pure (bmay_c x hx.1) rfl ?_
        rintro _ ⟨m2, hm2, rfl⟩
        obtain rfl : m2 = true := hm2.2 hm1
        conv => whnf
        refine ⟨encB x, rfl, fun _ _ => rfl, ?_⟩
        conv => whnf
        refine ⟨encB x, rfl, fun _ _ => rfl, ?_⟩
        conv => whnf
        rw [show decide ((⟨(encB x).toArray⟩ : ByteArray) = ⟨(encB x).toArray⟩) = true from decide_eq_true rfl]
        conv => whnf
        refine call_pure (code_2) rfl ?_
        rintro _ rfl
        conv => whnf
        try rfl
    · conv => whnf
      refine call_pure (rbatch_c x hx) rfl ?_
      rintro _ (⟨h3, h4, _⟩ | ⟨_, rfl⟩)
      · exact absurd ⟨h3, h4⟩ hno
      conv => whnf
      refine call_pure (bget_c b hb) rfl ?_
      rintro _ (⟨hb1, rfl⟩ | ⟨hb1, rfl⟩)
      · conv => whnf
        refine call_pure (rgetb_c b hb) rfl ?_
        rintro _ (⟨_, rfl⟩ | ⟨h, _⟩)
        rotate_left
        · exact absurd hb1 h
        have hgo := getS_ok (b := b) (by omega)
        obtain ⟨g1, g2, g3, _⟩ := hgo
        conv => whnf
        refine call_pure (sameb_c (getS b).1 (getS b).1 (by omega) (by omega) (by omega) (by omega)) rfl ?_
        rintro _ (⟨_, rfl⟩ | ⟨h, _⟩)
        rotate_left
        · exact absurd rfl h
        conv => whnf
        refine call_pure (bmay_c x hx.1) rfl ?_
        rintro _ ⟨m2, hm2, rfl⟩
        obtain rfl : m2 = m := Bool.eq_iff_iff.2 (hm2.trans hm.symm)
        conv => whnf
        rw [show (m2 == m2) = true from beq_self_eq_true _]
        conv => whnf
        refine call_pure (code_1) rfl ?_
        rintro _ rfl
        conv => whnf
      · conv => whnf
        refine call_pure (rgetb_c b hb) rfl ?_
        rintro _ (⟨h, _⟩ | ⟨_, rfl⟩)
        · exact absurd h hb1
        conv => whnf
        refine callV_args (argsLe_cons (fun L h v hd => nilB hd) (argsLe_cons (fun L h v hd => nilB hd) (argsLe_refl _))) ?_
        refine call_pure (sameb_c ba0 ba0 (by decide) (by decide) (by decide) (by decide)) rfl ?_
        rintro _ (⟨_, rfl⟩ | ⟨h, _⟩)
        rotate_left
        · exact absurd rfl h
        conv => whnf
        refine call_pure (bmay_c x hx.1) rfl ?_
        rintro _ ⟨m2, hm2, rfl⟩
        obtain rfl : m2 = m := Bool.eq_iff_iff.2 (hm2.trans hm.symm)
        conv => whnf
        rw [show (m2 == m2) = true from beq_self_eq_true _]
        conv => whnf
        refine call_pure (code_1) rfl ?_
        rintro _ rfl
        conv => whnf
        refine call_pure (code_2) rfl ?_
        rintro _ rfl
        conv => whnf
        try rfl
  · rw [show decide (((b.length : Nat) : Int) > 3000) = true from decide_eq_true (by omega)]
    conv => whnf
    try rfl
theorem batchTells_law : ∀ avs, RdArgs tt 1048576 30 [25, 26] avs → CallV Tryd.prog 3 avs [] (fun r own' => own' = [] ∧ r = vcb true) := by
  rintro avs ⟨a0, r0, h0, ⟨a1, r1, h1, rfl, rfl⟩, rfl⟩
  obtain ⟨x, hr, k1, k2, hsp, hdx⟩ := rd_batch h0
  obtain ⟨b, hb, hd⟩ := rd_bytes h1
  refine callV_args (argsLe_cons hdx (argsLe_cons hd (argsLe_refl _))) ?_
  exact tells_c x hr k1 k2 hsp b hb
end Go.Eng
/- What is put is got, of batches: the mathematics. -/
set_option linter.unusedVariables false
set_option linter.unusedSimpArgs false
namespace Go.Eng
open Go Go.RowKit
theorem nS_put (a r : List UInt8) (v : Nat) (hv : v < 4294967296) : numS (a ++ putN v ++ r) (a.length, false) = (v, ((a ++ putN v).length, false)) := by
  unfold numS
  simp only [getN_put v hv a r, List.length_append]
theorem tS_put (a r : List UInt8) (s : ByteArray) (hs : s.size ≤ 1000000) (hc : (charsF s).isSome = true) : txtS (a ++ putT s ++ r) (a.length, false) = (s, ((a ++ putT s).length, false)) := by
  unfold txtS
  simp only [getT_put s hs hc a r, List.length_append]
theorem nS_put' {b a r : List UInt8} {v : Nat} (hb : b = a ++ (putN v ++ r)) (hv : v < 4294967296) : numS b (a.length, false) = (v, ((a ++ putN v).length, false)) := by
  rw [hb, ← List.append_assoc]
  exact nS_put a r v hv
theorem iS_put {b a r : List UInt8} {i : I2} (hb : b = a ++ (encN [i.1, i.2] ++ r)) (h : u32P i) : idS b (a.length, false) = (i, ((a ++ encN [i.1, i.2]).length, false)) := by
  obtain ⟨x, y⟩ := i
  obtain ⟨⟨h1, h2⟩, h3, h4⟩ := h
  simp only at h1 h2 h3 h4
  have e : encN [x, y] = putN x.toNat ++ putN y.toNat := by unfold encN; simp
  rw [e] at hb
  rw [List.append_assoc] at hb
  have q1 := nS_put' hb (by omega)
  have q2 := nS_put' (b := b) (a := a ++ putN x.toNat) (r := r) (v := y.toNat) (by rw [hb]; simp) (by omega)
  unfold idS
  rw [q1]
  simp only
  rw [q2, e]
  simp only [List.append_assoc]
  rw [Int.toNat_of_nonneg h1, Int.toNat_of_nonneg h3]
theorem rS_put {b a r : List UInt8} {x : Ru} (hb : b = a ++ (encRun x ++ r)) (h : ruOk x) (hs : x.text.size ≤ 3000) (hc : (charsF x.text).isSome = true) : runS b (a.length, false) = (x, ((a ++ encRun x).length, false)) := by
  obtain ⟨h1, h2, h3, _⟩ := h
  have e : encRun x = encN [x.id.1, x.id.2] ++ (encN [x.left.1, x.left.2] ++ (encN [x.right.1, x.right.2] ++ putT x.text)) := by
    unfold encRun idsOf encN
    simp
  rw [e] at hb ⊢
  have q1 := iS_put (b := b) (a := a) (i := x.id) (r := encN [x.left.1, x.left.2] ++ (encN [x.right.1, x.right.2] ++ (putT x.text ++ r))) (by rw [hb]; simp) h1
  have q2 := iS_put (b := b) (a := a ++ encN [x.id.1, x.id.2]) (i := x.left) (r := encN [x.right.1, x.right.2] ++ (putT x.text ++ r)) (by rw [hb]; simp) h2
  have q3 := iS_put (b := b) (a := a ++ encN [x.id.1, x.id.2] ++ encN [x.left.1, x.left.2]) (i := x.right) (r := putT x.text ++ r) (by rw [hb]; simp) h3
  have q4 := tS_put (a ++ encN [x.id.1, x.id.2] ++ encN [x.left.1, x.left.2] ++ encN [x.right.1, x.right.2]) r x.text (by omega) hc
  rw [show a ++ encN [x.id.1, x.id.2] ++ encN [x.left.1, x.left.2] ++ encN [x.right.1, x.right.2] ++ putT x.text ++ r = b from by rw [hb]; simp] at q4
  unfold runS
  simp only [q1, q2, q3, q4]
  simp only [List.append_assoc]
theorem sS_put {b a r : List UInt8} {x : Sp} (hb : b = a ++ (encSp x ++ r)) (h : spOk x) : spanS b (a.length, false) = (x, ((a ++ encSp x).length, false)) := by
  obtain ⟨c, f, t⟩ := x
  obtain ⟨⟨h1, h2⟩, ⟨h3, h4⟩, h5, h6⟩ := h
  simp only at h1 h2 h3 h4 h5 h6
  have e : encSp ⟨c, f, t⟩ = putN c.toNat ++ (putN f.toNat ++ putN t.toNat) := by unfold encSp encN; simp
  rw [e] at hb ⊢
  have q1 := nS_put' (b := b) (a := a) (v := c.toNat) (r := putN f.toNat ++ (putN t.toNat ++ r)) (by rw [hb]; simp) (by omega)
  have q2 := nS_put' (b := b) (a := a ++ putN c.toNat) (v := f.toNat) (r := putN t.toNat ++ r) (by rw [hb]; simp) (by omega)
  have q3 := nS_put' (b := b) (a := a ++ putN c.toNat ++ putN f.toNat) (v := t.toNat) (r := r) (by rw [hb]; simp) (by omega)
  unfold spanS
  simp only [q1, q2, q3]
  simp only [List.append_assoc, Int.toNat_of_nonneg h1, Int.toNat_of_nonneg h3, Int.toNat_of_nonneg h5]
theorem rsS_put {b : List UInt8} : ∀ (l : List Ru) (acc : List Ru) (a r : List UInt8), b = a ++ (l.flatMap encRun ++ r) → (∀ x, x ∈ l → ruOk x ∧ x.text.size ≤ 3000 ∧ (charsF x.text).isSome = true) → runsS b l.length acc (a.length, false) = (acc ++ l, ((a ++ l.flatMap encRun).length, false))
  | [], acc, a, r, hb, h => by
    simp [runsS]
  | x :: l, acc, a, r, hb, h => by
    obtain ⟨h1, h2, h3⟩ := h x (by simp)
    rw [List.length_cons]
    unfold runsS
    simp only
    rw [List.flatMap_cons] at hb ⊢
    have q := rS_put (b := b) (a := a) (x := x) (r := l.flatMap encRun ++ r) (by rw [hb]; simp) h1 h2 h3
    rw [q]
    simp only
    rw [rsS_put l (acc ++ [x]) (a ++ encRun x) r (by rw [hb]; simp) (fun y hy => h y (by simp [hy]))]
    simp only [List.append_assoc, List.singleton_append]
theorem dsS_put {b : List UInt8} : ∀ (l : List Sp) (acc : List Sp) (a r : List UInt8), b = a ++ (l.flatMap encSp ++ r) → (∀ x, x ∈ l → spOk x) → spansS b l.length acc (a.length, false) = (acc ++ l, ((a ++ l.flatMap encSp).length, false))
  | [], acc, a, r, hb, h => by
    simp [spansS]
  | x :: l, acc, a, r, hb, h => by
    have h1 := h x (by simp)
    rw [List.length_cons]
    unfold spansS
    simp only
    rw [List.flatMap_cons] at hb ⊢
    have q := sS_put (b := b) (a := a) (x := x) (r := l.flatMap encSp ++ r) (by rw [hb]; simp) h1
    rw [q]
    simp only
    rw [dsS_put l (acc ++ [x]) (a ++ encSp x) r (by rw [hb]; simp) (fun y hy => h y (by simp [hy]))]
    simp only [List.append_assoc, List.singleton_append]
theorem encB_eq (x : Ba) : encB x = putN x.runs.length ++ (x.runs.flatMap encRun ++ (putN x.dels.length ++ x.dels.flatMap encSp)) := by
  unfold encB encB2 encB1
  rw [List.take_length, List.take_length]
  simp
theorem getS_put (x : Ba) (hx : baSm x) (hm : mayB x) (r : List UInt8) : getS (encB x ++ r) = (x, ((encB x).length, false)) := by
  obtain ⟨⟨k1, k2, k3, k4⟩, k5, k6, k7, k8⟩ := hx
  have e := encB_eq x
  obtain ⟨b, hb⟩ : ∃ b, encB x ++ r = b := ⟨_, rfl⟩
  rw [hb]
  rw [e] at hb
  have q1 := nS_put' (b := b) (a := []) (v := x.runs.length) (r := x.runs.flatMap encRun ++ (putN x.dels.length ++ (x.dels.flatMap encSp ++ r))) (by rw [← hb]; simp) (by omega)
  rw [List.nil_append] at q1
  have q2 := rsS_put (b := b) x.runs [] (putN x.runs.length) (putN x.dels.length ++ (x.dels.flatMap encSp ++ r)) (by rw [← hb]; simp) (fun y hy => ⟨k1 y hy, k7 y hy, may_chars (hm.1 y hy)⟩)
  have q3 := nS_put' (b := b) (a := putN x.runs.length ++ x.runs.flatMap encRun) (v := x.dels.length) (r := x.dels.flatMap encSp ++ r) (by rw [← hb]; simp) (by omega)
  have q4 := dsS_put (b := b) x.dels [] (putN x.runs.length ++ x.runs.flatMap encRun ++ putN x.dels.length) r (by rw [← hb]; simp) k8
  rw [List.length_nil] at q1
  rw [List.nil_append] at q2 q4
  unfold getS
  simp only [q1, q2, q3, q4]
  rw [e]
  simp only [List.append_assoc]
theorem isB_put (x : Ba) (hx : baSm x) (hm : mayB x) (hl : (encB x).length ≤ 20000) : isB (encB x) ∧ (getS (encB x)).1 = x := by
  have h := getS_put x hx hm []
  rw [List.append_nil] at h
  exact ⟨⟨hl, by rw [h], by rw [h]; exact hm⟩, by rw [h]⟩
theorem notB_more (x : Ba) (hx : baSm x) (hm : mayB x) (r : List UInt8) (hr : r ≠ []) : ¬ isB (encB x ++ r) := by
  intro h
  have h2 := h.2.1
  rw [getS_put x hx hm r] at h2
  have : r.length ≠ 0 := fun e => hr (List.eq_nil_of_length_eq_zero e)
  simp only [Prod.mk.injEq, List.length_append] at h2
  omega
-- what is got of a text's beginning is got of the text
theorem getN_ext {b : List UInt8} {i : Nat} {y m : Nat} (h : getN b (i : Nat) = some (y, m)) (r : List UInt8) : getN (b ++ r) (i : Nat) = some (y, m) := by
  obtain ⟨i', hi, h1, h2, h3, h4, h5, h6, h7, h8⟩ := getN_some h
  obtain rfl : i = i' := by omega
  unfold getN
  have e0 : (b ++ r).getD i 0 = b.getD i 0 := by rw [List.getD_eq_getElem?_getD, List.getElem?_append_left h1, ← List.getD_eq_getElem?_getD]
  rw [ti_nat, e0, List.length_append, if_neg (by omega), if_neg, h7]
  · rw [List.drop_append_of_le_length (by omega), List.take_append_of_le_length (by rw [List.length_drop]; omega), show (b.getD i 0).toNat = m - 1 from by omega, show m - 1 + 1 = m from by omega]
  · rintro (q | q | ⟨q1, q2⟩)
    · omega
    · omega
    · have e1 : (b ++ r).getD (i + 1) 0 = b.getD (i + 1) 0 := by rw [List.getD_eq_getElem?_getD, List.getElem?_append_left (by omega), ← List.getD_eq_getElem?_getD]
      rw [e1] at q2
      exact h8 (by omega) q2
theorem getT_ext {b : List UInt8} {i : Nat} {t : ByteArray} {m : Nat} (h : getT b (i : Nat) = some (t, m)) (r : List UInt8) : getT (b ++ r) (i : Nat) = some (t, m) := by
  cases hg : getN b (i : Nat) with
  | none => unfold getT at h; rw [hg] at h; cases h
  | some z =>
    obtain ⟨y, n⟩ := z
    obtain ⟨i', hi, h1, h2, h3, h4, h5, h6, h7, h8⟩ := getN_some hg
    obtain rfl : i = i' := by omega
    rw [getT_some hg] at h
    rw [getT_some (getN_ext hg r)]
    split at h
    · cases h
    rename_i hn
    rw [List.length_append, if_neg (by omega), List.drop_append_of_le_length (by omega), List.take_append_of_le_length (by rw [List.length_drop]; omega)]
    exact h
theorem nS_ext {b : List UInt8} {s : RS} (h : (numS b s).2.2 = false) (r : List UInt8) : numS (b ++ r) s = numS b s := by
  obtain ⟨i, bad⟩ := s
  unfold numS at h ⊢
  cases bad with
  | true => rfl
  | false =>
    simp only at h ⊢
    cases hg : getN b (i : Nat) with
    | none => rw [hg] at h; cases h
    | some z => obtain ⟨y, m⟩ := z; rw [getN_ext hg r]
theorem tS_ext {b : List UInt8} {s : RS} (h : (txtS b s).2.2 = false) (r : List UInt8) : txtS (b ++ r) s = txtS b s := by
  obtain ⟨i, bad⟩ := s
  unfold txtS at h ⊢
  cases bad with
  | true => rfl
  | false =>
    simp only at h ⊢
    cases hg : getT b (i : Nat) with
    | none => rw [hg] at h; cases h
    | some z => obtain ⟨y, m⟩ := z; rw [getT_ext hg r]
theorem nS_ok {b : List UInt8} {s : RS} (h : (numS b s).2.2 = false) : s.2 = false := by
  cases hs : s.2 with
  | false => rfl
  | true => rw [numS_bad b s hs] at h; cases h
theorem tS_ok {b : List UInt8} {s : RS} (h : (txtS b s).2.2 = false) : s.2 = false := by
  cases hs : s.2 with
  | false => rfl
  | true => rw [txtS_bad b s hs] at h; cases h
theorem iS_ext {b : List UInt8} {s : RS} (h : (idS b s).2.2 = false) (r : List UInt8) : idS (b ++ r) s = idS b s ∧ s.2 = false := by
  have h2 : (numS b (numS b s).2).2.2 = false := h
  have h1 := nS_ok h2
  unfold idS
  rw [nS_ext h1 r, nS_ext h2 r]
  exact ⟨rfl, nS_ok h1⟩
theorem rS_ext {b : List UInt8} {s : RS} (h : (runS b s).2.2 = false) (r : List UInt8) : runS (b ++ r) s = runS b s ∧ s.2 = false := by
  have h4 : (txtS b (idS b (idS b (idS b s).2).2).2).2.2 = false := h
  have e3 := iS_ext (tS_ok h4) r
  have e2 := iS_ext e3.2 r
  have e1 := iS_ext e2.2 r
  unfold runS
  simp only [e1.1, e2.1, e3.1, tS_ext h4 r]
  exact ⟨trivial, e1.2⟩
theorem sS_ext {b : List UInt8} {s : RS} (h : (spanS b s).2.2 = false) (r : List UInt8) : spanS (b ++ r) s = spanS b s ∧ s.2 = false := by
  have h3 : (numS b (numS b (numS b s).2).2).2.2 = false := h
  have h2 := nS_ok h3
  have h1 := nS_ok h2
  unfold spanS
  simp only [nS_ext h1 r, nS_ext h2 r, nS_ext h3 r]
  exact ⟨trivial, nS_ok h1⟩
theorem rsS_ext {b : List UInt8} (r : List UInt8) : ∀ n acc (s : RS), (runsS b n acc s).2.2 = false → runsS (b ++ r) n acc s = runsS b n acc s ∧ s.2 = false
  | 0, acc, s, h => ⟨rfl, h⟩
  | n + 1, acc, s, h => by
    unfold runsS at h ⊢
    cases hs : s.2 with
    | true => rw [hs] at h; simp only at h; rw [hs] at h; cases h
    | false =>
      rw [hs] at h
      simp only at h ⊢
      have q := rsS_ext r n _ _ h
      have q2 := rS_ext q.2 r
      rw [q2.1, q.1]
      exact ⟨rfl, trivial⟩
theorem dsS_ext {b : List UInt8} (r : List UInt8) : ∀ n acc (s : RS), (spansS b n acc s).2.2 = false → spansS (b ++ r) n acc s = spansS b n acc s ∧ s.2 = false
  | 0, acc, s, h => ⟨rfl, h⟩
  | n + 1, acc, s, h => by
    unfold spansS at h ⊢
    cases hs : s.2 with
    | true => rw [hs] at h; simp only at h; rw [hs] at h; cases h
    | false =>
      rw [hs] at h
      simp only at h ⊢
      have q := dsS_ext r n _ _ h
      have q2 := sS_ext q.2 r
      rw [q2.1, q.1]
      exact ⟨rfl, trivial⟩
theorem getS_ext {b : List UInt8} (h : (getS b).2.2 = false) (r : List UInt8) : getS (b ++ r) = getS b := by
  have h4 : (spansS b (numS b (runsS b (numS b (0, false)).1 [] (numS b (0, false)).2).2).1 [] (numS b (runsS b (numS b (0, false)).1 [] (numS b (0, false)).2).2).2).2.2 = false := h
  have e4 := dsS_ext r _ _ _ h4
  have e3 := nS_ext e4.2 r
  have e2 := rsS_ext r _ _ _ (nS_ok e4.2)
  have e1 := nS_ext e2.2 r
  unfold getS
  simp only [e1, e2.1, e3, e4.1]
theorem notB_cut (x : Ba) (hx : baSm x) (hm : mayB x) (k : Nat) (hk : k < (encB x).length) : ¬ isB ((encB x).take k) := by
  intro h
  have h2 := h.2.1
  have e := getS_ext (b := (encB x).take k) (by rw [h2]) ((encB x).drop k)
  rw [List.take_append_drop] at e
  have q := getS_put x hx hm []
  rw [List.append_nil] at q
  rw [← e, q, List.length_take] at h2
  simp only [Prod.mk.injEq] at h2
  omega
-- what is got, put, is those bytes
theorem put_get_at (b : List UInt8) {i y m : Nat} (h : getN b (i : Nat) = some (y, m)) : i + m ≤ b.length ∧ y < 4294967296 ∧ b.take (i + m) = b.take i ++ putN y := by
  obtain ⟨i', hi, h1, h2, h3, h4, h5, h6, h7, h8⟩ := getN_some h
  obtain rfl : i = i' := by omega
  have e : getN (b.drop i) 0 = some (y, m) := by
    have q := getN_app (b.take i) (b.drop i)
    rw [List.take_append_drop, List.length_take, Nat.min_eq_left (by omega), h] at q
    exact q.symm
  obtain ⟨q1, q2, q3⟩ := put_get _ e
  refine ⟨h4, h5, ?_⟩
  rw [q3, List.take_add]
theorem nS_get {b : List UInt8} {s : RS} (h : (numS b s).2.2 = false) : b.take (numS b s).2.1 = b.take s.1 ++ putN (numS b s).1 := by
  obtain ⟨i, bad⟩ := s
  unfold numS at h ⊢
  cases bad with
  | true => cases h
  | false =>
    simp only at h ⊢
    cases hg : getN b (i : Nat) with
    | none => rw [hg] at h; cases h
    | some z => obtain ⟨y, m⟩ := z; exact (put_get_at b hg).2.2
theorem tS_get {b : List UInt8} {s : RS} (h : (txtS b s).2.2 = false) : b.take (txtS b s).2.1 = b.take s.1 ++ putT (txtS b s).1 := by
  obtain ⟨i, bad⟩ := s
  unfold txtS at h ⊢
  cases bad with
  | true => cases h
  | false =>
    simp only at h ⊢
    cases hg : getT b (i : Nat) with
    | none => rw [hg] at h; cases h
    | some z =>
      obtain ⟨t, m⟩ := z
      simp only
      cases hn : getN b (i : Nat) with
      | none => unfold getT at hg; rw [hn] at hg; cases hg
      | some z =>
        obtain ⟨y, n⟩ := z
        obtain ⟨q1, q2, q3⟩ := put_get_at b hn
        rw [getT_some hn] at hg
        split at hg
        · cases hg
        rename_i hlt
        split at hg
        · cases hg
          have hl : ((b.drop (i + n)).take y).length = y := by rw [List.length_take, List.length_drop]; omega
          rw [← Nat.add_assoc, List.take_add, q3]
          unfold putT
          have : (⟨((b.drop (i + n)).take y).toArray⟩ : ByteArray).size = y := by
            show ((b.drop (i + n)).take y).toArray.size = y
            simpa using hl
          rw [this]
          simp
        · cases hg
theorem iS_get {b : List UInt8} {s : RS} (h : (idS b s).2.2 = false) : b.take (idS b s).2.1 = b.take s.1 ++ encN [(idS b s).1.1, (idS b s).1.2] ∧ s.2 = false := by
  have h2 : (numS b (numS b s).2).2.2 = false := h
  have h1 := nS_ok h2
  have q1 := nS_get h1
  have q2 := nS_get h2
  refine ⟨?_, nS_ok h1⟩
  show b.take (numS b (numS b s).2).2.1 = _
  rw [q2, q1]
  unfold idS encN
  simp
theorem rS_get {b : List UInt8} {s : RS} (h : (runS b s).2.2 = false) : b.take (runS b s).2.1 = b.take s.1 ++ encRun (runS b s).1 ∧ s.2 = false := by
  have h4 : (txtS b (idS b (idS b (idS b s).2).2).2).2.2 = false := h
  have e4 := tS_get h4
  have e3 := iS_get (tS_ok h4)
  have e2 := iS_get e3.2
  have e1 := iS_get e2.2
  refine ⟨?_, e1.2⟩
  show b.take (txtS b (idS b (idS b (idS b s).2).2).2).2.1 = _
  rw [e4, e3.1, e2.1, e1.1]
  unfold runS encRun idsOf encN
  simp
theorem sS_get {b : List UInt8} {s : RS} (h : (spanS b s).2.2 = false) : b.take (spanS b s).2.1 = b.take s.1 ++ encSp (spanS b s).1 ∧ s.2 = false := by
  have h3 : (numS b (numS b (numS b s).2).2).2.2 = false := h
  have h2 := nS_ok h3
  have h1 := nS_ok h2
  refine ⟨?_, nS_ok h1⟩
  show b.take (numS b (numS b (numS b s).2).2).2.1 = _
  rw [nS_get h3, nS_get h2, nS_get h1]
  unfold spanS encSp encN
  simp
theorem rsS_get {b : List UInt8} : ∀ n acc (s : RS), (runsS b n acc s).2.2 = false → ∃ l, (runsS b n acc s).1 = acc ++ l ∧ l.length = n ∧ b.take (runsS b n acc s).2.1 = b.take s.1 ++ l.flatMap encRun ∧ s.2 = false
  | 0, acc, s, h => ⟨[], by simp [runsS], rfl, by simp [runsS], h⟩
  | n + 1, acc, s, h => by
    unfold runsS at h ⊢
    cases hs : s.2 with
    | true => rw [hs] at h; simp only at h; rw [hs] at h; cases h
    | false =>
      rw [hs] at h
      simp only at h ⊢
      obtain ⟨l, q1, q2, q3, q4⟩ := rsS_get n _ _ h
      have q := rS_get q4
      refine ⟨(runS b s).1 :: l, by rw [q1]; simp, by rw [List.length_cons, q2], ?_, trivial⟩
      rw [q3, q.1, List.flatMap_cons, List.append_assoc]
theorem dsS_get {b : List UInt8} : ∀ n acc (s : RS), (spansS b n acc s).2.2 = false → ∃ l, (spansS b n acc s).1 = acc ++ l ∧ l.length = n ∧ b.take (spansS b n acc s).2.1 = b.take s.1 ++ l.flatMap encSp ∧ s.2 = false
  | 0, acc, s, h => ⟨[], by simp [spansS], rfl, by simp [spansS], h⟩
  | n + 1, acc, s, h => by
    unfold spansS at h ⊢
    cases hs : s.2 with
    | true => rw [hs] at h; simp only at h; rw [hs] at h; cases h
    | false =>
      rw [hs] at h
      simp only at h ⊢
      obtain ⟨l, q1, q2, q3, q4⟩ := dsS_get n _ _ h
      have q := sS_get q4
      refine ⟨(spanS b s).1 :: l, by rw [q1]; simp, by rw [List.length_cons, q2], ?_, trivial⟩
      rw [q3, q.1, List.flatMap_cons, List.append_assoc]
theorem getS_get {b : List UInt8} (h : (getS b).2.2 = false) : b.take (getS b).2.1 = encB (getS b).1 := by
  have h4 : (spansS b (numS b (runsS b (numS b (0, false)).1 [] (numS b (0, false)).2).2).1 [] (numS b (runsS b (numS b (0, false)).1 [] (numS b (0, false)).2).2).2).2.2 = false := h
  obtain ⟨l2, p1, p2, p3, p4⟩ := dsS_get _ _ _ h4
  have e3 := nS_get p4
  obtain ⟨l1, k1, k2, k3, k4⟩ := rsS_get _ _ _ (nS_ok p4)
  have e1 := nS_get k4
  show b.take (spansS b (numS b (runsS b (numS b (0, false)).1 [] (numS b (0, false)).2).2).1 [] (numS b (runsS b (numS b (0, false)).1 [] (numS b (0, false)).2).2).2).2.1 = _
  rw [p3, e3, k3, e1, encB_eq]
  unfold getS
  simp only [p1, k1, List.nil_append, p2, k2]
  simp
theorem encB_get {b : List UInt8} (h : isB b) : encB (getS b).1 = b := by
  have q := getS_get (b := b) (by rw [h.2.1])
  rw [h.2.1] at q
  simp only [List.take_length] at q
  exact q.symm
end Go.Eng
/- The law BatchBack. -/
set_option linter.unusedVariables false
set_option linter.unusedSimpArgs false
set_option maxRecDepth 100000
set_option maxHeartbeats 4000000
namespace Go.Eng
open Go Go.RowKit Go.Proofs
theorem bback_c (x : Ba) (hr : ∀ r, r ∈ x.runs → ruOk r) (h1 : x.runs.length ≤ 1048576) (h2 : x.dels.length ≤ 1048576) (hsp : ∀ s, s ∈ x.dels → spOk s) (b : List UInt8) (hb : b.length ≤ 1048576)
    (cut : Int) (hc1 : -9223372036854775808 ≤ cut) (hc2 : cut ≤ 9223372036854775807) (c : UInt8) : CallV Tryd.prog 4 [.agg (baF x), bS b, vci .i64 cut, vci .u8 (c.toNat : Int)] [] (fun r own' => own' = [] ∧ r = vcb true) := by
  refine callV_pure Tryd.func4 rfl ttok ftok rfl rfl rfl (Nat.le_of_ble_eq_true rfl) ?_
  conv => whnf
  refine call_pure (up_c) rfl ?_
  rintro _ rfl
  conv => whnf
  refine call_pure (small_c x h1 h2 (fun r h => (hr r h).2.2.2)) rfl ?_
  rintro _ (rfl | ⟨hsm, rfl⟩)
  · conv => whnf
    try rfl
  have hx := smB_sm hr hsp hsm
  conv => whnf
  by_cases hbl : b.length ≤ 3000
  · rw [show decide (((b.length : Nat) : Int) > 3000) = false from decide_eq_false (by omega)]
    conv => whnf
    refine call_pure (bput_c x hx) rfl ?_
    rintro _ (⟨hm1, hl1, rfl⟩ | ⟨hno, rfl⟩)
    · have hne : (encB x).length ≠ 0 := by rw [encB_eq, List.length_append, putN_len]; omega
      obtain ⟨hB1, hB2⟩ := isB_put x hx hm1 hl1
      conv => whnf
      rw [show ((((encB x).length : Nat) : Int) == 0) = false from beq_eq_false_iff_ne.2 (by omega)]
      conv => whnf
      refine call_pure (bget_c (encB x) (by omega)) rfl ?_
      rintro _ (⟨_, rfl⟩ | ⟨h, _⟩)
      rotate_left
      · exact absurd hB1 h
      rw [hB2]
      conv => whnf
      refine ⟨⟨by omega, by simp only [show ti5.bytes = 1 from rfl]; omega⟩, ?_⟩
      conv => whnf
      refine app_two ([] : List UInt8) (encB x) rfl rfl (fun j hj => absurd hj (by simp)) (fun j hj => rfl) ?_
      rw [List.nil_append]
      conv => whnf
      refine ⟨fun _ => b1 c, one_at _, ?_⟩
      conv => whnf
      refine ⟨⟨by omega, by simp only [show ti5.bytes = 1 from rfl]; omega⟩, ?_⟩
      conv => whnf
      refine app_two (encB x) [c] rfl rfl (fun j hj => rfl) (fun j hj => by
        obtain rfl : j = 0 := by simpa using hj
        rfl) ?_
      conv => whnf
      refine ⟨fun _ _ => rfl, ?_⟩
      conv => whnf
      refine call_pure (bget_c (encB x ++ [c]) (by simp; omega)) rfl ?_
      rintro _ (⟨h, _⟩ | ⟨_, rfl⟩)
      · exact absurd h (notB_more x hx hm1 [c] (by simp))
      conv => whnf
      refine call_pure (pick_c cut ((encB x).length : Nat) hc1 hc2 (by omega) (by omega)) rfl ?_
      rintro _ rfl
      obtain ⟨k1, hk1⟩ : ∃ k : Nat, cut % ((encB x).length : Nat) = (k : Int) := ⟨(cut % ((encB x).length : Nat)).toNat, by rw [Int.toNat_of_nonneg (Int.emod_nonneg _ (by omega))]⟩
      have hk1l : k1 < (encB x).length := by
        have := Int.emod_lt_of_pos cut (show (0 : Int) < ((encB x).length : Nat) by omega)
        omega
      rw [hk1]
      conv => whnf
      refine ⟨by omega, ?_⟩
      conv => whnf
      refine sl_ex (enc := b1) (d := 0) ((encB x).take k1) (by rw [List.length_take, ti_nat]; show _ = k1 - 0; omega) (fun j hj => ?_) ?_
      · rw [List.length_take] at hj
        rw [getD_take _ _ _ _ (by omega)]
        show _ = byteF (encB x) (0 + j)
        rw [Nat.zero_add]
      conv => whnf
      refine call_pure (bget_c ((encB x).take k1) (by rw [List.length_take]; omega)) rfl ?_
      rintro _ (⟨h, _⟩ | ⟨_, rfl⟩)
      · exact absurd h (notB_cut x hx hm1 k1 hk1l)
      conv => whnf
      refine call_pure (sameb_c x x (by have := hx.2.1; omega) (by have := hx.2.1; omega) (by have := hx.2.2.1; omega) (by have := hx.2.2.1; omega)) rfl ?_
      rintro _ (⟨_, rfl⟩ | ⟨h, _⟩)
      rotate_left
      · exact absurd rfl h
      conv => whnf
      refine call_pure (bget_c b (by omega)) rfl ?_
      rintro _ (⟨hB, rfl⟩ | ⟨_, rfl⟩)
      rotate_left
      · conv => whnf
        try rfl
      have hgo := getS_ok (b := b) (by omega)
      have hsm2 : baSm (getS b).1 := ⟨hgo.1, by omega, by omega, fun r hr => by have := hgo.2.2.2.1 r hr; omega, hgo.2.2.2.2⟩
      have hen := encB_get hB
      conv => whnf
      refine call_pure (bput_c (getS b).1 hsm2) rfl ?_
      rintro _ (⟨_, _, rfl⟩ | ⟨h, _⟩)
      rotate_left
      · exact absurd ⟨hB.2.2, by rw [hen]; exact hB.1⟩ h
      rw [hen]
      conv => whnf
      refine ⟨b, rfl, fun _ _ => rfl, ?_⟩
      conv => whnf
      refine ⟨b, rfl, fun _ _ => rfl, ?_⟩
      conv => whnf
      rw [show decide ((⟨b.toArray⟩ : ByteArray) = ⟨b.toArray⟩) = true from decide_eq_true rfl]
    · conv => whnf
      refine call_pure (bget_c b (by omega)) rfl ?_
      rintro _ (⟨hB, rfl⟩ | ⟨_, rfl⟩)
      rotate_left
      · conv => whnf
        try rfl
      have hgo := getS_ok (b := b) (by omega)
      have hsm2 : baSm (getS b).1 := ⟨hgo.1, by omega, by omega, fun r hr => by have := hgo.2.2.2.1 r hr; omega, hgo.2.2.2.2⟩
      have hen := encB_get hB
      conv => whnf
      refine call_pure (bput_c (getS b).1 hsm2) rfl ?_
      rintro _ (⟨_, _, rfl⟩ | ⟨h, _⟩)
      rotate_left
      · exact absurd ⟨hB.2.2, by rw [hen]; exact hB.1⟩ h
      rw [hen]
      conv => whnf
      refine ⟨b, rfl, fun _ _ => rfl, ?_⟩
      conv => whnf
      refine ⟨b, rfl, fun _ _ => rfl, ?_⟩
      conv => whnf
      rw [show decide ((⟨b.toArray⟩ : ByteArray) = ⟨b.toArray⟩) = true from decide_eq_true rfl]
  · rw [show decide (((b.length : Nat) : Int) > 3000) = true from decide_eq_true (by omega)]
    conv => whnf
    try rfl
theorem batchBack_law : ∀ avs, RdArgs tt 1048576 30 [25, 26, 3, 5] avs → CallV Tryd.prog 4 avs [] (fun r own' => own' = [] ∧ r = vcb true) := by
  rintro avs ⟨a0, r0, h0, ⟨a1, r1, h1, ⟨a2, r2, ⟨c2, ⟨cut, w2, e2⟩, rfl⟩, ⟨a3, r3, ⟨c3, ⟨e, w3, e3⟩, rfl⟩, rfl, rfl⟩, rfl⟩, rfl⟩, rfl⟩
  cases e2
  cases e3
  have wa := wf_i64 w2
  have wc := wf_u8 w3
  obtain ⟨x, hr, k1, k2, hsp, hdx⟩ := rd_batch h0
  obtain ⟨b, hb, hd⟩ := rd_bytes h1
  obtain ⟨c, rfl⟩ : ∃ c : UInt8, e = (c.toNat : Int) := ⟨UInt8.ofNat e.toNat, by rw [nb (by omega)]; omega⟩
  refine callV_args (argsLe_cons hdx (argsLe_cons hd (argsLe_refl _))) ?_
  exact bback_c x hr k1 k2 hsp b hb cut wa.1 wa.2 c
end Go.Eng
