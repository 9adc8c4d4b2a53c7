/- The queue's functions. -/
import Derived.Test.YteglopjljejjkaaBVal
import Derived.Test.YteglopjljejjkaaA19
set_option linter.unusedVariables false
set_option linter.unusedSimpArgs false
set_option maxRecDepth 100000
set_option maxHeartbeats 4000000
namespace Go.Eng
open Go Go.RowKit Go.Proofs
structure Ms where
  v : Int
  w : Bool
  t : ByteArray
  at_ : Int
  del : Int
  ins : ByteArray
abbrev msF (m : Ms) : List IC := [vi m.v, .v (.bool m.w), .v (.string m.t), vi m.at_, vi m.del, .v (.string m.ins)]
def ms0 : Ms := ⟨0, false, ⟨#[]⟩, 0, 0, ⟨#[]⟩⟩
abbrev msR (l : List Ms) (k : Nat) : List IC := msF (l.getD k ms0)
abbrev qO (t : Nat) (l : List Ms) (room : Int) (gap : Bool) : List (Option Ob) := [some (.cells t [.row 1, vi room, .v (.bool gap)]), some (.row 48 6 l.length (msR l))]
abbrev qN (t : Nat) (l : List Ms) (room : Int) (gap : Bool) : List (Option Ob) := [some (.cells t [.row 2, vi room, .v (.bool gap)]), none, some (.row 48 6 l.length (msR l))]
theorem push_c (l : List Ms) (hl : l.length ≤ 10000) (room : Int) (gap : Bool) (m : Ms) : CallV Try.prog 23 [.c (.own 0 0), .agg (msF m)] (qO 78 l room gap)
    (fun r own' => ((gap = true ∨ (l.length : Int) = room) ∧ r = vcb false ∧ own' = qO 78 l room true) ∨ (¬ (gap = true ∨ (l.length : Int) = room) ∧ r = vcb true ∧ own' = qN 78 (l ++ [m]) room gap)) := by
  refine callV_own Try.func23 rfl ttok ftok rfl rfl rfl (Nat.le_of_ble_eq_true rfl) rfl ?_
  conv => whnf
  refine drawV_join mixed (by kernel_rfl) ttok ?_
  conv => whnf
  refine onB_intro (fun h => ?_) (fun h => ?_)
  · simp [pickB, isLit] at h
    conv => whnf
    refine ⟨_, Weak.refl _, ?_⟩
    conv => whnf
    refine ⟨[some 0, some 1], rfl, rfl, .inl ⟨h, rfl, rfl⟩⟩
  · simp [pickB, isLit] at h
    conv => whnf
    refine drawV_loud 8 [0, 1, 2, 3, 4, 5] [6, 7] [1] mixed (by kernel_rfl) ttok ftok ?_
    conv => whnf
    refine ⟨fun _ => msF m, fun k hk => ?_, ?_⟩
    · have e : k = 0 := by clear h; omega
      subst e
      rfl
    conv => whnf
    refine ⟨⟨by omega, by show (l.length + 1) * 64 ≤ _; omega⟩, ?_⟩
    conv => whnf
    refine app1 (enc := msF) (d := ms0) m (fun k hk => rfl) rfl ?_
    conv => whnf
    refine ⟨rfl, ?_⟩
    conv => whnf
    refine ⟨_, Weak.refl _, ?_⟩
    conv => whnf
    refine ⟨[some 0, none, some 4], rfl, rfl, .inr ⟨by rw [h.1]; simp [h.2], rfl, rfl⟩⟩
/-- What a full queue tells behind its messages. -/
def msW (v : Int) (t : ByteArray) : Ms := ⟨v, true, t, 0, 0, ⟨#[]⟩⟩
theorem new_c (n : Int) (h1 : -9223372036854775808 ≤ n) (h2 : n ≤ 9223372036854775807) : CallV Try.prog 18 [vci .i64 n] [] (fun r own' => ((n < 1 ∨ 1000 < n) ∧ own' = [] ∧ r = .tup [.c (.v (.pointer none)), .c (.v (.iface 76 (.int .i64 1)))]) ∨
    (¬ (n < 1 ∨ 1000 < n) ∧ r = .tup [.c (.own 0 0), .c (.v .nilIface)] ∧ own' = [some (.cells 78 [.v (.slice none 0 0), vi n, .v (.bool false)])])) := by
  refine callV_own Try.func18 rfl ttok ftok rfl rfl rfl (Nat.le_of_ble_eq_true rfl) rfl ?_
  conv => whnf
  refine onB_intro (fun h => ?_) (fun h => ?_)
  · simp [pickB, isLit] at h
    conv => whnf
    refine ⟨_, Weak.refl _, ?_⟩
    conv => whnf
    refine ⟨[], rfl, rfl, .inl ⟨h, rfl, rfl⟩⟩
  · simp [pickB, isLit] at h
    conv => whnf
    refine ⟨_, Weak.refl _, ?_⟩
    conv => whnf
    refine ⟨[some 0], rfl, rfl, .inr ⟨by omega, rfl, rfl⟩⟩
theorem len_c (t : Nat) (l : List Ms) (room : Int) (gap : Bool) : CallV Try.prog 25 [.c (.own 0 0)] (qO 78 l room gap) (fun r own' => r = vci .i64 l.length ∧ own' = qO 78 l room gap) := by
  refine callV_own Try.func25 rfl ttok ftok rfl rfl rfl (Nat.le_of_ble_eq_true rfl) rfl ?_
  conv => whnf
  refine ⟨_, Weak.refl _, ?_⟩
  conv => whnf
  exact ⟨[some 0, some 1], rfl, rfl, rfl, rfl⟩
theorem drain_c (l : List Ms) (hl : l.length ≤ 10000) (room : Int) (gap : Bool) (v : Int) (t : ByteArray) : CallV Try.prog 21 [.c (.own 0 0), vci .i64 v, vcs t] (qO 78 l room gap)
    (fun r own' => (gap = true ∧ r = .c (.row 2) ∧ own' = [some (.cells 78 [.v (.slice none 0 0), vi room, .v (.bool false)]), none, some (.row 48 6 (l ++ [msW v t]).length (msR (l ++ [msW v t])))]) ∨
      (gap = false ∧ r = .c (.row 1) ∧ own' = [some (.cells 78 [.v (.slice none 0 0), vi room, .v (.bool false)]), some (.row 48 6 l.length (msR l))])) := by
  refine callV_own Try.func21 rfl ttok ftok rfl rfl rfl (Nat.le_of_ble_eq_true rfl) rfl ?_
  conv => whnf
  refine onB_intro (fun h => ?_) (fun h => ?_)
  · conv => whnf
    refine ⟨fun _ => msF (msW v t), fun k hk => ?_, ?_⟩
    · have e : k = 0 := by omega
      subst e
      rfl
    conv => whnf
    refine ⟨⟨by omega, by show (l.length + 1) * 64 ≤ _; omega⟩, ?_⟩
    conv => whnf
    refine app1 (enc := msF) (d := ms0) (msW v t) (fun k hk => rfl) rfl ?_
    conv => whnf
    refine ⟨_, Weak.refl _, ?_⟩
    conv => whnf
    refine ⟨[some 0, none, some 3], rfl, rfl, .inl ⟨h, rfl, rfl⟩⟩
  · conv => whnf
    refine ⟨_, Weak.refl _, ?_⟩
    conv => whnf
    refine ⟨[some 0, some 1], rfl, rfl, .inr ⟨h, rfl, rfl⟩⟩
/-! The reference's queue: its gap is a flag as well. -/
theorem rpush_c (l : List Ms) (hl : l.length ≤ 10000) (room : Int) (gap : Bool) (m : Ms) : CallV Try.prog 24 [.c (.own 0 0), .agg (msF m)] (qO 45 l room gap)
    (fun r own' => ((room ≤ (l.length : Int) ∨ gap = true) ∧ r = vcb false ∧ own' = qO 45 l room true) ∨ (¬ (room ≤ (l.length : Int) ∨ gap = true) ∧ r = vcb true ∧ own' = qN 45 (l ++ [m]) room gap)) := by
  refine callV_own Try.func24 rfl ttok ftok rfl rfl rfl (Nat.le_of_ble_eq_true rfl) rfl ?_
  conv => whnf
  refine drawV_join mixed (by kernel_rfl) ttok ?_
  conv => whnf
  refine onB_intro (fun h => ?_) (fun h => ?_)
  · have h := of_decide_eq_true h
    conv => whnf
    refine ⟨_, Weak.refl _, ?_⟩
    conv => whnf
    refine ⟨[some 0, some 1], rfl, rfl, .inl ⟨.inl h, rfl, rfl⟩⟩
  · have h := of_decide_eq_false h
    conv => whnf
    refine onB_intro (fun h2 => ?_) (fun h2 => ?_)
    · conv => whnf
      refine ⟨_, Weak.refl _, ?_⟩
      conv => whnf
      refine ⟨[some 0, some 1], rfl, rfl, .inl ⟨.inr h2, rfl, by rw [h2]; rfl⟩⟩
    conv => whnf
    refine drawV_loud 8 [0, 1, 2, 3, 4, 5] [6, 7] [1] mixed (by kernel_rfl) ttok ftok ?_
    conv => whnf
    refine ⟨fun _ => msF m, fun k hk => ?_, ?_⟩
    · have e : k = 0 := by clear h; omega
      subst e
      rfl
    conv => whnf
    refine ⟨⟨by omega, by show (l.length + 1) * 64 ≤ _; omega⟩, ?_⟩
    conv => whnf
    refine app1 (enc := msF) (d := ms0) m (fun k hk => rfl) rfl ?_
    conv => whnf
    refine ⟨rfl, ?_⟩
    conv => whnf
    refine ⟨_, Weak.refl _, ?_⟩
    conv => whnf
    refine ⟨[some 0, none, some 4], rfl, rfl, .inr ⟨fun e => e.elim h (fun e => by rw [h2] at e; cases e), rfl, rfl⟩⟩
theorem rdrain_c (l : List Ms) (hl : l.length ≤ 10000) (room : Int) (gap : Bool) (v : Int) (t : ByteArray) : CallV Try.prog 22 [.c (.own 0 0), vci .i64 v, vcs t] (qO 45 l room gap)
    (fun r own' => (gap = true ∧ r = .c (.row 2) ∧ own' = [some (.cells 45 [.v (.slice none 0 0), vi room, .v (.bool false)]), none, some (.row 48 6 (l ++ [msW v t]).length (msR (l ++ [msW v t])))]) ∨
      (gap = false ∧ r = .c (.row 1) ∧ own' = [some (.cells 45 [.v (.slice none 0 0), vi room, .v (.bool false)]), some (.row 48 6 l.length (msR l))])) := by
  refine callV_own Try.func22 rfl ttok ftok rfl rfl rfl (Nat.le_of_ble_eq_true rfl) rfl ?_
  conv => whnf
  refine onB_intro (fun h => ?_) (fun h => ?_)
  · conv => whnf
    refine ⟨⟨by omega, by show (0 + l.length) * 64 ≤ _; omega⟩, ?_⟩
    conv => whnf
    refine ⟨l.length, msR l, by omega, fun k hk => by omega, fun k hk => by rw [Nat.zero_add], ?_⟩
    conv => whnf
    refine ⟨fun _ => msF (msW v t), fun k hk => ?_, ?_⟩
    · have e : k = 0 := by omega
      subst e
      rfl
    conv => whnf
    refine ⟨⟨by omega, by show (l.length + 1) * 64 ≤ _; omega⟩, ?_⟩
    conv => whnf
    refine app1 (enc := msF) (d := ms0) (msW v t) (fun k hk => rfl) rfl ?_
    conv => whnf
    refine ⟨_, Weak.refl _, ?_⟩
    conv => whnf
    refine ⟨[some 0, none, some 5], rfl, rfl, .inl ⟨h, rfl, rfl⟩⟩
  · conv => whnf
    refine ⟨_, Weak.refl _, ?_⟩
    conv => whnf
    refine ⟨[some 0, some 1], rfl, rfl, .inr ⟨h, rfl, rfl⟩⟩
theorem tmod_lo {n b : Int} (hb : 0 < b) : -b < n.tmod b ∧ n.tmod b < b := by
  have h1 := Int.tmod_lt_of_pos n hb
  have h2 := Int.lt_tmod_of_pos n hb
  exact ⟨h2, h1⟩
def pickN (n b : Int) : Int := if n.tmod b < 0 then n.tmod b + b else n.tmod b
theorem pickN_lt {n b : Int} (hb : 0 < b) : 0 ≤ pickN n b ∧ pickN n b < b := by
  have := tmod_lo (n := n) hb
  unfold pickN
  split <;> omega
theorem pick_c (n b : Int) (hb : 1 ≤ b) (hb2 : b ≤ 1000000) : CallV Try.prog 19 [vci .i64 n, vci .i64 b] [] (fun r own' => own' = [] ∧ r = vci .i64 (pickN n b)) := by
  refine callV_pure Try.func19 rfl ttok ftok rfl rfl rfl (Nat.le_of_ble_eq_true rfl) ?_
  have ht := tmod_lo (n := n) (b := b) (by omega)
  conv => whnf
  refine ⟨by omega, ?_⟩
  conv => whnf
  refine onB_intro (fun h => ?_) (fun h => ?_)
  · have h := of_decide_eq_true h
    conv => whnf
    rw [w_i64 (by omega) (by omega)]
    unfold pickN
    rw [if_pos h]
  · have h := of_decide_eq_false h
    conv => whnf
    unfold pickN
    rw [if_neg h]
end Go.Eng
