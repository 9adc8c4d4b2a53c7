/- The law SubsPlays, func 5. -/
import Derived.Test.YteglopjljejjkaaBSub3
set_option linter.unusedVariables false
set_option linter.unusedSimpArgs false
set_option maxRecDepth 100000
set_option maxHeartbeats 4000000
namespace Go.Eng
open Go Go.RowKit Go.Proofs
theorem len0_c (room : Int) (gap : Bool) : CallV Try.prog 25 [.c (.own 0 0)] [some (.cells 78 [.v (.slice none 0 0), vi room, .v (.bool gap)])] (fun r own' => r = vci .i64 0 ∧ own' = [some (.cells 78 [.v (.slice none 0 0), vi room, .v (.bool gap)])]) := by
  refine callV_own Try.func25 rfl ttok ftok rfl rfl rfl (Nat.le_of_ble_eq_true rfl) rfl ?_
  conv => whnf
  refine ⟨by omega, ?_⟩
  conv => whnf
  refine ⟨_, Weak.refl _, ?_⟩
  conv => whnf
  exact ⟨[some 0], rfl, rfl, rfl, rfl⟩
structure Dd where
  k : Int
  m : Ms
abbrev ddF (d : Dd) : List IC := vi d.k :: msF d.m
def dd0 : Dd := ⟨0, ms0⟩
abbrev ddR (l : List Dd) (k : Nat) : List IC := ddF (l.getD k dd0)
abbrev c78 (x : IC) (room : Int) (g : Bool) : Option Ob := some (.cells 78 [x, vi room, .v (.bool g)])
abbrev c45 (x : IC) (room : Int) (g : Bool) : Option Ob := some (.cells 45 [x, vi room, .v (.bool g)])
abbrev nlC : IC := .v (.slice none 0 0)
abbrev rwC (L : List Ms) : Option Ob := some (.row 48 6 L.length (msR L))
/-- What the law's loop holds: the queue and the reference's, of the same messages. -/
def spI (room : Int) (l : List Dd) (n : Nat) (st : St) : Prop := ∃ (k : Nat) (L : List Ms) (gap : Bool), n = l.length - k ∧ k ≤ l.length ∧ L.length ≤ k ∧ (L.length : Int) ≤ room ∧
  st = ⟨112, 0, [(1, .c (.sl 7 l.length (ddR l))), (5, vcb true), (6, .c (.own 0 0)), (8, .c (.own 1 0)), (9, vci .i64 (k : Int))],
    [some (.cells 78 [.row 2, vi room, .v (.bool gap)]), some (.cells 45 [.row 3, vi room, .v (.bool gap)]), some (.row 48 6 L.length (msR L)), some (.row 48 6 L.length (msR L))]⟩
theorem subsplays_c (room : Int) (h1 : -9223372036854775808 ≤ room) (h2 : room ≤ 9223372036854775807) (l : List Dd) (hl : l.length ≤ 1000000000) (f : Nat → List IC) (hf : ∀ k, k < l.length → f k = ddF (l.getD k dd0)) :
    CallV Try.prog 5 [vci .i64 room, .c (.sl 7 l.length (ddR l))] [] (fun r own' => own' = [] ∧ r = vcb true) := by
  refine callV_pure Try.func5 rfl ttok ftok rfl rfl rfl (Nat.le_of_ble_eq_true rfl) ?_
  conv => whnf
  refine call_pure sup_c rfl ?_
  rintro _ rfl
  conv => whnf
  refine onB_intro (fun h => ?_) (fun h => ?_)
  · conv => whnf
    all_goals first | rfl | exact ⟨rfl, rfl⟩
  have hlen := of_decide_eq_false h
  clear h
  conv => whnf
  refine call_frame2 [] rfl rfl rfl rfl (new_c room h1 h2) ?_
  rintro r own2 (⟨h, rfl, rfl⟩ | ⟨h, rfl, rfl⟩)
  · refine ⟨.tup [.c (.v (.pointer none)), .c (.v (.iface 76 (.int .i64 1)))], [], rfl, rfl, ?_⟩
    conv => whnf
    refine onB_intro (fun h3 => ?_) (fun h3 => ?_)
    · conv => whnf
      refine call_pure code_1 rfl ?_
      rintro _ rfl
      conv => whnf
      all_goals first | rfl | exact ⟨rfl, rfl⟩
    · simp [pickB, isLit] at h3
      omega
  · refine ⟨.tup [.c (.own 0 0), .c (.v .nilIface)], [some (.cells 78 [.v (.slice none 0 0), vi room, .v (.bool false)])], rfl, rfl, ?_⟩
    conv => whnf
    refine onB_intro (fun h3 => ?_) (fun h3 => ?_)
    · simp [pickB, isLit] at h3
      omega
    conv => whnf
    refine loopV ttok ftok (spI room l) (((nil_cell 0 0 48 6 (msR []) rfl rfl).trans (nil_cell 1 0 48 6 (msR []) rfl rfl)).trans (norm_weak [1, 5, 6, 8, 9] [some 0, some 1, some 2, some 3] rfl rfl)) ⟨0, [], false, rfl, Nat.zero_le _, Nat.zero_le _, by simp; omega, rfl⟩ ?_
    rintro n st ⟨k, L, gap, rfl, hk, hL, hr, rfl⟩
    conv => whnf
    refine onB_intro (fun h4 => ?_) (fun h4 => ?_)
    · have h4 := of_decide_eq_true h4
      conv => whnf
      refine ⟨⟨by omega, by omega⟩, ?_⟩
      conv => whnf
      refine call_pure (pick_c _ 3 (by decide) (by decide)) rfl ?_
      rintro _ rfl
      conv => whnf
      refine onB_intro (fun h5 => ?_) (fun h5 => ?_)
      · conv => whnf
        refine drawV_loud 28 [0, 1, 2, 3, 4, 5, 6, 7, 8, 9, 10, 11, 12, 14, 15, 16, 17, 18, 19, 20, 21, 22, 23, 24, 25, 26] [13, 27] [0, 1, 2, 3] mixed (by kernel_rfl) ttok ftok ?_
        conv => whnf
        refine ⟨⟨by omega, by omega⟩, ?_⟩
        conv => whnf
        refine ⟨⟨by omega, by omega⟩, ?_⟩
        conv => whnf
        refine ⟨⟨by omega, by omega⟩, ?_⟩
        conv => whnf
        refine ⟨⟨by omega, by omega⟩, ?_⟩
        conv => whnf
        have hL9 : L.length ≤ 10000 := by omega
        cases gap with
        | true =>
          refine call_frame2 [some 0, some 2] rfl rfl rfl rfl (drain_c L hL9 room true _ _) ?_
          rintro r own2 (⟨_, rfl, rfl⟩ | ⟨h6, _⟩)
          rotate_left
          · cases h6
          refine ⟨.c (.row 4), [some (.cells 78 [.v (.slice none 0 0), vi room, .v (.bool false)]), some (.cells 45 [.row 3, vi room, .v (.bool true)]), none, some (.row 48 6 L.length (msR L)), some (.row 48 6 (L ++ [msW (l.getD k dd0).m.v (l.getD k dd0).m.t]).length (msR (L ++ [msW (l.getD k dd0).m.v (l.getD k dd0).m.t])))], rfl, rfl, ?_⟩
          conv => whnf
          refine call_frame2 [some 1, some 3] rfl rfl rfl rfl (rdrain_c L hL9 room true _ _) ?_
          rintro r own2 (⟨_, rfl, rfl⟩ | ⟨h6, _⟩)
          rotate_left
          · cases h6
          refine ⟨.c (.row 5), [some (.cells 78 [.v (.slice none 0 0), vi room, .v (.bool false)]), some (.cells 45 [.v (.slice none 0 0), vi room, .v (.bool false)]), none, none, some (.row 48 6 (L ++ [msW (l.getD k dd0).m.v (l.getD k dd0).m.t]).length (msR (L ++ [msW (l.getD k dd0).m.v (l.getD k dd0).m.t]))), some (.row 48 6 (L ++ [msW (l.getD k dd0).m.v (l.getD k dd0).m.t]).length (msR (L ++ [msW (l.getD k dd0).m.v (l.getD k dd0).m.t])))], rfl, rfl, ?_⟩
          conv => whnf
          refine ⟨rfl, ?_⟩
          conv => whnf
          refine ⟨fun j hj => rfl, ?_⟩
          conv => whnf
          refine ⟨fun j hj => rfl, ?_⟩
          conv => whnf
          refine call_pure (same_c (L ++ [msW (l.getD k dd0).m.v (l.getD k dd0).m.t]) (L ++ [msW (l.getD k dd0).m.v (l.getD k dd0).m.t]) (by simp; omega) (by simp; omega)) rfl ?_
          rintro _ (⟨_, rfl⟩ | ⟨h, _⟩)
          rotate_left
          · exact absurd rfl h
          conv => whnf
          refine drawV_loud 7 [0, 2, 3, 4, 5, 6] [1] [0] mixed (by kernel_rfl) ttok ftok ?_
          conv => whnf
          refine ⟨by omega, ?_⟩
          conv => whnf
          refine call_frame2 [some 0] rfl rfl rfl rfl (len0_c room false) ?_
          rintro r own2 ⟨rfl, rfl⟩
          refine ⟨vci .i64 0, [c78 nlC room false, none, none, none, none, none], rfl, rfl, ?_⟩
          conv => whnf
          refine ⟨rfl, ?_⟩
          conv => whnf
          refine ⟨l.length - (k + 1), _, by omega, ((nil_cell 0 0 48 6 (msR []) rfl rfl).trans (nil_cell 1 0 48 6 (msR []) rfl rfl)).trans (norm_weak [1, 5, 6, 8, 9] [some 0, some 1, some 6, some 7] rfl rfl), k + 1, [], false, rfl, by omega, Nat.zero_le _, by simp; omega, ?_⟩
          rw [show (((k + 1 : Nat)) : Int) = IntKind.i64.wrap ((k : Int) + 1) from by rw [w_i64 (by omega) (by omega)]; omega]
          rfl
        | false =>
          refine call_frame2 [some 0, some 2] rfl rfl rfl rfl (drain_c L hL9 room false _ _) ?_
          rintro r own2 (⟨h6, _⟩ | ⟨_, rfl, rfl⟩)
          · cases h6
          refine ⟨.c (.row 2), [some (.cells 78 [.v (.slice none 0 0), vi room, .v (.bool false)]), some (.cells 45 [.row 3, vi room, .v (.bool false)]), some (.row 48 6 L.length (msR L)), some (.row 48 6 L.length (msR L))], rfl, rfl, ?_⟩
          conv => whnf
          refine call_frame2 [some 1, some 3] rfl rfl rfl rfl (rdrain_c L hL9 room false _ _) ?_
          rintro r own2 (⟨h6, _⟩ | ⟨_, rfl, rfl⟩)
          · cases h6
          refine ⟨.c (.row 3), [some (.cells 78 [.v (.slice none 0 0), vi room, .v (.bool false)]), some (.cells 45 [.v (.slice none 0 0), vi room, .v (.bool false)]), some (.row 48 6 L.length (msR L)), some (.row 48 6 L.length (msR L))], rfl, rfl, ?_⟩
          conv => whnf
          refine ⟨rfl, ?_⟩
          conv => whnf
          refine ⟨fun j hj => rfl, ?_⟩
          conv => whnf
          refine ⟨fun j hj => rfl, ?_⟩
          conv => whnf
          refine call_pure (same_c L L (by omega) (by omega)) rfl ?_
          rintro _ (⟨_, rfl⟩ | ⟨h, _⟩)
          rotate_left
          · exact absurd rfl h
          conv => whnf
          refine drawV_loud 7 [0, 2, 3, 4, 5, 6] [1] [0] mixed (by kernel_rfl) ttok ftok ?_
          conv => whnf
          refine ⟨by omega, ?_⟩
          conv => whnf
          refine call_frame2 [some 0] rfl rfl rfl rfl (len0_c room false) ?_
          rintro r own2 ⟨rfl, rfl⟩
          refine ⟨vci .i64 0, [c78 nlC room false, none, none, none], rfl, rfl, ?_⟩
          conv => whnf
          refine ⟨rfl, ?_⟩
          conv => whnf
          refine ⟨l.length - (k + 1), _, by omega, ((nil_cell 0 0 48 6 (msR []) rfl rfl).trans (nil_cell 1 0 48 6 (msR []) rfl rfl)).trans (norm_weak [1, 5, 6, 8, 9] [some 0, some 1, some 4, some 5] rfl rfl), k + 1, [], false, rfl, by omega, Nat.zero_le _, by simp; omega, ?_⟩
          rw [show (((k + 1 : Nat)) : Int) = IntKind.i64.wrap ((k : Int) + 1) from by rw [w_i64 (by omega) (by omega)]; omega]
          rfl
      · conv => whnf
        refine drawV_loud 14 [0, 1, 2, 3, 4, 5, 7, 8, 9, 10, 11, 12] [6, 13] [0, 1, 2, 3] mixed (by kernel_rfl) ttok ftok ?_
        conv => whnf
        refine ⟨⟨by omega, by omega⟩, ?_⟩
        conv => whnf
        refine ⟨⟨by omega, by omega⟩, ?_⟩
        conv => whnf
        have hL9 : L.length ≤ 10000 := by omega
        refine call_frame2 [some 0, some 2] rfl rfl rfl rfl (push_c L hL9 room gap (l.getD k dd0).m) ?_
        rintro r own2 (⟨h6, rfl, rfl⟩ | ⟨h6, rfl, rfl⟩)
        · refine ⟨vcb false, [c78 (.row 2) room true, c45 (.row 3) room gap, rwC L, rwC L], rfl, rfl, ?_⟩
          conv => whnf
          refine call_frame2 [some 1, some 3] rfl rfl rfl rfl (rpush_c L hL9 room gap (l.getD k dd0).m) ?_
          rintro r own2 (⟨h7, rfl, rfl⟩ | ⟨h7, _⟩)
          rotate_left
          · exact absurd (h6.elim Or.inr (fun h => Or.inl (by omega))) h7
          refine ⟨vcb false, [c78 (.row 2) room true, c45 (.row 3) room true, rwC L, rwC L], rfl, rfl, ?_⟩
          conv => whnf
          refine ⟨rfl, ?_⟩
          conv => whnf
          refine drawV_loud 7 [0, 2, 3, 4, 5, 6] [1] [0, 2] mixed (by kernel_rfl) ttok ftok ?_
          conv => whnf
          refine call_frame2 [some 0, some 2] rfl rfl rfl rfl (len_c 0 L room true) ?_
          rintro r own2 ⟨rfl, rfl⟩
          refine ⟨vci .i64 L.length, [c78 (.row 2) room true, none, rwC L, none], rfl, rfl, ?_⟩
          conv => whnf
          refine ⟨rfl, ?_⟩
          conv => whnf
          refine onB_intro (fun h8 => ?_) (fun h8 => ?_)
          · simp [bne] at h8
          conv => whnf
          refine ⟨l.length - (k + 1), _, by omega, norm_weak [1, 5, 6, 8, 9] [some 0, some 1, some 2, some 3] rfl rfl, k + 1, L, true, rfl, by omega, by omega, by omega, ?_⟩
          rw [show (((k + 1 : Nat)) : Int) = IntKind.i64.wrap ((k : Int) + 1) from by rw [w_i64 (by omega) (by omega)]; omega]
          rfl
        · refine ⟨vcb true, [c78 (.row 4) room gap, c45 (.row 3) room gap, none, rwC L, rwC (L ++ [(l.getD k dd0).m])], rfl, rfl, ?_⟩
          conv => whnf
          refine call_frame2 [some 1, some 3] rfl rfl rfl rfl (rpush_c L hL9 room gap (l.getD k dd0).m) ?_
          rintro r own2 (⟨h7, _⟩ | ⟨h7, rfl, rfl⟩)
          · exact absurd (h7.elim (fun h => Or.inr (by omega)) Or.inl) h6
          refine ⟨vcb true, [c78 (.row 4) room gap, c45 (.row 5) room gap, none, none, rwC (L ++ [(l.getD k dd0).m]), rwC (L ++ [(l.getD k dd0).m])], rfl, rfl, ?_⟩
          conv => whnf
          refine ⟨rfl, ?_⟩
          conv => whnf
          refine drawV_loud 7 [0, 2, 3, 4, 5, 6] [1] [0, 4] mixed (by kernel_rfl) ttok ftok ?_
          conv => whnf
          refine call_frame2 [some 0, some 4] rfl rfl rfl rfl (len_c 0 (L ++ [(l.getD k dd0).m]) room gap) ?_
          rintro r own2 ⟨rfl, rfl⟩
          refine ⟨vci .i64 (L ++ [(l.getD k dd0).m]).length, [c78 (.row 4) room gap, none, none, none, rwC (L ++ [(l.getD k dd0).m]), none], rfl, rfl, ?_⟩
          conv => whnf
          refine ⟨rfl, ?_⟩
          conv => whnf
          refine onB_intro (fun h8 => ?_) (fun h8 => ?_)
          · simp [bne] at h8
          conv => whnf
          refine ⟨l.length - (k + 1), _, by omega, norm_weak [1, 5, 6, 8, 9] [some 0, some 1, some 4, some 5] rfl rfl, k + 1, (L ++ [(l.getD k dd0).m]), gap, rfl, by omega, by simp; omega, by simp; omega, ?_⟩
          rw [show (((k + 1 : Nat)) : Int) = IntKind.i64.wrap ((k : Int) + 1) from by rw [w_i64 (by omega) (by omega)]; omega]
          rfl
    · conv => whnf
      all_goals first | rfl | exact ⟨rfl, rfl⟩
end Go.Eng
