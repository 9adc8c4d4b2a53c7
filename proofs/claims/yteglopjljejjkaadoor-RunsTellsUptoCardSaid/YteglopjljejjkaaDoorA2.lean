/- A part of the proof: what the functions of the program come to, told by a small reckoner of states. -/
import Derived.Test.YteglopjljejjkaaDoorA1
set_option linter.unusedVariables false
set_option linter.unusedSimpArgs false
namespace Go.Eng
open Go Go.RowKit

def cellV : IC → Option Value
  | .v x => some x
  | _ => none
def avVal : AV → Option Value
  | .c (.v x) => some x
  | .agg xs => (xs.mapM cellV).map fun vs => .agg vs.toArray
  | _ => none
theorem cellV_den {L : Nat → Value} {h : Hp} : ∀ {xs : List IC} {us vs : List Value}, xs.mapM cellV = some us → DenL L h xs vs → vs = us
  | [], us, vs, e, hd => by simp at e; subst e; exact List.eq_nil_of_length_eq_zero (by have := hd.1; simpa using this.symm)
  | x :: xs, us, vs, e, hd => by
    rw [List.mapM_cons] at e
    obtain ⟨v, r, rfl, h1, h2⟩ := hd.uncons
    cases x with
    | v x =>
      simp only [cellV, bind, Option.bind_some] at e
      cases hx : xs.mapM cellV with
      | none => rw [hx] at e; cases e
      | some ws =>
        rw [hx] at e
        cases e
        cases h1
        rw [cellV_den hx h2]
    | _ => cases e
theorem avVal_den {L : Nat → Value} {h : Hp} {a : AV} {u v : Value} (e : avVal a = some u) (hd : DenA L h a v) : v = u := by
  unfold avVal at e
  split at e
  · cases e; cases hd; rfl
  · cases hx : List.mapM cellV ‹List IC› with
    | none => rw [hx] at e; cases e
    | some us => rw [hx] at e; cases e; obtain ⟨vs, rfl, hd⟩ := hd; rw [cellV_den hx hd]
  · cases e

def intOp (op : BinOp) (k : IntKind) (a b : Int) (K : Value → Prop) : Prop :=
  match op with
  | .add => K (.int k (k.wrap (a + b)))
  | .sub => K (.int k (k.wrap (a - b)))
  | .mul => K (.int k (k.wrap (a * b)))
  | .eql => K (.bool (a == b))
  | .neq => K (.bool (a != b))
  | .lss => K (.bool (decide (a < b)))
  | .leq => K (.bool (decide (a ≤ b)))
  | .gtr => K (.bool (decide (a > b)))
  | .geq => K (.bool (decide (a ≥ b)))
  | .and => K (.int k (bits .and k a b))
  | .or => K (.int k (bits .or k a b))
  | .xor => K (.int k (bits .xor k a b))
  | .quo => 0 ≤ a ∧ 0 < b ∧ K (.int k (k.wrap (a / b)))
  | .rem => 0 < b ∧ K (.int k (a.tmod b))
  | _ => False
theorem ba_toList (a b : ByteArray) : (a.toList == b.toList) = decide (a = b) := by
  have key : ∀ x : ByteArray, x.toList = x.data.toList := fun x => ByteArray.toList_eq x
  rw [key, key]
  cases a; cases b
  simp [ByteArray.mk.injEq]
  rw [Bool.eq_iff_iff]
  simp [Array.toList_inj]
def strOp (op : BinOp) (a b : ByteArray) (K : Value → Prop) : Prop :=
  match op with
  | .eql => K (.bool (decide (a = b)))
  | .neq => K (.bool (!(decide (a = b))))
  | .add => a.size + b.size ≤ 9223372036854775807 ∧ K (.string (a ++ b))
  | _ => False
def guardOk (T : TT) (t : TypeId) (ox oy : Operand) (x y : Value) : Bool :=
  match x, y with
  | .nilIface, .nilIface => (match ox with | .const _ => true | _ => false) || (match oy with | .const _ => true | _ => false)
  | .agg _, .agg _ => match T.lookup t with | some ti => !ti.g | none => false
  | _, _ => true
def plainEq : Value → Value → Bool
  | .int _ _, .int _ _ => false
  | .float _ _, .float _ _ => false
  | .complex _ _ _, .complex _ _ _ => false
  | .string _, .string _ => false
  | _, _ => true
def binP (T : TT) (op : BinOp) (t : TypeId) (ox oy : Operand) (x y : Value) (K : Value → Prop) : Prop :=
  match x, y with
  | .int k a, .int k' b => match op with
    | .shl => (0 ≤ b ∧ b ≤ k.bits) ∧ K (.int k (k.wrap (a * 2 ^ b.toNat)))
    | .shr => (0 ≤ b ∧ b ≤ k.bits) ∧ K (.int k (a / 2 ^ b.toNat))
    | op => ifD (k = k') (intOp op k a b K)
  | .string a, .string b => strOp op a b K
  | x, y => match op with
    | .eql => match eqV T 10000 t x y with | some r => ifD (guardOk T t ox oy x y = true) (ifD (plainEq x y = true) (K (.bool r))) | none => False
    | .neq => match eqV T 10000 t x y with | some r => ifD (guardOk T t ox oy x y = true) (ifD (plainEq x y = true) (K (.bool (!r)))) | none => False
    | _ => False
theorem guard_ok {P : Program} {T : TT} (hT : TTok P T) {op : BinOp} {t : TypeId} {ox oy : Operand} {x y : Value} (h : guardOk T t ox oy x y = true) (w : World) : (eqGuard op t ox oy x y).run P w = .ok () w := by
  unfold guardOk at h
  split at h
  · unfold eqGuard
    cases op <;> simp [h] <;> (cases ox <;> cases oy <;> simp_all)
  · split at h
    · rename_i ti hl
      exact run_eqGuard_agg w op t ox oy _ _ (by rw [(hT _ _ hl).g]; simpa using h)
    · cases h
  · unfold eqGuard
    cases op <;> simp
    all_goals (split <;> simp_all)
theorem eql_run {P : Program} {t : TypeId} {x y : Value} {r : Bool} {w : World} (hp : plainEq x y = true) (h : (Op.equalIn 10000 t x y).run P w = .ok r w) : (binOp .eql t x y).run P w = .ok (.bool r) w ∧ (binOp .neq t x y).run P w = .ok (.bool (!r)) w := by
  cases x <;> cases y <;> simp_all [plainEq, binOp, Op.equal, Op.maxDepth]
theorem binP_ok {P : Program} {T : TT} (hT : TTok P T) {op : BinOp} {t : TypeId} {ox oy : Operand} {x y : Value} {K : Value → Prop} (h : binP T op t ox oy x y K) : ∃ v, K v ∧ v.oneCell' = true ∧ ∀ w, (do eqGuard op t ox oy x y; binOp op t x y : Sem Value).run P w = .ok v w := by
  unfold binP at h
  split at h
  · split at h
    · obtain ⟨⟨h1, h2⟩, h⟩ := h
      exact ⟨_, h, rfl, fun w => by simp [go_sem, shift_shl _ _ _ _ h1 h2]⟩
    · obtain ⟨⟨h1, h2⟩, h⟩ := h
      exact ⟨_, h, rfl, fun w => by simp [go_sem, shift_shr _ _ _ _ h1 h2]⟩
    have h2 := ifD_and h
    clear h
    obtain ⟨rfl, h⟩ := h2
    unfold intOp at h
    split at h <;> first | exact h.elim | exact ⟨_, h, rfl, fun w => by simp [go_sem]⟩ | skip
    · obtain ⟨h1, h2, h⟩ := h
      refine ⟨_, h, rfl, fun w => ?_⟩
      have h3 : ¬ (‹Int› = 0 ∧ False) := by simp
      simp [go_sem, Op.intDiv, show ∀ (b : Int), 0 < b → (b == 0) = false from fun b hb => by simp; omega, h2, Int.tdiv_eq_ediv_of_nonneg h1]
      omega
    · obtain ⟨h2, h⟩ := h
      refine ⟨_, h, rfl, fun w => ?_⟩
      simp [go_sem, Op.intDiv, h2]
      omega
  · unfold strOp at h
    split at h <;> first | exact h.elim | exact ⟨_, h, rfl, fun w => by simp [go_sem, ba_toList]⟩ | skip
    obtain ⟨h1, h⟩ := h
    exact ⟨_, h, rfl, fun w => by simp [go_sem, h1]⟩
  · split at h
    · split at h
      · rename_i r hr
        obtain ⟨h1, h⟩ := ifD_and h
        obtain ⟨h2, h⟩ := ifD_and h
        refine ⟨_, h, rfl, fun w => ?_⟩
        simp only [Sem.run_bind, guard_ok hT h1, Result.andThen_ok]
        exact (eql_run h2 (eqV_ok hT _ _ _ _ _ w hr)).1
      · exact h.elim
    · split at h
      · rename_i r hr
        obtain ⟨h1, h⟩ := ifD_and h
        obtain ⟨h2, h⟩ := ifD_and h
        refine ⟨_, h, rfl, fun w => ?_⟩
        simp only [Sem.run_bind, guard_ok hT h1, Result.andThen_ok]
        exact (eql_run h2 (eqV_ok hT _ _ _ _ _ w hr)).2
      · exact h.elim
    · exact h.elim
end Go.Eng
