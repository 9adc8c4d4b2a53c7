/- A part of the proof: what the functions of the program come to, told by a small reckoner of states. -/
import Derived.Test.YteglopjljejjkaaDoorA4
set_option linter.unusedVariables false
set_option linter.unusedSimpArgs false
namespace Go.Eng
open Go Go.RowKit
section
variable {P : Program} {T : TT} {mine : Nat → Prop} {L : Nat → Value} {F : Nat → Nat → Prop} {h : Hp} {st : St} {a : Act} {w : World}
theorem len_ok (hm : Mem mine L F h st.own w) {x : Value} {av : AV} {K : AV → Prop} (hd : DenA L h av x) (hp : lenP st (some av) K) : ∃ A n c, x = .slice A n c ∧ K (.c (.v (.int .i64 (n : Int)))) := by
  unfold lenP at hp
  split at hp <;> first | exact hp.elim | skip
  · rename_i A n c heq
    cases heq
    obtain rfl := den_one hd
    exact ⟨_, _, _, rfl, hp.2⟩
  · rename_i sz n f heq
    cases heq
    have hd : Den L h _ _ := hd
    cases hd with
    | sl _ _ _ A c => exact ⟨_, _, _, rfl, hp⟩
  · rename_i i sz k n c heq
    cases heq
    have hd : Den L h _ _ := hd
    cases hd with
    | view _ _ _ _ _ a b => exact ⟨_, _, _, rfl, hp⟩
  · rename_i i heq
    cases heq
    split at hp
    · rename_i e sz n f ho
      have hd : Den L h _ _ := hd
      cases hd with
      | row _ A n' c h1 h2 =>
      obtain ⟨A', c', vs, e1, _⟩ := row_mem (hm.obs i _ ho)
      rw [h2] at e1
      cases e1
      exact ⟨_, _, _, rfl, hp⟩
    · exact hp.elim
theorem builtin_ok (hT : TTok P T) (hm : Mem mine L F h st.own w) (ha : Agree L h st a) {o : Oper} {b : Builtin} {args : Array Operand} {ts : Array TypeId} (ho : o.op = .call { callee := .builtin b, args := args, argTypes := ts }) {K : AV → Prop} (hp : builtinP T st b args.toList ts.toList K) :
    ∃ av v, K av ∧ DenA L h av v ∧ ∀ w, (execOp a.eval o).run P w = .ok (.value v) w := by
  unfold builtinP at hp
  split at hp
  · rename_i x t hargs hts
    have hargs' : args = #[x] := by apply Array.ext'; simpa using hargs
    have hts' : ts = #[t] := by apply Array.ext'; simpa using hts
    subst hargs' hts'
    split at hp
    · rename_i ti hl
      have hu := (hT _ _ hl).und
      split at hp
      · rename_i hd
        rw [hd] at hu
        split at hp
        · rename_i s hx
          refine ⟨_, _, hp.2, Den.v _ rfl, fun w => ?_⟩
          have e : a.eval x = .string s := ev_v ha hx
          unfold execOp
          rw [ho]
          clear hx ha
          generalize a.eval = ρ at e ⊢
          simp [go_sem, e, hu, goInt]
        · exact hp.elim
      · rename_i e0 hd
        rw [hd] at hu
        cases hx : ev st x with
        | none => rw [hx] at hp; exact hp.elim
        | some av =>
          rw [hx] at hp
          obtain ⟨A, n, c, e, hK⟩ := len_ok hm (ev_eval ha hx) hp
          refine ⟨_, _, hK, Den.v _ rfl, fun w => ?_⟩
          have hel : P.elem t = e0 := by simp [Program.elem, hu]
          unfold execOp
          rw [ho]
          clear hx ha
          generalize a.eval = ρ at e ⊢
          simp [go_sem, e, hu, hel, goInt]
      · exact hp.elim
    · exact hp.elim
  · rename_i x t hargs hts
    have hargs' : args = #[x] := by apply Array.ext'; simpa using hargs
    have hts' : ts = #[t] := by apply Array.ext'; simpa using hts
    subst hargs' hts'
    split at hp
    · rename_i ti hl
      have hu := (hT _ _ hl).und
      split at hp
      · rename_i e0 hd
        rw [hd] at hu
        split at hp
        · rename_i i sz k n c hx
          have hd : Den L h _ _ := ev_eval ha hx
          generalize hz : a.eval x = z at hd
          cases hd with
          | view _ _ _ _ _ ad b =>
          refine ⟨_, _, hp, Den.v _ rfl, fun w => ?_⟩
          unfold execOp
          rw [ho]
          clear hx ha
          generalize a.eval = ρ at hz ⊢
          simp [go_sem, resolve, invoke, builtin, Builtin.cap_, hz, run_underlying hu, goInt]
        · exact hp.elim
      · exact hp.elim
    · exact hp.elim
  · rename_i x y t t' hargs hts
    have hargs' : args = #[x, y] := by apply Array.ext'; simpa using hargs
    subst hargs'
    split at hp
    · rename_i k a1 k' b1 hx hy
      have e1 : a.eval x = .int k a1 := ev_v ha hx
      have e2 : a.eval y = .int k' b1 := ev_v ha hy
      refine ⟨_, _, hp, Den.v _ rfl, fun w => ?_⟩
      unfold execOp
      rw [ho]
      simp [resolve, invoke, builtin, e1, e2, run_max_int2, maxI]
    · exact hp.elim
  · rename_i x y t t' hargs hts
    have hargs' : args = #[x, y] := by apply Array.ext'; simpa using hargs
    subst hargs'
    split at hp
    · rename_i k a1 k' b1 hx hy
      have e1 : a.eval x = .int k a1 := ev_v ha hx
      have e2 : a.eval y = .int k' b1 := ev_v ha hy
      refine ⟨_, _, hp, Den.v _ rfl, fun w => ?_⟩
      unfold execOp
      rw [ho]
      simp [resolve, invoke, builtin, e1, e2, run_min_int2, minI]
    · exact hp.elim
  · exact hp.elim
/-- The cells of a slice that stays, each element one plain value. -/
theorem sl_plain (hm : Mem mine L F h st.own w) {n : Nat} {f : Nat → List IC} {x : Value} (hd : Den L h (.sl 1 n f) x) (g : Nat → Value) (hg : ∀ k, k < n → f k = [.v (g k)]) :
    ∃ A c, x = .slice A n c ∧ (A = none → n = 0) ∧ ∀ ad, A = some ad → ∀ w', Same F st.own h w w' → (loadCells ad n).run P w' = .ok ((List.range n).map g).toArray w' := by
  cases hd with
  | sl _ _ _ A c ad g' hc hmx hA hgg hl hclo hr =>
  refine ⟨A, c, rfl, fun e => ?_, fun ad' e w' hs => ?_⟩
  · rcases Nat.eq_zero_or_pos n with h0 | hp
    · exact h0
    · rw [hA hp] at e; cases e
  · have hlen : ((List.range n).map g).length = n := by simp
    have := run_loadCells_list (P := P) w' ad' ((List.range n).map g) (fun j v hj => by
      have hlt : j < n := by have := (List.getElem?_eq_some_iff.1 hj).1; simpa using this
      have h1 := hr j hlt 0 (.v (g j)) (by rw [hg j hlt]; rfl)
      have h2 := hgg j hlt 0 (by omega)
      have h3 := hA (by omega)
      rw [e] at h3
      cases h3
      simp [hlt] at hj
      rw [← hj]
      have h1' : g' j 0 = g j := den_one (show DenA L h (.c (.v (g j))) _ from h1)
      rw [h1'] at h2
      simpa using same_cell hm hs h2)
    rw [hlen] at this
    exact this
theorem row_plain (hm : Mem mine L F h st.own w) {i : Nat} {e : TypeId} {n : Nat} {f : Nat → List IC} (hi : st.own[i]? = some (some (.row e 1 n f))) {x : Value} (hd : Den L h (.row i) x) (g : Nat → Value) (hg : ∀ k, k < n → f k = [.v (g k)]) :
    ∃ A c, x = .slice A n c ∧ (A = none → n = 0) ∧ ∀ ad, A = some ad → ∀ w', Same F st.own h w w' → (loadCells ad n).run P w' = .ok ((List.range n).map g).toArray w' := by
  obtain ⟨vs, ⟨hl, hr⟩, hG, hR⟩ := hm.obs i _ hi
  cases hd with
  | row _ A n' c k1 k2 =>
    rcases hr with ⟨e1, e2⟩ | ⟨gg, cap, cur, e1, e2, e3, e4, e5, e6, e7⟩
    · rw [e1] at k2
      cases k2
      subst e2
      exact ⟨none, 0, rfl, fun _ => rfl, fun ad h => by cases h⟩
    · rw [e1] at k2
      cases k2
      refine ⟨_, _, rfl, fun q => (nomatch q), fun ad q w' hs => ?_⟩
      cases q
      have hlen : ((List.range n).map g).length = n := by simp
      have hb : w'.heap[gg]? = some (.cells cur e (0, 0)) := by rw [hs gg (.inr ⟨i, _, hi, hG gg (by rw [e1]; rfl)⟩)]; exact e3
      have := run_loadCells_list (P := P) w' ⟨gg, 0, none⟩ ((List.range n).map g) (fun j v hj => by
        have hlt : j < n := by have := (List.getElem?_eq_some_iff.1 hj).1; simpa using this
        obtain ⟨u, q1, q2⟩ := hR.den j hlt 0 (.v (g j)) (by rw [hg j hlt]; rfl)
        have q3 : u = g j := den_one (show DenA L h (.c (.v (g j))) u from q2)
        subst q3
        simp [hlt] at hj
        rw [← hj]
        rw [Nat.mul_one, Nat.add_zero, ← e7, List.getElem?_take] at q1
        split at q1
        · have ea : (⟨gg, 0, none⟩ : Addr).add j = ⟨gg, j, none⟩ := by unfold Addr.add; split <;> simp_all
          rw [ea]
          unfold World.cell?
          simp only [hb]
          simpa using q1
        · cases q1)
      rw [hlen] at this
      exact this
theorem range_map_getD {α β : Type} (l : List α) (d : α) (f : α → β) : (List.range l.length).map (fun k => f (l.getD k d)) = l.map f := by
  apply List.ext_getElem
  · simp
  · intro i h1 h2
    simp at h1 h2
    simp [List.getD_eq_getElem?_getD, h1]
theorem foldl_push (l : List UInt8) : ∀ r : ByteArray, (l.map fun b => (b.toNat : Int)).foldl (fun r n => r.push (UInt8.ofNat n.toNat)) r = ⟨r.data ++ l.toArray⟩ := by
  induction l with
  | nil => intro r; simp
  | cons b l ih =>
    intro r
    rw [List.map_cons, List.foldl_cons, ih]
    simp [ByteArray.push]
theorem conv_ok (hT : TTok P T) (hm : Mem mine L F h st.own w) {src dst : TypeId} {ts td : TI} (hs : T.lookup src = some ts) (hd : T.lookup dst = some td) {av : AV} {x : Value} (hx : DenA L h av x) {K : AV → Prop} (hp : convP T st ts td av K) :
    ∃ r v, K r ∧ DenA L h r v ∧ ∀ w', Same F st.own h w w' → (convert src dst x).run P w' = .ok v w' := by
  have hu1 := (hT _ _ hs).und
  have hu2 := (hT _ _ hd).und
  unfold convP at hp
  split at hp
  · rename_i k' k n hde
    rw [hde] at hu2
    obtain rfl := den_one hx
    exact ⟨_, _, hp, Den.v _ rfl, fun w' _ => by simp [convert, run_underlying hu1, run_underlying hu2, Conv.intToInt]⟩
  · rename_i k n hde
    rw [hde] at hu2
    obtain rfl := den_one hx
    exact ⟨_, _, hp, Den.v _ rfl, fun w' _ => by simp [convert, run_underlying hu1, run_underlying hu2, Conv.intToString]⟩
  · rename_i s hde
    rw [hde] at hu2
    obtain rfl := den_one hx
    exact ⟨_, _, hp, Den.v _ rfl, fun w' _ => by simp [convert, run_underlying hu1, run_underlying hu2]⟩
  · rename_i hde
    rw [hde] at hu2
    obtain rfl := den_one hx
    split at hp
    · rename_i e hse
      rw [hse] at hu1
      split at hp
      · rename_i te hle
        have hu3 := (hT _ _ hle).und
        split at hp
        · rename_i hte
          rw [hte] at hu3
          exact ⟨_, _, hp, Den.v _ rfl, fun w' _ => by simp [convert, run_underlying hu1, run_underlying hu2, run_underlying hu3, Conv.bytesToString]⟩
        · rename_i hte
          rw [hte] at hu3
          exact ⟨_, _, hp, Den.v _ rfl, fun w' _ => by simp [convert, run_underlying hu1, run_underlying hu2, run_underlying hu3, Conv.runesToString]⟩
        · exact hp.elim
      · exact hp.elim
    · exact hp.elim
  · rename_i sz n f hde
    rw [hde] at hu2
    split at hp
    · rename_i e hse
      rw [hse] at hu1
      split at hp
      · rename_i te hle
        have hu3 := (hT _ _ hle).und
        split at hp
        · rename_i hte
          rw [hte] at hu3
          obtain ⟨hz, hp2⟩ := ifD_and hp
          subst hz
          obtain ⟨l, rfl, hf, hK⟩ := hp2
          obtain ⟨A, c, rfl, e1, e2⟩ := sl_plain (P := P) hm hx _ hf
          refine ⟨_, _, hK, Den.v _ rfl, fun w' hsame => ?_⟩
          cases A with
          | none =>
            have h0 := e1 rfl
            obtain rfl : l = [] := List.eq_nil_of_length_eq_zero h0
            simp [convert, run_underlying hu1, run_underlying hu2, run_underlying hu3, Conv.bytesToString]
            rfl
          | some ad =>
            have h2 := e2 ad rfl w' hsame
            have e3 : ((List.range l.length).map fun k => Value.int .u8 ((l.getD k 0).toNat : Int)) = (l.map fun b => (b.toNat : Int)).map (Value.int .u8) := by
              rw [List.map_map]
              exact range_map_getD l 0 (fun b => Value.int .u8 (b.toNat : Int))
            rw [e3] at h2
            have h3 := run_bytesToString w' ad l.length c _ h2
            rw [foldl_push] at h3
            simp only [convert, run_underlying hu1, run_underlying hu2, run_underlying hu3, Sem.run_bind, Result.andThen_ok]
            simpa using h3
        · rename_i hte
          rw [hte] at hu3
          obtain ⟨hz, hp2⟩ := ifD_and hp
          subst hz
          obtain ⟨l, rfl, hf, hK⟩ := hp2
          obtain ⟨A, c, rfl, e1, e2⟩ := sl_plain (P := P) hm hx _ hf
          refine ⟨_, _, hK, Den.v _ rfl, fun w' hsame => ?_⟩
          cases A with
          | none =>
            have h0 := e1 rfl
            obtain rfl : l = [] := List.eq_nil_of_length_eq_zero h0
            simp [convert, run_underlying hu1, run_underlying hu2, run_underlying hu3, Conv.runesToString, runesBytes]
          | some ad =>
            have h2 := e2 ad rfl w' hsame
            have e3 : ((List.range l.length).map fun k => Value.int .i32 (l.getD k 0)) = l.map (Value.int .i32) := range_map_getD l 0 (fun b => Value.int .i32 b)
            rw [e3] at h2
            have h3 := run_runesToString w' ad l.length c _ h2
            simp only [convert, run_underlying hu1, run_underlying hu2, run_underlying hu3, Sem.run_bind, Result.andThen_ok]
            simpa using h3
        · exact hp.elim
      · exact hp.elim
    · exact hp.elim
  · rename_i i hde
    rw [hde] at hu2
    split at hp
    · rename_i e e0 sz n f hse hi
      rw [hse] at hu1
      split at hp
      · rename_i te hle
        have hu3 := (hT _ _ hle).und
        split at hp
        · rename_i hte
          rw [hte] at hu3
          obtain ⟨hz, hp2⟩ := ifD_and hp
          subst hz
          obtain ⟨l, rfl, hf, hK⟩ := hp2
          obtain ⟨A, c, rfl, e1, e2⟩ := row_plain (P := P) hm hi hx _ hf
          refine ⟨_, _, hK, Den.v _ rfl, fun w' hsame => ?_⟩
          cases A with
          | none =>
            have h0 := e1 rfl
            obtain rfl : l = [] := List.eq_nil_of_length_eq_zero h0
            simp [convert, run_underlying hu1, run_underlying hu2, run_underlying hu3, Conv.bytesToString]
            rfl
          | some ad =>
            have h2 := e2 ad rfl w' hsame
            have e3 : ((List.range l.length).map fun k => Value.int .u8 ((l.getD k 0).toNat : Int)) = (l.map fun b => (b.toNat : Int)).map (Value.int .u8) := by
              rw [List.map_map]
              exact range_map_getD l 0 (fun b => Value.int .u8 (b.toNat : Int))
            rw [e3] at h2
            have h3 := run_bytesToString w' ad l.length c _ h2
            rw [foldl_push] at h3
            simp only [convert, run_underlying hu1, run_underlying hu2, run_underlying hu3, Sem.run_bind, Result.andThen_ok]
            simpa using h3
        · rename_i hte
          rw [hte] at hu3
          obtain ⟨hz, hp2⟩ := ifD_and hp
          subst hz
          obtain ⟨l, rfl, hf, hK⟩ := hp2
          obtain ⟨A, c, rfl, e1, e2⟩ := row_plain (P := P) hm hi hx _ hf
          refine ⟨_, _, hK, Den.v _ rfl, fun w' hsame => ?_⟩
          cases A with
          | none =>
            have h0 := e1 rfl
            obtain rfl : l = [] := List.eq_nil_of_length_eq_zero h0
            simp [convert, run_underlying hu1, run_underlying hu2, run_underlying hu3, Conv.runesToString, runesBytes]
          | some ad =>
            have h2 := e2 ad rfl w' hsame
            have e3 : ((List.range l.length).map fun k => Value.int .i32 (l.getD k 0)) = l.map (Value.int .i32) := range_map_getD l 0 (fun b => Value.int .i32 b)
            rw [e3] at h2
            have h3 := run_runesToString w' ad l.length c _ h2
            simp only [convert, run_underlying hu1, run_underlying hu2, run_underlying hu3, Sem.run_bind, Result.andThen_ok]
            simpa using h3
        · exact hp.elim
      · exact hp.elim
    · exact hp.elim
  · exact hp.elim
theorem assert_ok (hT : TTok P T) {xt t : TypeId} {commaOk : Bool} {av : AV} {x : Value} (hx : DenA L h av x) {K : AV → Prop} (hp : assertP T st av xt t commaOk K) :
    ∃ r v, K r ∧ DenA L h r v ∧ ∀ w', (Instr.typeAssert x xt t commaOk).run P w' = .ok v w' := by
  unfold assertP at hp
  split at hp
  · rename_i ti hl
    have hu := (hT _ _ hl).und
    have hz := (hT _ _ hl).zero
    split at hp
    · exact hp.elim
    · rename_i hni
      have hnot : ∀ ms, P.underlying t ≠ some (.interface ms) := fun ms e => by rw [hu] at e; exact hni ms (by simpa using e)
      have two : ∀ (u v : Value), Den L h (.v u) u → DenA L h (.tup [.c (.v u), .c (.v v)]) (.tuple #[u, v]) ∨ v.oneCell' = false := fun u v hu => by
        cases hv : v.oneCell' with
        | false => exact .inr rfl
        | true =>
          refine .inl ⟨[u, v], rfl, rfl, fun j a' u' ha hu' => ?_⟩
          match j with
          | 0 => simp at ha hu'; subst ha hu'; exact hu
          | 1 => simp at ha hu'; subst ha hu'; exact Den.v _ hv
          | j + 2 => simp at ha
      have twoC : ∀ (c : IC) (u v : Value), Den L h c u → DenA L h (.tup [.c c, .c (.v (.bool true))]) (.tuple #[u, .bool true]) := fun c u v hu => by
        refine ⟨[u, .bool true], rfl, rfl, fun j a' u' ha hu' => ?_⟩
        match j with
        | 0 => simp at ha hu'; subst ha hu'; exact hu
        | 1 => simp at ha hu'; subst ha hu'; exact Den.v _ rfl
        | j + 2 => simp at ha
      split at hp
      · obtain rfl := den_one hx
        split at hp
        · exact hp.elim
        · rename_i z hza
          obtain ⟨h1, hK⟩ := ifD_and hp
          rcases two ti.zero (.bool false) (Den.v _ h1) with hd | hd
          · refine ⟨_, _, hK, hd, fun w' => ?_⟩
            unfold Instr.typeAssert
            simp only [Sem.run_bind, run_underlying hu, Result.andThen_ok]
            split <;> simp_all
          · cases hd
      · rename_i t' v
        obtain rfl := den_one hx
        split at hp
        · rename_i he
          have he := Nat.eq_of_beq_eq_true he
          subst he
          split at hp
          · exact hp.elim
          · obtain ⟨h1, hK⟩ := ifD_and hp
            rcases two v (.bool true) (Den.v _ h1) with hd | hd
            · refine ⟨_, _, hK, hd, fun w' => ?_⟩
              unfold Instr.typeAssert
              simp only [Sem.run_bind, run_underlying hu, Result.andThen_ok]
              split <;> simp_all
            · cases hd
        · rename_i he
          have he : t' ≠ t := fun e => by rw [e] at he; simp at he
          split at hp
          · exact hp.elim
          · obtain ⟨h1, hK⟩ := ifD_and hp
            rcases two ti.zero (.bool false) (Den.v _ h1) with hd | hd
            · refine ⟨_, _, hK, hd, fun w' => ?_⟩
              unfold Instr.typeAssert
              simp only [Sem.run_bind, run_underlying hu, Result.andThen_ok]
              split <;> simp_all
            · cases hd
      · rename_i t' c
        have hx : Den L h _ _ := hx
        cases hx with
        | ifc _ _ v hr =>
        split at hp
        · rename_i he
          have he := Nat.eq_of_beq_eq_true he
          subst he
          refine ⟨_, _, hp, twoC c v v hr, fun w' => ?_⟩
          unfold Instr.typeAssert
          simp only [Sem.run_bind, run_underlying hu, Result.andThen_ok]
          split <;> simp_all
        · rename_i he
          have he : t' ≠ t := fun e => by rw [e] at he; simp at he
          split at hp
          · exact hp.elim
          · obtain ⟨h1, hK⟩ := ifD_and hp
            rcases two ti.zero (.bool false) (Den.v _ h1) with hd | hd
            · refine ⟨_, _, hK, hd, fun w' => ?_⟩
              unfold Instr.typeAssert
              simp only [Sem.run_bind, run_underlying hu, Result.andThen_ok]
              split <;> simp_all
            · cases hd
      · rename_i t' v
        obtain rfl := den_one hx
        split at hp
        · rename_i he
          have he := Nat.eq_of_beq_eq_true he
          subst he
          split at hp
          · exact hp.elim
          · obtain ⟨h1, hK⟩ := ifD_and hp
            refine ⟨_, v, hK, Den.v _ h1, fun w' => ?_⟩
            unfold Instr.typeAssert
            simp only [Sem.run_bind, run_underlying hu, Result.andThen_ok]
            split <;> simp_all
        · exact hp.elim
      · rename_i t' c
        have hx : Den L h _ _ := hx
        cases hx with
        | ifc _ _ v hr =>
        split at hp
        · rename_i he
          have he := Nat.eq_of_beq_eq_true he
          subst he
          refine ⟨_, v, hp, hr, fun w' => ?_⟩
          unfold Instr.typeAssert
          simp only [Sem.run_bind, run_underlying hu, Result.andThen_ok]
          split <;> simp_all
        · exact hp.elim
      · exact hp.elim
  · exact hp.elim
end
end Go.Eng
