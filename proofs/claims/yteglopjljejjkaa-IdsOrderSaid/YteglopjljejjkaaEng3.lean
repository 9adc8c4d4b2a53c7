/- A part of the proof: what the functions of the program come to, told by a small reckoner of states. -/
import Derived.Test.YteglopjljejjkaaEng2
set_option linter.unusedVariables false
set_option linter.unusedSimpArgs false
namespace Go.Eng
open Go Go.RowKit

def liveC (st : St) (i : Nat) : Bool := match st.own[i]? with | some (some (.cells _ _)) => true | _ => false
def idxOf (av : Option AV) : Option (IntKind × Int) := match av with | some (.c (.v (.int k j))) => some (k, j) | _ => none
def fieldOffOf (T : TT) (s : TypeId) (i : Nat) : Option Nat := fieldOff T s i
def cellsOf : AV → Option (List Cell)
  | .c x => some [x]
  | .agg xs => some xs
  | .tup _ => none
def storable (st : St) : Cell → Bool
  | .v _ => true
  | .sl _ _ _ _ => true
  | .own i _ => liveC st i
  | .row i => match st.own[i]? with | some (some (.row _ _ _)) => true | _ => false
  | _ => false
/-- A struct put together: the parts in their places. -/
def fillC (T : TT) (fs : Array Field) : List Cell → List (Nat × AV) → Option (List Cell)
  | cs, [] => some cs
  | cs, (i, av) :: r => match fs[i]?, cellsOf av with
    | some f, some xs => match T.lookup f.type with
      | some tf => if xs.length = tf.size ∧ f.offset + xs.length ≤ cs.length then fillC T fs (cs.take f.offset ++ xs ++ cs.drop (f.offset + xs.length)) r else none
      | none => none
    | _, _ => none
def partsOf (st : St) : List (Nat × Operand) → Option (List (Nat × AV))
  | [] => some []
  | (i, x) :: r => match ev st x, partsOf st r with
    | some a, some l => some ((i, a) :: l)
    | _, _ => none

def buildP (T : TT) (st : St) (t : TypeId) (parts : List (Nat × Operand)) (K : AV → Prop) : Prop :=
  match T.lookup t, partsOf st parts with
  | some ti, some l => match ti.desc with
    | .struct fs => ifD (fs.toList.all (fun f => (T.lookup f.type).isSome) = true) (ifD (l.all (fun x => match cellsOf x.2 with | some cs => cs.all (storable st) | none => false) = true)
      (match fillC T fs (ti.zero.cells.toList.map Cell.v) l with
        | some cs => ifD (ti.zero.cells.toList.all (·.oneCell') = true) (forceL cs fun cs => K (.agg cs))
        | none => False))
    | _ => False
  | _, _ => False

def builtinP (T : TT) (st : St) (b : Builtin) (args : List Operand) (ts : List TypeId) (K : AV → Prop) : Prop :=
  match b, args, ts with
  | .len, [x], [t] => match T.lookup t, ev st x with
    | some ti, some (.c (.v (.string s))) => (match ti.desc with | .string => s.size ≤ 9223372036854775807 ∧ K (.c (.v (.int .i64 s.size))) | _ => False)
    | some ti, some (.c (.v (.slice a n c))) => (match ti.desc with | .slice _ => n ≤ 9223372036854775807 ∧ K (.c (.v (.int .i64 n))) | _ => False)
    | some ti, some (.c (.sl s sz n f)) => (match ti.desc with | .slice _ => K (.c (.v (.int .i64 n))) | _ => False)
    | some ti, some (.c (.row i)) => (match ti.desc, st.own[i]? with | .slice _, some (some (.row e sz xs)) => K (.c (.v (.int .i64 xs.length))) | _, _ => False)
    | _, _ => False
  | _, _, _ => False

/-- Operations that leave the world as it is, and hang on nothing that is new in it. -/
def aopP (T : TT) (st : St) (o : Op) (K : AV → Prop) : Prop :=
  match o with
  | .move x | .assign x => match ev st x with | some a => K a | none => False
  | .pick c a b => match ev st c with
    | some (.c (.v (.bool true))) => (match ev st a with | some u => K u | none => False)
    | some (.c (.v (.bool false))) => (match ev st b with | some u => K u | none => False)
    | _ => False
  | .load t p => match ev st p with
    | some (.c (.own i off)) => match st.own[i]? with
      | some (some (.cells _ cs)) => ldP T t (cs.drop off) K
      | _ => False
    | some (.c (.el s sz n f k off)) => ldP T t ((f k).drop off) K
    | some (.c (.rel i sz k off)) => match st.own[i]? with
      | some (some (.row _ sz' xs)) => ifD (sz = sz') (∃ cs, xs[k]? = some cs ∧ ldP T t (cs.drop off) K)
      | _ => False
    | _ => False
  | .fieldAddr s x i => match fieldOff T s i, ev st x with
    | some o, some (.c (.own j off)) => ifD (liveC st j = true) (K (.c (.own j (off + o))))
    | some o, some (.c (.el s sz n f k off)) => K (.c (.el s sz n f k (off + o)))
    | some o, some (.c (.rel j sz k off)) => (match st.own[j]? with | some (some (.row _ sz' xs)) => k < xs.length ∧ K (.c (.rel j sz k (off + o))) | _ => False)
    | _, _ => False
  | .indexAddr t x i => match T.lookup t, ev st x, idxOf (ev st i) with
    | some ti, some (.c (.sl s sz n f)), some (_, j) => (match ti.desc with
      | .slice e => (match T.lookup e with | some te => ifD (te.size = sz) (0 ≤ j ∧ j < n ∧ K (.c (.el s sz n f j.toNat 0))) | none => False)
      | _ => False)
    | some ti, some (.c (.row r)), some (_, j) => (match ti.desc, st.own[r]? with
      | .slice e, some (some (.row _ sz xs)) => (match T.lookup e with | some te => ifD (te.size = sz) (0 ≤ j ∧ j < xs.length ∧ K (.c (.rel r sz j.toNat 0))) | none => False)
      | _, _ => False)
    | _, _, _ => False
  | .index t x i => match T.lookup t, ev st x, idxOf (ev st i) with
    | some ti, some (.c (.v (.string s))), some (_, j) => (match ti.desc with | .string => 0 ≤ j ∧ j < s.size ∧ K (.c (.v (.int .u8 (s[j.toNat]!).toNat))) | _ => False)
    | _, _, _ => False
  | .binOp op t x y _ => match ev st x, ev st y with
    | some a, some b => (match avVal a, avVal b with
      | some u, some v => binP T op t x y u v (fun r => K (.c (.v r)))
      | _, _ => False)
    | _, _ => False
  | .unOp op t x => match op, ev st x with
    | .not, some (.c (.v (.bool b))) => K (.c (.v (.bool (!b))))
    | .neg, some (.c (.v (.int k n))) => K (.c (.v (.int k (k.wrap (0 - n)))))
    | _, _ => False
  | .extract x i => match ev st x with
    | some (.tup as) => (match as[i]? with | some (.c y) => K (.c y) | some (.agg ys) => K (.agg ys) | _ => False)
    | _ => False
  | .makeInterface t x => match T.lookup t, ev st x with
    | some ti, some (.c (.v u)) => (match ti.desc with | .interface _ => False | _ => K (.c (.v (.iface t u))))
    | _, _ => False
  | .convert src dst x => match T.lookup src, T.lookup dst, ev st x with
    | some ts, some td, some (.c (.v (.int k n))) => (match td.desc with | .int k' => K (.c (.v (.int k' (k'.wrap n)))) | _ => False)
    | _, _, _ => False
  | .nilCheck x => match ev st x with
    | some (.c (.own j off)) => ifD (liveC st j = true) (K (.c (.own j off)))
    | some (.c (.el s sz n f k off)) => K (.c (.el s sz n f k off))
    | _ => False
  | .build t parts => buildP T st t parts.toList K
  | .call { callee := .builtin b, args, argTypes } => builtinP T st b args.toList argTypes.toList K
  | _ => False

section
variable {P : Program} {T : TT} {mine : Nat → Prop} {L : Nat → Value} {h : Hp} {st : St} {a : Act}

theorem ld_run (hT : TTok P T) {t : TypeId} {cs : List Cell} {K : AV → Prop} (hp : ldP T t cs K) (hok : ∀ c, c ∈ cs → OkC h c) :
    ∃ av, K av ∧ OkA h av ∧ ∀ (w : World) (ad : Addr), (∀ j u, (cs.map (denC L))[j]? = some u → w.cell? (ad.add j) = some u) → (loadVar t ad).run P w = .ok (den L av) w := by
  unfold ldP at hp
  split at hp
  · rename_i ti hl
    have hf := hT _ _ hl
    split at hp
    · rename_i ha
      obtain ⟨hle, hK⟩ := ifD_and hp
      refine ⟨_, hK, fun c hc => hok c (List.mem_of_mem_take hc), fun w ad hc => ?_⟩
      have hlen : ((cs.take ti.size).map (denC L)).length = ti.size := by simp; omega
      have := run_loadCells_list (P := P) w ad ((cs.take ti.size).map (denC L)) (fun j v hj => by
        refine hc j v ?_
        rw [List.getElem?_map] at hj ⊢
        rw [List.getElem?_take] at hj
        split at hj
        · exact hj
        · cases hj)
      rw [hlen] at this
      unfold loadVar
      simp only [Sem.run_bind, hf.agg, Result.andThen_ok, ha, if_true, hf.size, this]
      rfl
    · rename_i ha
      split at hp
      · rename_i c rest
        refine ⟨_, hp, hok c (by simp), fun w ad hc => ?_⟩
        have h0 := hc 0 (denC L c) (by simp)
        have e : ad.add 0 = ad := by simp [Addr.add]
        rw [e] at h0
        unfold loadVar
        simp only [Sem.run_bind, hf.agg, Result.andThen_ok, ha]
        simp [run_load, h0, den, den1]
      · exact hp.elim
  · exact hp.elim

theorem addr_add_add (x : Addr) (i j : Nat) : (x.add i).add j = x.add (i + j) := by
  unfold Addr.add
  by_cases hi : i = 0 <;> by_cases hj : j = 0 <;> simp [hi, hj, Nat.add_assoc]
theorem addr_plain (b o j : Nat) : (⟨b, o, none⟩ : Addr).add j = ⟨b, o + j, none⟩ := by unfold Addr.add; split <;> simp_all
theorem own_cells {w : World} (hm : Mem mine L h st.own w) {i : Nat} {t : TypeId} {cs : List Cell} (ho : st.own[i]? = some (some (.cells t cs))) :
    ∃ b, L i = .pointer (some ⟨b, 0, none⟩) ∧ w.heap[b]? = some (.cells (cs.map (denC L)).toArray t (0, 0)) ∧ (∀ c, c ∈ cs → OkC h c) := by
  obtain ⟨⟨b, h1, h2, _⟩, h3⟩ := hm.obs i _ ho
  exact ⟨b, h1, h2, h3⟩
theorem blk_cell_at {w : World} {b : Nat} {t : TypeId} {cs : List Value} {z : Nat × Nat} (hb : w.heap[b]? = some (.cells cs.toArray t z)) (j : Nat) : w.cell? ⟨b, j, none⟩ = cs[j]? := by
  simp [World.cell?, hb]
theorem sl_get {w : World} (hm : Mem mine L h st.own w) {s : Value} {sz n : Nat} {f : Nat → List Cell} (h1 : SlAt h s sz n (fun k => (f k).map denI)) {k : Nat} (hk : k < n) :
    ∃ ad c, s = .slice (some ad) n c ∧ ∀ j u, ((f k).map denI)[j]? = some u → w.cell? (ad.add (k * sz + j)) = some u := by
  obtain ⟨⟨A, c, e, hc, hmx, hr⟩, hl⟩ := h1
  obtain ⟨ad, rfl, hr'⟩ := hr (by omega)
  exact ⟨ad, c, e, fun j u hj => hcell_cell hm.hsub (hr' k hk j u hj)⟩
theorem map_denI {f : List Cell} (hc : ∀ c, c ∈ f → Closed c) : f.map (denC L) = f.map denI := List.map_congr_left (fun c hm => denC_closed (hc c hm) _ _)

theorem fieldOff_run (hT : TTok P T) {s : TypeId} {i o : Nat} (hf : fieldOff T s i = some o) (w : World) (ad : Addr) : (Instr.fieldAt s (.pointer (some ad)) i).run P w = .ok (.pointer (some (ad.add o))) w := by
  unfold fieldOff at hf
  split at hf
  · rename_i ti hl
    have h1 := hT _ _ hl
    split at hf
    · rename_i fs hd
      split at hf
      · rename_i f hfi
        split at hf
        · rename_i tf hl2
          have h2 := hT _ _ hl2
          split at hf
          · cases hf
          · rename_i hz
            cases hf
            have hu := h1.und
            rw [hd] at hu
            simp [Instr.fieldAt, run_underlying hu, hfi, Instr.sureAddr, fieldPlace, h2.size, hz]
        · cases hf
      · cases hf
    · cases hf
  · cases hf
/-- Loads of own cells. -/
theorem load_own (hT : TTok P T) {t : TypeId} {i off : Nat} {u : TypeId} {cs : List Cell} {K : AV → Prop} (w0 : World) (hm0 : Mem mine L h st.own w0) (ho : st.own[i]? = some (some (.cells u cs))) (hp : ldP T t (cs.drop off) K) :
    ∃ av, K av ∧ OkA h av ∧ ∀ w, Mem mine L h st.own w → (Instr.loadAt t (denC L (.own i off))).run P w = .ok (den L av) w := by
  obtain ⟨b, hb, _, hok⟩ := own_cells hm0 ho
  obtain ⟨av, h1, h2, h3⟩ := ld_run (L := L) hT hp (fun c hc => hok c (List.mem_of_mem_drop hc))
  refine ⟨av, h1, h2, fun w hm => ?_⟩
  obtain ⟨b', hb', hh, _⟩ := own_cells hm ho
  obtain rfl : b = b' := by rw [hb] at hb'; simpa using hb'
  simp only [denC, hb, ptrAt, Instr.loadAt, Instr.sureAddr, Sem.run_bind, Sem.run_pure, Result.andThen_ok, addr_plain]
  refine h3 w _ (fun j v hj => ?_)
  rw [addr_plain, Nat.zero_add, blk_cell_at hh, ← hj, List.map_drop, List.getElem?_drop]
theorem load_el (hT : TTok P T) {t : TypeId} {s : Value} {sz n k off : Nat} {f : Nat → List Cell} {K : AV → Prop} (hok : OkC h (.el s sz n f k off)) (hp : ldP T t ((f k).drop off) K) :
    ∃ av, K av ∧ OkA h av ∧ ∀ w, Mem mine L h st.own w → (Instr.loadAt t (denC L (.el s sz n f k off))).run P w = .ok (den L av) w := by
  cases hok with
  | el _ _ _ _ _ _ h0 h1 hc h2 =>
    obtain ⟨av, k1, k2, k3⟩ := ld_run (L := L) hT hp (fun c hcm => h2 k h0 c (List.mem_of_mem_drop hcm))
    refine ⟨av, k1, k2, fun w hm => ?_⟩
    obtain ⟨ad, c, rfl, hg⟩ := sl_get hm h1 h0
    simp only [denC, elAt, Instr.loadAt, Instr.sureAddr, Sem.run_bind, Sem.run_pure, Result.andThen_ok]
    refine k3 w _ (fun j v hj => ?_)
    rw [addr_add_add, Nat.add_assoc]
    refine hg (off + j) v ?_
    rw [← map_denI (L := L) (hc k h0), ← List.getElem?_drop, ← List.map_drop]
    exact hj
theorem own_row {w : World} (hm : Mem mine L h st.own w) {i : Nat} {e : TypeId} {sz : Nat} {xs : List (List Cell)} (ho : st.own[i]? = some (some (.row e sz xs))) :
    ∃ A c, L i = .slice A xs.length c ∧ xs.length ≤ 9223372036854775807 ∧ (0 < xs.length → ∃ g, A = some ⟨g, 0, none⟩ ∧ ∀ j u, (xs.flatten.map (denC L))[j]? = some u → w.cell? ⟨g, j, none⟩ = some u) ∧ (∀ x, x ∈ xs → x.length = sz ∧ ∀ c, c ∈ x → OkC h c) := by
  obtain ⟨h1, _, h3'⟩ := hm.obs i _ ho
  have h3 : ∀ x, x ∈ xs → x.length = sz ∧ ∀ c, c ∈ x → OkC h c := fun x hx => ⟨(h3' x hx).1, fun c hc => ((h3' x hx).2 c hc).2⟩
  obtain ⟨hl, hr⟩ := h1
  rcases hr with ⟨e1, e2⟩ | ⟨g, cap, cur, e1, e2, e3, e4, e5, e6, e7⟩
  · refine ⟨none, 0, by rw [e1, e2], by omega, fun hp => by omega, h3⟩
  · refine ⟨some ⟨g, 0, none⟩, cap, e1, by unfold maxLen at e5; omega, fun _ => ⟨g, rfl, fun j u hj => ?_⟩, h3⟩
    rw [← e7] at hj
    rw [List.getElem?_take] at hj
    split at hj
    · have : w.cell? ⟨g, j, none⟩ = cur[j]? := by simp [World.cell?, e3]
      rw [this, ← hj, Array.getElem?_toList]
    · cases hj
theorem flatten_get {sz : Nat} : ∀ {xs : List (List Cell)} (hx : ∀ x, x ∈ xs → x.length = sz) {k : Nat} {cs : List Cell} (hk : xs[k]? = some cs) {j : Nat} {c : Cell} (hj : cs[j]? = some c), xs.flatten[k * sz + j]? = some c
  | [], _, k, cs, hk, _, _, _ => by simp at hk
  | x :: xs, hx, 0, cs, hk, j, c, hj => by
    simp only [List.getElem?_cons_zero, Option.some.injEq] at hk
    subst hk
    rw [List.flatten_cons, Nat.zero_mul, Nat.zero_add, List.getElem?_append_left (List.getElem?_eq_some_iff.1 hj).1]
    exact hj
  | x :: xs, hx, k + 1, cs, hk, j, c, hj => by
    simp only [List.getElem?_cons_succ] at hk
    have hl := hx x (by simp)
    rw [List.flatten_cons, List.getElem?_append_right (by rw [hl, Nat.succ_mul]; omega), hl]
    have e : (k + 1) * sz + j - sz = k * sz + j := by rw [Nat.succ_mul]; omega
    rw [e]
    exact flatten_get (fun x hm => hx x (by simp [hm])) hk hj
theorem row_get {w : World} (hm : Mem mine L h st.own w) {i : Nat} {e : TypeId} {sz : Nat} {xs : List (List Cell)} (ho : st.own[i]? = some (some (.row e sz xs))) {k : Nat} {cs : List Cell} (hk : xs[k]? = some cs) :
    ∃ g c, L i = .slice (some ⟨g, 0, none⟩) xs.length c ∧ ∀ j u, (cs.map (denC L))[j]? = some u → w.cell? ⟨g, k * sz + j, none⟩ = some u := by
  obtain ⟨A, c, e1, _, e2, e3⟩ := own_row hm ho
  have hlt := (List.getElem?_eq_some_iff.1 hk).1
  obtain ⟨g, rfl, hg⟩ := e2 (by omega)
  refine ⟨g, c, e1, fun j u hj => hg _ _ ?_⟩
  rw [List.getElem?_map] at hj ⊢
  cases hc : cs[j]? with
  | none => rw [hc] at hj; cases hj
  | some c =>
    rw [flatten_get (fun x hx => (e3 x hx).1) hk hc]
    rw [hc] at hj
    exact hj
theorem load_rel (hT : TTok P T) {t : TypeId} {i sz k off : Nat} {e : TypeId} {xs : List (List Cell)} {cs : List Cell} {K : AV → Prop} (w0 : World) (hm0 : Mem mine L h st.own w0) (ho : st.own[i]? = some (some (.row e sz xs))) (hk : xs[k]? = some cs) (hp : ldP T t (cs.drop off) K) :
    ∃ av, K av ∧ OkA h av ∧ ∀ w, Mem mine L h st.own w → (Instr.loadAt t (denC L (.rel i sz k off))).run P w = .ok (den L av) w := by
  obtain ⟨A, c, _, _, _, e3⟩ := own_row hm0 ho
  obtain ⟨av, h1, h2, h3⟩ := ld_run (L := L) hT hp (fun c hc => (e3 cs (List.mem_of_getElem? hk)).2 c (List.mem_of_mem_drop hc))
  refine ⟨av, h1, h2, fun w hm => ?_⟩
  obtain ⟨g, c', e1, hg⟩ := row_get hm ho hk
  simp only [denC, e1, elAt, Instr.loadAt, Instr.sureAddr, Sem.run_bind, Sem.run_pure, Result.andThen_ok, addr_plain]
  refine h3 w _ (fun j v hj => ?_)
  rw [addr_plain, Nat.zero_add, Nat.add_assoc]
  refine hg (off + j) v ?_
  rw [← List.getElem?_drop, ← List.map_drop]
  exact hj

theorem idxOf_eval (ha : Agree L h st a) {x : Operand} {k : IntKind} {j : Int} (hx : idxOf (ev st x) = some (k, j)) : a.eval x = .int k j := by
  unfold idxOf at hx
  split at hx
  · rename_i k' j' hv
    cases hx
    exact (ev_eval ha hv).1
  · cases hx
theorem sl_val {s : Value} {sz n : Nat} {f : Nat → List Cell} (hok : OkC h (.sl s sz n f)) : ∃ A c, s = .slice A n c ∧ n ≤ c ∧ n ≤ 9223372036854775807 ∧ (0 < n → ∃ ad, A = some ad) := by
  cases hok with
  | sl _ _ _ _ h1 hc h2 =>
    obtain ⟨⟨A, c, e, hc, hmx, hr⟩, hl⟩ := h1
    exact ⟨A, c, e, hc, hmx, fun hp => by obtain ⟨ad, e, _⟩ := hr hp; exact ⟨ad, e⟩⟩

theorem indexAt_run {t e : TypeId} {ti te : TI} (h1 : TF P t ti) (hd : ti.desc = .slice e) (h2 : TF P e te) (ad : Addr) (n c : Nat) (k : IntKind) (j : Int) (h0 : 0 ≤ j) (hj : j < n) (w : World) :
    (Instr.indexAt t (.slice (some ad) n c) (.int k j)).run P w = .ok (.pointer (some (ad.add (j.toNat * te.size)))) w := by
  have hu := h1.und
  rw [hd] at hu
  simp [Instr.indexAt, run_underlying hu, asIntOf, h0, hj, h2.size]

theorem builtin_ok (hT : TTok P T) (ha : Agree L h st a) (w0 : World) (hm0 : Mem mine L h st.own w0) {o : Oper} {b : Builtin} {args : Array Operand} {ts : Array TypeId} (ho : o.op = .call { callee := .builtin b, args := args, argTypes := ts }) {K : AV → Prop} (hp : builtinP T st b args.toList ts.toList K) :
    ∃ av, K av ∧ OkA h av ∧ ∀ w, Mem mine L h st.own w → (execOp a.eval o).run P w = .ok (.value (den L av)) w := by
  unfold builtinP at hp
  split at hp
  · rename_i x t hargs hts
    have hargs' : args = #[x] := by apply Array.ext'; simpa using hargs
    have hts' : ts = #[t] := by apply Array.ext'; simpa using hts
    subst hargs' hts'
    split at hp
    · rename_i ti s hl hx
      have h1 := hT _ _ hl
      have hxe := ev_eval ha hx
      split at hp
      · rename_i hd
        have hu := h1.und
        rw [hd] at hu
        obtain ⟨hs, hK⟩ := hp
        refine ⟨_, hK, OkC.v _ rfl, fun w hm => ?_⟩
        have e : a.eval x = .string s := hxe.1
        unfold execOp
        rw [ho]
        clear hxe hx ha
        generalize a.eval = ρ at e ⊢
        simp [go_sem, e, hu, den, den1, denC, goInt]
      · exact hp.elim
    · rename_i ti A n c hl hx
      have h1 := hT _ _ hl
      have hxe := ev_eval ha hx
      split at hp
      · rename_i e0 hd
        have hu := h1.und
        rw [hd] at hu
        obtain ⟨hs, hK⟩ := hp
        refine ⟨_, hK, OkC.v _ rfl, fun w hm => ?_⟩
        have e : a.eval x = .slice A n c := hxe.1
        have hel : P.elem t = e0 := by simp [Program.elem, hu]
        unfold execOp
        rw [ho]
        clear hxe hx ha
        generalize a.eval = ρ at e ⊢
        simp [go_sem, e, hu, hel, den, den1, denC, goInt]
      · exact hp.elim
    · rename_i ti s sz n f hl hx
      have h1 := hT _ _ hl
      have hxe := ev_eval ha hx
      split at hp
      · rename_i e0 hd
        have hu := h1.und
        rw [hd] at hu
        refine ⟨_, hp, OkC.v _ rfl, fun w hm => ?_⟩
        obtain ⟨A, c, e1, _⟩ := sl_val hxe.2
        have e : a.eval x = .slice A n c := by rw [hxe.1]; exact e1
        have hel : P.elem t = e0 := by simp [Program.elem, hu]
        unfold execOp
        rw [ho]
        clear hxe hx ha
        generalize a.eval = ρ at e ⊢
        simp [go_sem, e, hu, hel, den, den1, denC, goInt]
      · exact hp.elim
    · rename_i ti i hl hx
      have h1 := hT _ _ hl
      have hxe := ev_eval ha hx
      split at hp
      · rename_i e0 e sz xs hd hown
        have hu := h1.und
        rw [hd] at hu
        refine ⟨_, hp, OkC.v _ rfl, fun w hm => ?_⟩
        obtain ⟨A, c, e1, _⟩ := own_row hm hown
        have e : a.eval x = .slice A xs.length c := by rw [hxe.1]; exact e1
        have hel : P.elem t = e0 := by simp [Program.elem, hu]
        unfold execOp
        rw [ho]
        clear hxe hx ha
        generalize a.eval = ρ at e ⊢
        simp [go_sem, e, hu, hel, den, den1, denC, goInt]
      · exact hp.elim
    · exact hp.elim
  · exact hp.elim

theorem storable_one {w : World} (hm : Mem mine L h st.own w) {c : Cell} (hs : storable st c = true) (hok : OkC h c) : (denC L c).oneCell' = true := by
  cases c with
  | v x => cases hok; assumption
  | sl s sz n f => obtain ⟨A, c, e, _⟩ := sl_val hok; rw [denC, e]; rfl
  | own i off =>
    simp only [storable, liveC] at hs
    split at hs
    · rename_i t cs ho
      obtain ⟨b, hb, _⟩ := own_cells hm ho
      rw [denC, hb]; rfl
    · cases hs
  | row i =>
    simp only [storable] at hs
    split at hs
    · rename_i e sz xs ho
      obtain ⟨A, c, e1, _⟩ := own_row hm ho
      rw [denC, e1]; rfl
    · cases hs
  | el _ _ _ _ _ _ => cases hs
  | rel _ _ _ _ => cases hs
theorem cellsOf_den {av : AV} {cs : List Cell} (hc : cellsOf av = some cs) (h1 : ∀ c, c ∈ cs → (denC L c).oneCell' = true) : (den L av).cells = (cs.map (denC L)).toArray := by
  cases av with
  | c x =>
    cases hc
    have := h1 x (by simp)
    simp only [den, den1]
    cases hx : denC L x <;> rw [hx] at this <;> simp_all [Value.cells, Value.oneCell']
  | agg xs => cases hc; rfl
  | tup as => cases hc
theorem cellsOf_ok {av : AV} {cs : List Cell} (hc : cellsOf av = some cs) (hok : OkA h av) : ∀ c, c ∈ cs → OkC h c := by
  cases av with
  | c x => cases hc; intro c hm; simp at hm; subst hm; exact hok
  | agg xs => cases hc; exact hok
  | tup as => cases hc

theorem fold_set (vs : List Value) : ∀ (k off : Nat) (arr : List Value), off + k + vs.length ≤ arr.length →
    (vs.zipIdx k).foldl (fun (cs : Array Value) (x : Value × Nat) => cs.setIfInBounds (off + x.2) x.1) arr.toArray = (arr.take (off + k) ++ vs ++ arr.drop (off + k + vs.length)).toArray := by
  induction vs with
  | nil => intro k off arr h; simp
  | cons v r ih =>
    intro k off arr h
    rw [List.zipIdx_cons, List.foldl_cons]
    simp only [List.setIfInBounds_toArray]
    simp only [List.length_cons] at h
    rw [ih (k + 1) off _ (by rw [List.length_set]; omega)]
    congr 1
    have hlt : off + k < arr.length := by omega
    have e1 : off + (k + 1) = off + k + 1 := by omega
    have e2 : off + k + 1 + r.length = off + k + (v :: r).length := by simp; omega
    rw [e1, List.take_set, List.drop_set, if_pos (by omega), e2]
    rw [List.take_succ_eq_append_getElem (by simpa using hlt)]
    simp only [List.set_append]
    rw [if_neg (by simp; omega)]
    simp [Nat.min_eq_left (Nat.le_of_lt hlt)]
theorem fill_ok (hT : TTok P T) {w : World} (hm : Mem mine L h st.own w) {fs : Array Field} {pl : Array (Nat × Nat)} (hpl : ∀ (i : Nat) (f : Field) (tf : TI), fs[i]? = some f → T.lookup f.type = some tf → pl[i]? = some (f.offset, tf.size)) :
    ∀ (l : List (Nat × AV)) (cs : List Cell) (out : List Cell), fillC T fs cs l = some out → (∀ x, x ∈ l → OkA h x.2 ∧ ∀ us, cellsOf x.2 = some us → us.all (storable st) = true) → (∀ c, c ∈ cs → OkC h c) →
      Instr.fill (fun i => pl[i]?) (cs.map (denC L)).toArray (l.map fun x => (x.1, den L x.2)) = some (out.map (denC L)).toArray ∧ (∀ c, c ∈ out → OkC h c)
  | [], cs, out, hf, _, hok => by
    simp only [fillC, Option.some.injEq] at hf
    subst hf
    exact ⟨rfl, hok⟩
  | (i, av) :: r, cs, out, hf, hall, hok => by
    unfold fillC at hf
    split at hf
    · rename_i f us hfi hc
      split at hf
      · rename_i tf hl
        split at hf
        · rename_i hcond
          obtain ⟨h1, h2⟩ := hall (i, av) (by simp)
          have h3 := h2 us hc
          have huok := cellsOf_ok hc h1
          have hone : ∀ c, c ∈ us → (denC L c).oneCell' = true := fun c hcm => storable_one hm (List.all_eq_true.1 h3 c hcm) (huok c hcm)
          have hcells := cellsOf_den (L := L) hc hone
          have hnew : ∀ c, c ∈ cs.take f.offset ++ us ++ cs.drop (f.offset + us.length) → OkC h c := fun c hcm => by
            rcases List.mem_append.1 hcm with hcm | hcm
            · rcases List.mem_append.1 hcm with hcm | hcm
              · exact hok c (List.mem_of_mem_take hcm)
              · exact huok c hcm
            · exact hok c (List.mem_of_mem_drop hcm)
          obtain ⟨k1, k2⟩ := fill_ok hT hm hpl r _ out hf (fun x hx => hall x (by simp [hx])) hnew
          refine ⟨?_, k2⟩
          rw [List.map_cons]
          unfold Instr.fill
          simp only [hpl i f tf hfi hl, hcells]
          rw [if_neg (by simp; omega)]
          have := fold_set (us.map (denC L)) 0 f.offset (cs.map (denC L)) (by simp; omega)
          rw [Nat.add_zero, List.length_map] at this
          have e : (us.map (denC L)).toArray.zipIdx = ((us.map (denC L)).zipIdx 0).toArray := by simp
          rw [e, ← Array.foldl_toList]
          simp only [] at this ⊢
          rw [this, ← List.map_take, ← List.map_drop, ← List.map_append, ← List.map_append]
          exact k1
        · cases hf
      · cases hf
    · cases hf
theorem partsOf_ok (ha : Agree L h st a) : ∀ {xs : List (Nat × Operand)} {l : List (Nat × AV)}, partsOf st xs = some l → xs.map (fun x => (x.1, a.eval x.2)) = l.map (fun x => (x.1, den L x.2)) ∧ ∀ x, x ∈ l → OkA h x.2
  | [], l, e => by cases e; exact ⟨rfl, fun _ h => by cases h⟩
  | (i, x) :: r, l, e => by
    unfold partsOf at e
    split at e
    · rename_i av l' hx hr
      cases e
      obtain ⟨h1, h2⟩ := partsOf_ok ha hr
      obtain ⟨h3, h4⟩ := ev_eval ha hx
      refine ⟨by rw [List.map_cons, List.map_cons, h1, h3], fun y hm => ?_⟩
      rcases List.mem_cons.1 hm with rfl | hm
      · exact h4
      · exact h2 _ hm
    · cases e
theorem places_run (hT : TTok P T) : ∀ (fs : List Field), fs.all (fun f => (T.lookup f.type).isSome) = true → ∃ pl : List (Nat × Nat), (∀ w, (fs.mapM (fun f => (do pure (f.offset, ← Go.sizeOf f.type) : Sem (Nat × Nat)))).run P w = .ok pl w) ∧ ∀ (i : Nat) (f : Field) (tf : TI), fs[i]? = some f → T.lookup f.type = some tf → pl[i]? = some (f.offset, tf.size)
  | [], _ => ⟨[], fun w => by simp, fun i f tf hi => by simp at hi⟩
  | f :: fs, hall => by
    rw [List.all_cons, Bool.and_eq_true] at hall
    obtain ⟨tf, hl⟩ := Option.isSome_iff_exists.1 hall.1
    obtain ⟨pl, h1, h2⟩ := places_run hT fs hall.2
    refine ⟨(f.offset, tf.size) :: pl, fun w => by rw [List.mapM_cons]; simp only [Sem.run_bind, Sem.run_pure, (hT _ _ hl).size, h1, Result.andThen_ok], fun i f' tf' hi hl' => ?_⟩
    cases i with
    | zero =>
      simp only [List.getElem?_cons_zero, Option.some.injEq] at hi
      subst hi
      rw [hl] at hl'
      cases hl'
      rfl
    | succ i =>
      simp only [List.getElem?_cons_succ] at hi ⊢
      exact h2 i f' tf' hi hl'
theorem build_ok (hT : TTok P T) (ha : Agree L h st a) (w0 : World) (hm0 : Mem mine L h st.own w0) {t : TypeId} {parts : Array (Nat × Operand)} {K : AV → Prop} (hp : buildP T st t parts.toList K) :
    ∃ av, K av ∧ OkA h av ∧ ∀ w, (Instr.build t (parts.map fun (i, x) => (i, a.eval x))).run P w = .ok (den L av) w := by
  unfold buildP at hp
  split at hp
  · rename_i ti l hl hx
    have hf := hT _ _ hl
    split at hp
    · rename_i fs hd
      have hu := hf.und
      rw [hd] at hu
      obtain ⟨hall, hp⟩ := ifD_and hp
      obtain ⟨hst, hp⟩ := ifD_and hp
      split at hp
      · rename_i cs hfc
        obtain ⟨hz, hp⟩ := ifD_and hp
        rw [forceL_eq] at hp
        obtain ⟨k1, k2⟩ := partsOf_ok ha hx
        obtain ⟨pl, p1, p2⟩ := places_run hT fs.toList hall
        obtain ⟨f1, f2⟩ := fill_ok hT hm0 (fs := fs) (pl := pl.toArray) (fun i f tf hi hl => by
          rw [List.getElem?_toArray]
          exact p2 i f tf (by rw [Array.getElem?_toList]; exact hi) hl) l _ cs hfc (fun x hxm => ⟨k2 x hxm, fun us hus => by
            have := List.all_eq_true.1 hst x hxm
            rw [hus] at this
            exact this⟩) (fun c hc => by
            obtain ⟨v, hv, rfl⟩ := List.mem_map.1 hc
            exact OkC.v v (List.all_eq_true.1 hz v hv))
        refine ⟨_, hp, f2, fun w => ?_⟩
        have hzc : ((ti.zero.cells.toList.map Cell.v).map (denC L)).toArray = ti.zero.cells := by
          rw [List.map_map]
          have : (denC L ∘ Cell.v) = id := rfl
          rw [this, List.map_id, Array.toArray_toList]
        rw [hzc] at f1
        have hpr : (fs.mapM (fun f => (do pure (f.offset, ← Go.sizeOf f.type) : Sem (Nat × Nat)))).run P w = .ok pl.toArray w := by
          rw [show fs = fs.toList.toArray from by simp, List.mapM_toArray]
          simp only [Sem.run_map, p1]
          rfl
        have hparts : (parts.map fun (i, x) => (i, a.eval x)).toList = l.map (fun x => (x.1, den L x.2)) := by
          rw [Array.toList_map, ← k1]
        unfold Instr.build
        simp only [Sem.run_bind, hf.zero, Result.andThen_ok, run_underlying hu]
        rw [hpr]
        simp only [Result.andThen_ok, hparts, f1]
        rfl
      · exact hp.elim
    · exact hp.elim
  · exact hp.elim
theorem aop_ok (hT : TTok P T) (ha : Agree L h st a) (w0 : World) (hm0 : Mem mine L h st.own w0) {o : Oper} {K : AV → Prop} (hp : aopP T st o.op K) :
    ∃ av, K av ∧ OkA h av ∧ ∀ w, Mem mine L h st.own w → (execOp a.eval o).run P w = .ok (.value (den L av)) w := by
  obtain ⟨dst, op, ty, pos, after, guard⟩ := o
  simp only at hp
  unfold aopP at hp
  split at hp
  · split at hp
    · rename_i x av hx
      exact ⟨av, hp, (ev_eval ha hx).2, fun w _ => by simp [execOp, (ev_eval ha hx).1]⟩
    · exact hp.elim
  · split at hp
    · rename_i x av hx
      exact ⟨av, hp, (ev_eval ha hx).2, fun w _ => by simp [execOp, (ev_eval ha hx).1]⟩
    · exact hp.elim
  · split at hp
    · rename_i hc
      have ec : a.eval _ = .bool true := (ev_eval ha hc).1
      split at hp
      · rename_i u hu
        exact ⟨u, hp, (ev_eval ha hu).2, fun w _ => by simp [execOp, ec, asBool, (ev_eval ha hu).1]⟩
      · exact hp.elim
    · rename_i hc
      have ec : a.eval _ = .bool false := (ev_eval ha hc).1
      split at hp
      · rename_i u hu
        exact ⟨u, hp, (ev_eval ha hu).2, fun w _ => by simp [execOp, ec, asBool, (ev_eval ha hu).1]⟩
      · exact hp.elim
    · exact hp.elim
  · split at hp
    · rename_i i off hx
      have ex : a.eval _ = denC L (.own i off) := (ev_eval ha hx).1
      split at hp
      · rename_i u cs ho
        obtain ⟨av, h1, h2, h3⟩ := load_own hT w0 hm0 ho hp
        exact ⟨av, h1, h2, fun w hm => by simp [execOp, ex, h3 w hm]⟩
      · exact hp.elim
    · rename_i s sz n f k off hx
      have ex : a.eval _ = denC L (.el s sz n f k off) := (ev_eval ha hx).1
      obtain ⟨av, h1, h2, h3⟩ := load_el (mine := mine) (st := st) (L := L) hT (ev_eval ha hx).2 hp
      exact ⟨av, h1, h2, fun w hm => by simp [execOp, ex, h3 w hm]⟩
    · rename_i i sz k off hx
      have ex : a.eval _ = denC L (.rel i sz k off) := (ev_eval ha hx).1
      split at hp
      · rename_i e sz' xs ho
        obtain ⟨rfl, cs, hk, hp⟩ := ifD_and hp
        obtain ⟨av, h1, h2, h3⟩ := load_rel hT w0 hm0 ho hk hp
        exact ⟨av, h1, h2, fun w hm => by simp [execOp, ex, h3 w hm]⟩
      · exact hp.elim
    · exact hp.elim
  · split at hp
    · rename_i fo j off hf hx
      have ex : a.eval _ = denC L (.own j off) := (ev_eval ha hx).1
      obtain ⟨hl, hp⟩ := ifD_and hp
      have hok : OkC h (.own j off) := (ev_eval ha hx).2
      refine ⟨_, hp, OkC.own _ _ (by cases hok; assumption), fun w hm => ?_⟩
      unfold liveC at hl
      split at hl
      · rename_i u cs ho
        obtain ⟨b, hb, _⟩ := own_cells hm ho
        simp [execOp, ex, denC, hb, ptrAt, fieldOff_run hT hf, den, den1, addr_add_add]
      · cases hl
    · rename_i fo s sz n f k off hf hx
      have ex : a.eval _ = denC L (.el s sz n f k off) := (ev_eval ha hx).1
      have hok := (ev_eval ha hx).2
      cases hok with
      | el _ _ _ _ _ _ h0 h1 hc h2 =>
        refine ⟨_, hp, OkC.el _ _ _ _ _ _ h0 h1 hc h2, fun w hm => ?_⟩
        obtain ⟨ad, c, rfl, _⟩ := sl_get hm h1 h0
        simp [execOp, ex, denC, elAt, fieldOff_run hT hf, den, den1, addr_add_add, Nat.add_assoc]
    · rename_i fo j sz k off hf hx
      have ex : a.eval _ = denC L (.rel j sz k off) := (ev_eval ha hx).1
      split at hp
      · rename_i e sz' xs ho
        obtain ⟨hlt, hK⟩ := hp
        have hok : OkC h (.rel j sz k off) := (ev_eval ha hx).2
        refine ⟨_, hK, OkC.rel _ _ _ _ (by cases hok; assumption), fun w hm => ?_⟩
        obtain ⟨g, c, e1, _⟩ := row_get hm ho (List.getElem?_eq_getElem hlt)
        simp [execOp, ex, denC, e1, elAt, fieldOff_run hT hf, den, den1, addr_add_add, Nat.add_assoc]
      · exact hp.elim
    · exact hp.elim
  · split at hp
    · rename_i ti s sz n f k j hl hx hi
      have ex : a.eval _ = s := (ev_eval ha hx).1
      have hok := (ev_eval ha hx).2
      have ei := idxOf_eval ha hi
      split at hp
      · rename_i e hd
        split at hp
        · rename_i te hl2
          obtain ⟨hz, h0, hj, hK⟩ := ifD_and hp
          cases hok with
          | sl _ _ _ _ h1 hc h2 =>
            have hk : j.toNat < n := by omega
            refine ⟨_, hK, OkC.el _ _ _ _ _ _ hk h1 hc h2, fun w hm => ?_⟩
            obtain ⟨ad, c, rfl, _⟩ := sl_get hm h1 hk
            simp [execOp, ex, ei, indexAt_run (hT _ _ hl) hd (hT _ _ hl2) ad n c k j h0 hj w, den, den1, denC, elAt, hz]
        · exact hp.elim
      · exact hp.elim
    · rename_i ti r k j hl hx hi
      have ex : a.eval _ = L r := (ev_eval ha hx).1
      have ei := idxOf_eval ha hi
      split at hp
      · rename_i e e' sz xs hd ho
        split at hp
        · rename_i te hl2
          obtain ⟨hz, h0, hj, hK⟩ := ifD_and hp
          have hk : j.toNat < xs.length := by omega
          have hok : OkC h (.row r) := (ev_eval ha hx).2
          refine ⟨_, hK, OkC.rel _ _ _ _ (by cases hok; assumption), fun w hm => ?_⟩
          obtain ⟨g, c, e1, _⟩ := row_get hm ho (List.getElem?_eq_getElem hk)
          simp [execOp, ex, e1, ei, indexAt_run (hT _ _ hl) hd (hT _ _ hl2) ⟨g, 0, none⟩ xs.length c k j h0 hj w, den, den1, denC, elAt, hz]
        · exact hp.elim
      · exact hp.elim
    · exact hp.elim
  · split at hp
    · rename_i ti s k j hl hx hi
      have ex : a.eval _ = .string s := (ev_eval ha hx).1
      have ei := idxOf_eval ha hi
      split at hp
      · rename_i hd
        have hu := (hT _ _ hl).und
        rw [hd] at hu
        obtain ⟨h0, hj, hK⟩ := hp
        have hlt : j.toNat < s.size := by omega
        refine ⟨_, hK, OkC.v _ rfl, fun w hm => ?_⟩
        simp [execOp, ex, ei, Instr.index, asIntOf, run_underlying hu, h0, hlt, den, den1, denC, getElem!_pos]
      · exact hp.elim
    · exact hp.elim
  · split at hp
    · rename_i u v hx hy
      split at hp
      · rename_i x y hu hv
        obtain ⟨r, h1, h2, h3⟩ := binP_ok hT hp
        refine ⟨_, h1, OkC.v _ h2, fun w hm => ?_⟩
        have e1 : a.eval _ = x := (ev_eval ha hx).1.trans (avVal_den hu)
        have e2 : a.eval _ = y := (ev_eval ha hy).1.trans (avVal_den hv)
        have := h3 w
        simp only [execOp, e1, e2]
        simp only [Sem.run_bind] at this ⊢
        simp [this, den, den1, denC]
      · exact hp.elim
    · exact hp.elim
  · split at hp
    · rename_i b hx
      have ex : a.eval _ = .bool b := (ev_eval ha hx).1
      exact ⟨_, hp, OkC.v _ rfl, fun w hm => by simp [execOp, ex, Op.unary, den, den1, denC]⟩
    · rename_i k n hx
      have ex : a.eval _ = .int k n := (ev_eval ha hx).1
      exact ⟨_, hp, OkC.v _ rfl, fun w hm => by simp [execOp, ex, Op.unary, Op.intArith, den, den1, denC]⟩
    · exact hp.elim
  · split at hp
    · rename_i as hx
      have ex : a.eval _ = den L (.tup as) := (ev_eval ha hx).1
      have hok := (ev_eval ha hx).2
      split at hp
      · rename_i y hi
        have hy := hok _ (List.mem_of_getElem? hi)
        exact ⟨_, hp, hy, fun w hm => by simp [execOp, ex, Instr.extract, den, den1, hi]⟩
      · rename_i ys hi
        have hy := hok _ (List.mem_of_getElem? hi)
        exact ⟨_, hp, hy, fun w hm => by simp [execOp, ex, Instr.extract, den, den1, hi]⟩
      · exact hp.elim
    · exact hp.elim
  · split at hp
    · rename_i ti u hl hx
      have ex : a.eval _ = u := (ev_eval ha hx).1
      have hu := (hT _ _ hl).und
      split at hp
      · exact hp.elim
      · rename_i hd
        refine ⟨_, hp, OkC.v _ rfl, fun w hm => ?_⟩
        simp only [execOp, ex, Instr.makeInterface, Sem.run_bind, run_underlying hu, Result.andThen_ok]
        simp [den, den1, denC]
    · exact hp.elim
  · split at hp
    · rename_i ts td k n hl1 hl2 hx
      have ex : a.eval _ = .int k n := (ev_eval ha hx).1
      have hu1 := (hT _ _ hl1).und
      have hu2 := (hT _ _ hl2).und
      split at hp
      · rename_i k' hd
        rw [hd] at hu2
        refine ⟨_, hp, OkC.v _ rfl, fun w hm => ?_⟩
        simp [execOp, ex, convert, run_underlying hu1, run_underlying hu2, Conv.intToInt, den, den1, denC]
      · exact hp.elim
    · exact hp.elim
  · split at hp
    · rename_i j off hx
      have ex : a.eval _ = denC L (.own j off) := (ev_eval ha hx).1
      obtain ⟨hl, hp⟩ := ifD_and hp
      have hok : OkC h (.own j off) := (ev_eval ha hx).2
      refine ⟨_, hp, OkC.own _ _ (by cases hok; assumption), fun w hm => ?_⟩
      unfold liveC at hl
      split at hl
      · rename_i u cs ho
        obtain ⟨b, hb, _⟩ := own_cells hm ho
        simp [execOp, ex, denC, hb, ptrAt, den, den1]
      · cases hl
    · rename_i s sz n f k off hx
      have ex : a.eval _ = denC L (.el s sz n f k off) := (ev_eval ha hx).1
      have hok := (ev_eval ha hx).2
      refine ⟨_, hp, hok, fun w hm => ?_⟩
      cases hok with
      | el _ _ _ _ _ _ h0 h1 hc h2 =>
        obtain ⟨ad, c, rfl, _⟩ := sl_get hm h1 h0
        simp [execOp, ex, denC, elAt, den, den1]
    · exact hp.elim
  · obtain ⟨av, h1, h2, h3⟩ := build_ok hT ha w0 hm0 hp
    exact ⟨av, h1, h2, fun w hm => by simp [execOp, h3 w]⟩
  · exact builtin_ok hT ha w0 hm0 (o := ⟨dst, _, ty, pos, after, guard⟩) rfl hp
  · exact hp.elim
end
end Go.Eng
