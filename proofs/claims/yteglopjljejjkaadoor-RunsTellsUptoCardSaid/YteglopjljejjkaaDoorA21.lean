/- What is handed in (numbers, texts, structs, slices of these), read as the reckoner's values. -/
import Derived.Test.YteglopjljejjkaaDoorA20
import Derived.ChangeArms
import Derived.Deep.Slices
import Derived.WideShapes
set_option linter.unusedVariables false
set_option linter.unusedSimpArgs false
namespace Go.Eng
open Go Go.RowKit Go.WideShapes
def RdF (R : TypeId → List IC → Prop) : List Field → List IC → Prop
  | [], cs => cs = []
  | f :: r, cs => ∃ xs ys, R f.type xs ∧ RdF R r ys ∧ cs = xs ++ ys
/-- What cells at a type may be. -/
def Rd (T : TT) (B : Nat) : Nat → TypeId → List IC → Prop
  | 0, _, _ => False
  | d + 1, t, cs => match T.lookup t with
    | none => False
    | some ti => match ti.desc with
      | .bool => ∃ b, cs = [.v (.bool b)]
      | .int k => ∃ n, (Lit.int k n).wf = true ∧ cs = [.v (.int k n)]
      | .string => ∃ s, s.size ≤ B ∧ cs = [.v (.string s)]
      | .slice e => (match T.lookup e with
        | some te => ∃ (n : Nat) (f : Nat → List IC), n ≤ B ∧ (∀ k, k < n → Rd T B d e (f k)) ∧ cs = [.sl te.size n f]
        | none => False)
      | .struct fs => RdF (Rd T B d) fs.toList cs
      | _ => False
def tiles (T : TT) : List Field → Nat → Nat → Bool
  | [], off, tot => off == tot
  | f :: r, off, tot => f.offset == off && match T.lookup f.type with | some tf => tiles T r (off + tf.size) tot | none => false
def okS (T : TT) : Nat → TypeId → Bool
  | 0, _ => false
  | d + 1, t => match T.lookup t with
    | none => false
    | some ti => match ti.desc with
      | .bool => true
      | .int _ => true
      | .string => true
      | .slice e => (T.lookup e).isSome && okS T d e
      | .struct fs => tiles T fs.toList 0 ti.size && fs.toList.all (fun f => okS T d f.type)
      | _ => false
structure BulkOk (H : Type) (bulk : DataW H → Nat) : Prop where
  str : ∀ l : List UInt8, l.length ≤ bulk (.lit (.string l))
  len : ∀ es sp : List (DataW H), es.length ≤ bulk (.slice es sp)
  el : ∀ (es sp : List (DataW H)) e, e ∈ es → bulk e ≤ bulk (.slice es sp)
  agg : ∀ (es : List (DataW H)) e, e ∈ es → bulk e ≤ bulk (.agg es)
theorem cellsOf_size {P : Program} {t : TypeId} {i : TI} (h : TF P t i) : P.cellsOf t = i.size := by
  have := h.info
  cases hq : P.info? t with
  | none => rw [hq] at this; cases this
  | some q => rw [hq] at this; simp at this; simp [Program.cellsOf, hq, this.2.1]
theorem hcell_full {w : World} {n : Nat} {a : Addr} {v : Value} (h : w.cell? a = some v) : hcell ⟨fun k => w.heap[k]?, n⟩ a = some v := by
  unfold World.cell? at h
  unfold hcell
  exact h
section
variable {H : Type} {enc : TypeId × Value → H} {P : Program} {T : TT} {w : World} {B : Nat} {bulk : DataW H → Nat} {L : Nat → Value}
theorem rd_clo : ∀ (d : Nat) (t : TypeId) (cs : List IC), Rd T B d t cs → cs.all clo = true
  | 0, _, _, h => h.elim
  | d + 1, t, cs, h => by
    unfold Rd at h
    split at h
    · exact h.elim
    · split at h
      · obtain ⟨b, rfl⟩ := h; rfl
      · obtain ⟨b, _, rfl⟩ := h; rfl
      · obtain ⟨b, _, rfl⟩ := h; rfl
      · split at h
        · obtain ⟨n, f, _, _, rfl⟩ := h; rfl
        · exact h.elim
      · rename_i fs _
        generalize fs.toList = l at h
        induction l generalizing cs with
        | nil => unfold RdF at h; subst h; rfl
        | cons f r ih =>
          unfold RdF at h
          obtain ⟨xs, ys, h1, h2, rfl⟩ := h
          rw [List.all_append, rd_clo d _ _ h1, ih ys h2]
          rfl
      · exact h.elim
theorem choose_f {α : Type} [Inhabited α] {n : Nat} {p : Nat → α → Prop} (h : ∀ i, i < n → ∃ x, p i x) : ∃ f : Nat → α, ∀ i, i < n → p i (f i) := by
  classical
  refine ⟨fun i => if hi : i < n then Classical.choose (h i hi) else default, fun i hi => ?_⟩
  simp only [dif_pos hi]
  exact Classical.choose_spec (h i hi)
theorem rd_ok (hT : TTok P T) (hb : BulkOk H bulk) : ∀ (d : Nat) (t : TypeId) (fuel : Nat) (cs : List Value) (x : DataW H × List MemPlace), okS T d t = true → DataW.trod enc P w 0 (fun _ => true) true fuel t cs = some x → bulk x.1 ≤ B →
    ∃ ics, DenL L ⟨fun k => w.heap[k]?, 0⟩ ics cs ∧ Rd T B d t ics
  | 0, _, _, _, _, hs, _, _ => by cases hs
  | d + 1, t, fuel, cs, x, hs, h, hB => by
    unfold okS at hs
    cases hl : T.lookup t with
    | none => rw [hl] at hs; cases hs
    | some ti =>
      rw [hl] at hs
      have htf := hT _ _ hl
      have hu := htf.und
      cases hd : ti.desc with
      | bool =>
        rw [hd] at hu
        obtain ⟨b, rfl, rfl⟩ := DataW.trod_bool hu h
        exact ⟨[.v (.bool b)], DenL.cons (.v _ rfl) DenL.nil, by unfold Rd; simp only [hl, hd]; exact ⟨b, rfl⟩⟩
      | int k =>
        rw [hd] at hu
        obtain ⟨n, rfl, rfl, hw⟩ := DataW.trod_int hu h
        exact ⟨[.v (.int k n)], DenL.cons (.v _ rfl) DenL.nil, by unfold Rd; simp only [hl, hd]; exact ⟨n, hw, rfl⟩⟩
      | string =>
        rw [hd] at hu
        obtain ⟨s, rfl, rfl, hw⟩ := DataW.trod_string hu h
        have h1 := hb.str s.data.toList
        have h2 : s.data.toList.length = s.size := ba_len s
        exact ⟨[.v (.string s)], DenL.cons (.v _ rfl) DenL.nil, by unfold Rd; simp only [hl, hd]; exact ⟨s, by simp only at hB; omega, rfl⟩⟩
      | slice e =>
        simp only [hd] at hs
        rw [Bool.and_eq_true] at hs
        obtain ⟨te, hle⟩ := Option.isSome_iff_exists.1 hs.1
        have hte := hT _ _ hle
        have hsz := cellsOf_size hte
        rw [hd] at hu
        rcases DataW.trod_slice hu h with ⟨rfl, rfl⟩ | ⟨a, len, cap, elems, rest, n, rfl, rfl, rfl, hba, hlc, hcm, hlen, hel, _⟩
        · exact ⟨[.sl te.size 0 fun _ => []], DenL.cons (.sl _ 0 _ none 0 ⟨0, 0, none⟩ (fun _ _ => undef) (Nat.le_refl _) (by omega) (fun h => by omega) (fun k hk => by omega) (fun k hk => by omega) (fun k hk => by omega) (fun k hk => by omega)) DenL.nil,
            by unfold Rd; simp only [hl, hd, hle]; exact ⟨0, fun _ => [], Nat.zero_le _, (fun k hk => by omega), rfl⟩⟩
        · have hbl := hb.len (elems.map (·.1)) (rest.map (·.1))
          rw [List.length_map, hlen] at hbl
          have key : ∀ i, i < len → ∃ p : List IC × List Value, w.cells? 0 (a.add (i * P.cellsOf e)) (P.cellsOf e) = some p.2 ∧ DenL L ⟨fun k => w.heap[k]?, 0⟩ p.1 p.2 ∧ Rd T B d e p.1 := fun i hi => by
            have h1 := hel i hi
            rw [List.getElem?_eq_getElem (by omega)] at h1
            obtain ⟨cs', h2, h3⟩ := Option.bind_eq_some_iff.1 h1
            have hbe : bulk (elems[i]'(by omega)).1 ≤ B := Nat.le_trans (hb.el _ (rest.map (·.1)) _ (List.mem_map_of_mem (List.getElem_mem (by omega)))) hB
            obtain ⟨ics, k1, k2⟩ := rd_ok hT hb d e n cs' _ hs.2 h3 hbe
            exact ⟨(ics, cs'), h2, k1, k2⟩
          obtain ⟨F, hF⟩ := choose_f key
          refine ⟨[.sl te.size len fun k => (F k).1], DenL.cons (.sl _ len _ (some a) cap a (fun k j => (F k).2.getD j undef) hlc (by unfold maxLen at hcm; omega) (fun _ => rfl) (fun k hk j hj => ?_) (fun k hk => ?_) (fun k hk => rd_clo d e _ (hF k hk).2.2) (fun k hk j c hc => ?_)) DenL.nil, by unfold Rd; simp only [hl, hd, hle]; exact ⟨len, _, by simp only at hB; omega, (fun k hk => (hF k hk).2.2), rfl⟩⟩
          · obtain ⟨_, q1, q2⟩ := World.cells?_some (hF k hk).1
            rw [hsz] at q1 q2
            have q3 := q2 j hj
            rw [addr_add_add] at q3
            rw [List.getElem?_eq_getElem (by omega)] at q3
            rw [hcell_full q3]
            simp [List.getD_eq_getElem?_getD, List.getElem?_eq_getElem (show j < (F k).2.length by omega)]
          · obtain ⟨_, q1, q2⟩ := World.cells?_some (hF k hk).1
            rw [(hF k hk).2.1.1, q1, hsz]
          · have h1 := (hF k hk).2.1
            have hj : j < (F k).2.length := by rw [← h1.1]; exact (List.getElem?_eq_some_iff.1 hc).1
            have := h1.2 j c _ hc (List.getElem?_eq_getElem hj)
            simpa [List.getD_eq_getElem?_getD, List.getElem?_eq_getElem hj] using this
      | struct fs =>
        simp only [hd] at hs
        rw [Bool.and_eq_true] at hs
        obtain ⟨hti, hall⟩ := hs
        rw [hd] at hu
        obtain ⟨xs, n, rfl, rfl, hcl, hxl, hx⟩ := DataW.trod_struct hu h
        rw [cellsOf_size htf] at hcl
        have main : ∀ (l : List Field) (i off : Nat), (∀ j, l[j]? = fs[i + j]?) → tiles T l off ti.size = true → l.all (fun f => okS T d f.type) = true → off ≤ cs.length →
            ∃ ics, DenL L ⟨fun k => w.heap[k]?, 0⟩ ics (cs.drop off) ∧ RdF (Rd T B d) l ics := by
          intro l
          induction l with
          | nil =>
            intro i off _ ht _ _
            unfold tiles at ht
            have e : off = ti.size := by simpa using ht
            refine ⟨[], ?_, rfl⟩
            rw [e, ← hcl, List.drop_length]
            exact DenL.nil
          | cons f r ih =>
            intro i off hi ht ha hoff
            unfold tiles at ht
            rw [Bool.and_eq_true] at ht
            obtain ⟨h1, h2⟩ := ht
            have e : f.offset = off := by simpa using h1
            cases hlf : T.lookup f.type with
            | none => rw [hlf] at h2; cases h2
            | some tf =>
              rw [hlf] at h2
              simp only at h2
              rw [List.all_cons, Bool.and_eq_true] at ha
              have hfi : fs[i]? = some f := by have := hi 0; simpa using this.symm
              have hxi := hx i f hfi
              have hlt : i < xs.length := by rw [hxl]; exact (Array.getElem?_eq_some_iff.1 hfi).1
              rw [List.getElem?_eq_getElem hlt] at hxi
              have hbe : bulk (xs[i]).1 ≤ B := Nat.le_trans (hb.agg _ _ (List.mem_map_of_mem (List.getElem_mem hlt))) hB
              obtain ⟨ics, k1, k2⟩ := rd_ok hT hb d f.type n _ _ ha.1 hxi hbe
              rw [cellsOf_size (hT _ _ hlf), e] at k1
              have hle : ∀ (l : List Field) (o : Nat), tiles T l o ti.size = true → o ≤ ti.size := by
                intro l
                induction l with
                | nil => intro o h; unfold tiles at h; have : o = ti.size := by simpa using h
                         omega
                | cons f r ih =>
                  intro o h
                  unfold tiles at h
                  rw [Bool.and_eq_true] at h
                  obtain ⟨_, h⟩ := h
                  cases hq : T.lookup f.type with
                  | none => rw [hq] at h; cases h
                  | some tq => rw [hq] at h; have := ih _ h; omega
              have hnext := hle r _ h2
              obtain ⟨ics2, k3, k4⟩ := ih (i + 1) (off + tf.size) (fun j => by have := hi (j + 1); rw [List.getElem?_cons_succ] at this; rw [this, Nat.add_assoc, Nat.add_comm 1]) h2 ha.2 (by omega)
              refine ⟨ics ++ ics2, ?_, ?_⟩
              · have := k1.append k3
                rwa [← List.drop_drop, List.take_append_drop] at this
              · unfold RdF; exact ⟨ics, ics2, k2, k4, rfl⟩
        obtain ⟨ics, k1, k2⟩ := main fs.toList 0 0 (fun j => by simp) hti hall (Nat.zero_le _)
        rw [List.drop_zero] at k1
        exact ⟨ics, k1, by unfold Rd; simp only [hl, hd]; exact k2⟩
      | _ => simp only [hd] at hs; cases hs
/-- An argument at a type. -/
def RdA (T : TT) (B d : Nat) (t : TypeId) (a : AV) : Prop :=
  match T.lookup t with
  | none => False
  | some ti => match ti.desc with
    | .struct _ => ∃ cs, Rd T B d t cs ∧ a = .agg cs
    | _ => ∃ c, Rd T B d t [c] ∧ a = .c c
def RdArgs (T : TT) (B d : Nat) : List TypeId → List AV → Prop
  | [], as => as = []
  | t :: ts, as => ∃ a r, RdA T B d t a ∧ RdArgs T B d ts r ∧ as = a :: r
theorem arg_ok (hT : TTok P T) (hb : BulkOk H bulk) {d : Nat} {t : TypeId} {v : Value} {x : DataW H} {p : List MemPlace} {base : Nat} (hval : Value.okWide P w .any base t v) (h : DataW.Trod enc P w 0 (fun _ => true) true t v x p) (hs : okS T d t = true) (hB : bulk x ≤ B) :
    ∃ a, DenA L ⟨fun k => w.heap[k]?, 0⟩ a v ∧ RdA T B d t a := by
  obtain ⟨fuel, h⟩ := h
  obtain ⟨ics, h1, h2⟩ := rd_ok (L := L) hT hb d t fuel _ _ hs h hB
  cases d with
  | zero => cases hs
  | succ d =>
  unfold okS at hs
  cases hl : T.lookup t with
  | none => rw [hl] at hs; cases hs
  | some ti =>
    have hu := (hT _ _ hl).und
    have one : (∃ u, v = u ∧ v.cells.toList = [u]) → (∀ fs, ti.desc ≠ .struct fs) → ∃ a, DenA L ⟨fun k => w.heap[k]?, 0⟩ a v ∧ RdA T B (d + 1) t a := fun ⟨u, e1, e2⟩ hne => by
      subst e1
      rw [e2] at h1
      match ics, h1.1 with
      | [c], _ =>
        refine ⟨.c c, h1.2 0 c _ rfl rfl, ?_⟩
        unfold RdA
        simp only [hl]
        cases hq : ti.desc with
        | struct fs => exact absurd hq (hne fs)
        | _ => exact ⟨c, h2, rfl⟩
    cases hd : ti.desc with
    | bool => rw [hd] at hu; obtain ⟨b, rfl⟩ := okWide_bool hu hval; exact one ⟨_, rfl, rfl⟩ (by rw [hd]; intro fs e; cases e)
    | int k => rw [hd] at hu; obtain ⟨b, rfl⟩ := okWide_int hu hval; exact one ⟨_, rfl, rfl⟩ (by rw [hd]; intro fs e; cases e)
    | string => rw [hd] at hu; obtain ⟨b, rfl⟩ := okWide_string hu hval; exact one ⟨_, rfl, rfl⟩ (by rw [hd]; intro fs e; cases e)
    | slice e => rw [hd] at hu; obtain ⟨a, n, c, rfl⟩ := okWide_slice hu hval; exact one ⟨_, rfl, rfl⟩ (by rw [hd]; intro fs e; cases e)
    | struct fs =>
      rw [hd] at hu
      obtain ⟨cs, rfl, _⟩ := okWide_struct hu hval
      refine ⟨.agg ics, ⟨cs.toList, by simp, by simpa [Value.cells] using h1⟩, ?_⟩
      unfold RdA
      rw [hl]
      simp only [hd]
      exact ⟨ics, h2, rfl⟩
    | _ => simp only [hl, hd] at hs; cases hs
/-! ### Arguments told otherwise -/
def ArgsLe (as bs : List AV) : Prop := ∀ (L : Nat → Value) (h : Hp) (vs : List Value), DenAs L h as vs → DenAs L h bs vs
theorem argsLe_refl (as : List AV) : ArgsLe as as := fun _ _ _ h => h
theorem argsLe_cons {a b : AV} {as bs : List AV} (h1 : ∀ (L : Nat → Value) (h : Hp) v, DenA L h a v → DenA L h b v) (h2 : ArgsLe as bs) : ArgsLe (a :: as) (b :: bs) := fun L h vs hd => by
  match vs, hd with
  | v :: r, hd =>
    have := h2 L h r ⟨by have := hd.len; simpa using this, fun j x u hj hu => hd.den (j + 1) x u (by simpa using hj) (by simpa using hu)⟩
    exact denAs_cons (h1 L h v (hd.den 0 _ _ rfl rfl)) this
  | [], hd => have := hd.len; simp at this
theorem argsLe_same {a : AV} {as bs : List AV} (h2 : ArgsLe as bs) : ArgsLe (a :: as) (a :: bs) := argsLe_cons (fun _ _ _ h => h) h2
theorem callV_args [HasGl P] {f : FuncId} {args args' : List AV} {own : List (Option Ob)} {Q : AV → List (Option Ob) → Prop} (h : ArgsLe args args') (hc : CallV P f args' own Q) : CallV P f args own Q :=
  ⟨fun mine L F hh w vs hgl hm hd => hc.out mine L F hh w vs hgl hm (h L hh vs hd)⟩
/-- Elements of one form: a list of them. -/
theorem list_of {α : Type} {n : Nat} {f : Nat → List IC} {enc : α → List IC} {R : α → Prop} (d : α) (h : ∀ k, k < n → ∃ a, R a ∧ f k = enc a) : ∃ l : List α, l.length = n ∧ (∀ k, k < n → f k = enc (l.getD k d)) ∧ ∀ k, k < n → R (l.getD k d) := by
  have : Inhabited α := ⟨d⟩
  obtain ⟨g, hg⟩ := choose_f h
  refine ⟨(List.range n).map g, by simp, fun k hk => ?_, fun k hk => ?_⟩
  · rw [(hg k hk).2]; simp [List.getD_eq_getElem?_getD, hk]
  · have := (hg k hk).1; simpa [List.getD_eq_getElem?_getD, hk] using this
/-- A slice that stays, its elements told otherwise. -/
theorem den_sl_ext {h : Hp} {sz n : Nat} {f f' : Nat → List IC} {v : Value} (hd : Den L h (.sl sz n f) v) (hf : ∀ k, k < n → f' k = f k) : Den L h (.sl sz n f') v := by
  cases hd with
  | sl _ _ _ A c ad g hc hm hA hg hl hclo hr => exact .sl sz n f' A c ad g hc hm hA hg (fun k hk => by rw [hf k hk]; exact hl k hk) (fun k hk => by rw [hf k hk]; exact hclo k hk) (fun k hk j c' hc' => by rw [hf k hk] at hc'; exact hr k hk j c' hc')
theorem argsLe_nil (sz : Nat) (f : Nat → List IC) {as bs : List AV} (h2 : ArgsLe as bs) : ArgsLe (.c (.v (.slice none 0 0)) :: as) (.c (.sl sz 0 f) :: bs) := by
  refine argsLe_cons (fun L h v hd => ?_) h2
  have hd : Den L h (.v (.slice none 0 0)) v := hd
  cases hd with
  | v _ h1 => exact Den.sl sz 0 f none 0 ⟨0, 0, none⟩ (fun _ _ => undef) (Nat.le_refl _) (by omega) (fun h => by omega) (fun k hk => by omega) (fun k hk => by omega) (fun k hk => by omega) (fun k hk => by omega)
theorem argsLe_sl {sz n n' : Nat} {f f' : Nat → List IC} {as bs : List AV} (hn : n' = n) (hf : ∀ k, k < n → f k = f' k) (h2 : ArgsLe as bs) : ArgsLe (.c (.sl sz n f) :: as) (.c (.sl sz n' f') :: bs) := by
  subst hn
  exact argsLe_cons (fun L h v hd => den_sl_ext hd (fun k hk => (hf k hk).symm)) h2
end
end Go.Eng
