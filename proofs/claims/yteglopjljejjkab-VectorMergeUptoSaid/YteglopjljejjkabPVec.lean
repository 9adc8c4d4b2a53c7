/- Vectors, as lists: what the reference's functions come to, and how they stand to each other. -/
namespace Go.Eng
abbrev CV := List (Int × Int)
def srt (l : CV) : Prop := l.Pairwise (fun a b => a.1 < b.1)
def mayV (l : CV) : Prop := srt l ∧ ∀ x ∈ l, 0 < x.1 ∧ 0 < x.2
def nxt (l : CV) (c : Int) : Int := match l.find? (fun x => x.1 == c) with | some x => x.2 | none => 0
def rset (c n : Int) : CV → Bool → CV
  | [], put => if put then [] else [(c, n)]
  | x :: r, put => (if !put && decide (c ≤ x.1) then [(c, n)] else []) ++ ((if x.1 = c then [] else [x]) ++ rset c n r (put || decide (c ≤ x.1)))
def setR (l : CV) (c n : Int) : CV := if c = 0 then l else rset c n l (n == 0)
def mergeR (a b : CV) : CV := b.foldl (fun out x => setR out x.1 (max x.2 (nxt out x.1))) a
def coversR (a b : CV) : Bool := b.all (fun x => !decide (nxt a x.1 < x.2))
theorem rset_pre (c n : Int) (post : CV) (put : Bool) : ∀ pre : CV, (∀ x ∈ pre, x.1 < c) → rset c n (pre ++ post) put = pre ++ rset c n post put
  | [], _ => rfl
  | x :: r, h => by
    have hx := h x (by simp)
    have h1 : decide (c ≤ x.1) = false := decide_eq_false (by omega)
    have h2 : ¬ x.1 = c := by omega
    rw [List.cons_append, rset, h1, if_neg h2]
    simp only [Bool.and_false, Bool.or_false]
    rw [rset_pre c n post put r (fun y hy => h y (by simp [hy]))]
    simp
theorem rset_tail (c n : Int) : ∀ post : CV, (∀ x ∈ post, c < x.1) → rset c n post true = post
  | [], _ => rfl
  | x :: r, h => by
    have hx := h x (by simp)
    rw [rset, if_neg (show ¬ x.1 = c by omega)]
    simp only [Bool.not_true, Bool.false_and, Bool.true_or]
    rw [rset_tail c n r (fun y hy => h y (by simp [hy]))]
    simp
theorem rset_hit (c n : Int) (x : Int × Int) (r : CV) (put : Bool) (hx : x.1 = c) (h : ∀ y ∈ r, c < y.1) : rset c n (x :: r) put = (if put then [] else [(c, n)]) ++ r := by
  have h1 : decide (c ≤ x.1) = true := decide_eq_true (by omega)
  rw [rset, h1, if_pos hx]
  simp only [Bool.and_true, Bool.or_true]
  rw [rset_tail c n r h]
  cases put <;> simp
theorem rset_miss (c n : Int) (put : Bool) : ∀ post : CV, (∀ x ∈ post, c < x.1) → rset c n post put = (if put then [] else [(c, n)]) ++ post
  | [], _ => by rw [rset]; simp
  | x :: r, h => by
    have hx := h x (by simp)
    have h1 : decide (c ≤ x.1) = true := decide_eq_true (by omega)
    rw [rset, h1, if_neg (show ¬ x.1 = c by omega)]
    simp only [Bool.and_true, Bool.or_true]
    rw [rset_tail c n r (fun y hy => h y (by simp [hy]))]
    cases put <;> simp
/-- Where a client stands, or would: all ahead are less, all from there on are not. -/
structure At (l : CV) (c : Int) (i : Nat) : Prop where
  le : i ≤ l.length
  lt : ∀ j, j < i → (l.getD j (0, 0)).1 < c
  ge : ∀ j, i ≤ j → j < l.length → c ≤ (l.getD j (0, 0)).1
theorem getD_mem {α : Type} {l : List α} {j : Nat} {d : α} (h : j < l.length) : l.getD j d ∈ l := by
  rw [List.getD_eq_getElem?_getD, List.getElem?_eq_getElem h]; exact List.getElem_mem h
theorem mem_getD {α : Type} {l : List α} {x d : α} (h : x ∈ l) : ∃ j, j < l.length ∧ l.getD j d = x := by
  obtain ⟨j, hj, e⟩ := List.getElem_of_mem h
  exact ⟨j, hj, by rw [List.getD_eq_getElem?_getD, List.getElem?_eq_getElem hj]; exact e⟩
theorem At.pre {l : CV} {c : Int} {i : Nat} (h : At l c i) : ∀ x ∈ l.take i, x.1 < c := fun x hx => by
  obtain ⟨j, hj, rfl⟩ := mem_getD (d := (0, 0)) hx
  rw [List.length_take] at hj
  rw [List.getD_eq_getElem?_getD, List.getElem?_take, if_pos (by omega), ← List.getD_eq_getElem?_getD]
  exact h.lt j (by omega)
theorem At.post {l : CV} {c : Int} {i : Nat} (h : At l c i) : ∀ x ∈ l.drop i, c ≤ x.1 := fun x hx => by
  obtain ⟨j, hj, rfl⟩ := mem_getD (d := (0, 0)) hx
  rw [List.length_drop] at hj
  rw [List.getD_eq_getElem?_getD, List.getElem?_drop, ← List.getD_eq_getElem?_getD]
  exact h.ge _ (by omega) (by omega)
theorem srt_get {l : CV} (hs : srt l) {i j : Nat} (hij : i < j) (hj : j < l.length) : (l.getD i (0, 0)).1 < (l.getD j (0, 0)).1 := by
  have := List.pairwise_iff_getElem.1 hs i j (by omega) hj hij
  rw [List.getD_eq_getElem?_getD, List.getElem?_eq_getElem (by omega), List.getD_eq_getElem?_getD, List.getElem?_eq_getElem hj]
  exact this
/-- Out of the search: neighbours tell all, where it is sorted. -/
theorem At.of {l : CV} (hs : srt l) {c : Int} {i : Nat} (hi : i ≤ l.length) (h1 : i = 0 ∨ (l.getD (i - 1) (0, 0)).1 < c) (h2 : i = l.length ∨ c ≤ (l.getD i (0, 0)).1) : At l c i := by
  refine ⟨hi, fun j hj => ?_, fun j hj hl => ?_⟩
  · rcases h1 with h1 | h1
    · omega
    · rcases Nat.lt_or_ge j (i - 1) with h3 | h3
      · have := srt_get hs h3 (by omega); omega
      · obtain rfl : j = i - 1 := by omega
        exact h1
  · rcases h2 with h2 | h2
    · omega
    · rcases Nat.lt_or_ge i j with h3 | h3
      · have := srt_get hs h3 hl; omega
      · obtain rfl : i = j := by omega
        exact h2
theorem drop_getD {α : Type} {l : List α} {i : Nat} {d : α} (h : i < l.length) : l.drop i = l.getD i d :: l.drop (i + 1) := by
  rw [List.drop_eq_getElem_cons h, List.getD_eq_getElem?_getD, List.getElem?_eq_getElem h]; rfl
theorem At.post_lt {l : CV} (hs : srt l) {c : Int} {i : Nat} (h : At l c i) (hi : i < l.length) : ∀ y ∈ l.drop (i + 1), c < y.1 := fun y hy => by
  obtain ⟨j, hj, rfl⟩ := mem_getD (d := (0, 0)) hy
  rw [List.length_drop] at hj
  rw [List.getD_eq_getElem?_getD, List.getElem?_drop, ← List.getD_eq_getElem?_getD]
  have h1 := h.ge i (Nat.le_refl _) hi
  have h2 := srt_get hs (show i < i + 1 + j by omega) (by omega)
  omega
theorem find_none {l : CV} {c : Int} (h : ∀ x ∈ l, x.1 ≠ c) : l.find? (fun x => x.1 == c) = none := by
  rw [List.find?_eq_none]
  intro x hx e
  exact h x hx (by simpa using e)
theorem nxt_hit {l : CV} {c : Int} {i : Nat} (h : At l c i) (hi : i < l.length) (hc : (l.getD i (0, 0)).1 = c) : nxt l c = (l.getD i (0, 0)).2 := by
  unfold nxt
  have e := List.take_append_drop i l
  rw [← e, List.find?_append, find_none (fun x hx => by have := h.pre x hx; omega), e, drop_getD (d := (0, 0)) hi, List.find?_cons_of_pos (by rw [hc]; exact beq_self_eq_true c)]
  rfl
theorem nxt_miss {l : CV} (hs : srt l) {c : Int} {i : Nat} (h : At l c i) (hn : ¬ (i < l.length ∧ (l.getD i (0, 0)).1 = c)) : nxt l c = 0 := by
  unfold nxt
  rw [find_none]
  intro x hx e
  obtain ⟨j, hj, rfl⟩ := mem_getD (d := (0, 0)) hx
  have h1 : i ≤ j := by
    rcases Nat.lt_or_ge j i with h2 | h2
    · have := h.lt j h2; omega
    · exact h2
  rcases Nat.lt_or_ge i j with h2 | h2
  · have := srt_get hs h2 hj
    have := h.ge i (Nat.le_refl _) (by omega)
    omega
  · obtain rfl : i = j := by omega
    exact hn ⟨hj, e⟩
theorem setR_hit {l : CV} (hs : srt l) {c n : Int} {i : Nat} (h : At l c i) (hc : c ≠ 0) (hi : i < l.length) (he : (l.getD i (0, 0)).1 = c) : setR l c n = l.take i ++ (if n = 0 then [] else [(c, n)]) ++ l.drop (i + 1) := by
  unfold setR
  rw [if_neg hc]
  have e := List.take_append_drop i l
  have h4 := rset_pre c n (l.drop i) (n == 0) (l.take i) h.pre
  rw [e] at h4
  rw [h4, drop_getD (d := (0, 0)) hi, rset_hit c n _ _ _ he (h.post_lt hs hi)]
  by_cases hn : n = 0 <;> simp [hn]
theorem setR_miss {l : CV} (hs : srt l) {c n : Int} {i : Nat} (h : At l c i) (hc : c ≠ 0) (hn : ¬ (i < l.length ∧ (l.getD i (0, 0)).1 = c)) : setR l c n = l.take i ++ (if n = 0 then [] else [(c, n)]) ++ l.drop i := by
  have hp : ∀ x ∈ l.drop i, c < x.1 := fun x hx => by
    rcases Nat.lt_or_ge i l.length with hi | hi
    · rw [drop_getD (d := (0, 0)) hi] at hx
      rcases List.mem_cons.1 hx with rfl | hx
      · have := h.ge i (Nat.le_refl _) hi
        have h3 : ¬ (l.getD i (0, 0)).1 = c := fun e => hn ⟨hi, e⟩
        omega
      · exact h.post_lt hs hi x hx
    · rw [List.drop_eq_nil_of_le hi] at hx; cases hx
  unfold setR
  rw [if_neg hc]
  have e := List.take_append_drop i l
  have h4 := rset_pre c n (l.drop i) (n == 0) (l.take i) h.pre
  rw [e] at h4
  rw [h4, rset_miss c n _ _ hp]
  by_cases h5 : n = 0 <;> simp [h5]
/-- There is such a place. -/
theorem at_ex {l : CV} (hs : srt l) (c : Int) : ∃ i, At l c i := by
  induction l with
  | nil => exact ⟨0, Nat.le_refl _, fun j hj => by omega, fun j _ hj => by simp at hj⟩
  | cons x r ih =>
    have hs' : srt r := (List.pairwise_cons.1 hs).2
    by_cases hx : x.1 < c
    · obtain ⟨i, h⟩ := ih hs'
      refine ⟨i + 1, by simp; exact h.le, fun j hj => ?_, fun j hj hl => ?_⟩
      · cases j with
        | zero => simpa using hx
        | succ j => simpa using h.lt j (by omega)
      · obtain ⟨k, rfl⟩ : ∃ k, j = k + 1 := ⟨j - 1, by omega⟩
        simpa using h.ge k (by omega) (by simpa using hl)
    · refine ⟨0, Nat.zero_le _, fun j hj => by omega, fun j _ hl => ?_⟩
      cases j with
      | zero => simp; omega
      | succ j =>
        have := srt_get hs (show 0 < j + 1 by omega) hl
        simp at this ⊢
        omega
theorem nxt_of {l : CV} (hs : srt l) {x : Int × Int} (hx : x ∈ l) : nxt l x.1 = x.2 := by
  obtain ⟨j, hj, rfl⟩ := mem_getD (d := (0, 0)) hx
  exact nxt_hit (i := j) ⟨by omega, fun k hk => srt_get hs hk hj, fun k hk hl => by
    rcases Nat.lt_or_ge j k with h | h
    · have := srt_get hs h hl; omega
    · obtain rfl : j = k := by omega
      exact Int.le_refl _⟩ hj rfl
theorem nxt_mem {l : CV} {c : Int} (h : nxt l c ≠ 0) : (c, nxt l c) ∈ l := by
  unfold nxt at h ⊢
  cases e : l.find? (fun x => x.1 == c) with
  | none => rw [e] at h; exact absurd rfl h
  | some x =>
    have h1 := List.find?_some e
    have h2 := List.mem_of_find?_eq_some e
    have h1 : x.1 = c := by simpa using h1
    simp only
    rw [← h1]
    exact h2
theorem nxt_pos {l : CV} (hm : mayV l) (c : Int) : 0 ≤ nxt l c := by
  by_cases h : nxt l c = 0
  · omega
  · have := hm.2 _ (nxt_mem h); simp at this; omega
/-- Sorted lists of the same elements. -/
theorem srt_ext : ∀ {a b : CV}, srt a → srt b → (∀ x, x ∈ a ↔ x ∈ b) → a = b
  | [], [], _, _, _ => rfl
  | [], y :: s, _, _, h => by have := (h y).2 (by simp); cases this
  | x :: r, [], _, _, h => by have := (h x).1 (by simp); cases this
  | x :: r, y :: s, ha, hb, h => by
    have ha' := List.pairwise_cons.1 ha
    have hb' := List.pairwise_cons.1 hb
    have exy : x = y := by
      rcases List.mem_cons.1 ((h x).1 (by simp)) with e | e
      · exact e
      · rcases List.mem_cons.1 ((h y).2 (by simp)) with e2 | e2
        · exact e2.symm
        · have := hb'.1 x e; have := ha'.1 y e2; omega
    subst exy
    have : r = s := srt_ext ha'.2 hb'.2 (fun z => by
      constructor
      · intro hz
        rcases List.mem_cons.1 ((h z).1 (by simp [hz])) with e | e
        · subst e; have := ha'.1 z hz; omega
        · exact e
      · intro hz
        rcases List.mem_cons.1 ((h z).2 (by simp [hz])) with e | e
        · subst e; have := hb'.1 z hz; omega
        · exact e)
    rw [this]
theorem may_ext {a b : CV} (ha : mayV a) (hb : mayV b) (h : ∀ c, nxt a c = nxt b c) : a = b := by
  refine srt_ext ha.1 hb.1 (fun x => ⟨fun hx => ?_, fun hx => ?_⟩)
  · have h1 := nxt_of ha.1 hx
    rw [h] at h1
    have h2 := (ha.2 x hx).2
    have := nxt_mem (l := b) (c := x.1) (by omega)
    rw [h1] at this; exact this
  · have h1 := nxt_of hb.1 hx
    rw [← h] at h1
    have h2 := (hb.2 x hx).2
    have := nxt_mem (l := a) (c := x.1) (by omega)
    rw [h1] at this; exact this
theorem setR_mem {l : CV} (hs : srt l) {c n : Int} (hc : c ≠ 0) (x : Int × Int) : x ∈ setR l c n ↔ (x = (c, n) ∧ n ≠ 0) ∨ (x ∈ l ∧ x.1 ≠ c) := by
  obtain ⟨i, h⟩ := at_ex hs c
  have e : l = l.take i ++ l.drop i := (List.take_append_drop i l).symm
  by_cases hh : i < l.length ∧ (l.getD i (0, 0)).1 = c
  · rw [setR_hit hs h hc hh.1 hh.2]
    have e2 : l = l.take i ++ l.getD i (0, 0) :: l.drop (i + 1) := by rw [← drop_getD hh.1]; exact e
    have h1 : x ∈ l ↔ x ∈ l.take i ∨ x = l.getD i (0, 0) ∨ x ∈ l.drop (i + 1) := by
      constructor
      · intro hx; rw [e2] at hx; simpa using hx
      · intro hx; rw [e2]; simpa using hx
    rw [h1]
    have hpre := h.pre x
    have hpost := h.post_lt hs hh.1 x
    simp only [List.mem_append]
    constructor
    · rintro ((hx | hx) | hx)
      · have := hpre hx; exact .inr ⟨.inl hx, by omega⟩
      · split at hx
        · cases hx
        · rename_i hn; exact .inl ⟨by simpa using hx, hn⟩
      · have := hpost hx; exact .inr ⟨.inr (.inr hx), by omega⟩
    · rintro (⟨hx, hn⟩ | ⟨hx | hx | hx, hne⟩)
      · exact .inl (.inr (by rw [if_neg hn]; simp [hx]))
      · exact .inl (.inl hx)
      · rw [hx] at hne; exact absurd hh.2 hne
      · exact .inr hx
  · rw [setR_miss hs h hc hh]
    have h1 : x ∈ l ↔ x ∈ l.take i ∨ x ∈ l.drop i := by
      constructor
      · intro hx; rw [e] at hx; exact List.mem_append.1 hx
      · intro hx; rw [e]; exact List.mem_append.2 hx
    have hne : x ∈ l → x.1 ≠ c := fun hx e3 => by
      have h5 := nxt_miss hs h hh
      obtain ⟨j, hj, rfl⟩ := mem_getD (d := (0, 0)) hx
      rcases Nat.lt_or_ge j i with h2 | h2
      · have := h.lt j h2; omega
      · rcases Nat.lt_or_ge i j with h3 | h3
        · have := srt_get hs h3 hj
          have := h.ge i (Nat.le_refl _) (by omega)
          omega
        · obtain rfl : i = j := by omega
          exact hh ⟨hj, e3⟩
    simp only [List.mem_append]
    constructor
    · rintro ((hx | hx) | hx)
      · exact .inr ⟨h1.2 (.inl hx), hne (h1.2 (.inl hx))⟩
      · split at hx
        · cases hx
        · rename_i hn; exact .inl ⟨by simpa using hx, hn⟩
      · exact .inr ⟨h1.2 (.inr hx), hne (h1.2 (.inr hx))⟩
    · rintro (⟨hx, hn⟩ | ⟨hx, _⟩)
      · exact .inl (.inr (by rw [if_neg hn]; simp [hx]))
      · rcases h1.1 hx with hx | hx
        · exact .inl (.inl hx)
        · exact .inr hx
theorem setR_srt {l : CV} (hs : srt l) (c n : Int) : srt (setR l c n) := by
  by_cases hc : c = 0
  · unfold setR; rw [if_pos hc]; exact hs
  obtain ⟨i, h⟩ := at_ex hs c
  have ht : srt (l.take i) := hs.sublist (List.take_sublist i l)
  have hd : ∀ k, srt (l.drop k) := fun k => hs.sublist (List.drop_sublist k l)
  have mk : ∀ k, (∀ y ∈ l.drop k, c < y.1) → srt (l.take i ++ (if n = 0 then [] else [(c, n)]) ++ l.drop k) := fun k hk => by
    unfold srt at *
    rw [List.pairwise_append, List.pairwise_append]
    refine ⟨⟨ht, by split <;> simp, fun a ha b hb => ?_⟩, hd k, fun a ha b hb => ?_⟩
    · split at hb
      · cases hb
      · have : b = (c, n) := by simpa using hb
        rw [this]; exact h.pre a ha
    · have := hk b hb
      rcases List.mem_append.1 ha with ha | ha
      · have := h.pre a ha; omega
      · split at ha
        · cases ha
        · have e : a = (c, n) := by simpa using ha
          rw [e]; exact this
  by_cases hh : i < l.length ∧ (l.getD i (0, 0)).1 = c
  · rw [setR_hit hs h hc hh.1 hh.2]; exact mk _ (h.post_lt hs hh.1)
  · rw [setR_miss hs h hc hh]
    refine mk _ (fun y hy => ?_)
    rcases Nat.lt_or_ge i l.length with hi | hi
    · rw [drop_getD (d := (0, 0)) hi] at hy
      rcases List.mem_cons.1 hy with rfl | hy
      · have := h.ge i (Nat.le_refl _) hi
        have h3 : ¬ (l.getD i (0, 0)).1 = c := fun e => hh ⟨hi, e⟩
        omega
      · exact h.post_lt hs hi y hy
    · rw [List.drop_eq_nil_of_le hi] at hy; cases hy
theorem setR_may {l : CV} (hm : mayV l) {c n : Int} (hc : 0 ≤ c) (hn : 0 ≤ n) : mayV (setR l c n) := by
  by_cases h0 : c = 0
  · unfold setR; rw [if_pos h0]; exact hm
  refine ⟨setR_srt hm.1 c n, fun x hx => ?_⟩
  rcases (setR_mem hm.1 h0 x).1 hx with ⟨rfl, h⟩ | ⟨h, _⟩
  · exact ⟨by show 0 < c; omega, by show 0 < n; omega⟩
  · exact hm.2 x h
theorem nxt_iff {l : CV} (hs : srt l) {c n : Int} (hn : n ≠ 0) : nxt l c = n ↔ (c, n) ∈ l := by
  constructor
  · intro h; have := nxt_mem (l := l) (c := c) (by rw [h]; exact hn); rw [h] at this; exact this
  · intro h; exact nxt_of hs h
theorem nxt_set {l : CV} (hm : mayV l) {c n : Int} (hc : c ≠ 0) (d : Int) : nxt (setR l c n) d = if d = c then n else nxt l d := by
  have hs2 := setR_srt hm.1 c n
  split
  · rename_i e
    subst e
    by_cases hn : n = 0
    · subst hn
      by_cases h0 : nxt (setR l d 0) d = 0
      · exact h0
      · have := nxt_mem h0
        rcases (setR_mem hm.1 hc _).1 this with ⟨_, h⟩ | ⟨_, h⟩
        · exact absurd rfl h
        · exact absurd rfl h
    · exact (nxt_iff hs2 hn).2 ((setR_mem hm.1 hc _).2 (.inl ⟨rfl, hn⟩))
  · rename_i e
    by_cases h0 : nxt l d = 0
    · by_cases h1 : nxt (setR l c n) d = 0
      · rw [h0, h1]
      · have := nxt_mem h1
        rcases (setR_mem hm.1 hc _).1 this with ⟨h, _⟩ | ⟨h, _⟩
        · exact absurd (congrArg Prod.fst h) e
        · have := nxt_of hm.1 h; simp only at this; omega
    · exact (nxt_iff hs2 h0).2 ((setR_mem hm.1 hc _).2 (.inr ⟨nxt_mem h0, e⟩))
theorem setR_same {l : CV} (hm : mayV l) {c : Int} (hc : c ≠ 0) (h0 : 0 ≤ c) : setR l c (nxt l c) = l := by
  refine may_ext (setR_may hm h0 (nxt_pos hm c)) hm (fun d => ?_)
  rw [nxt_set hm hc]
  split
  · rename_i e; rw [e]
  · rfl
theorem merge_inv (a : CV) (ha : mayV a) : ∀ (p : CV), (∀ x ∈ p, 0 < x.1 ∧ 0 < x.2) → mayV (mergeR a p) := by
  intro p
  induction p generalizing a with
  | nil => intro _; exact ha
  | cons x r ih =>
    intro h
    have hx := h x (by simp)
    exact ih (setR a x.1 (max x.2 (nxt a x.1))) (setR_may ha (by omega) (by omega)) (fun y hy => h y (by simp [hy]))
theorem nxt_merge : ∀ (b a : CV), mayV a → mayV b → ∀ c, nxt (mergeR a b) c = max (nxt a c) (nxt b c)
  | [], a, ha, _, c => by
    have := nxt_pos ha c
    show nxt a c = max (nxt a c) 0
    omega
  | x :: r, a, ha, hb, c => by
    have hx := hb.2 x (by simp)
    have hb' : mayV r := ⟨(List.pairwise_cons.1 hb.1).2, fun y hy => hb.2 y (by simp [hy])⟩
    have hgt := (List.pairwise_cons.1 hb.1).1
    have ha' : mayV (setR a x.1 (max x.2 (nxt a x.1))) := setR_may ha (by omega) (by omega)
    show nxt (mergeR (setR a x.1 (max x.2 (nxt a x.1))) r) c = _
    rw [nxt_merge r _ ha' hb' c, nxt_set ha (by omega)]
    have hn : nxt (x :: r) c = if c = x.1 then x.2 else nxt r c := by
      unfold nxt
      by_cases e : x.1 = c
      · rw [List.find?_cons_of_pos (by simp [e]), if_pos e.symm]
      · rw [List.find?_cons_of_neg (by simp [e]), if_neg (fun h => e h.symm)]
    rw [hn]
    split
    · rename_i e
      have hr : nxt r c = 0 := by
        by_cases h0 : nxt r c = 0
        · exact h0
        · have := hgt _ (nxt_mem h0); simp only at this; omega
      rw [hr, ← e]
      have := nxt_pos ha c
      omega
    · rfl
theorem covers_iff {a b : CV} (ha : mayV a) (hb : mayV b) : coversR a b = true ↔ ∀ c, nxt b c ≤ nxt a c := by
  unfold coversR
  rw [List.all_eq_true]
  constructor
  · intro h c
    by_cases h0 : nxt b c = 0
    · have := nxt_pos ha c; omega
    · have := h _ (nxt_mem h0)
      simp at this
      omega
  · intro h x hx
    have h1 := h x.1
    rw [nxt_of hb.1 hx] at h1
    simp
    omega
end Go.Eng
