/- Plain laws: the way back, two parts of a path, closed paths. No program stands here. -/
import Derived.Test.YtahmdnboeenfkaaPl3
namespace Go.Proofs.Ytahmdnboeenfkaa

/-- The sum of a path's steps, and whether all are steps, place by place. -/
def ws (f : Fld) : List Plc → Int
  | [] => 0
  | [_] => 0
  | a :: b :: l => (stepF f a b).1 + ws f (b :: l)
def wk (f : Fld) : List Plc → Bool
  | [] => true
  | [_] => true
  | a :: b :: l => (stepF f a b).2 && wk f (b :: l)

theorem ws_append (f : Fld) (l m : List Plc) (a : Plc) : ws f (l ++ a :: m) = ws f (l ++ [a]) + ws f (a :: m) := by
  induction l with
  | nil => simp [ws]
  | cons b l ih =>
    cases l with
    | nil => simp [ws]
    | cons c l =>
      show (stepF f b c).1 + ws f (c :: l ++ a :: m) = (stepF f b c).1 + ws f (c :: l ++ [a]) + _
      rw [ih]; omega
theorem wk_append (f : Fld) (l m : List Plc) (a : Plc) : wk f (l ++ a :: m) = (wk f (l ++ [a]) && wk f (a :: m)) := by
  induction l with
  | nil => simp [wk]
  | cons b l ih =>
    cases l with
    | nil => simp [wk]
    | cons c l =>
      show ((stepF f b c).2 && wk f (c :: l ++ a :: m)) = ((stepF f b c).2 && wk f (c :: l ++ [a]) && _)
      rw [ih, Bool.and_assoc]
theorem stepF_back (f : Fld) (p q : Plc) : stepF f q p = (-(stepF f p q).1, (stepF f p q).2) := by
  obtain ⟨p1, p2⟩ := p
  obtain ⟨q1, q2⟩ := q
  unfold stepF
  simp only
  by_cases h1 : q1 = p1 + 1 ∧ q2 = p2
  · obtain ⟨rfl, rfl⟩ := h1
    rw [if_neg (by omega), if_pos (by omega), if_pos (by omega)]
  · by_cases h2 : q1 = p1 - 1 ∧ q2 = p2
    · obtain ⟨rfl, rfl⟩ := h2
      rw [if_pos (by omega), if_neg (by omega), if_pos (by omega)]; simp
    · by_cases h3 : q1 = p1 ∧ q2 = p2 + 1
      · obtain ⟨rfl, rfl⟩ := h3
        rw [if_neg (by omega), if_neg (by omega), if_neg (by omega), if_pos (by omega), if_neg (by omega), if_neg (by omega), if_pos (by omega)]
      · by_cases h4 : q1 = p1 ∧ q2 = p2 - 1
        · obtain ⟨rfl, rfl⟩ := h4
          rw [if_neg (by omega), if_neg (by omega), if_pos (by omega), if_neg (by omega), if_neg (by omega), if_neg (by omega), if_pos (by omega)]; simp
        · rw [if_neg (by omega), if_neg (by omega), if_neg (by omega), if_neg (by omega), if_neg (by omega), if_neg (by omega), if_neg (by omega), if_neg (by omega)]; simp
theorem ws_rev (f : Fld) (l : List Plc) : ws f l.reverse = -ws f l ∧ wk f l.reverse = wk f l := by
  induction l with
  | nil => simp [ws, wk]
  | cons a l ih =>
    cases l with
    | nil => simp [ws, wk]
    | cons b l =>
      obtain ⟨i1, i2⟩ := ih
      have e : (a :: b :: l).reverse = l.reverse ++ b :: [a] := by simp
      have e2 : (b :: l).reverse = l.reverse ++ [b] := by simp
      rw [e, ws_append, wk_append, ← e2, i1, i2]
      have hb := stepF_back f a b
      constructor
      · show -ws f (b :: l) + ((stepF f b a).1 + 0) = -((stepF f a b).1 + ws f (b :: l))
        rw [hb]; simp only; omega
      · show (wk f (b :: l) && ((stepF f b a).2 && true)) = ((stepF f a b).2 && wk f (b :: l))
        rw [hb]; simp [Bool.and_comm]
theorem wsum_of_take (f : Fld) (l m : List Plc) (k : Nat) (hk : k ≤ l.length) : wsum f (l ++ m) k = wsum f l k := by
  induction k with
  | zero => rfl
  | succ k ih =>
    rw [wsum, wsum, ih (by omega)]
    unfold stp
    rw [List.getD_eq_getElem?_getD, List.getD_eq_getElem?_getD, List.getD_eq_getElem?_getD, List.getD_eq_getElem?_getD, List.getElem?_append_left (by omega), List.getElem?_append_left (by omega)]
theorem wsum_eq (f : Fld) (l : List Plc) : wsum f l l.length = ws f l := by
  have key : ∀ l : List Plc, wsum f l.reverse l.reverse.length = ws f l.reverse := by
    intro l
    induction l with
    | nil => rfl
    | cons a l ih =>
      rw [List.reverse_cons]
      rw [List.length_append, List.length_singleton, wsum, wsum_of_take f _ _ _ (by omega), ih]
      cases l with
      | nil => simp [ws]
      | cons b l =>
        rw [if_neg (by simp)]
        have e2 : (b :: l).reverse = l.reverse ++ [b] := by simp
        have h1 : ((b :: l).reverse ++ [a])[(b :: l).reverse.length - 1]? = some b := by
          rw [List.getElem?_append_left (by simp)]
          simp
        have h2 : ((b :: l).reverse ++ [a])[(b :: l).reverse.length]? = some a := by
          rw [List.getElem?_append_right (by omega)]; simp
        rw [wok_stp h1 h2, show (b :: l).reverse ++ [a] = l.reverse ++ b :: [a] by simp, ws_append, ← e2]
        show _ = _ + ((stepF f b a).1 + 0)
        omega
  have := key l.reverse
  rwa [List.reverse_reverse] at this
theorem wok_iff (f : Fld) (l : List Plc) : wok f l ↔ wk f l = true := by
  induction l with
  | nil => simp [wok, wk]
  | cons a l ih =>
    cases l with
    | nil => simp [wok, wk]
    | cons b l =>
      have hs : ∀ i, stp f (a :: b :: l) (i + 1 + 1) = stp f (b :: l) (i + 1) := fun i => rfl
      have h1 : stp f (a :: b :: l) 1 = stepF f a b := rfl
      show _ ↔ ((stepF f a b).2 && wk f (b :: l)) = true
      rw [Bool.and_eq_true, ← ih]
      constructor
      · intro h
        refine ⟨by have := h 1 (by simp) (by omega); rwa [h1] at this, fun i hi h0 => ?_⟩
        obtain ⟨j, rfl⟩ : ∃ j, i = j + 1 := ⟨i - 1, by omega⟩
        rw [← hs]
        exact h (j + 1 + 1) (by simp at hi ⊢; omega) (by omega)
      · rintro ⟨h2, h3⟩ i hi h0
        rcases Nat.lt_or_ge i 2 with h | h
        · obtain rfl : i = 1 := by omega
          rw [h1]; exact h2
        · obtain ⟨j, rfl⟩ : ∃ j, i = j + 1 + 1 := ⟨i - 2, by omega⟩
          rw [hs]
          exact h3 (j + 1) (by simp at hi ⊢; omega) (by omega)

/-- A path that is walked: the error is none, and the sum. -/
structure Walks (f : Fld) (l : List Plc) : Prop where
  v : valid f = 0
  n : l.length ≤ 1000
  a : wall f l
  k : wk f l = true
theorem walkR_of {f : Fld} {l : List Plc} (h : Walks f l) : walkR f l = (ws f l, 0) := by
  rw [walkR_sum h.v (by have := h.n; omega) h.a ((wok_iff f l).2 h.k), wsum_eq]
theorem walks_of {f : Fld} {l : List Plc} (h : (walkR f l).2 = 0) : Walks f l := by
  by_cases h1 : valid f = 0
  · by_cases h2 : 1000 < l.length
    · rw [walkR_long h1 h2] at h; cases h
    · by_cases h3 : wall f l
      · by_cases h4 : wok f l
        · exact ⟨h1, by omega, h3, (wok_iff f l).1 h4⟩
        · rw [walkR_broken h1 h2 h3 h4] at h; cases h
      · rw [walkR_off h1 h2 h3] at h; cases h
  · rw [walkR_bad h1] at h; exact absurd h h1
theorem walkR_err {f : Fld} {l : List Plc} (h : (walkR f l).2 ≠ 0) : (walkR f l).1 = 0 := by
  by_cases h1 : valid f = 0
  · by_cases h2 : 1000 < l.length
    · rw [walkR_long h1 h2]
    · by_cases h3 : wall f l
      · by_cases h4 : wok f l
        · rw [walkR_sum h1 h2 h3 h4] at h; exact absurd rfl h
        · rw [walkR_broken h1 h2 h3 h4]
      · rw [walkR_off h1 h2 h3]
  · rw [walkR_bad h1]
theorem Walks.rev {f : Fld} {l : List Plc} (h : Walks f l) : Walks f l.reverse :=
  ⟨h.v, by rw [List.length_reverse]; exact h.n, fun q hq => h.a q (List.mem_reverse.1 hq), by rw [(ws_rev f l).2]; exact h.k⟩
theorem split_at {l : List Plc} {k : Nat} (hk : k < l.length) : l = l.take k ++ l[k] :: l.drop (k + 1) := by
  rw [← List.drop_eq_getElem_cons hk, List.take_append_drop]
theorem Walks.fst {f : Fld} {l : List Plc} (h : Walks f l) {k : Nat} (hk : k < l.length) : Walks f (l.take (k + 1)) := by
  refine ⟨h.v, by rw [List.length_take]; have := h.n; omega, fun q hq => h.a q (List.mem_of_mem_take hq), ?_⟩
  have h1 := h.k
  rw [split_at hk, wk_append, Bool.and_eq_true] at h1
  rw [List.take_succ_eq_append_getElem hk]
  exact h1.1
theorem Walks.snd {f : Fld} {l : List Plc} (h : Walks f l) {k : Nat} (hk : k < l.length) : Walks f (l.drop k) := by
  refine ⟨h.v, by rw [List.length_drop]; have := h.n; omega, fun q hq => h.a q (List.mem_of_mem_drop hq), ?_⟩
  have h1 := h.k
  rw [split_at hk, wk_append, Bool.and_eq_true] at h1
  rw [List.drop_eq_getElem_cons hk]
  exact h1.2
theorem ws_split (f : Fld) {l : List Plc} {k : Nat} (hk : k < l.length) : ws f (l.take (k + 1)) + ws f (l.drop k) = ws f l := by
  have h := ws_append f (l.take k) (l.drop (k + 1)) l[k]
  rw [← split_at hk, ← List.take_succ_eq_append_getElem hk, ← List.drop_eq_getElem_cons hk] at h
  omega
/-- A step turns what the directions differ by, but for half turns. -/
theorem trn_four (f : Fld) (e : Edg) : ∃ q : Int, f.trn e = f.bend e + 4 * q := by
  unfold Fld.trn
  obtain ⟨q, hq⟩ := turnN_mod (f.bend e + if e ∈ f.ps then 4 else 0)
  rw [hq]
  split
  · exact ⟨1 - 2 * q, by omega⟩
  · exact ⟨-2 * q, by omega⟩
def dirP (f : Fld) (p : Plc) : Int := f.dir p.1 p.2
theorem stepF_four (f : Fld) (p q : Plc) (h : (stepF f p q).2 = true) : ∃ z : Int, (stepF f p q).1 = dirP f q - dirP f p + 4 * z := by
  obtain ⟨p1, p2⟩ := p
  obtain ⟨q1, q2⟩ := q
  unfold stepF at h ⊢
  simp only [dirP] at h ⊢
  by_cases h1 : q1 = p1 + 1 ∧ q2 = p2
  · obtain ⟨rfl, rfl⟩ := h1
    rw [if_pos (by omega)]
    obtain ⟨z, hz⟩ := trn_four f (p1, q2, 0)
    refine ⟨z, ?_⟩
    simp only [hz, Fld.bend, show p1 + 1 - 0 = p1 + 1 by omega, show q2 + 0 = q2 by omega]
  · rw [if_neg h1] at h ⊢
    by_cases h2 : q1 = p1 - 1 ∧ q2 = p2
    · obtain ⟨rfl, rfl⟩ := h2
      rw [if_pos (by omega)]
      obtain ⟨z, hz⟩ := trn_four f (p1 - 1, q2, 0)
      refine ⟨-z, ?_⟩
      simp only [hz, Fld.bend, show p1 - 1 + 1 - 0 = p1 by omega, show q2 + 0 = q2 by omega]; omega
    · rw [if_neg h2] at h ⊢
      by_cases h3 : q1 = p1 ∧ q2 = p2 + 1
      · obtain ⟨rfl, rfl⟩ := h3
        rw [if_pos (by omega)]
        obtain ⟨z, hz⟩ := trn_four f (q1, p2, 1)
        refine ⟨z, ?_⟩
        simp only [hz, Fld.bend, show q1 + 1 - 1 = q1 by omega]
      · rw [if_neg h3] at h ⊢
        by_cases h4 : q1 = p1 ∧ q2 = p2 - 1
        · obtain ⟨rfl, rfl⟩ := h4
          rw [if_pos (by omega)]
          obtain ⟨z, hz⟩ := trn_four f (q1, p2 - 1, 1)
          refine ⟨-z, ?_⟩
          simp only [hz, Fld.bend, show q1 + 1 - 1 = q1 by omega, show p2 - 1 + 1 = p2 by omega]; omega
        · rw [if_neg h4] at h; cases h
theorem ws_four (f : Fld) : ∀ (l : List Plc) (a : Plc), wk f (a :: l) = true → ∃ z : Int, ws f (a :: l) = dirP f ((a :: l).getLast (by simp)) - dirP f a + 4 * z := by
  intro l
  induction l with
  | nil => intro a _; exact ⟨0, by simp [ws]⟩
  | cons b l ih =>
    intro a h
    have h' : ((stepF f a b).2 && wk f (b :: l)) = true := h
    rw [Bool.and_eq_true] at h'
    obtain ⟨z, hz⟩ := ih b h'.2
    obtain ⟨y, hy⟩ := stepF_four f a b h'.1
    refine ⟨z + y, ?_⟩
    show (stepF f a b).1 + ws f (b :: l) = _
    have e : (a :: b :: l).getLast (by simp) = (b :: l).getLast (by simp) := List.getLast_cons (by simp)
    rw [hz, hy, e]
    omega
theorem Walks.closed {f : Fld} {l : List Plc} (h : Walks f l) {p : Plc} (h0 : l[0]? = some p) (h1 : l[l.length - 1]? = some p) : (ws f l).tmod 4 = 0 := by
  cases l with
  | nil => simp at h0
  | cons a l =>
    obtain ⟨z, hz⟩ := ws_four f l a h.k
    have e1 : a = p := by simpa using h0
    have e2 : (a :: l).getLast (by simp) = p := by
      rw [List.getLast_eq_getElem]
      rw [List.getElem?_eq_getElem (by simp)] at h1
      exact Option.some.inj h1
    rw [hz, e2, e1, show dirP f p - dirP f p + 4 * z = 4 * z by omega]
    exact Int.mul_tmod_right 4 z
end Go.Proofs.Ytahmdnboeenfkaa
