/- Plaits as words: matrices, crossings, and that there is just one normal form. -/
import Derived.Test.YtgkgloafjhiakaaDoorProg
namespace Go.Proofs.YtgkgloafjhiakaaDoor

/-- A letter: a 97, A 65, b 98, B 66. -/
def isL (c : UInt8) : Prop := c = 97 ∨ c = 65 ∨ c = 98 ∨ c = 66
def wordL (l : List UInt8) : Prop := ∀ c ∈ l, isL c
def posL (l : List UInt8) : Prop := ∀ c ∈ l, c = 97 ∨ c = 98
abbrev Mat := Int × Int × Int × Int
def mulM (m n : Mat) : Mat := (m.1 * n.1 + m.2.1 * n.2.2.1, m.1 * n.2.1 + m.2.1 * n.2.2.2, m.2.2.1 * n.1 + m.2.2.2 * n.2.2.1, m.2.2.1 * n.2.1 + m.2.2.2 * n.2.2.2)
def oneM : Mat := (1, 0, 0, 1)
/-- The matrix of a letter. -/
def ltM (c : UInt8) : Mat := if c = 97 then (1, 1, 0, 1) else if c = 65 then (1, -1, 0, 1) else if c = 98 then (1, 0, -1, 1) else (1, 0, 1, 1)
def matL (l : List UInt8) : Mat := l.foldl (fun m c => mulM m (ltM c)) oneM
/-- Small letters less large ones. -/
def cntL : List UInt8 → Int
  | [] => 0
  | c :: l => (if c = 97 ∨ c = 98 then 1 else -1) + cntL l
theorem mulM_assoc (a b c : Mat) : mulM (mulM a b) c = mulM a (mulM b c) := by
  obtain ⟨a1, a2, a3, a4⟩ := a
  obtain ⟨b1, b2, b3, b4⟩ := b
  obtain ⟨c1, c2, c3, c4⟩ := c
  unfold mulM
  refine Prod.ext ?_ (Prod.ext ?_ (Prod.ext ?_ ?_)) <;> (simp only [Int.add_mul, Int.mul_add, Int.mul_assoc]; omega)
theorem oneM_mul (a : Mat) : mulM oneM a = a := by
  obtain ⟨a1, a2, a3, a4⟩ := a
  simp [mulM, oneM]
theorem mul_oneM (a : Mat) : mulM a oneM = a := by
  obtain ⟨a1, a2, a3, a4⟩ := a
  simp [mulM, oneM]
theorem matL_nil : matL [] = oneM := rfl
theorem matL_snoc (l : List UInt8) (c : UInt8) : matL (l ++ [c]) = mulM (matL l) (ltM c) := by simp [matL]
theorem foldl_mat (l : List UInt8) (m : Mat) : l.foldl (fun m c => mulM m (ltM c)) m = mulM m (matL l) := by
  induction l generalizing m with
  | nil => exact (mul_oneM m).symm
  | cons c l ih =>
    show l.foldl _ (mulM m (ltM c)) = mulM m (l.foldl _ (mulM oneM (ltM c)))
    rw [ih, ih, mulM_assoc, oneM_mul]
theorem matL_append (u v : List UInt8) : matL (u ++ v) = mulM (matL u) (matL v) := by
  show (u ++ v).foldl _ oneM = _
  rw [List.foldl_append, foldl_mat]
  rfl
theorem matL_cons (c : UInt8) (l : List UInt8) : matL (c :: l) = mulM (ltM c) (matL l) := by
  have := matL_append [c] l
  rwa [show matL [c] = ltM c from oneM_mul _] at this
theorem cntL_append (u v : List UInt8) : cntL (u ++ v) = cntL u + cntL v := by
  induction u with
  | nil => simp [cntL]
  | cons c u ih =>
    show _ + cntL (u ++ v) = _ + cntL u + cntL v
    rw [ih]; omega
theorem cntL_pos {l : List UInt8} (h : posL l) : cntL l = l.length := by
  induction l with
  | nil => rfl
  | cons c l ih =>
    show (if c = 97 ∨ c = 98 then (1 : Int) else -1) + cntL l = _
    rw [if_pos (h c (by simp)), ih (fun x hx => h x (by simp [hx]))]
    simp; omega
theorem cntL_bound (l : List UInt8) : -(l.length : Int) ≤ cntL l ∧ cntL l ≤ l.length := by
  induction l with
  | nil => simp [cntL]
  | cons c l ih =>
    show -_ ≤ (if c = 97 ∨ c = 98 then (1 : Int) else -1) + cntL l ∧ (if c = 97 ∨ c = 98 then (1 : Int) else -1) + cntL l ≤ _
    split <;> simp <;> omega
/-- a and b exchanged; over and under exchanged. -/
def flL (l : List UInt8) : List UInt8 := l.map fun c => c ^^^ 3
def miL (l : List UInt8) : List UInt8 := l.map fun c => c ^^^ 32
def inL (l : List UInt8) : List UInt8 := (miL l).reverse
theorem isL_cases {P : UInt8 → Prop} (h1 : P 97) (h2 : P 65) (h3 : P 98) (h4 : P 66) {c : UInt8} (h : isL c) : P c := by
  rcases h with rfl | rfl | rfl | rfl <;> assumption
theorem isL_fl {c : UInt8} (h : isL c) : isL (c ^^^ 3) := isL_cases (P := fun c => isL (c ^^^ 3)) (by unfold isL; decide) (by unfold isL; decide) (by unfold isL; decide) (by unfold isL; decide) h
theorem isL_mi {c : UInt8} (h : isL c) : isL (c ^^^ 32) := isL_cases (P := fun c => isL (c ^^^ 32)) (by unfold isL; decide) (by unfold isL; decide) (by unfold isL; decide) (by unfold isL; decide) h
theorem fl_fl (c : UInt8) : (c ^^^ 3) ^^^ 3 = c := by rw [UInt8.xor_assoc]; simp
theorem mi_mi (c : UInt8) : (c ^^^ 32) ^^^ 32 = c := by rw [UInt8.xor_assoc]; simp
theorem flL_flL (l : List UInt8) : flL (flL l) = l := by
  unfold flL; rw [List.map_map]
  exact (List.map_congr_left fun c _ => fl_fl c).trans (List.map_id l)
theorem miL_miL (l : List UInt8) : miL (miL l) = l := by
  unfold miL; rw [List.map_map]
  exact (List.map_congr_left fun c _ => mi_mi c).trans (List.map_id l)
theorem inL_inL (l : List UInt8) : inL (inL l) = l := by
  unfold inL
  rw [show miL (miL l).reverse = (miL (miL l)).reverse by unfold miL; rw [List.map_reverse], miL_miL, List.reverse_reverse]
theorem wordL_fl {l : List UInt8} (h : wordL l) : wordL (flL l) := by
  intro c hc
  obtain ⟨d, hd, rfl⟩ := List.mem_map.1 hc
  exact isL_fl (h d hd)
theorem wordL_mi {l : List UInt8} (h : wordL l) : wordL (miL l) := by
  intro c hc
  obtain ⟨d, hd, rfl⟩ := List.mem_map.1 hc
  exact isL_mi (h d hd)
theorem wordL_in {l : List UInt8} (h : wordL l) : wordL (inL l) := fun c hc => wordL_mi h c (List.mem_reverse.1 hc)
theorem posL_fl {l : List UInt8} (h : posL l) : posL (flL l) := by
  intro c hc
  obtain ⟨d, hd, rfl⟩ := List.mem_map.1 hc
  rcases h d hd with rfl | rfl
  · exact .inr (by decide)
  · exact .inl (by decide)
theorem posL_word {l : List UInt8} (h : posL l) : wordL l := fun c hc => (h c hc).imp id fun h => .inr (.inl h)
/-- The half twist, so many times. -/
def twM (k : Int) : Mat := if k % 4 = 0 then (1, 0, 0, 1) else if k % 4 = 1 then (0, 1, -1, 0) else if k % 4 = 2 then (-1, 0, 0, -1) else (0, -1, 1, 0)
def dM : Mat := (0, 1, -1, 0)
theorem twM_succ (k : Int) : twM (k + 1) = mulM (twM k) dM := by
  have h : k % 4 = 0 ∨ k % 4 = 1 ∨ k % 4 = 2 ∨ k % 4 = 3 := by omega
  rcases h with h | h | h | h
  · have h' : (k + 1) % 4 = 1 := by omega
    simp [twM, dM, mulM, h, h']
  · have h' : (k + 1) % 4 = 2 := by omega
    simp [twM, dM, mulM, h, h']
  · have h' : (k + 1) % 4 = 3 := by omega
    simp [twM, dM, mulM, h, h']
  · have h' : (k + 1) % 4 = 0 := by omega
    simp [twM, dM, mulM, h, h']
theorem twM_pred (k : Int) : twM k = mulM (twM (k - 1)) dM := by
  have := twM_succ (k - 1)
  rwa [Int.sub_add_cancel] at this
theorem matL_aba : matL [97, 98, 97] = dM := by decide
theorem matL_bab : matL [98, 97, 98] = dM := by decide
/-- A half twist goes past a letter and flips it. -/
theorem ltM_dM {c : UInt8} (h : isL c) : mulM (ltM c) dM = mulM dM (ltM (c ^^^ 3)) := isL_cases (P := fun c => mulM (ltM c) dM = mulM dM (ltM (c ^^^ 3))) (by decide) (by decide) (by decide) (by decide) h
theorem matL_dM {l : List UInt8} (h : wordL l) : mulM (matL l) dM = mulM dM (matL (flL l)) := by
  induction l with
  | nil => exact (oneM_mul dM).trans (mul_oneM dM).symm
  | cons c l ih =>
    show mulM (matL (c :: l)) dM = mulM dM (matL ((c ^^^ 3) :: flL l))
    rw [matL_cons, matL_cons, mulM_assoc, ih (fun x hx => h x (by simp [hx])), ← mulM_assoc, ltM_dM (h c (by simp)), mulM_assoc]
/-- What a large letter is: a half twist back, and two small ones. -/
theorem ltM_A : mulM dM (ltM 65) = matL [97, 98] := by decide
theorem ltM_B : mulM dM (ltM 66) = matL [98, 97] := by decide
theorem dM_matL {l : List UInt8} (h : wordL l) : mulM dM (matL l) = mulM (matL (flL l)) dM := by
  have := matL_dM (wordL_fl h)
  rw [flL_flL] at this
  exact this.symm
/-- k half twists and a word of small letters are, as far as matrices and crossings tell, the word w. -/
structure Nform (w : List UInt8) (k : Int) (p : List UInt8) : Prop where
  pos : posL p
  mat : matL w = mulM (twM k) (matL p)
  cnt : cntL w = 3 * k + p.length
  len : p.length ≤ 2 * w.length
  low : -(w.length : Int) ≤ k
theorem Nform.nil : Nform [] 0 [] := ⟨fun _ hc => absurd hc (by simp), rfl, rfl, Nat.le_refl _, by simp⟩
theorem Nform.small {w p : List UInt8} {k : Int} (h : Nform w k p) {c : UInt8} (hc : c = 97 ∨ c = 98) : Nform (w ++ [c]) k (p ++ [c]) := by
  refine ⟨fun d hd => ?_, ?_, ?_, ?_, ?_⟩
  · rcases List.mem_append.1 hd with hd | hd
    · exact h.pos d hd
    · rw [List.mem_singleton.1 hd]; exact hc
  · rw [matL_snoc, matL_snoc, h.mat, mulM_assoc]
  · rw [cntL_append, h.cnt, show cntL [c] = 1 by simp [cntL, hc]]; simp; omega
  · have := h.len; simp; omega
  · have := h.low; simp; omega
theorem Nform.large {w p q : List UInt8} {k : Int} (h : Nform w k p) {c : UInt8} (hm : mulM dM (ltM c) = matL q) (hc : ¬ (c = 97 ∨ c = 98)) (hq : posL q) (hl : q.length = 2) : Nform (w ++ [c]) (k - 1) (flL p ++ q) := by
  refine ⟨fun d hd => ?_, ?_, ?_, ?_, ?_⟩
  · rcases List.mem_append.1 hd with hd | hd
    · exact posL_fl h.pos d hd
    · exact hq d hd
  · rw [matL_snoc, h.mat, matL_append, twM_pred k, mulM_assoc (twM (k - 1)), dM_matL (posL_word h.pos), ← hm, mulM_assoc, mulM_assoc]
  · rw [cntL_append, h.cnt, show cntL [c] = -1 by simp [cntL, hc], List.length_append, hl]
    simp [flL]; omega
  · have := h.len; simp [flL, hl]; omega
  · have := h.low; simp; omega
/-- A half twist taken out of the word. -/
theorem Nform.twist {w x y m : List UInt8} {k : Int} (h : Nform w k (x ++ (m ++ y))) (hm : matL m = dM) (hl : m.length = 3) : Nform w (k + 1) (flL x ++ y) := by
  have hp := h.pos
  have px : posL x := fun c hc => hp c (by simp [hc])
  have py : posL y := fun c hc => hp c (by simp [hc])
  refine ⟨fun d hd => ?_, ?_, ?_, ?_, ?_⟩
  · rcases List.mem_append.1 hd with hd | hd
    · exact posL_fl px d hd
    · exact py d hd
  · rw [h.mat, matL_append, matL_append, matL_append, hm, twM_succ, ← mulM_assoc (matL x), matL_dM (posL_word px), mulM_assoc, mulM_assoc]
  · have := h.cnt
    simp only [List.length_append, hl] at this ⊢
    simp [flL]; omega
  · have := h.len
    simp only [List.length_append, hl] at this ⊢
    simp [flL]; omega
  · have := h.low; omega
/-- No half twist stands in the word. -/
def noHalf (p : List UInt8) : Prop := ∀ x y : List UInt8, p ≠ x ++ ([97, 98, 97] ++ y) ∧ p ≠ x ++ ([98, 97, 98] ++ y)
theorem noHalf_left {p q : List UInt8} (h : noHalf (p ++ q)) : noHalf p := fun x y =>
  ⟨fun e => (h x (y ++ q)).1 (by rw [e]; simp), fun e => (h x (y ++ q)).2 (by rw [e]; simp)⟩
theorem noHalf_fl {p : List UInt8} (h : noHalf p) : noHalf (flL p) := fun x y =>
  ⟨fun e => (h (flL x) (flL y)).2 (by have := congrArg flL e; rw [flL_flL] at this; rw [this]; simp [flL]; decide),
   fun e => (h (flL x) (flL y)).1 (by have := congrArg flL e; rw [flL_flL] at this; rw [this]; simp [flL]; decide)⟩
abbrev Sym := Int × Int × Int
/-- What a turn in front does not change. -/
def nnM (m : Mat) : Sym := (m.1 * m.1 + m.2.2.1 * m.2.2.1, m.1 * m.2.1 + m.2.2.1 * m.2.2.2, m.2.1 * m.2.1 + m.2.2.2 * m.2.2.2)
theorem nnM_tw (k : Int) (m : Mat) : nnM (mulM (twM k) m) = nnM m := by
  obtain ⟨a, b, c, d⟩ := m
  have h : k % 4 = 0 ∨ k % 4 = 1 ∨ k % 4 = 2 ∨ k % 4 = 3 := by omega
  rcases h with h | h | h | h <;> simp [twM, mulM, nnM, h, Int.add_comm, Int.neg_mul, Int.mul_neg]
theorem nnM_a (m : Mat) : nnM (mulM m (ltM 97)) = ((nnM m).1, (nnM m).1 + (nnM m).2.1, (nnM m).1 + 2 * (nnM m).2.1 + (nnM m).2.2) := by
  obtain ⟨a, b, c, d⟩ := m
  refine Prod.ext ?_ (Prod.ext ?_ ?_)
  · simp [nnM, mulM, ltM]
  · simp [nnM, mulM, ltM, Int.mul_add]; omega
  · simp [nnM, mulM, ltM, Int.mul_add, Int.add_mul, Int.mul_comm]; omega
theorem nnM_b (m : Mat) : nnM (mulM m (ltM 98)) = ((nnM m).1 - 2 * (nnM m).2.1 + (nnM m).2.2, (nnM m).2.1 - (nnM m).2.2, (nnM m).2.2) := by
  obtain ⟨a, b, c, d⟩ := m
  refine Prod.ext ?_ (Prod.ext ?_ ?_)
  · simp [nnM, mulM, ltM, Int.mul_add, Int.add_mul, Int.mul_comm, Int.mul_neg]; omega
  · simp [nnM, mulM, ltM, Int.add_mul, Int.neg_mul]; omega
  · simp [nnM, mulM, ltM]
theorem snocL {P : List UInt8 → Prop} (h0 : P []) (h1 : ∀ l a, P l → P (l ++ [a])) (l : List UInt8) : P l := by
  rw [← List.reverse_reverse l]
  induction l.reverse with
  | nil => exact h0
  | cons a r ih => rw [List.reverse_cons]; exact h1 _ _ ih
theorem snoc_eq {p q : List UInt8} {c d : UInt8} : p ++ [c] = q ++ [d] ↔ p = q ∧ c = d := by
  constructor
  · intro h
    have := List.append_inj' h rfl
    exact ⟨this.1, by simpa using this.2⟩
  · rintro ⟨rfl, rfl⟩; rfl
/-- The square of a word's matrix tells its last letter. -/
structure Sgn (p : List UInt8) : Prop where
  a0 : 0 < (nnM (matL p)).1
  c0 : 0 < (nnM (matL p)).2.2
  det : (nnM (matL p)).1 * (nnM (matL p)).2.2 = 1 + (nnM (matL p)).2.1 * (nnM (matL p)).2.1
  nil : p = [] → (nnM (matL p)).2.1 = 0
  isA : ∀ q, p = q ++ [97] → 0 < (nnM (matL p)).2.1 ∧ ((nnM (matL p)).2.1 < (nnM (matL p)).2.2 ∨ ∃ r, p = r ++ [98, 97])
  isB : ∀ q, p = q ++ [98] → (nnM (matL p)).2.1 < 0 ∧ (-(nnM (matL p)).2.1 < (nnM (matL p)).1 ∨ ∃ r, p = r ++ [97, 98])
theorem pos_of_mul {a c : Int} (ha : 0 < a) (h : 0 < a * c) : 0 < c := by
  rcases Int.lt_or_le 0 c with h1 | h1
  · exact h1
  · have := Int.mul_nonneg (Int.le_of_lt ha) (show 0 ≤ -c by omega)
    rw [Int.mul_neg] at this
    omega
theorem sq_nonneg (a : Int) : 0 ≤ a * a := by
  rcases Int.le_total 0 a with h | h
  · exact Int.mul_nonneg h h
  · have := Int.mul_nonneg (show 0 ≤ -a by omega) (show 0 ≤ -a by omega)
    rwa [Int.neg_mul_neg] at this
theorem last_cases {p : List UInt8} (h : posL p) : p = [] ∨ (∃ q, p = q ++ [97]) ∨ ∃ q, p = q ++ [98] := by
  rcases List.eq_nil_or_concat p with h1 | ⟨l, a, h1⟩
  · exact .inl h1
  · rw [List.concat_eq_append] at h1
    subst h1
    rcases h a (by simp) with rfl | rfl
    · exact .inr (.inl ⟨l, rfl⟩)
    · exact .inr (.inr ⟨l, rfl⟩)
theorem sgn_of {p : List UInt8} : posL p → noHalf p → Sgn p := by
  refine snocL (P := fun p => posL p → noHalf p → Sgn p) (fun _ _ => ⟨by decide, by decide, by decide, fun _ => by decide, fun q h => ?_, fun q h => ?_⟩) (fun l c ih hp hn => ?_) p
  · simp at h
  · simp at h
  have hpl : posL l := fun d hd => hp d (by simp [hd])
  obtain ⟨a0, c0, det, hnil, hA, hB⟩ := ih hpl (noHalf_left hn)
  have hm := matL_snoc l c
  rcases hp c (by simp) with rfl | rfl
  · -- one more a
    have e := nnM_a (matL l)
    rw [← hm] at e
    generalize nnM (matL l) = n at a0 c0 det hnil hA hB e
    obtain ⟨A, B, C⟩ := n
    dsimp only at a0 c0 det hnil hA hB e
    have e2 : A * (A + 2 * B + C) = A * A + 2 * (A * B) + A * C := by rw [Int.mul_add, Int.mul_add, Int.mul_left_comm]
    have e3 : (A + B) * (A + B) = A * A + 2 * (A * B) + B * B := by rw [Int.mul_add, Int.add_mul, Int.add_mul, Int.mul_comm B A]; omega
    have hd : A * (A + 2 * B + C) = 1 + (A + B) * (A + B) := by omega
    refine ⟨by rw [e]; exact a0, by rw [e]; exact pos_of_mul a0 (by rw [hd]; have := sq_nonneg (A + B); omega), by rw [e]; exact hd, fun h => ?_, fun q h => ?_, fun q h => ?_⟩
    · simp at h
    · rw [e]
      dsimp only
      rcases last_cases hpl with rfl | ⟨r, rfl⟩ | ⟨r, rfl⟩
      · have := hnil rfl
        exact ⟨by omega, .inl (by omega)⟩
      · have := (hA r rfl).1
        exact ⟨by omega, .inl (by omega)⟩
      · have h1 := hB r rfl
        refine ⟨?_, .inr ⟨r, by simp⟩⟩
        rcases h1.2 with h2 | ⟨r', h2⟩
        · omega
        · exact absurd (show r ++ [98] ++ [97] = r' ++ ([97, 98, 97] ++ []) by rw [h2]; simp) (hn r' []).1
    · have := (snoc_eq.1 h).2
      cases this
  · have e := nnM_b (matL l)
    rw [← hm] at e
    generalize nnM (matL l) = n at a0 c0 det hnil hA hB e
    obtain ⟨A, B, C⟩ := n
    dsimp only at a0 c0 det hnil hA hB e
    have e2 : (A - 2 * B + C) * C = A * C - 2 * (B * C) + C * C := by rw [Int.add_mul, Int.sub_mul, Int.mul_assoc]
    have e3 : (B - C) * (B - C) = B * B - 2 * (B * C) + C * C := by rw [Int.mul_sub, Int.sub_mul, Int.sub_mul, Int.mul_comm C B]; omega
    have hd : (A - 2 * B + C) * C = 1 + (B - C) * (B - C) := by omega
    refine ⟨by rw [e]; exact pos_of_mul c0 (by rw [Int.mul_comm, hd]; have := sq_nonneg (B - C); omega), by rw [e]; exact c0, by rw [e]; exact hd, fun h => ?_, fun q h => ?_, fun q h => ?_⟩
    · simp at h
    · have := (snoc_eq.1 h).2
      cases this
    · rw [e]
      dsimp only
      rcases last_cases hpl with rfl | ⟨r, rfl⟩ | ⟨r, rfl⟩
      · have := hnil rfl
        exact ⟨by omega, .inl (by omega)⟩
      · have h1 := hA r rfl
        refine ⟨?_, .inr ⟨r, by simp⟩⟩
        rcases h1.2 with h2 | ⟨r', h2⟩
        · omega
        · exact absurd (show r ++ [97] ++ [98] = r' ++ ([98, 97, 98] ++ []) by rw [h2]; simp) (hn r' []).2
      · have := (hB r rfl).1
        exact ⟨by omega, .inl (by omega)⟩
/-- The square of the matrix tells the word. -/
theorem nn_inj {p : List UInt8} : ∀ q, posL p → noHalf p → posL q → noHalf q → nnM (matL p) = nnM (matL q) → p = q := by
  refine snocL (P := fun p => ∀ q, posL p → noHalf p → posL q → noHalf q → nnM (matL p) = nnM (matL q) → p = q) (fun q _ _ hq nq h => ?_) (fun l c ih q hp np hq nq h => ?_) p
  · have sq := sgn_of hq nq
    have h0 : (nnM (matL q)).2.1 = 0 := by rw [← h]; decide
    rcases last_cases hq with rfl | ⟨r, rfl⟩ | ⟨r, rfl⟩
    · rfl
    · have := (sq.isA r rfl).1; omega
    · have := (sq.isB r rfl).1; omega
  · have sp := sgn_of hp np
    have sq := sgn_of hq nq
    have hpl : posL l := fun d hd => hp d (by simp [hd])
    rcases last_cases hq with rfl | ⟨r, rfl⟩ | ⟨r, rfl⟩
    · have h0 : (nnM (matL (l ++ [c]))).2.1 = 0 := by rw [h]; decide
      rcases hp c (by simp) with rfl | rfl
      · have := (sp.isA l rfl).1; omega
      · have := (sp.isB l rfl).1; omega
    · have hr : posL r := fun d hd => hq d (by simp [hd])
      have h1 := (sq.isA r rfl).1
      rcases hp c (by simp) with rfl | rfl
      · rw [matL_snoc, matL_snoc, nnM_a, nnM_a] at h
        rw [ih r hpl (noHalf_left np) hr (noHalf_left nq) (by
          have q1 := congrArg (·.1) h
          have q2 := congrArg (·.2.1) h
          have q3 := congrArg (·.2.2) h
          dsimp only at q1 q2 q3
          exact Prod.ext q1 (Prod.ext (by omega) (by omega)))]
      · have := (sp.isB l rfl).1; rw [h] at this; omega
    · have hr : posL r := fun d hd => hq d (by simp [hd])
      have h1 := (sq.isB r rfl).1
      rcases hp c (by simp) with rfl | rfl
      · have := (sp.isA l rfl).1; rw [h] at this; omega
      · rw [matL_snoc, matL_snoc, nnM_b, nnM_b] at h
        rw [ih r hpl (noHalf_left np) hr (noHalf_left nq) (by
          have q1 := congrArg (·.1) h
          have q2 := congrArg (·.2.1) h
          have q3 := congrArg (·.2.2) h
          dsimp only at q1 q2 q3
          exact Prod.ext (by omega) (Prod.ext (by omega) q3))]
/-- The normal form. -/
structure Nf (w : List UInt8) (k : Int) (p : List UInt8) : Prop where
  form : Nform w k p
  free : noHalf p
/-- Two words are the same plait, by matrices, exactly if their normal forms are equal. -/
theorem Nf.iff {u v p q : List UInt8} {k m : Int} (hu : Nf u k p) (hv : Nf v m q) : (k = m ∧ p = q) ↔ (matL u = matL v ∧ cntL u = cntL v) := by
  constructor
  · rintro ⟨rfl, rfl⟩
    exact ⟨hu.form.mat.trans hv.form.mat.symm, hu.form.cnt.trans hv.form.cnt.symm⟩
  · rintro ⟨h1, h2⟩
    have e : p = q := nn_inj q hu.form.pos hu.free hv.form.pos hv.free (by
      rw [← nnM_tw k, ← hu.form.mat, h1, hv.form.mat, nnM_tw])
    subst e
    have c1 := hu.form.cnt
    have c2 := hv.form.cnt
    exact ⟨by omega, rfl⟩
theorem Nf.unique {w p q : List UInt8} {k m : Int} (h1 : Nf w k p) (h2 : Nf w m q) : k = m ∧ p = q := (h1.iff h2).2 ⟨rfl, rfl⟩
theorem Nf.high {w p : List UInt8} {k : Int} (h : Nf w k p) : k ≤ w.length := by
  have h1 := h.form.cnt
  have h2 := (cntL_bound w).2
  omega
end Go.Proofs.YtgkgloafjhiakaaDoor
