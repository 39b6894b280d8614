/- Styles as plain data, more: fuel, one after another, words, parentheses. -/
import Derived.Test.YtgkgloafjhiakaaDoorJ2
namespace Go.Proofs.YtgkgloafjhiakaaDoor
open Go.RowKit Go.Sort

theorem pOne_congr {i1 i2 : List UInt8 → Option PR} {s : List UInt8} (h : ∀ t, t.length < s.length → i1 t = i2 t) : pOne i1 s = pOne i2 s := by
  unfold pOne
  have hd := dropWhile_len isSign s
  generalize s.dropWhile isSign = R at hd ⊢
  cases R with
  | nil => rfl
  | cons c t =>
    dsimp only
    rw [h t (Nat.lt_of_succ_le hd)]
theorem inner_len (g d : Nat) : ∀ t r, (fun t => if d < 8 then pItems g (d + 1) t else none) t = some r → r.1.length ≤ t.length := by
  intro t r h
  dsimp only at h
  split at h
  · exact pItems_len _ _ _ _ h
  · cases h
/-- The result of the items behind one item. -/
abbrev thenI (l : Nat) (w : List UInt8) (o : Option PR) : Option PR := o.map fun y => (y.1, l + y.2.1, w ++ y.2.2)
theorem pItems_fuel : ∀ (f g d : Nat) (s : List UInt8), s.length < f → s.length < g → pItems f d s = pItems g d s
  | 0, _, _, _, h, _ => absurd h (Nat.not_lt_zero _)
  | _ + 1, 0, _, _, _, h => absurd h (Nat.not_lt_zero _)
  | f + 1, g + 1, d, s, hf, hg => by
    cases s with
    | nil => rfl
    | cons c u =>
      by_cases hc : c = 41
      · subst hc; rfl
      · rw [pItems_one hc, pItems_one hc]
        simp only [List.length_cons] at hf hg
        have e : pOne (fun t => if d < 8 then pItems f (d + 1) t else none) (c :: u) = pOne (fun t => if d < 8 then pItems g (d + 1) t else none) (c :: u) := by
          refine pOne_congr fun t ht => ?_
          simp only [List.length_cons] at ht
          split
          · exact pItems_fuel f g (d + 1) t (by omega) (by omega)
          · rfl
        rw [← e]
        cases h : pOne (fun t => if d < 8 then pItems f (d + 1) t else none) (c :: u) with
        | none => rfl
        | some r =>
          have hl := pOne_len (inner_len f d) h
          simp only [List.length_cons] at hl
          dsimp only
          rw [pItems_fuel f g d r.1 (by omega) (by omega)]
theorem wordL_signW (c : UInt8) {w : List UInt8} (h : wordL w) : wordL (signW c w) := by
  unfold signW
  split
  · exact wordL_in h
  · split
    · exact wordL_mi h
    · split
      · exact wordL_fl h
      · exact h
theorem wordL_signsW (ss : List UInt8) {w : List UInt8} (h : wordL w) : wordL (signsW ss w) := by
  unfold signsW
  induction ss with
  | nil => exact h
  | cons c l ih => exact wordL_signW c ih
theorem wordL_append {u v : List UInt8} (hu : wordL u) (hv : wordL v) : wordL (u ++ v) := fun c hc => (List.mem_append.1 hc).elim (hu c) (hv c)
theorem wordL_rep (n : Nat) {w : List UInt8} (h : wordL w) : wordL (rep n w) := by
  intro c hc
  unfold rep at hc
  obtain ⟨l, hl, hc⟩ := List.mem_flatten.1 hc
  rw [List.eq_of_mem_replicate hl] at hc
  exact h c hc
/-- A result's word is a word of its length. -/
def Good (r : PR) : Prop := r.2.2.length = r.2.1 ∧ wordL r.2.2
theorem pTail_good {u : List UInt8} {l : Nat} {w : List UInt8} (h1 : w.length = l) (h2 : wordL w) : Good (pTail u l w) := by
  cases u with
  | nil => exact ⟨h1, h2⟩
  | cons c v =>
    by_cases hc : isDig c = true
    · rw [pTail_dig hc]
      exact ⟨by show (rep _ w).length = _; rw [rep_length, h1], wordL_rep _ h2⟩
    · have : pTail (c :: v) l w = (c :: v, l, w) := pTail_no fun e v h => by rw [← (List.cons.inj h).1]; simpa using hc
      rw [this]; exact ⟨h1, h2⟩
theorem pOne_good {inner : List UInt8 → Option PR} (hi : ∀ t r, inner t = some r → Good r) {s : List UInt8} {r : PR} (h : pOne inner s = some r) : Good r := by
  unfold pOne at h
  generalize s.dropWhile isSign = R at h
  split at h
  · cases h
  · rename_i c t
    split at h
    · rename_i hc
      cases h
      exact ⟨by show (signsW _ [c]).length = 1; rw [signsW_length]; rfl, wordL_signsW _ (by intro d hd; rw [List.mem_singleton.1 hd]; exact hc)⟩
    · split at h
      · split at h
        · rename_i u l w hx
          cases h
          obtain ⟨h1, h2⟩ := hi _ _ hx
          obtain ⟨h3, h4⟩ := pTail_good (u := u) h1 h2
          exact ⟨(signsW_length _ _).trans h3, wordL_signsW _ h4⟩
        · cases h
      · cases h
theorem pItems_good : ∀ (f d : Nat) (s : List UInt8) (r : PR), pItems f d s = some r → Good r ∧ (r.1 = [] ∨ ∃ u, r.1 = 41 :: u)
  | 0, _, _, _, h => by cases h
  | f + 1, d, s, r, h => by
    cases s with
    | nil => cases h; exact ⟨⟨rfl, fun c hc => absurd hc (by simp)⟩, .inl rfl⟩
    | cons c u =>
      by_cases hc : c = 41
      · subst hc
        cases h; exact ⟨⟨rfl, fun c hc => absurd hc (by simp)⟩, .inr ⟨u, rfl⟩⟩
      · rw [pItems_one hc] at h
        cases h1 : pOne (fun t => if d < 8 then pItems f (d + 1) t else none) (c :: u) with
        | none => rw [h1] at h; cases h
        | some r1 =>
          rw [h1] at h
          dsimp only at h
          cases h2 : pItems f d r1.1 with
          | none => rw [h2] at h; cases h
          | some r2 =>
            rw [h2] at h
            cases h
            obtain ⟨g2, e2⟩ := pItems_good f d _ _ h2
            obtain ⟨a1, b1⟩ := pOne_good (fun t r h => by
              split at h
              · exact (pItems_good f (d + 1) _ _ h).1
              · cases h) h1
            exact ⟨⟨by show (r1.2.2 ++ r2.2.2).length = _; rw [List.length_append, a1, g2.1], wordL_append b1 g2.2⟩, e2⟩
/-- The text does not begin with a digit. -/
def nd (y : List UInt8) : Prop := ∀ e u, y = e :: u → isDig e = false
theorem pTail_append {u y : List UInt8} {l : Nat} {w : List UInt8} (h : (pTail u l w).1 ≠ [] ∨ nd y) : pTail (u ++ y) l w = ((pTail u l w).1 ++ y, (pTail u l w).2.1, (pTail u l w).2.2) := by
  cases u with
  | nil =>
    rcases h with h | h
    · exact absurd rfl h
    · exact pTail_no h
  | cons c v =>
    by_cases hc : isDig c = true
    · rw [pTail_dig hc, List.cons_append, pTail_dig hc]
    · have hn : ∀ z, pTail (c :: z) l w = (c :: z, l, w) := fun z => pTail_no fun e v h => by rw [← (List.cons.inj h).1]; simpa using hc
      rw [List.cons_append, hn, hn]; rfl
theorem pOne_append {i1 i2 : List UInt8 → Option PR} {s y : List UInt8} (hi : ∀ t u l w, t.length < s.length → i1 t = some (41 :: u, l, w) → i2 (t ++ y) = some (41 :: (u ++ y), l, w)) {r : PR} (h : pOne i1 s = some r) (hr : r.1 ≠ [] ∨ nd y) :
    pOne i2 (s ++ y) = some (r.1 ++ y, r.2.1, r.2.2) := by
  have hd := dropWhile_len isSign s
  cases hR : s.dropWhile isSign with
  | nil =>
    unfold pOne at h
    rw [hR] at h
    cases h
  | cons c t =>
    have hR2 : (s ++ y).dropWhile isSign = c :: (t ++ y) := by rw [List.dropWhile_append, hR]; rfl
    have hS2 : (s ++ y).takeWhile isSign = s.takeWhile isSign := by
      rw [List.takeWhile_append, if_neg]
      intro e
      have := dropTake_len rfl hR
      rw [e] at this
      simp only [List.length_cons] at this
      omega
    rw [hR] at hd
    simp only [List.length_cons] at hd
    by_cases hc : isL c
    · rw [pOne_letter rfl hR hc] at h
      cases h
      rw [pOne_letter hS2 hR2 hc]
    · by_cases h40 : c = 40
      · subst h40
        cases hx : i1 t with
        | none => rw [pOne_none hR hc (fun _ u l w e => by rw [hx] at e; cases e)] at h; cases h
        | some r1 =>
          obtain ⟨rr, l, w⟩ := r1
          by_cases h41 : ∃ u, rr = 41 :: u
          · obtain ⟨u, rfl⟩ := h41
            rw [pOne_paren rfl hR hx] at h
            cases h
            have := pTail_append (y := y) hr
            rw [pOne_paren hS2 hR2 (hi t u l w (by omega) hx), this]
          · rw [pOne_none hR hc (fun _ u l w e => h41 ⟨u, by rw [hx] at e; cases e; rfl⟩)] at h; cases h
      · rw [pOne_none hR hc (fun e => absurd e h40)] at h; cases h
theorem pItems_append : ∀ (f g d : Nat) (s y : List UInt8) (r : PR), s.length < f → (s ++ y).length < g → pItems f d s = some r → (r.1 ≠ [] ∨ nd y) → pItems g d (s ++ y) = thenI r.2.1 r.2.2 (pItems g d (r.1 ++ y))
  | 0, _, _, _, _, _, h, _, _, _ => absurd h (Nat.not_lt_zero _)
  | _ + 1, 0, _, _, _, _, _, h, _, _ => absurd h (Nat.not_lt_zero _)
  | f + 1, g + 1, d, s, y, r, hf, hg, h, hr => by
    have idm : ∀ o : Option PR, thenI 0 [] o = o := fun o => by cases o <;> simp [thenI]
    cases s with
    | nil =>
      cases h
      exact (idm _).symm
    | cons c u =>
      by_cases hc : c = 41
      · subst hc
        cases h
        exact (idm _).symm
      · rw [pItems_one hc] at h
        cases h1 : pOne (fun t => if d < 8 then pItems f (d + 1) t else none) (c :: u) with
        | none => rw [h1] at h; cases h
        | some r1 =>
          rw [h1] at h
          dsimp only at h
          cases h2 : pItems f d r1.1 with
          | none => rw [h2] at h; cases h
          | some r2 =>
            rw [h2] at h
            cases h
            simp only [List.length_cons, List.length_append] at hf hg
            have hl := pOne_len (inner_len f d) h1
            simp only [List.length_cons] at hl
            have hr1 : r1.1 ≠ [] ∨ nd y := by
              rcases hr with hr | hr
              · refine .inl fun e => hr ?_
                have := pItems_len _ _ _ _ h2
                rw [e] at this
                exact List.length_eq_zero_iff.1 (Nat.le_zero.1 this)
              · exact .inr hr
            have hl2 := pItems_len _ _ _ _ h2
            have o := pOne_append (i2 := fun t => if d < 8 then pItems g (d + 1) t else none) (y := y) (fun t u' l w ht hx => by
              simp only [List.length_cons] at ht
              split at hx
              · rename_i hd
                rw [if_pos hd, pItems_append f g (d + 1) t y _ (by omega) (by rw [List.length_append]; omega) hx (.inl (by simp))]
                obtain ⟨g', rfl⟩ : ∃ g', g = g' + 1 := ⟨g - 1, by omega⟩
                show thenI l w (pItems (g' + 1) (d + 1) (41 :: (u' ++ y))) = _
                rw [pItems_end (.inr ⟨_, rfl⟩)]
                simp [thenI]
              · cases hx) h1 hr1
            rw [List.cons_append, pItems_one hc, ← List.cons_append, o]
            dsimp only
            rw [pItems_append f g d r1.1 y r2 (by omega) (by rw [List.length_append]; omega) h2 hr, pItems_fuel g (g + 1) d (r2.1 ++ y) (by rw [List.length_append]; omega) (by rw [List.length_append]; omega)]
            cases pItems (g + 1) d (r2.1 ++ y) with
            | none => rfl
            | some z => simp [thenI, Nat.add_assoc]
theorem pItems_word : ∀ (f d : Nat) (s : List UInt8), s.length < f → wordL s → pItems f d s = some ([], s.length, s)
  | 0, _, _, h, _ => absurd h (Nat.not_lt_zero _)
  | f + 1, d, s, hf, hw => by
    cases s with
    | nil => rfl
    | cons c u =>
      have hc := hw c (by simp)
      have h41 : ¬ c = 41 := by rcases hc with rfl | rfl | rfl | rfl <;> decide
      have hs : isSign c = false := by rcases hc with rfl | rfl | rfl | rfl <;> decide
      simp only [List.length_cons] at hf
      rw [pItems_one h41, pOne_letter (S := []) (t := u) (by rw [List.takeWhile_cons, hs]; rfl) (by rw [List.dropWhile_cons, hs]; rfl) hc]
      dsimp only
      rw [pItems_word f d u (by omega) fun d hd => hw d (by simp [hd])]
      simp [signsW]; omega
theorem drop_signs {S : List UInt8} (h : ∀ c ∈ S, isSign c = true) (c : UInt8) (hc : isSign c = false) (z : List UInt8) : (S ++ c :: z).dropWhile isSign = c :: z ∧ (S ++ c :: z).takeWhile isSign = S := by
  induction S with
  | nil => exact ⟨by rw [List.nil_append, List.dropWhile_cons, hc]; rfl, by rw [List.nil_append, List.takeWhile_cons, hc]; rfl⟩
  | cons d S ih =>
    obtain ⟨h1, h2⟩ := ih fun c hc => h c (by simp [hc])
    have hd := h d (by simp)
    exact ⟨by rw [List.cons_append, List.dropWhile_cons, hd]; exact h1, by rw [List.cons_append, List.takeWhile_cons, hd, h2]; rfl⟩
theorem pItems_paren {f d : Nat} {S u z : List UInt8} (hd : d < 8) (hS : ∀ c ∈ S, isSign c = true) (hu : wordL u) (hf : (S ++ 40 :: (u ++ 41 :: z)).length < f) :
    pItems f d (S ++ 40 :: (u ++ 41 :: z)) = thenI (pTail z u.length u).2.1 (signsW S (pTail z u.length u).2.2) (pItems f d (pTail z u.length u).1) := by
  obtain ⟨f, rfl⟩ : ∃ g, f = g + 1 := ⟨f - 1, by omega⟩
  have hc : ∃ c v, S ++ 40 :: (u ++ 41 :: z) = c :: v ∧ c ≠ 41 := by
    cases S with
    | nil => exact ⟨40, _, rfl, by decide⟩
    | cons c S => exact ⟨c, _, rfl, fun e => by have := hS c (by simp); rw [e] at this; exact absurd this (by decide)⟩
  obtain ⟨hR, hT⟩ := drop_signs hS 40 (by decide) (u ++ 41 :: z)
  simp only [List.length_append, List.length_cons] at hf
  have hin : (fun t => if d < 8 then pItems f (d + 1) t else none) (u ++ 41 :: z) = some (41 :: z, u.length, u) := by
    dsimp only
    rw [if_pos hd, pItems_append (u.length + 1) f (d + 1) u (41 :: z) _ (by omega) (by simp only [List.length_append, List.length_cons]; omega) (pItems_word _ _ u (by omega) hu) (.inr fun e v h => by
      rw [← (List.cons.inj h).1]; decide)]
    obtain ⟨g', rfl⟩ : ∃ g', f = g' + 1 := ⟨f - 1, by omega⟩
    show thenI _ _ (pItems (g' + 1) (d + 1) (41 :: z)) = _
    rw [pItems_end (.inr ⟨_, rfl⟩)]
    simp [thenI]
  have hl := pTail_len z u.length u
  obtain ⟨c, v, e, hc⟩ := hc
  have o := pOne_paren (inner := fun t => if d < 8 then pItems f (d + 1) t else none) hT hR hin
  rw [e] at o ⊢
  rw [pItems_one hc, o]
  dsimp only
  rw [pItems_fuel f (f + 1) d (pTail z u.length u).1 (by omega) (by omega)]
/-- What a style means that means a word. -/
theorem pStyle_ok {s : List UInt8} {u : List UInt8} (h : pStyle s = (u, 0)) : s.length ≤ 4000 ∧ pItems (s.length + 1) 0 s = some ([], u.length, u) ∧ wordL u ∧ u.length ≤ 60 := by
  unfold pStyle at h
  split at h
  · cases h
  · rename_i h4
    split at h
    · rename_i L W hp
      split at h
      · cases h
      · rename_i h60
        cases h
        obtain ⟨⟨h1, h2⟩, _⟩ := pItems_good _ _ _ _ hp
        dsimp only at h1 h2
        exact ⟨by omega, by rw [h1]; exact hp, h2, by omega⟩
    · cases h
theorem pStyle_of {s W : List UInt8} {L : Nat} (hs : s.length ≤ 4000) (h : pItems (s.length + 1) 0 s = some ([], L, W)) : pStyle s = if 60 < L then ([], 4) else (W, 0) := by
  unfold pStyle
  rw [if_neg (by omega), h]
theorem pStyle_word {u : List UInt8} (hu : wordL u) (hl : u.length ≤ 60) : pStyle u = (u, 0) := by
  rw [pStyle_of (by omega) (pItems_word _ _ u (by omega) hu), if_neg (by omega)]
theorem pStyle_both {x y u v : List UInt8} (hx : pStyle x = (u, 0)) (hy : pStyle y = (v, 0)) (hl : x.length + y.length ≤ 4000) (hn : nd y) : pStyle (x ++ y) = if 60 < u.length + v.length then ([], 4) else (u ++ v, 0) := by
  obtain ⟨_, px, _, _⟩ := pStyle_ok hx
  obtain ⟨_, py, _, _⟩ := pStyle_ok hy
  have h := pItems_append (x.length + 1) ((x ++ y).length + 1) 0 x y _ (by omega) (by omega) px (.inr hn)
  have e : pItems ((x ++ y).length + 1) 0 ([] ++ y) = some ([], v.length, v) := by
    rw [List.nil_append, pItems_fuel _ (y.length + 1) 0 y (by rw [List.length_append]; omega) (by omega), py]
  dsimp only at h
  rw [e] at h
  exact pStyle_of (by rw [List.length_append]; omega) h
theorem pStyle_times {u : List UInt8} (hu : wordL u) (hl : u.length ≤ 60) {n : Nat} (hn : n ≤ 7) : pStyle (40 :: (u ++ [41, UInt8.ofNat (48 + n)])) = if 60 < n * u.length then ([], 4) else (rep n u, 0) := by
  have hdg : isDig (UInt8.ofNat (48 + n)) = true := by
    have : n = 0 ∨ n = 1 ∨ n = 2 ∨ n = 3 ∨ n = 4 ∨ n = 5 ∨ n = 6 ∨ n = 7 := by omega
    rcases this with rfl | rfl | rfl | rfl | rfl | rfl | rfl | rfl <;> decide
  have hnn : (UInt8.ofNat (48 + n)).toNat - 48 = n := by
    rw [UInt8.toNat_ofNat']
    omega
  have h := pItems_paren (f := (40 :: (u ++ [41, UInt8.ofNat (48 + n)])).length + 1) (d := 0) (S := []) (u := u) (z := [UInt8.ofNat (48 + n)]) (by omega) (fun c hc => absurd hc (by simp)) hu (Nat.lt_succ_self _)
  rw [pTail_dig hdg, hnn] at h
  refine pStyle_of (by simp; omega) (h.trans ?_)
  show thenI _ _ (some ([], 0, [])) = _
  simp [thenI, signsW]
theorem pStyle_sign {u : List UInt8} (hu : wordL u) (hl : u.length ≤ 60) {c : UInt8} (hc : isSign c = true) : pStyle (c :: 40 :: (u ++ [41])) = (signW c u, 0) := by
  have h := pItems_paren (f := (c :: 40 :: (u ++ [41])).length + 1) (d := 0) (S := [c]) (u := u) (z := []) (by omega) (fun d hd => by rw [List.mem_singleton.1 hd]; exact hc) hu (Nat.lt_succ_self _)
  rw [pStyle_of (by simp; omega) (h.trans (show _ = some ([], u.length, signW c u) from ?_)), if_neg (by omega)]
  show thenI u.length (signsW [c] u) (some ([], 0, [])) = _
  simp [thenI, signsW]
/-- One more sign in front. -/
theorem pOne_more {inner : List UInt8 → Option PR} {c : UInt8} {u : List UInt8} (hc : isSign c = true) : pOne inner (c :: u) = (pOne inner u).map fun r => (r.1, r.2.1, signW c r.2.2) := by
  unfold pOne
  rw [List.dropWhile_cons, List.takeWhile_cons, hc]
  simp only [if_true]
  cases u.dropWhile isSign with
  | nil => rfl
  | cons x t =>
    dsimp only
    split
    · rfl
    · split
      · cases inner t with
        | none => rfl
        | some r =>
          obtain ⟨rr, l, w⟩ := r
          cases rr with
          | nil => rfl
          | cons y z =>
            by_cases hy : y = 41
            · subst hy; rfl
            · split
              · rename_i h; cases h; exact absurd rfl hy
              · rfl
      · rfl
end Go.Proofs.YtgkgloafjhiakaaDoor
