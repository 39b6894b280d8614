/- Styles, as the reference reads them: plain. -/
import Derived.Test.YtgkgloafjhiakaaDoorSp
import Derived.Test.YtgkgloafjhiakaaDoorTw
namespace Go.Proofs.YtgkgloafjhiakaaDoor
open Go.RowKit Go.Sort

/-- A word cut short. -/
def cutL (l : List UInt8) : List UInt8 := l.take 61
/-- The reference's word for a length and a word: the same, if it is short. -/
structure WR (l : Nat) (w wd : List UInt8) : Prop where
  eq : l ≤ 60 → wd = w
  len : wd.length ≤ 61
  word : wordL wd
theorem WR.nil : WR 0 [] [] := ⟨fun _ => rfl, by decide, fun c hc => absurd hc (by simp)⟩
theorem wordL_cut {l : List UInt8} (h : wordL l) : wordL (cutL l) := fun c hc => h c (List.mem_of_mem_take hc)
theorem WR.add {l1 l2 : Nat} {w1 w2 d1 d2 : List UInt8} (h1 : WR l1 w1 d1) (h2 : WR l2 w2 d2) (e1 : w1.length = l1) (e2 : w2.length = l2) : WR (l1 + l2) (w1 ++ w2) (cutL (d1 ++ d2)) := by
  refine ⟨fun h => ?_, by unfold cutL; rw [List.length_take]; omega, wordL_cut (wordL_append h1.word h2.word)⟩
  rw [h1.eq (by omega), h2.eq (by omega)]
  unfold cutL
  rw [List.take_of_length_le (by rw [List.length_append]; omega)]
theorem signW_length' (c : UInt8) (w : List UInt8) : (signW c w).length = w.length := signW_length c w
theorem WR.sign {l : Nat} {w wd : List UInt8} (h : WR l w wd) (c : UInt8) : WR l (signW c w) (signW c wd) :=
  ⟨fun hl => by rw [h.eq hl], by rw [signW_length]; exact h.len, wordL_signW c h.word⟩
theorem WR.one {c : UInt8} (h : isL c) : WR 1 [c] [c] := ⟨fun _ => rfl, by simp, fun d hd => by rw [List.mem_singleton.1 hd]; exact h⟩
/-- The word so many times, each time cut short. -/
def cutN (wd : List UInt8) : Nat → List UInt8
  | 0 => []
  | n + 1 => cutL (cutN wd n ++ wd)
theorem WR.times {l : Nat} {w wd : List UInt8} (h : WR l w wd) (e : w.length = l) : ∀ n, WR (n * l) (rep n w) (cutN wd n)
  | 0 => by rw [Nat.zero_mul]; exact WR.nil
  | n + 1 => by
    rw [Nat.succ_mul, rep_succ']
    exact (WR.times h e n).add h (by rw [rep_length, e]) e
/-- What stands in parentheses. -/
abbrev innI (F d : Nat) : List UInt8 → Option PR := fun t => if d < 8 then pItems F (d + 1) t else none
theorem pItems_step {F d : Nat} {x : UInt8} {u : List UInt8} (hx : ¬ x = 41) (hF : (x :: u).length < F) : pItems F d (x :: u) = match pOne (innI F d) (x :: u) with
    | none => none
    | some r => thenI r.2.1 r.2.2 (pItems F d r.1) := by
  obtain ⟨g, rfl⟩ : ∃ g, F = g + 1 := ⟨F - 1, by simp only [List.length_cons] at hF; omega⟩
  simp only [List.length_cons] at hF
  rw [pItems_one hx]
  have e : pOne (fun t => if d < 8 then pItems g (d + 1) t else none) (x :: u) = pOne (innI (g + 1) d) (x :: u) := by
    refine pOne_congr fun t ht => ?_
    simp only [List.length_cons] at ht
    unfold innI
    split
    · exact pItems_fuel g (g + 1) (d + 1) t (by omega) (by omega)
    · rfl
  rw [e]
  cases h : pOne (innI (g + 1) d) (x :: u) with
  | none => rfl
  | some r =>
    have hl := pOne_len (inner_len (g + 1) d) h
    simp only [List.length_cons] at hl
    dsimp only
    rw [pItems_fuel g (g + 1) d r.1 (by omega) (by omega)]
theorem one_bound {F d : Nat} (hd8 : d ≤ 8) {s : List UInt8} {r : PR} (h : pOne (innI F d) s = some r) : r.2.1 + r.1.length * 9 ^ (8 - d) ≤ s.length * 9 ^ (8 - d) := by
  rcases Nat.lt_or_ge d 8 with hd | hd
  · refine pOne_bound (N := 9 ^ (8 - (d + 1))) (Nat.pow_pos (by omega)) (fun t r ht => ?_) (.inl ?_) h
    · unfold innI at ht
      rw [if_pos hd] at ht
      exact pItems_bound F (d + 1) t r ht (by omega)
    · rw [show 8 - d = 8 - (d + 1) + 1 by omega, Nat.pow_succ, Nat.mul_comm]
      exact Nat.le_refl _
  · refine pOne_bound (N := 1) (by omega) (fun t r ht => ?_) (.inr ⟨?_, fun t => ?_⟩) h
    · unfold innI at ht
      rw [if_neg (by omega)] at ht; cases ht
    · rw [show 8 - d = 0 by omega]
    · exact if_neg (by omega)
theorem one_good {F d : Nat} {s : List UInt8} {r : PR} (h : pOne (innI F d) s = some r) : Good r :=
  pOne_good (fun t r h => by
    unfold innI at h
    split at h
    · exact (pItems_good F (d + 1) _ _ h).1
    · cases h) h
theorem pow_le8 {d : Nat} : 9 ^ (8 - d) ≤ 43046721 := by
  have : 9 ^ (8 - d) ≤ 9 ^ 8 := Nat.pow_le_pow_right (by omega) (by omega)
  exact this
theorem bound_big {l r d n : Nat} (h : l + r * 9 ^ (8 - d) ≤ n * 9 ^ (8 - d)) (hn : n ≤ 4000) : l ≤ 172186884000 := by
  have h1 : n * 9 ^ (8 - d) ≤ 4000 * 43046721 := Nat.mul_le_mul hn pow_le8
  omega
theorem one_letter {inner : List UInt8 → Option PR} {c : UInt8} (u : List UInt8) (hc : isL c) : pOne inner (c :: u) = some (u, 1, [c]) := by
  have hs : isSign c = false := by rcases hc with rfl | rfl | rfl | rfl <;> decide
  rw [pOne_letter (S := []) (t := u) (by rw [List.takeWhile_cons, hs]; rfl) (by rw [List.dropWhile_cons, hs]; rfl) hc]
  rfl
theorem one_no {inner : List UInt8 → Option PR} {c : UInt8} (u : List UInt8) (hs : isSign c = false) (hc : ¬ isL c) (h : c = 40 → ∀ v l w, inner u ≠ some (41 :: v, l, w)) : pOne inner (c :: u) = none :=
  pOne_none (cc := c) (t := u) (by rw [List.dropWhile_cons, hs]; rfl) hc h
theorem one_paren {inner : List UInt8 → Option PR} {u v w : List UInt8} {l : Nat} (h : inner u = some (41 :: v, l, w)) : pOne inner (40 :: u) = some (pTail v l w) := by
  rw [pOne_paren (S := []) (t := u) (by rw [List.takeWhile_cons, show isSign 40 = false by decide]; rfl) (by rw [List.dropWhile_cons, show isSign 40 = false by decide]; rfl) h]
  rfl
theorem one_end {inner : List UInt8 → Option PR} : pOne inner [] = none := rfl
theorem one_close {inner : List UInt8 → Option PR} (u : List UInt8) : pOne inner (41 :: u) = none := one_no u (by decide) (by unfold isL; decide) (fun h => absurd h (by decide))
theorem one_sign_none {inner : List UInt8 → Option PR} {c : UInt8} {u : List UInt8} (hc : isSign c = true) (h : u = [] ∨ ∃ v, u = 41 :: v) : pOne inner (c :: u) = none := by
  rw [pOne_more hc]
  rcases h with rfl | ⟨v, rfl⟩
  · rfl
  · rw [one_close]; rfl
theorem drop_cons {s : List UInt8} {a : Nat} (h : a < s.length) : s.drop a = s[a] :: s.drop (a + 1) := List.drop_eq_getElem_cons h
theorem drop_of {s rest : List UInt8} {a : Nat} (h : ∃ b, a ≤ b ∧ b ≤ s.length ∧ rest = s.drop b) : rest = s.drop (s.length - rest.length) := by
  obtain ⟨b, _, hb, rfl⟩ := h
  rw [List.length_drop]
  congr 1
  omega
theorem pTail_drop {s : List UInt8} {b l : Nat} {w : List UInt8} (hb : b ≤ s.length) : ∃ b', b ≤ b' ∧ b' ≤ s.length ∧ (pTail (s.drop b) l w).1 = s.drop b' := by
  rcases Nat.lt_or_ge b s.length with h | h
  · rw [drop_cons h]
    by_cases hd : isDig s[b] = true
    · rw [pTail_dig hd]; exact ⟨b + 1, by omega, by omega, rfl⟩
    · rw [pTail_no (fun e v h => by rw [← (List.cons.inj h).1]; simpa using hd)]
      exact ⟨b, Nat.le_refl _, hb, (drop_cons h).symm⟩
  · have : s.drop b = [] := List.drop_of_length_le h
    rw [this]
    exact ⟨b, Nat.le_refl _, hb, this.symm⟩
end Go.Proofs.YtgkgloafjhiakaaDoor
