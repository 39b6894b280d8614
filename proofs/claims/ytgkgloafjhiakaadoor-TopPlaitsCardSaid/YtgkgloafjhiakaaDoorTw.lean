/- Half twists, inverses and powers, as matrices: plain. -/
import Derived.Test.YtgkgloafjhiakaaDoorSp
import Derived.Test.YtgkgloafjhiakaaDoorWd
namespace Go.Proofs.YtgkgloafjhiakaaDoor
open Go.RowKit Go.Sort

theorem rep_zero (w : List UInt8) : rep 0 w = [] := rfl
theorem rep_succ (n : Nat) (w : List UInt8) : rep (n + 1) w = w ++ rep n w := by simp [rep, List.replicate_succ]
theorem rep_succ' (n : Nat) (w : List UInt8) : rep (n + 1) w = rep n w ++ w := by simp [rep, List.replicate_succ']
theorem matL_inL {w : List UInt8} (h : wordL w) : mulM (matL w) (matL (inL w)) = oneM := by
  induction w with
  | nil => rfl
  | cons c l ih =>
    have hc := h c (by simp)
    have e : inL (c :: l) = inL l ++ [c ^^^ 32] := by simp [inL, miL]
    rw [e, matL_cons, matL_snoc, mulM_assoc, ← mulM_assoc (matL l), ih fun d hd => h d (by simp [hd]), oneM_mul, ltM_opp2 hc]
theorem cntL_inL {w : List UInt8} (h : wordL w) : cntL w + cntL (inL w) = 0 := by
  induction w with
  | nil => rfl
  | cons c l ih =>
    have hc := sgL_opp (h c (by simp))
    have e : inL (c :: l) = inL l ++ [c ^^^ 32] := by simp [inL, miL]
    have h2 := ih fun d hd => h d (by simp [hd])
    have e2 : cntL (c :: l) = sgL c + cntL l := rfl
    rw [e, cntL_append, cntL_one, e2]
    omega
/-- The word is the same plait as nothing. -/
def Nil (w : List UInt8) : Prop := matL w = oneM ∧ cntL w = 0
theorem nil_inv {w : List UInt8} (h : wordL w) : Nil (w ++ inL w) := ⟨by rw [matL_append, matL_inL h], by rw [cntL_append, cntL_inL h]⟩
theorem nil_rep {w : List UInt8} (h : wordL w) (n : Nat) : Nil (rep n w ++ rep n (inL w)) := by
  induction n with
  | zero => exact ⟨rfl, rfl⟩
  | succ n ih =>
    obtain ⟨h1, h2⟩ := ih
    rw [matL_append] at h1
    rw [cntL_append] at h2
    refine ⟨?_, ?_⟩
    · rw [rep_succ, rep_succ', matL_append, matL_append, matL_append, mulM_assoc, ← mulM_assoc (matL (rep n w)), h1, oneM_mul, matL_inL h]
    · have := cntL_inL h
      rw [rep_succ, rep_succ', cntL_append, cntL_append, cntL_append]
      omega
/-- So many half twists. -/
abbrev twW (n : Nat) : List UInt8 := rep n [97, 98, 97]
theorem twW_word (n : Nat) : wordL (twW n) := wordL_rep n (by decide)
theorem matL_twW (n : Nat) : matL (twW n) = twM n := by
  induction n with
  | zero => rfl
  | succ n ih =>
    rw [show twW (n + 1) = twW n ++ [97, 98, 97] from rep_succ' _ _, matL_append, ih, matL_aba]
    exact (twM_succ n).symm
theorem cntL_twW (n : Nat) : cntL (twW n) = 3 * n := by
  induction n with
  | zero => rfl
  | succ n ih =>
    rw [show twW (n + 1) = twW n ++ [97, 98, 97] from rep_succ' _ _, cntL_append, ih, show cntL [97, 98, 97] = 3 by decide]
    omega
theorem nf_twW (n : Nat) : Nf (twW n) n [] := by
  refine ⟨⟨fun c hc => absurd hc (by simp), ?_, ?_, by simp, ?_⟩, fun x y => ⟨fun h => by simp at h, fun h => by simp at h⟩⟩
  · rw [matL_twW]; exact (mul_oneM _).symm
  · rw [cntL_twW]; simp
  · omega
theorem isL_opp_sg {c : UInt8} (h : isL c) : sgL (c ^^^ 3) = sgL c := isL_cases (P := fun c => sgL (c ^^^ 3) = sgL c) (by decide) (by decide) (by decide) (by decide) h
theorem cntL_flL {w : List UInt8} (h : wordL w) : cntL (flL w) = cntL w := by
  induction w with
  | nil => rfl
  | cons c l ih =>
    have e : cntL (c :: l) = sgL c + cntL l := rfl
    have e2 : cntL (flL (c :: l)) = sgL (c ^^^ 3) + cntL (flL l) := rfl
    rw [e, e2, isL_opp_sg (h c (by simp)), ih fun d hd => h d (by simp [hd])]
/-- Flipped as often as there are half twists. -/
def flN (n : Nat) (w : List UInt8) : List UInt8 := if n % 2 = 1 then flL w else w
theorem flN_succ (n : Nat) (w : List UInt8) : flN (n + 1) w = flL (flN n w) := by
  unfold flN
  by_cases h : n % 2 = 1
  · rw [if_neg (by omega), if_pos h, flL_flL]
  · rw [if_pos (by omega), if_neg h]
theorem wordL_flN (n : Nat) {w : List UInt8} (h : wordL w) : wordL (flN n w) := by
  unfold flN
  split
  · exact wordL_fl h
  · exact h
theorem twist_pass {w : List UInt8} (h : wordL w) (n : Nat) : matL (twW n ++ w) = matL (flN n w ++ twW n) := by
  induction n with
  | zero => simp [twW, rep_zero, flN]
  | succ n ih =>
    rw [show twW (n + 1) = [97, 98, 97] ++ twW n from rep_succ _ _, List.append_assoc, matL_append, ih, flN_succ, matL_aba, matL_append, ← mulM_assoc, dM_matL (wordL_flN n h), matL_append, matL_append, matL_aba, mulM_assoc]
theorem twist_cnt {w : List UInt8} (h : wordL w) (n : Nat) : cntL (twW n ++ w) = cntL (flN n w ++ twW n) := by
  rw [cntL_append, cntL_append]
  have : cntL (flN n w) = cntL w := by
    unfold flN
    split
    · exact cntL_flL h
    · rfl
  rw [this, Int.add_comm]
end Go.Proofs.YtgkgloafjhiakaaDoor
