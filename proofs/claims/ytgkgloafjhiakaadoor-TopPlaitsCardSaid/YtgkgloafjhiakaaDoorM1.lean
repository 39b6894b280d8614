/- Walks: the matrix of a word; the reference's side. -/
import Derived.Test.YtgkgloafjhiakaaDoorE1
import Derived.Test.YtgkgloafjhiakaaDoorHt
namespace Go.Proofs.YtgkgloafjhiakaaDoor
open Go.RowKit Go.Sort

/-- Bounds of a matrix. -/
def MBd (m : Mat) (b : Int) : Prop := (-b ≤ m.1 ∧ m.1 ≤ b) ∧ (-b ≤ m.2.1 ∧ m.2.1 ≤ b) ∧ (-b ≤ m.2.2.1 ∧ m.2.2.1 ≤ b) ∧ (-b ≤ m.2.2.2 ∧ m.2.2.2 ≤ b)
theorem mul_a (m : Mat) : mulM m (ltM 97) = (m.1, m.1 + m.2.1, m.2.2.1, m.2.2.1 + m.2.2.2) := by simp [mulM, ltM]
theorem mul_A (m : Mat) : mulM m (ltM 65) = (m.1, m.2.1 - m.1, m.2.2.1, m.2.2.2 - m.2.2.1) := by
  simp [mulM, ltM]; omega
theorem mul_b (m : Mat) : mulM m (ltM 98) = (m.1 - m.2.1, m.2.1, m.2.2.1 - m.2.2.2, m.2.2.2) := by
  simp [mulM, ltM]; omega
theorem mul_B (m : Mat) : mulM m (ltM 66) = (m.1 + m.2.1, m.2.1, m.2.2.1 + m.2.2.2, m.2.2.2) := by simp [mulM, ltM]
theorem matL_take {l : List UInt8} {k : Nat} (h : k < l.length) : matL (l.take (k + 1)) = mulM (matL (l.take k)) (ltM l[k]) := by
  rw [List.take_succ_eq_append_getElem h, matL_snoc]
theorem MBd.mul {m : Mat} {b : Int} (h : MBd m b) {c : UInt8} (hc : isL c) : MBd (mulM m (ltM c)) (2 * b) := by
  obtain ⟨⟨a1, a2⟩, ⟨b1, b2⟩, ⟨c1, c2⟩, d1, d2⟩ := h
  rcases hc with rfl | rfl | rfl | rfl
  · rw [mul_a]; exact ⟨⟨by dsimp only; omega, by dsimp only; omega⟩, ⟨by dsimp only; omega, by dsimp only; omega⟩, ⟨by dsimp only; omega, by dsimp only; omega⟩, by dsimp only; omega, by dsimp only; omega⟩
  · rw [mul_A]; exact ⟨⟨by dsimp only; omega, by dsimp only; omega⟩, ⟨by dsimp only; omega, by dsimp only; omega⟩, ⟨by dsimp only; omega, by dsimp only; omega⟩, by dsimp only; omega, by dsimp only; omega⟩
  · rw [mul_b]; exact ⟨⟨by dsimp only; omega, by dsimp only; omega⟩, ⟨by dsimp only; omega, by dsimp only; omega⟩, ⟨by dsimp only; omega, by dsimp only; omega⟩, by dsimp only; omega, by dsimp only; omega⟩
  · rw [mul_B]; exact ⟨⟨by dsimp only; omega, by dsimp only; omega⟩, ⟨by dsimp only; omega, by dsimp only; omega⟩, ⟨by dsimp only; omega, by dsimp only; omega⟩, by dsimp only; omega, by dsimp only; omega⟩
theorem MBd.mono {m : Mat} {a b : Int} (h : MBd m a) (hab : a ≤ b) : MBd m b := by
  obtain ⟨⟨a1, a2⟩, ⟨b1, b2⟩, ⟨c1, c2⟩, d1, d2⟩ := h
  exact ⟨⟨by omega, by omega⟩, ⟨by omega, by omega⟩, ⟨by omega, by omega⟩, by omega, by omega⟩
theorem matL_bound : ∀ {l : List UInt8}, wordL l → MBd (matL l) (2 ^ l.length) := fun {l} => by
  refine snocL (P := fun l => wordL l → MBd (matL l) (2 ^ l.length)) (fun _ => ?_) (fun l c ih h => ?_) l
  · exact ⟨⟨by decide, by decide⟩, ⟨by decide, by decide⟩, ⟨by decide, by decide⟩, by decide, by decide⟩
  · rw [matL_snoc, List.length_append]
    have h1 := (ih fun d hd => h d (by simp [hd])).mul (h c (by simp))
    rw [show 2 ^ (l.length + [c].length) = 2 * (2 : Int) ^ l.length by rw [List.length_singleton, Int.pow_succ, Int.mul_comm]]
    exact h1
theorem pow60 {n : Nat} (h : n ≤ 60) : (2 : Int) ^ n ≤ 1152921504606846976 := by
  have h1 : (2 : Nat) ^ n ≤ 2 ^ 60 := Nat.pow_le_pow_right (by omega) h
  have h2 : ((2 ^ n : Nat) : Int) ≤ ((2 ^ 60 : Nat) : Int) := by exact_mod_cast h1
  rw [Int.natCast_pow] at h2
  exact h2
theorem matL_b60 {l : List UInt8} (h : wordL l) (hl : l.length ≤ 60) : MBd (matL l) 1152921504606846976 := (matL_bound h).mono (pow60 hl)
end Go.Proofs.YtgkgloafjhiakaaDoor
