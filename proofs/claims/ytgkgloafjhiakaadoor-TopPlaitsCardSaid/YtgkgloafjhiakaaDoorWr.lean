/- Numbers that wrap: sums and products, and matrices of them. -/
import Derived.Test.YtgkgloafjhiakaaDoorTw
import Derived.Test.YtgkgloafjhiakaaDoorM1
namespace Go.Proofs.YtgkgloafjhiakaaDoor
open Go.RowKit Go.Sort

theorem w64_more (x z : Int) : RowKit.wrap64 (x + 18446744073709551616 * z) = RowKit.wrap64 x := by
  unfold RowKit.wrap64; omega
theorem w64_q (x : Int) : ∃ z, x = RowKit.wrap64 x + 18446744073709551616 * z := ⟨(x + 9223372036854775808) / 18446744073709551616, by unfold RowKit.wrap64; omega⟩
theorem w64_add_l (a b : Int) : RowKit.wrap64 (RowKit.wrap64 a + b) = RowKit.wrap64 (a + b) := by
  obtain ⟨z, hz⟩ := w64_q a
  rw [show a + b = (RowKit.wrap64 a + b) + 18446744073709551616 * z by omega, w64_more]
theorem w64_add_r (a b : Int) : RowKit.wrap64 (a + RowKit.wrap64 b) = RowKit.wrap64 (a + b) := by rw [Int.add_comm, w64_add_l, Int.add_comm]
theorem w64_sub_l (a b : Int) : RowKit.wrap64 (RowKit.wrap64 a - b) = RowKit.wrap64 (a - b) := by
  obtain ⟨z, hz⟩ := w64_q a
  rw [show a - b = (RowKit.wrap64 a - b) + 18446744073709551616 * z by omega, w64_more]
theorem w64_sub_r (a b : Int) : RowKit.wrap64 (a - RowKit.wrap64 b) = RowKit.wrap64 (a - b) := by
  obtain ⟨z, hz⟩ := w64_q b
  rw [show a - b = (a - RowKit.wrap64 b) + 18446744073709551616 * (-z) by omega, w64_more]
theorem w64_mul_l (a b : Int) : RowKit.wrap64 (RowKit.wrap64 a * b) = RowKit.wrap64 (a * b) := by
  obtain ⟨z, hz⟩ := w64_q a
  have : a * b = RowKit.wrap64 a * b + 18446744073709551616 * (z * b) := by
    conv => lhs; rw [hz]
    rw [Int.add_mul, Int.mul_assoc]
  rw [this, w64_more]
theorem w64_mul_r (a b : Int) : RowKit.wrap64 (a * RowKit.wrap64 b) = RowKit.wrap64 (a * b) := by rw [Int.mul_comm, w64_mul_l, Int.mul_comm]
theorem w64_id {x : Int} (h : -9223372036854775808 ≤ x ∧ x ≤ 9223372036854775807) : RowKit.wrap64 x = x := by unfold RowKit.wrap64; omega
/-- A matrix of wrapped numbers. -/
def wrM (m : Mat) : Mat := (RowKit.wrap64 m.1, RowKit.wrap64 m.2.1, RowKit.wrap64 m.2.2.1, RowKit.wrap64 m.2.2.2)
theorem wr_cell (a b c d : Int) : RowKit.wrap64 (RowKit.wrap64 (RowKit.wrap64 a * RowKit.wrap64 b) + RowKit.wrap64 (RowKit.wrap64 c * RowKit.wrap64 d)) = RowKit.wrap64 (a * b + c * d) := by
  rw [w64_add_l, w64_add_r, ← w64_add_l, w64_mul_l, w64_mul_r, w64_add_l, ← w64_add_r, w64_mul_l, w64_mul_r, w64_add_r]
theorem wrM_id {m : Mat} (h : MBd m 9223372036854775807) : wrM m = m := by
  obtain ⟨h1, h2, h3, h4⟩ := h
  obtain ⟨a, b, c, d⟩ := m
  exact Prod.ext (w64_id ⟨by omega, by omega⟩) (Prod.ext (w64_id ⟨by omega, by omega⟩) (Prod.ext (w64_id ⟨by omega, by omega⟩) (w64_id ⟨by omega, by omega⟩)))
/-- The determinant of a word's matrix. -/
theorem det_ltM {c : UInt8} (h : isL c) (m : Mat) : (mulM m (ltM c)).1 * (mulM m (ltM c)).2.2.2 - (mulM m (ltM c)).2.1 * (mulM m (ltM c)).2.2.1 = m.1 * m.2.2.2 - m.2.1 * m.2.2.1 := by
  obtain ⟨a, b, c', d⟩ := m
  rcases h with rfl | rfl | rfl | rfl
  · rw [mul_a]; dsimp only; rw [Int.mul_add, Int.add_mul]; omega
  · rw [mul_A]; dsimp only; rw [Int.mul_sub, Int.sub_mul]; omega
  · rw [mul_b]; dsimp only; rw [Int.mul_sub, Int.sub_mul]; omega
  · rw [mul_B]; dsimp only; rw [Int.mul_add, Int.add_mul]; omega
theorem det_matL {l : List UInt8} : wordL l → (matL l).1 * (matL l).2.2.2 - (matL l).2.1 * (matL l).2.2.1 = 1 := by
  refine snocL (P := fun l => wordL l → (matL l).1 * (matL l).2.2.2 - (matL l).2.1 * (matL l).2.2.1 = 1) (fun _ => by decide) (fun l c ih h => ?_) l
  rw [matL_snoc, det_ltM (h c (by simp))]
  exact ih fun d hd => h d (by simp [hd])
end Go.Proofs.YtgkgloafjhiakaaDoor
