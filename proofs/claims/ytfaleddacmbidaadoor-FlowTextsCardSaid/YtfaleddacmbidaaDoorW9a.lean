/- Walks: the sides of a square. -/
import Derived.Test.YtfaleddacmbidaaDoorW8
namespace Go.Proofs.YtfaleddacmbidaaDoor
open Go.RowKit Go.Sort
theorem ret_two {a b a' b' : Int} (h : a = a') (k : b = b') : Ending.returned (.tuple #[.int .i64 a, .int .i64 b]) = .returned (.tuple #[.int .i64 a', .int .i64 b']) := by rw [h, k]
abbrev sidesV (x y : Int) : Value := .agg #[.int .i64 x, .int .i64 y, .int .i64 0, .int .i64 1, .int .i64 (x + 1), .int .i64 y, .int .i64 1, .int .i64 1, .int .i64 x, .int .i64 (y + 1), .int .i64 0, .int .i64 (-1), .int .i64 x, .int .i64 y, .int .i64 1, .int .i64 (-1)]

theorem sides_any (x y : Int) (w : World) (x0 : 0 ≤ x) (x1 : x ≤ 24) (y0 : 0 ≤ y) (y1 : y ≤ 24) :
    Calls Tryd.prog 42 #[.int .i64 x, .int .i64 y] w fun r w' => r = .returned (sidesV x y) ∧ Below w.heap.size w w' := by
  go_enter Tryd.func42, Tryd.ntmps42
  go_wp2_with fail
  exact bodyPost_ret (v := sidesV x y) (by simp [results, Tryd.results42, go_sem]) rfl ⟨rfl, belowA _ _⟩

end Go.Proofs.YtfaleddacmbidaaDoor
