/- Walks: Index and Turning, on both sides. -/
import Derived.Test.YtfaleddacmbidaaDoorW9
namespace Go.Proofs.YtfaleddacmbidaaDoor
open Go.RowKit Go.Sort

theorem Index_any (v : FV) (x y : Int) (w : World) (hv : v.In w) :
    Calls Tryd.prog 11 #[v.val, .int .i64 x, .int .i64 y] w fun r w' => r = .returned (.tuple #[.int .i64 (indexR v.f x y).1, .int .i64 (indexR v.f x y).2]) ∧ Below w.heap.size w w' := by
  have HVv := Lib.hid hv
  clear hv
  go_enter Tryd.func11, Tryd.ntmps11
  dsimp only [FV.val, eval_]
  go_wp2_with fail
  refine (validate_any v _ (HVv.out.below (belowA _ _))).mono ?_
  rintro r w1 ⟨rfl, hb1⟩
  have b0 := (Box.new _ _ _).below hb1
  have hw1 := Lib.hid (below1 _ hb1)
  clear hb1
  by_cases hz : valid v.f = 0
  · have ok := Lib.hid (okf_of_valid hz)
    have hz' : (valid v.f != 0) = false := by simpa using hz
    have HZ := Lib.hid hz
    clear hz
    have c0 := b0.at
    go_wp2_with fail
    clear c0 
    refine (hasSquare_any v x y _ ok.out.w1 (by have := ok.out.w2; omega) ok.out.h1 (by have := ok.out.h2; omega)).mono ?_
    rintro r w2 ⟨rfl, hb2⟩
    have b2 := b0.below hb2
    have hw2 := Lib.hid (below_trans' hw1.out hb2)
    clear hb2 b0 
    cases hs : isS v.f.W v.f.H x y
    · have HR := Lib.hid (show indexR v.f x y = (0, 5) by unfold indexR; simp [HZ.out, hs])
      go_wp2_with fail
      go_ret2
      exact ⟨by rw [HR.out]; rfl, hw2.out⟩
    · have HS := Lib.hid hs
      clear hs
      have c0 := b2.at
      go_wp2_with fail
      clear c0 
      refine (index_any v x y _ (HVv.out.below hw2.out) ok.out HS.out).mono ?_
      rintro r w3 ⟨rfl, hb3⟩
      have HB3 := Lib.hid hb3
      clear hb3
      have HR := Lib.hid (show indexR v.f x y = ((v.f.rnd x y).tdiv 4, 0) by unfold indexR; simp [HZ.out, HS.out])
      go_wp2_with fail
      go_ret2
      exact ⟨by rw [HR.out]; rfl, below_trans' hw2.out HB3.out⟩
  · have hz' : (valid v.f != 0) = true := by simpa using hz
    have HR := Lib.hid (show indexR v.f x y = (0, valid v.f) by unfold indexR; simp [hz])
    clear hz
    go_wp2_with fail
    go_ret2
    exact ⟨by rw [HR.out]; rfl, hw1.out⟩

theorem rnd_bd (f : Fld) (x y : Int) : -16 ≤ f.rnd x y ∧ f.rnd x y ≤ 16 := by
  have := psum_bd f x y 4
  simpa [psum] using this
end Go.Proofs.YtfaleddacmbidaaDoor
