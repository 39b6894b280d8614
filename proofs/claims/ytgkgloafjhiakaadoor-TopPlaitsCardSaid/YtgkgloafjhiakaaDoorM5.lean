/- Walks: products of matrices, a letter's matrix. -/
import Derived.Test.YtgkgloafjhiakaaDoorM4
import Derived.Test.YtgkgloafjhiakaaDoorWr
namespace Go.Proofs.YtgkgloafjhiakaaDoor
open Go.RowKit Go.Sort

set_option maxRecDepth 100000 in
set_option maxHeartbeats 4000000 in
theorem letter_any (c : UInt8) (hc : isL c) (w : World) : Calls Tryd.prog 41 #[.int .u8 (c.toNat : Int)] w fun r w' => r = .returned (mval (ltM c)) ∧ Below w.heap.size w w' := by
  rcases hc with rfl | rfl | rfl | rfl
  · rw [show ((UInt8.toNat 97 : Nat) : Int) = 97 from rfl, show ltM 97 = (1, 1, 0, 1) by decide]
    have HR := Lib.hid (MatAt.new w (1, 1, 0, 1))
    have HB := Lib.hid (belowA w (.cells (mcs (1, 1, 0, 1)) 34))
    go_enter Tryd.func41, Tryd.ntmps41
    go_wp2_with fail
    have cF := HR.out.box.2
    simp only [mcs] at cF
    exact bodyPost_ret (v := mval (1, 1, 0, 1)) (by simp [results, Tryd.results41, go_sem, cF]) rfl ⟨rfl, HB.out⟩
  · rw [show ((UInt8.toNat 65 : Nat) : Int) = 65 from rfl, show ltM 65 = (1, -1, 0, 1) by decide]
    have HR := Lib.hid (MatAt.new w (1, -1, 0, 1))
    have HB := Lib.hid (belowA w (.cells (mcs (1, -1, 0, 1)) 34))
    go_enter Tryd.func41, Tryd.ntmps41
    go_wp2_with fail
    have cF := HR.out.box.2
    simp only [mcs] at cF
    exact bodyPost_ret (v := mval (1, -1, 0, 1)) (by simp [results, Tryd.results41, go_sem, cF]) rfl ⟨rfl, HB.out⟩
  · rw [show ((UInt8.toNat 98 : Nat) : Int) = 98 from rfl, show ltM 98 = (1, 0, -1, 1) by decide]
    have HR := Lib.hid (MatAt.new w (1, 0, -1, 1))
    have HB := Lib.hid (belowA w (.cells (mcs (1, 0, -1, 1)) 34))
    go_enter Tryd.func41, Tryd.ntmps41
    go_wp2_with fail
    have cF := HR.out.box.2
    simp only [mcs] at cF
    exact bodyPost_ret (v := mval (1, 0, -1, 1)) (by simp [results, Tryd.results41, go_sem, cF]) rfl ⟨rfl, HB.out⟩
  · rw [show ((UInt8.toNat 66 : Nat) : Int) = 66 from rfl, show ltM 66 = (1, 0, 1, 1) by decide]
    have HR := Lib.hid (MatAt.new w (1, 0, 1, 1))
    have HB := Lib.hid (belowA w (.cells (mcs (1, 0, 1, 1)) 34))
    go_enter Tryd.func41, Tryd.ntmps41
    go_wp2_with fail
    have cF := HR.out.box.2
    simp only [mcs] at cF
    exact bodyPost_ret (v := mval (1, 0, 1, 1)) (by simp [results, Tryd.results41, go_sem, cF]) rfl ⟨rfl, HB.out⟩
set_option maxRecDepth 100000 in
set_option maxHeartbeats 4000000 in
theorem times_any (a b : Mat) (w : World) : Calls Tryd.prog 40 #[mval a, mval b] w fun r w' => r = .returned (mval (wrM (mulM a b))) ∧ Below w.heap.size w w' := by
  obtain ⟨a1, a2, a3, a4⟩ := a
  obtain ⟨b1, b2, b3, b4⟩ := b
  have e : ∀ x y z t : Int, RowKit.wrap64 (RowKit.wrap64 (x * y) + RowKit.wrap64 (z * t)) = RowKit.wrap64 (x * y + z * t) := fun x y z t => by
    rw [w64_add_l, w64_add_r]
  have e1 := e a1 b1 a2 b3
  have e2 := e a1 b2 a2 b4
  have e3 := e a3 b1 a4 b3
  have e4 := e a3 b2 a4 b4
  have E := Lib.hid (And.intro e1 (And.intro e2 (And.intro e3 e4)))
  clear e1 e2 e3 e4 e
  dsimp only [mval]
  go_enter Tryd.func40, Tryd.ntmps40
  go_wp2_with fail
  obtain ⟨e1, e2, e3, e4⟩ := E.out
  rw [e1, e2, e3, e4]
  generalize hx1 : RowKit.wrap64 (a1 * b1 + a2 * b3) = x1
  generalize hx2 : RowKit.wrap64 (a1 * b2 + a2 * b4) = x2
  generalize hx3 : RowKit.wrap64 (a3 * b1 + a4 * b3) = x3
  generalize hx4 : RowKit.wrap64 (a3 * b2 + a4 * b4) = x4
  refine bodyPost_ret (v := mval (x1, x2, x3, x4)) (by simp [results, Tryd.results40, go_sem]) rfl ⟨?_, ?_⟩
  · rw [← hx1, ← hx2, ← hx3, ← hx4]; rfl
  · exact (belowAA w _ _).trans ((belowA _ _).mono (belowAA w _ _).size)
end Go.Proofs.YtgkgloafjhiakaaDoor
