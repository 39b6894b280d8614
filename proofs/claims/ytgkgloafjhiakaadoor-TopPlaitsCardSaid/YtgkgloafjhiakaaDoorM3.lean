/- Walks: Matrix; both sides. -/
import Derived.Test.YtgkgloafjhiakaaDoorM2
import Derived.Laws.ResultCell
namespace Go.Proofs.YtgkgloafjhiakaaDoor
open Go.RowKit Go.Sort

/-- What Matrix answers. -/
def matR (t : ByteArray) : Mat := if okW t then matL (liB t) else (0, 0, 0, 0)
theorem matR_ok {t : ByteArray} (h : okW t = true) : matR t = matL (liB t) := by simp [matR, h]
theorem matR_no {t : ByteArray} (h : okW t = false) : matR t = (0, 0, 0, 0) := by simp [matR, h]
set_option maxRecDepth 100000 in
set_option maxHeartbeats 4000000 in
theorem refMatrixE_any (t : ByteArray) (w : World) (ht : t.size ≤ 1000000) : Calls Tryd.prog 39 #[.string t] w fun r w' => r = .returned (.tuple #[mval (matR t), .int .i64 (ansE t)]) ∧ Below w.heap.size w w' := by
  have hm0 := MatAt.new w (0, 0, 0, 0)
  have hb0 := belowA w (.cells (mcs (0, 0, 0, 0)) 34)
  go_enter Tryd.func39, Tryd.ntmps39
  go_wp2_with fail
  generalize w.alloc (.cells (mcs (0, 0, 0, 0)) 34) = w1 at hm0 hb0 ⊢
  with_reducible refine (refValid_any t _ ht).mono ?_
  rintro _ w2 ⟨rfl, rfl⟩
  have HM := Lib.hid hm0
  have HB := Lib.hid hb0
  by_cases h : okW t = true
  · have hW := okW_iff.1 h
    have HC := Lib.hid (matR_ok h)
    have HE := Lib.hid (ansE_ok h)
    rw [h]
    clear h hm0 hb0
    go_wp2_with fail
    with_reducible refine (refMatrix_any t _ hW.1 hW.2).mono ?_
    rintro _ w3 ⟨rfl, hb3⟩
    have HM3 := Lib.hid (HM.out.below hb3)
    have HB3 := Lib.hid (HB.out.trans (hb3.mono HB.out.size))
    clear hb3
    obtain ⟨M, hM⟩ : ∃ M, matL (liB t) = M := ⟨_, rfl⟩
    have HMM := Lib.hid hM
    rw [hM]
    clear hM
    have y0 := HM3.out.box.2
    have f0 := HM3.out.fz
    simp only [mcs] at y0
    have HR := Lib.hid (HM3.out.set M)
    have HB4 := Lib.hid (below_set4 HB3.out (b := w.heap.size) (Nat.le_refl _) (.int .i64 M.1) (.int .i64 M.2.1) (.int .i64 M.2.2.1) (.int .i64 M.2.2.2))
    go_wp2_with fail
    have cF := HR.out.box.2
    simp only [mcs] at cF
    refine bodyPost_ret (v := .tuple #[mval M, .int .i64 0]) (by simp [results, Tryd.results39, go_sem, cF]) rfl ⟨by rw [HC.out, HE.out, HMM.out], HB4.out⟩
  · have h' : okW t = false := by simpa using h
    have HC := Lib.hid (matR_no h')
    have HE := Lib.hid (ansE_no h')
    rw [h']
    clear h h' hm0 hb0
    have y0 := HM.out.box.2
    have f0 := HM.out.fz
    simp only [mcs] at y0
    have HR := Lib.hid (HM.out.set (0, 0, 0, 0))
    have HB4 := Lib.hid (below_set4 HB.out (b := w.heap.size) (Nat.le_refl _) (.int .i64 0) (.int .i64 0) (.int .i64 0) (.int .i64 0))
    go_wp2_with fail
    have cF := HR.out.box.2
    simp only [mcs] at cF
    refine bodyPost_ret (v := .tuple #[mval (0, 0, 0, 0), .int .i64 1]) (by simp [results, Tryd.results39, go_sem, cF]) rfl ⟨by rw [HC.out, HE.out], HB4.out⟩
end Go.Proofs.YtgkgloafjhiakaaDoor
