/- Walks: Same of the reference. -/
import Derived.Test.YtgkgloafjhiakaaDoorS1
import Derived.Test.YtgkgloafjhiakaaDoorM2
import Derived.Test.YtgkgloafjhiakaaDoorC1
namespace Go.Proofs.YtgkgloafjhiakaaDoor
open Go.RowKit Go.Sort

set_option maxRecDepth 100000 in
set_option maxHeartbeats 4000000 in
theorem refSame_any (u v : ByteArray) (w : World) (hu : u.size ≤ 1000000) (hv : v.size ≤ 1000000) : Calls Tryd.prog 44 #[.string u, .string v] w fun r w' => r = .returned (.tuple #[.bool (sameR u v).1, .int .i64 (sameR u v).2]) ∧ Below w.heap.size w w' := by
  go_enter Tryd.func44, Tryd.ntmps44
  go_wp2_with fail
  with_reducible refine (refValid_any u _ hu).mono ?_
  rintro _ w2 ⟨rfl, rfl⟩
  by_cases h1 : okW u = true
  · have HU := Lib.hid h1
    rw [h1]
    clear h1
    go_wp2_with fail
    with_reducible refine (refValid_any v _ hv).mono ?_
    rintro _ w3 ⟨rfl, rfl⟩
    by_cases h2 : okW v = true
    · have HV := Lib.hid h2
      have HJ := Lib.hid (sameR_ok HU.out h2)
      rw [h2]
      clear h2
      have o1 := okW_iff.1 HU.out
      have o2 := okW_iff.1 HV.out
      go_wp2_with fail
      with_reducible refine (refMatrix_any u _ o1.1 o1.2).mono ?_
      rintro _ w4 ⟨rfl, hb4⟩
      have HB4 := Lib.hid hb4
      clear hb4
      go_wp2_with fail
      with_reducible refine (refMatrix_any v _ o2.1 o2.2).mono ?_
      rintro _ w5 ⟨rfl, hb5⟩
      have HB5 := Lib.hid (below_trans' HB4.out hb5)
      clear hb5
      have EQ := fun w => eql34 (matL (liB u)) (matL (liB v)) w
      by_cases hm : matL (liB u) = matL (liB v)
      · have HM := Lib.hid hm
        rw [decide_eq_true hm] at EQ
        clear hm
        go_wp2_with fail
        with_reducible refine (count_any u _ o1.1 o1.2).mono ?_
        rintro _ w6 ⟨rfl, rfl⟩
        go_wp2_with fail
        with_reducible refine (count_any v _ o2.1 o2.2).mono ?_
        rintro _ w7 ⟨rfl, rfl⟩
        have HSP : Hid (sameP u v = (cntL (liB u) == cntL (liB v))) := Lib.hid (by
          unfold sameP
          rw [Bool.eq_iff_iff, decide_eq_true_eq, beq_iff_eq]
          exact ⟨fun h => h.2, fun h => ⟨HM.out, h⟩⟩)
        clear EQ
        go_wp2_with fail
        go_ret2
        exact ⟨by rw [HJ.out, HSP.out]; rfl, HB5.out⟩
      · have HSP : Hid (sameP u v = false) := Lib.hid (by unfold sameP; rw [decide_eq_false_iff_not]; exact fun h => hm h.1)
        rw [decide_eq_false hm] at EQ
        clear hm
        go_wp2_with fail
        go_ret2
        exact ⟨by rw [HJ.out, HSP.out]; rfl, HB5.out⟩
    · have h2' : okW v = false := by simpa using h2
      have HJ := Lib.hid (sameR_no2 (u := u) h2')
      rw [h2']
      clear h2 h2'
      go_wp2_with fail
      go_ret2
      exact ⟨by rw [HJ.out]; rfl, Below.refl _ _⟩
  · have h1' : okW u = false := by simpa using h1
    have HJ := Lib.hid (sameR_no1 (v := v) h1')
    rw [h1']
    clear h1 h1'
    go_wp2_with fail
    go_ret2
    exact ⟨by rw [HJ.out]; rfl, Below.refl _ _⟩
end Go.Proofs.YtgkgloafjhiakaaDoor
