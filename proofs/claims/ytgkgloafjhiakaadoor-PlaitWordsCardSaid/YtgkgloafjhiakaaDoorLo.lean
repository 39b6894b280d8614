/- The law of words, walked. -/
import Derived.Test.YtgkgloafjhiakaaDoorR1
import Derived.Test.YtgkgloafjhiakaaDoorLu
import Derived.Test.YtgkgloafjhiakaaDoorS1
namespace Go.Proofs.YtgkgloafjhiakaaDoor
open Go.RowKit Go.Sort

theorem valid_on (t : ByteArray) (ht : t.size ≤ 1000000) (w0 : World) : ∀ w, Below w0.heap.size w0 w → Calls Tryd.prog 32 #[.string t] w fun r w' => r = .returned (.bool (okW t)) ∧ Below w.heap.size w w' := fun w _ => valid_any t w ht
theorem refValid_on (t : ByteArray) (ht : t.size ≤ 1000000) (w0 : World) : ∀ w, Below w0.heap.size w0 w → Calls Tryd.prog 33 #[.string t] w fun r w' => r = .returned (.bool (okW t)) ∧ Below w.heap.size w w' := fun w _ => (refValid_any t w ht).mono fun r w' ⟨h1, h2⟩ => ⟨h1, by rw [h2]; exact Below.refl _ _⟩
set_option maxRecDepth 100000 in
set_option maxHeartbeats 8000000 in
theorem words_any (t : ByteArray) (w : World) (hm : MX w) : Calls Tryd.prog 6 #[.string t] w fun r w' => r = .returned (.bool true) ∧ Below w.heap.size w w' := by
  have HM := Lib.hid hm
  have HP := Lib.hid hm.lt
  clear hm
  go_enter Tryd.func6, Tryd.ntmps6
  go_wp2_with fail
  with_reducible refine (long_any t _).mono ?_
  rintro _ w1 ⟨rfl, rfl⟩
  by_cases h1 : 200 < t.size
  · rw [decide_eq_true h1]
    clear h1
    go_wp2_with fail
    with_reducible refine (known_any _ HM.out).mono ?_
    rintro _ wk ⟨rfl, hbk⟩
    have HBK := Lib.hid (hbk)
    clear hbk
    go_wp2_with fail
    go_ret
    exact ⟨rfl, HBK.out⟩
  rw [decide_eq_false h1]
  have HT := Lib.hid (show t.size ≤ 1000000 by omega)
  clear h1
  go_wp2_with fail
  with_reducible refine (reduce_any t _ HT.out).mono ?_
  rintro _ w2 ⟨rfl, hb2⟩
  have HB2 := Lib.hid hb2
  clear hb2
  rcases Bool.eq_false_or_eq_true (okW t) with hok | hno
  · rw [ansW_ok hok]
    have HO := Lib.hid hok
    have hw := (okW_iff.1 hok).2
    have hrw := redL_word hw
    have hrl := redL_length hw
    rw [li_size] at hrl
    have hr60 : (redL (liB t)).length ≤ 60 := by have := (okW_iff.1 hok).1; omega
    have HR := Lib.hid (okW_of hrw hr60)
    have HL := Lib.hid (show (redL (liB t)).length ≤ 1000000 by omega)
    have HS : Hid (sameR t (mkB (redL (liB t))) = (true, 0)) := Lib.hid (by
      rw [sameR_ok hok HR.out]
      unfold sameP
      rw [decide_eq_true ⟨(redL_ok hw).mat.symm, (redL_ok hw).cnt.symm⟩])
    have HI := Lib.hid (redL_redL (liB t))
    clear hok hw hrw hrl hr60
    obtain ⟨R, hR⟩ : ∃ R, redL (liB t) = R := ⟨_, rfl⟩
    rw [hR] at HR HL HS HI ⊢
    have HRE := Lib.hid hR
    clear hR
    go_wp2_with fail
    with_reducible refine (refReduce_any t _ HT.out).mono ?_
    rintro _ w3 ⟨rfl, hb3⟩
    have HB3 := Lib.hid (below_trans' HB2.out hb3)
    clear hb3
    rw [ansW_ok HO.out, HRE.out]
    go_wp2_with fail
    with_reducible refine (reduce_any (mkB R) _ (by rw [size_mk]; exact HL.out)).mono ?_
    rintro _ w4 ⟨rfl, hb4⟩
    have HB4 := Lib.hid (below_trans' HB3.out hb4)
    clear hb4
    rw [ansW_ok HR.out, show redL (liB (mkB R)) = R from HI.out]
    go_wp2_with fail
    with_reducible refine (same_any t (mkB R) _ (HM.out.below HP.out HB4.out) HT.out (by rw [size_mk]; exact HL.out)).mono ?_
    rintro _ w5 ⟨rfl, hb5⟩
    have HB5 := Lib.hid (below_trans' HB4.out hb5)
    clear hb5
    rw [HS.out]
    go_wp2_with fail
    with_reducible refine (valid_any t _ HT.out).mono ?_
    rintro _ w6 ⟨rfl, hb6⟩
    have HB6 := Lib.hid (below_trans' HB5.out hb6)
    clear hb6
    rw [HO.out]
    go_wp2_with fail
    with_reducible refine (refValid_any t _ HT.out).mono ?_
    rintro _ w7 ⟨rfl, rfl⟩
    rw [HO.out]
    go_wp2_with fail
    with_reducible refine (known_any _ (HM.out.below HP.out HB6.out)).mono ?_
    rintro _ wk ⟨rfl, hbk⟩
    have HBK := Lib.hid (below_trans' HB6.out hbk)
    clear hbk
    go_wp2_with fail
    go_ret
    exact ⟨rfl, HBK.out⟩
  · rw [ansW_no hno]
    have HO := Lib.hid hno
    clear hno
    go_wp2_with fail
    with_reducible refine (refReduce_any t _ HT.out).mono ?_
    rintro _ w3 ⟨rfl, hb3⟩
    have HB3 := Lib.hid (below_trans' HB2.out hb3)
    clear hb3
    rw [ansW_no HO.out]
    go_wp2_with fail
    with_reducible refine (reduce_any (mkB []) _ (by decide)).mono ?_
    rintro _ w4 ⟨rfl, hb4⟩
    have HB4 := Lib.hid (below_trans' HB3.out hb4)
    clear hb4
    rw [ansW_ok (show okW (mkB []) = true by decide)]
    go_wp2_with fail
    with_reducible refine (same_any t (mkB []) _ (HM.out.below HP.out HB4.out) HT.out (by decide)).mono ?_
    rintro _ w5 ⟨rfl, hb5⟩
    have HB5 := Lib.hid (below_trans' HB4.out hb5)
    clear hb5
    rw [sameR_no1 HO.out]
    go_wp2_with fail
    with_reducible refine (valid_any t _ HT.out).mono ?_
    rintro _ w6 ⟨rfl, hb6⟩
    have HB6 := Lib.hid (below_trans' HB5.out hb6)
    clear hb6
    rw [HO.out]
    go_wp2_with fail
    with_reducible refine (refValid_any t _ HT.out).mono ?_
    rintro _ w7 ⟨rfl, rfl⟩
    rw [HO.out]
    go_wp2_with fail
    with_reducible refine (known_any _ (HM.out.below HP.out HB6.out)).mono ?_
    rintro _ wk ⟨rfl, hbk⟩
    have HBK := Lib.hid (below_trans' HB6.out hbk)
    clear hbk
    go_wp2_with fail
    go_ret
    exact ⟨rfl, HBK.out⟩
end Go.Proofs.YtgkgloafjhiakaaDoor
