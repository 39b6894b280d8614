/- The law of sameness, walked. -/
import Derived.Test.YtgkgloafjhiakaaDoorS2
import Derived.Test.YtgkgloafjhiakaaDoorM4
namespace Go.Proofs.YtgkgloafjhiakaaDoor
open Go.RowKit Go.Sort

set_option maxRecDepth 100000 in
set_option maxHeartbeats 8000000 in
theorem sames_any (u v : ByteArray) (w : World) (hm : MX w) : Calls Tryd.prog 11 #[.string u, .string v] w fun r w' => r = .returned (.bool true) ∧ Below w.heap.size w w' := by
  have HM := Lib.hid hm
  have HP := Lib.hid hm.lt
  clear hm
  go_enter Tryd.func11, Tryd.ntmps11
  go_wp2_with fail
  with_reducible refine (long_any u _).mono ?_
  rintro _ w1 ⟨rfl, rfl⟩
  by_cases h1 : 200 < u.size
  · rw [decide_eq_true h1]
    clear h1
    go_wp2_with fail
    with_reducible refine (known_any _ HM.out).mono ?_
    rintro _ wk ⟨rfl, hbk⟩
    have HBK := Lib.hid (hbk)
    clear hbk
    go_wp2_with fail
    go_ret
    exact ⟨rfl, HBK.out⟩
  rw [decide_eq_false h1]
  have HU := Lib.hid (show u.size ≤ 1000000 by omega)
  clear h1
  go_wp2_with fail
  with_reducible refine (long_any v _).mono ?_
  rintro _ w2 ⟨rfl, rfl⟩
  by_cases h1 : 200 < v.size
  · rw [decide_eq_true h1]
    clear h1
    go_wp2_with fail
    with_reducible refine (known_any _ HM.out).mono ?_
    rintro _ wk ⟨rfl, hbk⟩
    have HBK := Lib.hid (hbk)
    clear hbk
    go_wp2_with fail
    go_ret
    exact ⟨rfl, HBK.out⟩
  rw [decide_eq_false h1]
  have HV := Lib.hid (show v.size ≤ 1000000 by omega)
  clear h1
  go_wp2_with fail
  with_reducible refine (same_any u v _ HM.out HU.out HV.out).mono ?_
  rintro _ w3 ⟨rfl, hb3⟩
  have HB3 := Lib.hid hb3
  clear hb3
  generalize hj : sameR u v = J
  have HJ := Lib.hid hj
  clear hj
  go_wp2_with fail
  with_reducible refine (refSame_any u v _ HU.out HV.out).mono ?_
  rintro _ w4 ⟨rfl, hb4⟩
  rw [HJ.out]
  have HB4 := Lib.hid (below_trans' HB3.out hb4)
  clear hb4
  by_cases hok : okW u = true ∧ okW v = true
  · have hj : J = (sameP u v, 0) := HJ.out.symm.trans (sameR_ok hok.1 hok.2)
    have HO := Lib.hid hok
    subst hj
    clear hok HJ
    go_wp2_with fail
    with_reducible refine (normalE_any u _ (HM.out.below HP.out HB4.out) HU.out).mono ?_
    rintro _ w5 ⟨hb5, ⟨hno, _⟩ | ⟨_, k, p, rfl, hn1⟩⟩
    · rw [HO.out.1] at hno; cases hno
    have HB5 := Lib.hid (below_trans' HB4.out hb5)
    have HN1 := Lib.hid hn1
    clear hb5 hn1
    go_wp2_with fail
    with_reducible refine (normalE_any v _ (HM.out.below HP.out HB5.out) HV.out).mono ?_
    rintro _ w6 ⟨hb6, ⟨hno, _⟩ | ⟨_, k2, p2, rfl, hn2⟩⟩
    · rw [HO.out.2] at hno; cases hno
    have HB6 := Lib.hid (below_trans' HB5.out hb6)
    have HN2 := Lib.hid hn2
    clear hb6 hn2
    go_wp2_with fail
    with_reducible refine (matrix_any u _ HU.out).mono ?_
    rintro _ w7 ⟨rfl, hb7⟩
    have HB7 := Lib.hid (below_trans' HB6.out hb7)
    clear hb7
    rw [matR_ok HO.out.1, ansE_ok HO.out.1]
    go_wp2_with fail
    have HA := Lib.hid (MatAt.new w7 (matL (liB u)))
    have HB8 := Lib.hid (below_trans' HB7.out (belowA w7 (.cells (mcs (matL (liB u))) 34)))
    generalize w7.alloc (.cells (mcs (matL (liB u))) 34) = w8 at HA HB8 ⊢
    generalize w7.heap.size = Y1 at HA ⊢
    with_reducible refine (matrix_any v _ HV.out).mono ?_
    rintro _ w9 ⟨rfl, hb9⟩
    have HA9 := Lib.hid (HA.out.below hb9)
    have HB9 := Lib.hid (below_trans' HB8.out hb9)
    clear hb9
    rw [matR_ok HO.out.2, ansE_ok HO.out.2]
    go_wp2_with fail
    have HA10 := Lib.hid (HA9.out.below (belowA w9 (.cells (mcs (matL (liB v))) 34)))
    have HC10 := Lib.hid (MatAt.new w9 (matL (liB v)))
    have HB10 := Lib.hid (below_trans' HB9.out (belowA w9 (.cells (mcs (matL (liB v))) 34)))
    generalize w9.alloc (.cells (mcs (matL (liB v))) 34) = w10 at HA10 HC10 HB10 ⊢
    generalize w9.heap.size = Y2 at HC10 ⊢
    with_reducible refine (crossings_any u _ HU.out).mono ?_
    rintro _ w11 ⟨rfl, hb11⟩
    have HA11 := Lib.hid (HA10.out.below hb11)
    have HC11 := Lib.hid (HC10.out.below hb11)
    have HB11 := Lib.hid (below_trans' HB10.out hb11)
    clear hb11
    rw [show crossR u = cntL (liB u) by unfold crossR; rw [HO.out.1]; rfl, ansE_ok HO.out.1]
    go_wp2_with fail
    with_reducible refine (crossings_any v _ HV.out).mono ?_
    rintro _ w12 ⟨rfl, hb12⟩
    have HA12 := Lib.hid (HA11.out.below hb12)
    have HC12 := Lib.hid (HC11.out.below hb12)
    have HB12 := Lib.hid (below_trans' HB11.out hb12)
    clear hb12
    rw [show crossR v = cntL (liB v) by unfold crossR; rw [HO.out.2]; rfl, ansE_ok HO.out.2]
    have x0 := HA12.out.box.2
    have y0 := HC12.out.box.2
    simp only [mcs] at x0 y0
    have EQ := fun w => eql34 (matL (liB u)) (matL (liB v)) w
    have hif := HN1.out.iff HN2.out
    have es := mk_toList_eq p p2
    by_cases hs : matL (liB u) = matL (liB v) ∧ cntL (liB u) = cntL (liB v)
    · have hsp : sameP u v = true := by unfold sameP; exact decide_eq_true hs
      obtain ⟨rfl, rfl⟩ := hif.2 hs
      rw [hsp]
      rw [decide_eq_true hs.1] at EQ
      rw [hs.2]
      clear hif hs hsp es
      go_wp2_with fail
      with_reducible refine (known_any _ (HM.out.below HP.out HB12.out)).mono ?_
      rintro _ wk ⟨rfl, hbk⟩
      have HBK := Lib.hid (below_trans' HB12.out hbk)
      clear hbk
      go_wp2_with fail
      go_ret
      exact ⟨rfl, HBK.out⟩
    · have hsp : sameP u v = false := by unfold sameP; exact decide_eq_false hs
      have hne : ¬ (k = k2 ∧ p = p2) := fun h => hs (hif.1 h)
      rw [hsp]
      clear hif hsp
      by_cases hk : k = k2
      · have hp : ¬ p = p2 := fun h => hne ⟨hk, h⟩
        have hpb : (p == p2) = false := beq_false_of_ne hp
        clear es
        subst hk
        by_cases hM : matL (liB u) = matL (liB v)
        · have hc : (cntL (liB u) == cntL (liB v)) = false := beq_false_of_ne fun h => hs ⟨hM, h⟩
          rw [decide_eq_true hM] at EQ
          clear hs hne hM
          go_wp2_with fail
          with_reducible refine (known_any _ (HM.out.below HP.out HB12.out)).mono ?_
          rintro _ wk ⟨rfl, hbk⟩
          have HBK := Lib.hid (below_trans' HB12.out hbk)
          clear hbk
          go_wp2_with fail
          go_ret
          exact ⟨rfl, HBK.out⟩
        · rw [decide_eq_false hM] at EQ
          clear hs hne hM
          go_wp2_with fail
          with_reducible refine (known_any _ (HM.out.below HP.out HB12.out)).mono ?_
          rintro _ wk ⟨rfl, hbk⟩
          have HBK := Lib.hid (below_trans' HB12.out hbk)
          clear hbk
          go_wp2_with fail
          go_ret
          exact ⟨rfl, HBK.out⟩
      · clear hne es
        by_cases hM : matL (liB u) = matL (liB v)
        · have hc : (cntL (liB u) == cntL (liB v)) = false := beq_false_of_ne fun h => hs ⟨hM, h⟩
          rw [decide_eq_true hM] at EQ
          clear hs hM
          go_wp2_with fail
          with_reducible refine (known_any _ (HM.out.below HP.out HB12.out)).mono ?_
          rintro _ wk ⟨rfl, hbk⟩
          have HBK := Lib.hid (below_trans' HB12.out hbk)
          clear hbk
          go_wp2_with fail
          go_ret
          exact ⟨rfl, HBK.out⟩
        · rw [decide_eq_false hM] at EQ
          clear hs hM
          go_wp2_with fail
          with_reducible refine (known_any _ (HM.out.below HP.out HB12.out)).mono ?_
          rintro _ wk ⟨rfl, hbk⟩
          have HBK := Lib.hid (below_trans' HB12.out hbk)
          clear hbk
          go_wp2_with fail
          go_ret
          exact ⟨rfl, HBK.out⟩
  · have hj : J = (false, 1) := by rw [← HJ.out]; unfold sameR; rw [if_neg hok]
    subst hj
    clear hok HJ
    go_wp2_with fail
    with_reducible refine (known_any _ (HM.out.below HP.out HB4.out)).mono ?_
    rintro _ wk ⟨rfl, hbk⟩
    have HBK := Lib.hid (below_trans' HB4.out hbk)
    clear hbk
    go_wp2_with fail
    go_ret
    exact ⟨rfl, HBK.out⟩
end Go.Proofs.YtgkgloafjhiakaaDoor
