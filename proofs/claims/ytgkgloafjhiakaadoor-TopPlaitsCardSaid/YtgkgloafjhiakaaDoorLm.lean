/- The law of matrices, walked. -/
import Derived.Test.YtgkgloafjhiakaaDoorM5
import Derived.Test.YtgkgloafjhiakaaDoorJ3
namespace Go.Proofs.YtgkgloafjhiakaaDoor
open Go.RowKit Go.Sort

/-- What known answers, in any world that has grown. -/
theorem known_on {w0 : World} (hm : MX w0) : ∀ w, Below w0.heap.size w0 w → Calls Tryd.prog 18 #[] w fun r w' => r = .returned (.bool true) ∧ Below w.heap.size w w' := fun w hb => known_any w (hm.below hm.lt hb)
theorem times_on (a b : Mat) (w0 : World) : ∀ w, Below w0.heap.size w0 w → Calls Tryd.prog 40 #[mval a, mval b] w fun r w' => r = .returned (mval (wrM (mulM a b))) ∧ Below w.heap.size w w' := fun w _ => times_any a b w
set_option maxRecDepth 100000 in
set_option maxHeartbeats 8000000 in
theorem matrices_any (u v : ByteArray) (w : World) (hm : MX w) : Calls Tryd.prog 8 #[.string u, .string v] w fun r w' => r = .returned (.bool true) ∧ Below w.heap.size w w' := by
  have HM := Lib.hid hm
  have HP := Lib.hid hm.lt
  clear hm
  go_enter Tryd.func8, Tryd.ntmps8
  go_wp2_with fail
  with_reducible refine (long_any u _).mono ?_
  rintro _ w1 ⟨rfl, rfl⟩
  by_cases h1 : 200 < u.size
  · rw [decide_eq_true h1]
    clear h1
    go_wp2_with fail
    with_reducible refine (known_any _ HM.out).mono ?_
    rintro _ wk ⟨rfl, hbk⟩
    have HBK := Lib.hid (hbk)
    clear hbk
    go_wp2_with fail
    go_ret
    exact ⟨rfl, HBK.out⟩
  rw [decide_eq_false h1]
  have HU := Lib.hid (show u.size ≤ 1000000 by omega)
  clear h1
  go_wp2_with fail
  with_reducible refine (long_any v _).mono ?_
  rintro _ w2 ⟨rfl, rfl⟩
  by_cases h1 : 200 < v.size
  · rw [decide_eq_true h1]
    clear h1
    go_wp2_with fail
    with_reducible refine (known_any _ HM.out).mono ?_
    rintro _ wk ⟨rfl, hbk⟩
    have HBK := Lib.hid (hbk)
    clear hbk
    go_wp2_with fail
    go_ret
    exact ⟨rfl, HBK.out⟩
  rw [decide_eq_false h1]
  have HV := Lib.hid (show v.size ≤ 1000000 by omega)
  clear h1
  go_wp2_with fail
  with_reducible refine (matrix_any u _ HU.out).mono ?_
  rintro _ w3 ⟨rfl, hb3⟩
  have HB3 := Lib.hid hb3
  clear hb3
  generalize hj : matR u = MU
  generalize hE : ansE u = E
  have HMU := Lib.hid hj
  have HE := Lib.hid hE
  clear hj hE
  go_wp2_with fail
  have HA := Lib.hid (MatAt.new w3 MU)
  have HB4 := Lib.hid (below_trans' HB3.out (belowA w3 (.cells (mcs MU) 34)))
  generalize w3.alloc (.cells (mcs MU) 34) = w4 at HA HB4 ⊢
  generalize w3.heap.size = Y1 at HA ⊢
  with_reducible refine (refMatrixE_any u _ HU.out).mono ?_
  rintro _ w5 ⟨rfl, hb5⟩
  rw [HMU.out, HE.out]
  have HA5 := Lib.hid (HA.out.below hb5)
  have HB5 := Lib.hid (below_trans' HB4.out hb5)
  clear hb5
  have x0 := (HA5.out.below (belowA w5 (.cells (mcs MU) 34))).box.2
  have y0 := (MatAt.new w5 MU).box.2
  simp only [mcs] at x0 y0
  have NEQ : ∀ w, (binOp .neq 34 (mval MU) (mval MU)).run Tryd.prog w = .ok (.bool false) w := fun w => by rw [neq34, decide_eq_true rfl]; rfl
  go_wp2_with fail
  have HA6 := Lib.hid (HA5.out.below (belowA w5 (.cells (mcs MU) 34)))
  have HB6 := Lib.hid (below_trans' HB5.out (belowA w5 (.cells (mcs MU) 34)))
  clear x0 y0 NEQ
  generalize w5.alloc (.cells (mcs MU) 34) = w6 at HA6 HB6 ⊢
  with_reducible refine (matrix_any v _ HV.out).mono ?_
  rintro _ w7 ⟨rfl, hb7⟩
  have HA7 := Lib.hid (HA6.out.below hb7)
  have HB7 := Lib.hid (below_trans' HB6.out hb7)
  clear hb7
  generalize hj : matR v = MV
  generalize hE : ansE v = G
  have HMV := Lib.hid hj
  have HG := Lib.hid hE
  clear hj hE
  go_wp2_with fail
  have HA8 := Lib.hid (HA7.out.below (belowA w7 (.cells (mcs MV) 34)))
  have HC8 := Lib.hid (MatAt.new w7 MV)
  have HB8 := Lib.hid (below_trans' HB7.out (belowA w7 (.cells (mcs MV) 34)))
  generalize w7.alloc (.cells (mcs MV) 34) = w8 at HA8 HC8 HB8 ⊢
  generalize w7.heap.size = Y2 at HC8 ⊢
  with_reducible refine (join_any u v _ HU.out HV.out).mono ?_
  rintro _ w9 ⟨rfl, hb9⟩
  have HA9 := Lib.hid (HA8.out.below hb9)
  have HC9 := Lib.hid (HC8.out.below hb9)
  have HB9 := Lib.hid (below_trans' HB8.out hb9)
  clear hb9
  generalize hj : joinR u v = J
  have HJ := Lib.hid hj
  clear hj
  obtain ⟨jw, H⟩ := J
  by_cases e1 : E = 0
  · by_cases e2 : G = 0
    · by_cases e3 : H = 0
      · subst e1 e2 e3
        have ok1 : okW u = true := by
          rcases Bool.eq_false_or_eq_true (okW u) with h | h
          · exact h
          · have := ansE_no h; rw [HE.out] at this; cases this
        have ok2 : okW v = true := by
          rcases Bool.eq_false_or_eq_true (okW v) with h | h
          · exact h
          · have := ansE_no h; rw [HG.out] at this; cases this
        have l60 : ¬ 60 < u.size + v.size := fun h => by
          have := joinR_long ok1 ok2 h
          rw [HJ.out] at this; cases this
        have ej : jw = liB u ++ liB v := by
          have := joinR_ok ok1 ok2 l60
          rw [HJ.out] at this; exact (Prod.mk.inj this).1
        subst ej
        have eu : MU = matL (liB u) := HMU.out.symm.trans (matR_ok ok1)
        have ev : MV = matL (liB v) := HMV.out.symm.trans (matR_ok ok2)
        have wu := (okW_iff.1 ok1).2
        have wv := (okW_iff.1 ok2).2
        have hw : wordL (liB u ++ liB v) := wordL_append wu wv
        have hlen : (liB u ++ liB v).length ≤ 60 := by rw [List.length_append, li_size, li_size]; omega
        have ok3 : okW (mkB (liB u ++ liB v)) = true := okW_iff.2 ⟨by rw [size_mk]; exact hlen, by rw [li_mk]; exact hw⟩
        have hdet := det_matL wu
        have hprod : wrM (mulM MU MV) = matL (liB u ++ liB v) := by
          rw [eu, ev, ← matL_append]
          exact wrM_id ((matL_b60 hw hlen).mono (by decide))
        rw [← eu] at hdet
        have HO3 := Lib.hid ok3
        have HL := Lib.hid (show (liB u ++ liB v).length ≤ 1000000 by omega)
        have HPR := Lib.hid hprod
        clear ok1 ok2 l60 eu ev wu wv hw hlen ok3 hprod HJ
        go_wp2_with fail
        with_reducible refine (matrix_any (mkB (liB u ++ liB v)) _ (by rw [size_mk]; exact HL.out)).mono ?_
        rintro _ w10 ⟨rfl, hb10⟩
        rw [matR_ok HO3.out, ansE_ok HO3.out, show liB (mkB (liB u ++ liB v)) = liB u ++ liB v from rfl]
        have HA10 := Lib.hid (HA9.out.below hb10)
        have HC10 := Lib.hid (HC9.out.below hb10)
        have HB10 := Lib.hid (below_trans' HB9.out hb10)
        clear hb10
        generalize hD : matL (liB u ++ liB v) = D at HPR ⊢
        clear hD
        obtain ⟨p, q, r, s⟩ := MU
        dsimp only at hdet
        have dt : RowKit.wrap64 (RowKit.wrap64 (p * s) - RowKit.wrap64 (q * r)) = 1 := by rw [w64_sub_l, w64_sub_r, hdet]; unfold RowKit.wrap64; omega
        go_wp2_with fail
        have HA11 := Lib.hid (HA10.out.below (belowA w10 (.cells (mcs D) 34)))
        have HC11 := Lib.hid (HC10.out.below (belowA w10 (.cells (mcs D) 34)))
        have HD11 := Lib.hid (MatAt.new w10 D)
        have HB11 := Lib.hid (below_trans' HB10.out (belowA w10 (.cells (mcs D) 34)))
        generalize w10.alloc (.cells (mcs D) 34) = w11 at HA11 HC11 HD11 HB11 ⊢
        generalize w10.heap.size = Y3 at HD11 ⊢
        have EQ : ∀ w, (binOp .eql 34 (mval D) (mval D)).run Tryd.prog w = .ok (.bool true) w := fun w => by rw [eql34, decide_eq_true rfl]
        have T1 : Hid (∀ w, Below w11.heap.size w11 w → Calls Tryd.prog 40 #[mval (p, q, r, s), mval MV] w fun r w' => r = .returned (mval D) ∧ Below w.heap.size w w') := Lib.hid (by rw [← HPR.out]; exact times_on _ _ w11)
        have T2 := Lib.hid (known_on (HM.out.below HP.out HB11.out))
        have x0 := HA11.out.box.2
        have y0 := HC11.out.box.2
        have z0 := HD11.out.box.2
        have X := HA11.out.box.rg
        have Y := HC11.out.box.rg
        have Z := HD11.out.box.rg
        simp only [mcs] at x0 y0 z0 X Y Z
        clear HA11 HC11 HD11 HA10 HC10 HPR HMU HMV hdet HA HA5 HA6 HA7 HA8 HA9 HC8 HC9
        go_wp2_with fail
        refine wp_region_qb mixed (by kernel_rfl) ?_
        repeat (go_big_quiet_step (first | with_reducible exact rg_call T1.out _ _ | with_reducible exact rg_call T2.out _ _))
        refine wpQuiet_nil ?_
        intro w12 hb12
        have HB12 := Lib.hid (below_trans' HB11.out hb12)
        clear hb12 x0 y0 z0 X Y Z
        go_wp2_with fail
        go_ret
        exact ⟨rfl, HB12.out⟩
      · have e3' : (H == 0) = false := beq_false_of_ne e3
        subst e1 e2
        go_wp2_with fail
        with_reducible refine (known_any _ (HM.out.below HP.out HB9.out)).mono ?_
        rintro _ wk ⟨rfl, hbk⟩
        have HBK := Lib.hid (below_trans' HB9.out hbk)
        clear hbk
        go_wp2_with fail
        go_ret
        exact ⟨rfl, HBK.out⟩
    · have e2' : (G == 0) = false := beq_false_of_ne e2
      subst e1
      go_wp2_with fail
      with_reducible refine (known_any _ (HM.out.below HP.out HB9.out)).mono ?_
      rintro _ wk ⟨rfl, hbk⟩
      have HBK := Lib.hid (below_trans' HB9.out hbk)
      clear hbk
      go_wp2_with fail
      go_ret
      exact ⟨rfl, HBK.out⟩
  · have e1' : (E == 0) = false := beq_false_of_ne e1
    go_wp2_with fail
    with_reducible refine (known_any _ (HM.out.below HP.out HB9.out)).mono ?_
    rintro _ wk ⟨rfl, hbk⟩
    have HBK := Lib.hid (below_trans' HB9.out hbk)
    clear hbk
    go_wp2_with fail
    go_ret
    exact ⟨rfl, HBK.out⟩
end Go.Proofs.YtgkgloafjhiakaaDoor
