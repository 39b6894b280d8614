/- The law of turns, walked. -/
import Derived.Test.YtgkgloafjhiakaaDoorQ8
namespace Go.Proofs.YtgkgloafjhiakaaDoor
open Go.RowKit Go.Sort

theorem okW_in {t : ByteArray} (h : okW t = true) : okW (mkB (inL (liB t))) = true := by
  have h1 := okW_iff.1 h
  exact okW_iff.2 ⟨by rw [size_mk, inL_length, li_size]; exact h1.1, wordL_in h1.2⟩
theorem okW_mi {t : ByteArray} (h : okW t = true) : okW (mkB (miL (liB t))) = true := by
  have h1 := okW_iff.1 h
  exact okW_iff.2 ⟨by rw [size_mk]; unfold miL; rw [List.length_map, li_size]; exact h1.1, wordL_mi h1.2⟩
theorem okW_fl {t : ByteArray} (h : okW t = true) : okW (mkB (flL (liB t))) = true := by
  have h1 := okW_iff.1 h
  exact okW_iff.2 ⟨by rw [size_mk]; unfold flL; rw [List.length_map, li_size]; exact h1.1, wordL_fl h1.2⟩
theorem ansW_in {t : ByteArray} (h : okW t = true) : ansW (mkB (inL (liB t))) (inL (liB (mkB (inL (liB t))))) = .tuple #[.string t, .int .i64 0] := by
  rw [ansW_ok (okW_in h), li_mk, inL_inL, mk_li]
theorem ansW_mi {t : ByteArray} (h : okW t = true) : ansW (mkB (miL (liB t))) (miL (liB (mkB (miL (liB t))))) = .tuple #[.string t, .int .i64 0] := by
  rw [ansW_ok (okW_mi h), li_mk, miL_miL, mk_li]
theorem ansW_fl {t : ByteArray} (h : okW t = true) : ansW (mkB (flL (liB t))) (flL (liB (mkB (flL (liB t))))) = .tuple #[.string t, .int .i64 0] := by
  rw [ansW_ok (okW_fl h), li_mk, flL_flL, mk_li]
set_option maxRecDepth 100000 in
set_option maxHeartbeats 8000000 in
theorem turns_any (t : ByteArray) (w : World) (hm : MX w) : Calls Tryd.prog 5 #[.string t] w fun r w' => r = .returned (.bool true) ∧ Below w.heap.size w w' := by
  have HM := Lib.hid hm
  have HP := Lib.hid hm.lt
  clear hm
  go_enter Tryd.func5, Tryd.ntmps5
  go_wp2_with fail
  with_reducible refine (long_any t _).mono ?_
  rintro _ w1 ⟨rfl, rfl⟩
  by_cases h2 : 200 < t.size
  · rw [decide_eq_true h2]
    clear h2
    go_wp2_with fail
    with_reducible refine (known_any _ HM.out).mono ?_
    rintro _ w2 ⟨rfl, hb⟩
    have HB := Lib.hid hb
    clear hb
    go_wp2_with fail
    go_ret
    exact ⟨rfl, HB.out⟩
  rw [decide_eq_false h2]
  have ht : t.size ≤ 1000000 := by omega
  have HT := Lib.hid ht
  clear h2 ht
  go_wp2_with fail
  with_reducible refine (inverse_any t _ HT.out).mono ?_
  rintro _ w2 ⟨rfl, hb2⟩
  have HB2 := Lib.hid hb2
  clear hb2
  rw [show ansW t (inL (liB t)) = .tuple #[.string (ansB t (inL (liB t))), .int .i64 (ansE t)] from rfl]
  generalize hi : ansB t (inL (liB t)) = bi
  generalize he : ansE t = er
  have HI := Lib.hid hi
  have HE := Lib.hid he
  clear hi he
  go_wp2_with fail
  with_reducible refine (refInverse_any t _ HT.out).mono ?_
  rintro _ w3 ⟨rfl, hb3⟩
  have HB3 := Lib.hid (below_trans' HB2.out hb3)
  clear hb3
  rw [show ansW t (inL (liB t)) = .tuple #[.string (ansB t (inL (liB t))), .int .i64 (ansE t)] from rfl, HI.out, HE.out]
  go_wp2_with fail
  with_reducible refine (mirror_any t _ HT.out).mono ?_
  rintro _ w4 ⟨rfl, hb4⟩
  have HB4 := Lib.hid (below_trans' HB3.out hb4)
  clear hb4
  rw [show ansW t (miL (liB t)) = .tuple #[.string (ansB t (miL (liB t))), .int .i64 (ansE t)] from rfl, HE.out]
  generalize hi : ansB t (miL (liB t)) = bm
  have HMI := Lib.hid hi
  clear hi
  go_wp2_with fail
  with_reducible refine (refMirror_any t _ HT.out).mono ?_
  rintro _ w5 ⟨rfl, hb5⟩
  have HB5 := Lib.hid (below_trans' HB4.out hb5)
  clear hb5
  rw [show ansW t (miL (liB t)) = .tuple #[.string (ansB t (miL (liB t))), .int .i64 (ansE t)] from rfl, HMI.out, HE.out]
  go_wp2_with fail
  with_reducible refine (flip_any t _ HT.out).mono ?_
  rintro _ w6 ⟨rfl, hb6⟩
  have HB6 := Lib.hid (below_trans' HB5.out hb6)
  clear hb6
  rw [show ansW t (flL (liB t)) = .tuple #[.string (ansB t (flL (liB t))), .int .i64 (ansE t)] from rfl, HE.out]
  generalize hi : ansB t (flL (liB t)) = bf
  have HFL := Lib.hid hi
  clear hi
  go_wp2_with fail
  with_reducible refine (refFlip_any t _ HT.out).mono ?_
  rintro _ w7 ⟨rfl, hb7⟩
  have HB7 := Lib.hid (below_trans' HB6.out hb7)
  clear hb7 HB2 HB3 HB4 HB5 HB6
  rw [show ansW t (flL (liB t)) = .tuple #[.string (ansB t (flL (liB t))), .int .i64 (ansE t)] from rfl, HFL.out, HE.out]
  by_cases hok : okW t = true
  · have HOK := Lib.hid hok
    have he0 : er = 0 := by rw [← HE.out, ansE_ok hok]
    subst he0
    have e1 := HI.out.symm.trans (ansB_ok hok _)
    have e2 := HMI.out.symm.trans (ansB_ok hok _)
    have e3 := HFL.out.symm.trans (ansB_ok hok _)
    clear hok HI HMI HFL HE
    subst e1 e2 e3
    have hsi : (mkB (inL (liB t))).size = t.size := by rw [size_mk, inL_length, li_size]
    have hsm : (mkB (miL (liB t))).size = t.size := by rw [size_mk]; unfold miL; rw [List.length_map, li_size]
    have hsf : (mkB (flL (liB t))).size = t.size := by rw [size_mk]; unfold flL; rw [List.length_map, li_size]
    have t3 : t.size ≤ 1000000 := HT.out
    go_wp2_with fail
    with_reducible refine (inverse_any _ _ (by rw [hsi]; exact HT.out)).mono ?_
    rintro _ w8 ⟨rfl, hb8⟩
    rw [ansW_in HOK.out]
    have HB8 := Lib.hid (below_trans' HB7.out hb8)
    clear hb8
    go_wp2_with fail
    with_reducible refine (mirror_any _ _ (by rw [hsm]; exact HT.out)).mono ?_
    rintro _ w9 ⟨rfl, hb9⟩
    rw [ansW_mi HOK.out]
    have HB9 := Lib.hid (below_trans' HB8.out hb9)
    clear hb9
    go_wp2_with fail
    with_reducible refine (flip_any _ _ (by rw [hsf]; exact HT.out)).mono ?_
    rintro _ w10 ⟨rfl, hb10⟩
    rw [ansW_fl HOK.out]
    have HB10 := Lib.hid (below_trans' HB9.out hb10)
    clear hb10 HB7 HB8 HB9
    have HG : Hid (∀ i (h1 : i < (mkB (inL (liB t))).size) (h2 : t.size - 1 - i < (mkB (miL (liB t))).size), (mkB (inL (liB t)))[i] = (mkB (miL (liB t)))[t.size - 1 - i]) := Lib.hid fun i h1 h2 => by
      show (inL (liB t))[i]'h1 = (miL (liB t))[t.size - 1 - i]'h2
      simp only [inL, List.getElem_reverse]
      congr 1
      have : (miL (liB t)).length = t.size := hsm
      omega
    generalize mkB (inL (liB t)) = I0 at hsi HG ⊢
    generalize mkB (miL (liB t)) = M0 at hsm HG ⊢
    go_wp2_with fail
    go_loopw [21] (fun i wr => ∃ q : Nat, q ≤ t.size ∧ i = .int .i64 q ∧ Below w1.heap.size w1 wr) (fun i _ => t.size - (intOf i).toNat)
    case atStart => exact ⟨0, by omega, rfl, HB10.out⟩
    case round =>
      obtain ⟨q, hq, rfl, hbw⟩ := hrel
      have HBW := Lib.hid hbw
      clear hbw HB10
      by_cases hlt : q < t.size
      · obtain ⟨j, hj⟩ : ∃ j, j = t.size - 1 - q := ⟨_, rfl⟩
        have h1 : q < I0.size := by omega
        have h2 : j < M0.size := by omega
        have hgg : I0[q]'h1 = M0[j]'h2 := by subst hj; exact HG.out q h1 h2
        have e1 : (t.size : Int) - 1 - (q : Int) = (j : Int) := by omega
        have j1 : j < t.size := by omega
        have wj : IntKind.i64.wrap (j : Int) = (j : Int) := IntWalk.i64_in _ (by omega)
        have wj1 : IntKind.i64.wrap ((t.size : Int) - 1) = (t.size : Int) - 1 := IntWalk.i64_in _ (by omega)
        clear hj
        have hne : ((I0[q]'h1).toNat : Int) != ((M0[j]'h2).toNat : Int) ↔ False := by rw [hgg]; simp
        go_wp2_with fail
        go_quiet (fail)
        have HB11 := Lib.hid (below_drewN' HBW.out nq)
        clear hne
        go_wp2_with fail
        go_roundw
        case rel => exact ⟨q + 1, by omega, by go_num, HB11.out⟩
        case measure => simp [intOf]; omega
      · go_wp2_with fail
        with_reducible refine (known_any _ (HM.out.below HP.out HBW.out)).mono ?_
        rintro _ w12 ⟨rfl, hb12⟩
        have HB12 := Lib.hid (below_trans' HBW.out hb12)
        clear hb12
        go_wp2_with fail
        go_ret
        exact ⟨rfl, HB12.out⟩
  · have hno : okW t = false := by simpa using hok
    have he1 : er = 1 := by rw [← HE.out, ansE_no hno]
    subst he1
    clear hok hno HE
    go_wp2_with fail
    with_reducible refine (known_any _ (HM.out.below HP.out HB7.out)).mono ?_
    rintro _ w8 ⟨rfl, hb8⟩
    have HB8 := Lib.hid (below_trans' HB7.out hb8)
    clear hb8
    go_wp2_with fail
    go_ret
    exact ⟨rfl, HB8.out⟩
end Go.Proofs.YtgkgloafjhiakaaDoor
