/- The law of half twists, walked. -/
import Derived.Test.YtgkgloafjhiakaaDoorLu
namespace Go.Proofs.YtgkgloafjhiakaaDoor
open Go.RowKit Go.Sort

/-- What IsTwist answers of a word. -/
theorem TwR.no {t : ByteArray} {r : Ending} (h : okW t = false) (hr : TwR t r) : r = .returned (.tuple #[.bool false, .int .i64 1]) := by
  rcases hr with ⟨_, hr⟩ | ⟨h', _⟩
  · exact hr
  · rw [h] at h'; cases h'
theorem TwR.ok {t : ByteArray} {r : Ending} {k : Int} {p : List UInt8} (h : okW t = true) (hn : Nf (liB t) k p) (hr : TwR t r) : r = .returned (.tuple #[.bool p.isEmpty, .int .i64 0]) := by
  rcases hr with ⟨h', _⟩ | ⟨_, k', p', hn', hr⟩
  · rw [h] at h'; cases h'
  · obtain ⟨rfl, rfl⟩ := hn.unique hn'; exact hr
theorem TwR.some {t : ByteArray} {r : Ending} (h : okW t = true) (hr : TwR t r) : ∃ k p, Nf (liB t) k p := by
  rcases hr with ⟨h', _⟩ | ⟨_, k', p', hn', _⟩
  · rw [h] at h'; cases h'
  · exact ⟨k', p', hn'⟩
theorem pow_half {m : Nat} (hm : m ≤ 7) : powR (mkB [97, 98, 97]) (m : Int) = (twW m, 0) := by
  rw [powR_small (by decide) ⟨by omega, by omega⟩, Int.natAbs_natCast, if_neg (show ¬ 60 < (mkB [97, 98, 97]).size * m by show ¬ 60 < 3 * m; omega), if_neg (show ¬ ((m : Int) < 0) by omega)]
theorem twW_len (m : Nat) : (twW m).length = 3 * m := by rw [rep_length]; simp [Nat.mul_comm]
set_option maxRecDepth 100000 in
set_option maxHeartbeats 8000000 in
theorem twists_any (t : ByteArray) (n : Int) (_hn : -9223372036854775808 ≤ n ∧ n ≤ 9223372036854775807) (w : World) (hm : MX w) : Calls Tryd.prog 14 #[.string t, .int .i64 n] w fun r w' => r = .returned (.bool true) ∧ Below w.heap.size w w' := by
  have HM := Lib.hid hm
  have HP := Lib.hid hm.lt
  clear hm
  go_enter Tryd.func14, Tryd.ntmps14
  go_wp2_with fail
  with_reducible refine (long_any t _).mono ?_
  rintro _ w1 ⟨rfl, rfl⟩
  by_cases h1 : 200 < t.size
  · rw [decide_eq_true h1]
    clear h1
    go_wp2_with fail
    with_reducible refine (known_any _ HM.out).mono ?_
    rintro _ wk ⟨rfl, hbk⟩
    have HBK := Lib.hid (hbk)
    clear hbk
    go_wp2_with fail
    go_ret
    exact ⟨rfl, HBK.out⟩
  rw [decide_eq_false h1]
  have HT := Lib.hid (show t.size ≤ 1000000 by omega)
  clear h1
  go_wp2_with fail
  obtain ⟨m, hm7, hb, hmod⟩ := and7 n
  have HMB := Lib.hid hb
  have HM7 := Lib.hid hm7
  clear hb hm7
  rcases Bool.eq_false_or_eq_true (okW t) with hok | hno
  · with_reducible refine (isTwist_any t _ HM.out HT.out).mono ?_
    rintro r w3 ⟨hb3, hr⟩
    obtain ⟨k, p, hn⟩ := hr.some hok
    obtain rfl := hr.ok hok hn
    have HB3 := Lib.hid hb3
    clear hb3 hr
    have HN := Lib.hid hn
    have HO := Lib.hid hok
    obtain ⟨pe, hpe⟩ : ∃ b, p.isEmpty = b := ⟨_, rfl⟩
    rw [hpe]
    have HPE := Lib.hid hpe
    have hWo := (okW_iff.1 hok).2
    have h60 := (okW_iff.1 hok).1
    have HW := Lib.hid hWo
    clear hn hok hpe hWo
    go_wp2_with fail
    with_reducible refine (refIsTwist_any t _ HT.out).mono ?_
    rintro r w4 ⟨hb4, hr⟩
    obtain rfl := hr.ok HO.out HN.out
    rw [HPE.out]
    have HB4 := Lib.hid (below_trans' HB3.out hb4)
    clear hb4 hr
    go_wp2_with fail
    rw [HMB.out]
    with_reducible refine (power_any (mkB [97, 98, 97]) (m : Int) _ (by decide)).mono ?_
    rintro _ w5 ⟨rfl, hb5⟩
    rw [pow_half HM7.out]
    have HB5 := Lib.hid (below_trans' HB4.out hb5)
    have L1 := Lib.hid (twW_len m)
    have O1 := Lib.hid (okW_of (twW_word m) (by rw [twW_len]; have := HM7.out; omega))
    have HP1 := Lib.hid (twist_pass HW.out m)
    have HP2 := Lib.hid (twist_cnt HW.out m)
    have HTW := Lib.hid (nf_twW m)
    have W1 := Lib.hid (twW_word m)
    clear hb5
    generalize twW m = T at L1 O1 HP1 HP2 HTW W1 ⊢
    go_wp2_with fail
    with_reducible refine (join_any (mkB T) t _ (by rw [size_mk, L1.out]; have := HM7.out; omega) HT.out).mono ?_
    rintro _ w6 ⟨rfl, hb6⟩
    have HB6 := Lib.hid (below_trans' HB5.out hb6)
    clear hb6
    have hcase : (60 < 3 * m + t.size ∧ joinR (mkB T) t = ([], 4)) ∨ (¬ 60 < 3 * m + t.size ∧ joinR (mkB T) t = (T ++ liB t, 0)) := by
      by_cases h : 60 < 3 * m + t.size
      · exact .inl ⟨h, joinR_long O1.out HO.out (by show 60 < T.length + t.size; rw [L1.out]; exact h)⟩
      · exact .inr ⟨h, joinR_ok O1.out HO.out (by show ¬ 60 < T.length + t.size; rw [L1.out]; exact h)⟩
    rcases hcase with ⟨_, hj⟩ | ⟨h7, hj⟩
    · rw [hj]
      clear hj
      rcases (show n % 2 = 1 ∨ n % 2 = 0 by omega) with hp | hp
      · have h1 : bits .and .i64 n 1 = 1 := by rw [i64_and1]; exact hp
        go_wp2_with fail
        with_reducible refine (flip_any t _ HT.out).mono ?_
        rintro _ w7 ⟨rfl, hb7⟩
        have HB7 := Lib.hid (below_trans' HB6.out hb7)
        clear hb7
        unfold ansW
        rw [ansB_ok HO.out, ansE_ok HO.out]
        go_wp2_with fail
        with_reducible refine (join_any (mkB (flL (liB t))) (mkB T) _ (by rw [size_mk]; simp only [flL, List.length_map]; rw [li_size]; exact HT.out) (by rw [size_mk, L1.out]; have := HM7.out; omega)).mono ?_
        rintro _ w8 ⟨rfl, hb8⟩
        have HB8 := Lib.hid (below_trans' HB7.out hb8)
        clear hb8
        generalize joinR (mkB (flL (liB t))) (mkB T) = J
        go_wp2_with fail
        with_reducible refine (known_any _ (HM.out.below HP.out HB8.out)).mono ?_
        rintro _ wk ⟨rfl, hbk⟩
        have HBK := Lib.hid (below_trans' HB8.out hbk)
        clear hbk
        go_wp2_with fail
        go_ret
        exact ⟨rfl, HBK.out⟩
      · have h1 : bits .and .i64 n 1 = 0 := by rw [i64_and1]; exact hp
        go_wp2_with fail
        with_reducible refine (join_any t (mkB T) _ HT.out (by rw [size_mk, L1.out]; have := HM7.out; omega)).mono ?_
        rintro _ w8 ⟨rfl, hb8⟩
        have HB8 := Lib.hid (below_trans' HB6.out hb8)
        clear hb8
        generalize joinR t (mkB T) = J
        go_wp2_with fail
        with_reducible refine (known_any _ (HM.out.below HP.out HB8.out)).mono ?_
        rintro _ wk ⟨rfl, hbk⟩
        have HBK := Lib.hid (below_trans' HB8.out hbk)
        clear hbk
        go_wp2_with fail
        go_ret
        exact ⟨rfl, HBK.out⟩
    · rw [hj]
      have H7 := Lib.hid h7
      clear hj h7
      have SMg : ∀ Y, Y = flN m (liB t) → sameR (mkB (T ++ liB t)) (mkB (Y ++ T)) = (true, 0) := fun Y hY => by
        have ly : Y.length = t.size := by
          rw [hY]; unfold flN; split
          · simp only [flL, List.length_map]; exact li_size t
          · exact li_size t
        have wy : wordL Y := by rw [hY]; exact wordL_flN m HW.out
        rw [sameR_ok (okW_of (wordL_append W1.out HW.out) (by rw [List.length_append, L1.out, li_size]; have := H7.out; omega)) (okW_of (wordL_append wy W1.out) (by rw [List.length_append, L1.out, ly]; have := H7.out; omega))]
        unfold sameP
        rw [decide_eq_true ⟨by rw [hY]; exact HP1.out, by rw [hY]; exact HP2.out⟩]
      have hm2 : n % 2 = ((m % 2 : Nat) : Int) := by omega
      rcases (show m % 2 = 1 ∨ m % 2 = 0 by omega) with hp | hp
      · have h1 : bits .and .i64 n 1 = 1 := by rw [i64_and1, hm2, hp]; rfl
        have SMH := Lib.hid (SMg (flL (liB t)) (by unfold flN; rw [if_pos hp]))
        have hly : (flL (liB t)).length = t.size := by simp only [flL, List.length_map]; exact li_size t
        have LYH := Lib.hid hly
        have OYH := Lib.hid (okW_of (wordL_fl HW.out) (by rw [hly]; exact h60))
        clear SMg hm2 hp hmod hly
        go_wp2_with fail
        with_reducible refine (flip_any t _ HT.out).mono ?_
        rintro _ w7 ⟨rfl, hb7⟩
        have HB7 := Lib.hid (below_trans' HB6.out hb7)
        clear hb7
        unfold ansW
        rw [ansB_ok HO.out, ansE_ok HO.out]
        obtain ⟨Y, hY⟩ : ∃ Y, flL (liB t) = Y := ⟨_, rfl⟩
        rw [hY] at SMH LYH OYH ⊢
        have SM := SMH
        have LY := LYH
        have OY := OYH
        clear hY SMH LYH OYH
        go_wp2_with fail
        with_reducible refine (join_any (mkB Y) (mkB T) _ (by rw [size_mk, LY.out]; exact HT.out) (by rw [size_mk, L1.out]; have := HM7.out; omega)).mono ?_
        rintro _ w8 ⟨rfl, hb8⟩
        have HB8 := Lib.hid (below_trans' HB7.out hb8)
        clear hb8
        rw [joinR_ok OY.out O1.out (by show ¬ 60 < Y.length + T.length; rw [L1.out, LY.out]; have := H7.out; omega), show liB (mkB Y) ++ liB (mkB T) = Y ++ T from rfl]
        go_wp2_with fail
        with_reducible refine (same_any (mkB (T ++ liB t)) (mkB (Y ++ T)) _ (HM.out.below HP.out HB8.out) (by rw [size_mk, List.length_append, L1.out, li_size]; have := H7.out; omega) (by rw [size_mk, List.length_append, L1.out, LY.out]; have := H7.out; omega)).mono ?_
        rintro _ w9 ⟨rfl, hb9⟩
        rw [SM.out]
        have HB9 := Lib.hid (below_trans' HB8.out hb9)
        clear hb9
        go_wp2_with fail
        with_reducible refine (isTwist_any (mkB T) _ (HM.out.below HP.out HB9.out) (by rw [size_mk, L1.out]; have := HM7.out; omega)).mono ?_
        rintro r w10 ⟨hb10, hr⟩
        obtain rfl := hr.ok O1.out HTW.out
        rw [show ([] : List UInt8).isEmpty = true from rfl]
        have HB10 := Lib.hid (below_trans' HB9.out hb10)
        clear hb10 hr
        go_wp2_with fail
        with_reducible refine (known_any _ (HM.out.below HP.out HB10.out)).mono ?_
        rintro _ wk ⟨rfl, hbk⟩
        have HBK := Lib.hid (below_trans' HB10.out hbk)
        clear hbk
        go_wp2_with fail
        go_ret
        exact ⟨rfl, HBK.out⟩
      · have h1 : bits .and .i64 n 1 = 0 := by rw [i64_and1, hm2, hp]; rfl
        have SM := Lib.hid (SMg (liB t) (by unfold flN; rw [if_neg (by omega)]))
        have LY := Lib.hid (li_size t)
        have OY : Hid (okW (mkB (liB t)) = true) := Lib.hid (okW_of HW.out (by rw [li_size]; exact h60))
        clear SMg hm2 hp hmod
        go_wp2_with fail
        with_reducible refine (join_any t (mkB T) _ HT.out (by rw [size_mk, L1.out]; have := HM7.out; omega)).mono ?_
        rintro _ w8 ⟨rfl, hb8⟩
        have HB8 := Lib.hid (below_trans' HB6.out hb8)
        clear hb8
        rw [joinR_ok HO.out O1.out (by show ¬ 60 < t.size + T.length; rw [L1.out]; have := H7.out; omega), show liB t ++ liB (mkB T) = liB t ++ T from rfl]
        go_wp2_with fail
        with_reducible refine (same_any (mkB (T ++ liB t)) (mkB (liB t ++ T)) _ (HM.out.below HP.out HB8.out) (by rw [size_mk, List.length_append, L1.out, li_size]; have := H7.out; omega) (by rw [size_mk, List.length_append, L1.out, LY.out]; have := H7.out; omega)).mono ?_
        rintro _ w9 ⟨rfl, hb9⟩
        rw [SM.out]
        have HB9 := Lib.hid (below_trans' HB8.out hb9)
        clear hb9
        go_wp2_with fail
        with_reducible refine (isTwist_any (mkB T) _ (HM.out.below HP.out HB9.out) (by rw [size_mk, L1.out]; have := HM7.out; omega)).mono ?_
        rintro r w10 ⟨hb10, hr⟩
        obtain rfl := hr.ok O1.out HTW.out
        rw [show ([] : List UInt8).isEmpty = true from rfl]
        have HB10 := Lib.hid (below_trans' HB9.out hb10)
        clear hb10 hr
        go_wp2_with fail
        with_reducible refine (known_any _ (HM.out.below HP.out HB10.out)).mono ?_
        rintro _ wk ⟨rfl, hbk⟩
        have HBK := Lib.hid (below_trans' HB10.out hbk)
        clear hbk
        go_wp2_with fail
        go_ret
        exact ⟨rfl, HBK.out⟩
  · with_reducible refine (isTwist_any t _ HM.out HT.out).mono ?_
    rintro r w3 ⟨hb3, hr⟩
    obtain rfl := hr.no hno
    have HB3 := Lib.hid hb3
    have HO := Lib.hid hno
    clear hb3 hr hno
    go_wp2_with fail
    with_reducible refine (refIsTwist_any t _ HT.out).mono ?_
    rintro r w4 ⟨hb4, hr⟩
    obtain rfl := hr.no HO.out
    have HB4 := Lib.hid (below_trans' HB3.out hb4)
    clear hb4 hr
    go_wp2_with fail
    rw [HMB.out]
    with_reducible refine (power_any (mkB [97, 98, 97]) (m : Int) _ (by decide)).mono ?_
    rintro _ w5 ⟨rfl, hb5⟩
    rw [pow_half HM7.out]
    have HB5 := Lib.hid (below_trans' HB4.out hb5)
    have L1 := Lib.hid (twW_len m)
    clear hb5
    generalize twW m = T at L1 ⊢
    go_wp2_with fail
    with_reducible refine (join_any (mkB T) t _ (by rw [size_mk, L1.out]; have := HM7.out; omega) HT.out).mono ?_
    rintro _ w6 ⟨rfl, hb6⟩
    rw [joinR_no2 HO.out]
    have HB6 := Lib.hid (below_trans' HB5.out hb6)
    clear hb6
    rcases (show n % 2 = 1 ∨ n % 2 = 0 by omega) with hp | hp
    · have h1 : bits .and .i64 n 1 = 1 := by rw [i64_and1]; exact hp
      go_wp2_with fail
      with_reducible refine (flip_any t _ HT.out).mono ?_
      rintro _ w7 ⟨rfl, hb7⟩
      have HB7 := Lib.hid (below_trans' HB6.out hb7)
      clear hb7
      unfold ansW
      rw [ansB_no HO.out, ansE_no HO.out]
      go_wp2_with fail
      with_reducible refine (join_any (mkB []) (mkB T) _ (by rw [size_mk]; decide) (by rw [size_mk, L1.out]; have := HM7.out; omega)).mono ?_
      rintro _ w8 ⟨rfl, hb8⟩
      have HB8 := Lib.hid (below_trans' HB7.out hb8)
      clear hb8
      generalize joinR (mkB []) (mkB T) = J
      go_wp2_with fail
      with_reducible refine (known_any _ (HM.out.below HP.out HB8.out)).mono ?_
      rintro _ wk ⟨rfl, hbk⟩
      have HBK := Lib.hid (below_trans' HB8.out hbk)
      clear hbk
      go_wp2_with fail
      go_ret
      exact ⟨rfl, HBK.out⟩
    · have h1 : bits .and .i64 n 1 = 0 := by rw [i64_and1]; exact hp
      go_wp2_with fail
      with_reducible refine (join_any t (mkB T) _ HT.out (by rw [size_mk, L1.out]; have := HM7.out; omega)).mono ?_
      rintro _ w8 ⟨rfl, hb8⟩
      have HB8 := Lib.hid (below_trans' HB6.out hb8)
      clear hb8
      generalize joinR t (mkB T) = J
      go_wp2_with fail
      with_reducible refine (known_any _ (HM.out.below HP.out HB8.out)).mono ?_
      rintro _ wk ⟨rfl, hbk⟩
      have HBK := Lib.hid (below_trans' HB8.out hbk)
      clear hbk
      go_wp2_with fail
      go_ret
      exact ⟨rfl, HBK.out⟩
end Go.Proofs.YtgkgloafjhiakaaDoor
