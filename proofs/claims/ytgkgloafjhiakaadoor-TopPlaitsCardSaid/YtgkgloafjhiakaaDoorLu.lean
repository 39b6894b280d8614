/- The law of what undoes a word, walked. -/
import Derived.Test.YtgkgloafjhiakaaDoorLm
import Derived.Test.YtgkgloafjhiakaaDoorS1
import Derived.Laws.BitsLemmas
namespace Go.Proofs.YtgkgloafjhiakaaDoor
open Go.RowKit Go.Sort

theorem i64_and7 (n : Int) : bits .and .i64 n 7 = n % 8 := by
  have h7 : (BitVec.ofInt 64 7).toNat = 2 ^ 3 - 1 := by decide
  have key : (BitVec.ofInt 64 n &&& BitVec.ofInt 64 7).toNat = (n % ((2 ^ 64 : Nat) : Int)).toNat % 2 ^ 3 := by
    rw [BitVec.toNat_and, BitVec.toNat_ofInt, h7, Nat.and_two_pow_sub_one_eq_mod]
  show IntKind.i64.wrap ((BitVec.ofInt 64 n &&& BitVec.ofInt 64 7).toNat : Nat) = n % 8
  rw [key, IntKind.wrap_i64]
  omega
theorem i64_and1 (n : Int) : bits .and .i64 n 1 = n % 2 := by
  have h7 : (BitVec.ofInt 64 1).toNat = 2 ^ 1 - 1 := by decide
  have key : (BitVec.ofInt 64 n &&& BitVec.ofInt 64 1).toNat = (n % ((2 ^ 64 : Nat) : Int)).toNat % 2 ^ 1 := by
    rw [BitVec.toNat_and, BitVec.toNat_ofInt, h7, Nat.and_two_pow_sub_one_eq_mod]
  show IntKind.i64.wrap ((BitVec.ofInt 64 n &&& BitVec.ofInt 64 1).toNat : Nat) = n % 2
  rw [key, IntKind.wrap_i64]
  omega
theorem and7 (n : Int) : ∃ m : Nat, m ≤ 7 ∧ bits .and .i64 n 7 = (m : Int) ∧ n % 8 = (m : Int) :=
  ⟨(n % 8).toNat, by omega, by rw [i64_and7]; omega, by omega⟩
theorem okW_of {l : List UInt8} (h : wordL l) (hl : l.length ≤ 60) : okW (mkB l) = true := okW_iff.2 ⟨by rw [size_mk]; exact hl, by rw [li_mk]; exact h⟩
theorem same_nil {l : List UInt8} (h : Nil l) (hw : wordL l) (hl : l.length ≤ 60) : sameR (mkB l) (mkB []) = (true, 0) := by
  rw [sameR_ok (okW_of hw hl) (by decide)]
  unfold sameP
  rw [decide_eq_true ⟨h.1, h.2⟩]
theorem powR_small {t : ByteArray} {n : Int} (h : okW t = true) (hn : -7 ≤ n ∧ n ≤ 7) : powR t n = if 60 < t.size * n.natAbs then ([], 4) else (rep n.natAbs (if n < 0 then inL (liB t) else liB t), 0) := by
  by_cases h2 : t.size = 0 ∨ n = 0
  · rw [powR_nil h h2]
    have h0 : t.size * n.natAbs = 0 := by rcases h2 with h2 | h2 <;> rw [h2] <;> simp
    rw [h0, if_neg (by omega)]
    have hr : (rep n.natAbs (if n < 0 then inL (liB t) else liB t)).length = 0 := by
      rw [rep_length]
      have : (if n < 0 then inL (liB t) else liB t).length = t.size := by
        split
        · rw [inL_length, li_size]
        · exact li_size t
      rw [this, Nat.mul_comm]; exact h0
    rw [List.length_eq_zero_iff.1 hr]
  · by_cases h4 : 60 < t.size * n.natAbs
    · rw [powR_long h h2 (by omega) h4, if_pos h4]
    · rw [powR_ok h h2 (by omega) h4, if_neg h4]
theorem ansB_word {t : ByteArray} {l : List UInt8} (h : okW t = true) : ansB t l = mkB l := ansB_ok h l
set_option maxRecDepth 100000 in
set_option maxHeartbeats 8000000 in
theorem undoes_any (t : ByteArray) (n : Int) (_hn : -9223372036854775808 ≤ n ∧ n ≤ 9223372036854775807) (w : World) (hm : MX w) : Calls Tryd.prog 12 #[.string t, .int .i64 n] w fun r w' => r = .returned (.bool true) ∧ Below w.heap.size w w' := by
  have HM := Lib.hid hm
  have HP := Lib.hid hm.lt
  clear hm
  go_enter Tryd.func12, Tryd.ntmps12
  go_wp2_with fail
  with_reducible refine (long_any t _).mono ?_
  rintro _ w1 ⟨rfl, rfl⟩
  by_cases h1 : 200 < t.size
  · rw [decide_eq_true h1]
    clear h1
    go_wp2_with fail
    with_reducible refine (known_any _ HM.out).mono ?_
    rintro _ wk ⟨rfl, hbk⟩
    have HBK := Lib.hid (hbk)
    clear hbk
    go_wp2_with fail
    go_ret
    exact ⟨rfl, HBK.out⟩
  rw [decide_eq_false h1]
  have HT := Lib.hid (show t.size ≤ 1000000 by omega)
  clear h1
  go_wp2_with fail
  with_reducible refine (inverse_any t _ HT.out).mono ?_
  rintro _ w3 ⟨rfl, hb3⟩
  have HB3 := Lib.hid hb3
  clear hb3
  unfold ansW
  rcases Bool.eq_false_or_eq_true (okW t) with hok | hno
  · rw [ansB_ok hok, ansE_ok hok]
    have hW := (okW_iff.1 hok).2
    have h60 := (okW_iff.1 hok).1
    have HO := Lib.hid hok
    have HI : Hid ((inL (liB t)).length = t.size) := Lib.hid (by rw [inL_length, li_size])
    have HWI := Lib.hid (wordL_in hW)
    have HW := Lib.hid hW
    clear hok hW
    go_wp2_with fail
    with_reducible refine (join_any t (mkB (inL (liB t))) _ HT.out (by rw [size_mk, HI.out]; exact HT.out)).mono ?_
    rintro _ w4 ⟨rfl, hb4⟩
    have HB4 := Lib.hid (below_trans' HB3.out hb4)
    clear hb4
    have oki : Hid (okW (mkB (inL (liB t))) = true) := Lib.hid (okW_of HWI.out (by rw [HI.out]; exact h60))
    by_cases hl : 60 < t.size + t.size
    · rw [joinR_long HO.out oki.out (by show 60 < t.size + (inL (liB t)).length; rw [HI.out]; exact hl)]
      go_wp2_with fail
      with_reducible refine (known_any _ (HM.out.below HP.out HB4.out)).mono ?_
      rintro _ wk ⟨rfl, hbk⟩
      have HBK := Lib.hid (below_trans' HB4.out hbk)
      clear hbk
      go_wp2_with fail
      go_ret
      exact ⟨rfl, HBK.out⟩
    · rw [joinR_ok HO.out oki.out (by show ¬ 60 < t.size + (inL (liB t)).length; rw [HI.out]; exact hl), show liB (mkB (inL (liB t))) = inL (liB t) from rfl]
      have HJ : Hid ((liB t ++ inL (liB t)).length ≤ 60) := Lib.hid (by rw [List.length_append, HI.out, li_size]; omega)
      have HS := Lib.hid (same_nil (nil_inv HW.out) (wordL_append HW.out HWI.out) HJ.out)
      go_wp2_with fail
      with_reducible refine (same_any (mkB (liB t ++ inL (liB t))) (mkB []) _ (HM.out.below HP.out HB4.out) (by rw [size_mk]; have := HJ.out; omega) (by decide)).mono ?_
      rintro _ w5 ⟨rfl, hb5⟩
      rw [HS.out]
      have HB5 := Lib.hid (below_trans' HB4.out hb5)
      clear hb5
      go_wp2_with fail
      obtain ⟨m, hm7, hb, _⟩ := and7 n
      rw [hb]
      clear HI
      with_reducible refine (power_any t (m : Int) _ HT.out).mono ?_
      rintro _ w6 ⟨rfl, hb6⟩
      have HB6 := Lib.hid (below_trans' HB5.out hb6)
      clear hb6
      have P1 := Lib.hid (powR_small (n := (m : Int)) HO.out ⟨by omega, by omega⟩)
      have P2 := Lib.hid (powR_small (n := -(m : Int)) HO.out ⟨by omega, by omega⟩)
      rw [Int.natAbs_neg, Int.natAbs_natCast] at P2
      rw [Int.natAbs_natCast, if_neg (show ¬ ((m : Int) < 0) by omega)] at P1
      by_cases h7 : 60 < t.size * m
      · rw [if_pos h7] at P1 P2
        rw [P1.out]
        clear h7
        go_wp2_with fail
        with_reducible refine (power_any t (-(m : Int)) _ HT.out).mono ?_
        rintro _ w7 ⟨rfl, hb7⟩
        have HB7 := Lib.hid (below_trans' HB6.out hb7)
        clear hb7
        rw [P2.out]
        go_wp2_with fail
        with_reducible refine (join_any (mkB []) (mkB []) _ (by decide) (by decide)).mono ?_
        rintro _ w8 ⟨rfl, hb8⟩
        have HB8 := Lib.hid (below_trans' HB7.out hb8)
        clear hb8
        generalize joinR (mkB []) (mkB []) = J
        go_wp2_with fail
        with_reducible refine (known_any _ (HM.out.below HP.out HB8.out)).mono ?_
        rintro _ wk ⟨rfl, hbk⟩
        have HBK := Lib.hid (below_trans' HB8.out hbk)
        clear hbk
        go_wp2_with fail
        go_ret
        exact ⟨rfl, HBK.out⟩
      · rw [if_neg h7] at P1 P2
        have hin : rep m (if -(m : Int) < 0 then inL (liB t) else liB t) = rep m (inL (liB t)) := by
          by_cases h0 : m = 0
          · subst h0; rfl
          · rw [if_pos (by omega)]
        rw [hin] at P2
        clear hin
        rw [P1.out]
        have L1 := Lib.hid (show (rep m (liB t)).length = t.size * m by rw [rep_length, li_size, Nat.mul_comm])
        have L2 := Lib.hid (show (rep m (inL (liB t))).length = t.size * m by rw [rep_length, inL_length, li_size, Nat.mul_comm])
        have W1 := Lib.hid (wordL_rep m HW.out)
        have W2 := Lib.hid (wordL_rep m HWI.out)
        have NN := Lib.hid (nil_rep HW.out m)
        generalize rep m (liB t) = R1 at L1 W1 NN ⊢
        generalize rep m (inL (liB t)) = R2 at L2 W2 NN P2
        generalize t.size * m = S at h7 L1 L2
        have h7' := Lib.hid h7
        clear h7
        go_wp2_with fail
        with_reducible refine (power_any t (-(m : Int)) _ HT.out).mono ?_
        rintro _ w7 ⟨rfl, hb7⟩
        have HB7 := Lib.hid (below_trans' HB6.out hb7)
        clear hb7
        rw [P2.out]
        go_wp2_with fail
        with_reducible refine (join_any (mkB R1) (mkB R2) _ (by rw [size_mk, L1.out]; have := h7'.out; omega) (by rw [size_mk, L2.out]; have := h7'.out; omega)).mono ?_
        rintro _ w8 ⟨rfl, hb8⟩
        have HB8 := Lib.hid (below_trans' HB7.out hb8)
        clear hb8
        have O1 := Lib.hid (okW_of W1.out (by rw [L1.out]; have := h7'.out; omega))
        have O2 := Lib.hid (okW_of W2.out (by rw [L2.out]; have := h7'.out; omega))
        by_cases h8 : 60 < S + S
        · rw [joinR_long O1.out O2.out (by show 60 < R1.length + R2.length; rw [L1.out, L2.out]; exact h8)]
          clear h8
          go_wp2_with fail
          with_reducible refine (known_any _ (HM.out.below HP.out HB8.out)).mono ?_
          rintro _ wk ⟨rfl, hbk⟩
          have HBK := Lib.hid (below_trans' HB8.out hbk)
          clear hbk
          go_wp2_with fail
          go_ret
          exact ⟨rfl, HBK.out⟩
        · rw [joinR_ok O1.out O2.out (by show ¬ 60 < R1.length + R2.length; rw [L1.out, L2.out]; exact h8), show liB (mkB R1) ++ liB (mkB R2) = R1 ++ R2 from rfl]
          have HJ2 : Hid ((R1 ++ R2).length ≤ 60) := Lib.hid (by rw [List.length_append, L1.out, L2.out]; omega)
          have HS2 := Lib.hid (same_nil NN.out (wordL_append W1.out W2.out) HJ2.out)
          clear h8
          go_wp2_with fail
          with_reducible refine (same_any (mkB (R1 ++ R2)) (mkB []) _ (HM.out.below HP.out HB8.out) (by rw [size_mk]; have := HJ2.out; omega) (by decide)).mono ?_
          rintro _ w9 ⟨rfl, hb9⟩
          rw [HS2.out]
          have HB9 := Lib.hid (below_trans' HB8.out hb9)
          clear hb9
          go_wp2_with fail
          with_reducible refine (known_any _ (HM.out.below HP.out HB9.out)).mono ?_
          rintro _ wk ⟨rfl, hbk⟩
          have HBK := Lib.hid (below_trans' HB9.out hbk)
          clear hbk
          go_wp2_with fail
          go_ret
          exact ⟨rfl, HBK.out⟩
  · rw [ansB_no hno, ansE_no hno]
    have HO := Lib.hid hno
    clear hno
    go_wp2_with fail
    with_reducible refine (join_any t (mkB []) _ HT.out (by decide)).mono ?_
    rintro _ w4 ⟨rfl, hb4⟩
    rw [joinR_no1 HO.out]
    have HB4 := Lib.hid (below_trans' HB3.out hb4)
    clear hb4
    go_wp2_with fail
    with_reducible refine (known_any _ (HM.out.below HP.out HB4.out)).mono ?_
    rintro _ wk ⟨rfl, hbk⟩
    have HBK := Lib.hid (below_trans' HB4.out hbk)
    clear hbk
    go_wp2_with fail
    go_ret
    exact ⟨rfl, HBK.out⟩
end Go.Proofs.YtgkgloafjhiakaaDoor
