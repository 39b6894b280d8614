/- The law of the parts of styles, walked. -/
import Derived.Test.YtgkgloafjhiakaaDoorSp
import Derived.Test.YtgkgloafjhiakaaDoorLu
namespace Go.Proofs.YtgkgloafjhiakaaDoor
open Go.RowKit Go.Sort

def dg : List UInt8 → Bool
  | [] => false
  | c :: _ => isDig c
theorem nd_of {y : List UInt8} (h : dg y = false) : nd y := fun e u hy => by rw [hy] at h; exact h
theorem digit_any (y : List UInt8) (w : World) : Calls Tryd.prog 43 #[.string (mkB y)] w fun r w' => r = .returned (.bool (dg y)) ∧ w' = w := by
  have hs := size_mk y
  cases y with
  | nil =>
    go_enter Tryd.func43, Tryd.ntmps43
    go_wp2_with fail
    go_ret
    exact ⟨rfl, rfl⟩
  | cons c u =>
    have hlt : 0 < (mkB (c :: u)).size := Nat.succ_pos _
    have XN : (mkB (c :: u))[0] = c := rfl
    have hne : ¬ ((mkB (c :: u)).toList = []) := by rw [ByteArray.toList_eq]; simp
    have hem : (mkB (c :: u)).toList.isEmpty = false := by rw [ByteArray.toList_eq]; rfl
    have hd : dg (c :: u) = (decide (48 ≤ c.toNat) && decide (c.toNat ≤ 57)) := rfl
    have HD := Lib.hid hd
    generalize mkB (c :: u) = t at hlt XN hne hem hs ⊢
    clear hd
    by_cases h1 : (48 : Int) ≤ (c.toNat : Int)
    · by_cases h2 : (c.toNat : Int) ≤ 57
      · have HF : Hid (dg (c :: u) = true) := Lib.hid (by rw [HD.out, decide_eq_true (by omega), decide_eq_true (by omega)]; rfl)
        go_enter Tryd.func43, Tryd.ntmps43
        go_wp2_with fail
        go_ret
        exact ⟨by rw [HF.out]; rfl, rfl⟩
      · have HF : Hid (dg (c :: u) = false) := Lib.hid (by rw [HD.out, decide_eq_false (show ¬ c.toNat ≤ 57 by omega), Bool.and_false])
        go_enter Tryd.func43, Tryd.ntmps43
        go_wp2_with fail
        go_ret
        exact ⟨by rw [HF.out]; rfl, rfl⟩
    · have HF : Hid (dg (c :: u) = false) := Lib.hid (by rw [HD.out, decide_eq_false (show ¬ 48 ≤ c.toNat by omega), Bool.false_and])
      go_enter Tryd.func43, Tryd.ntmps43
      go_wp2_with fail
      go_ret
      exact ⟨by rw [HF.out]; rfl, rfl⟩
theorem digits_cut {m : Nat} (h : m ≤ 7) : (⟨#[48, 49, 50, 51, 52, 53, 54, 55]⟩ : ByteArray).extract m (m + 1) = mkB [UInt8.ofNat (48 + m)] := by
  rcases (show m = 0 ∨ m = 1 ∨ m = 2 ∨ m = 3 ∨ m = 4 ∨ m = 5 ∨ m = 6 ∨ m = 7 by omega) with rfl | rfl | rfl | rfl | rfl | rfl | rfl | rfl <;> decide
theorem parseX_any (s : List UInt8) (w : World) (hs : s.length ≤ 9223372036854775807) :
    Calls Tryd.prog 21 #[.string (mkB s)] w fun r w' => r = .returned (.tuple #[.string (mkB (pStyle s).1), .int .i64 (pStyle s).2]) ∧ Below w.heap.size w w' := by
  by_cases h4 : 4000 < s.length
  · have hsz : (mkB s).size = s.length := size_mk s
    have HE : Hid (pStyle s = ([], 4)) := Lib.hid (by unfold pStyle; rw [if_pos h4])
    go_enter Tryd.func21, Tryd.ntmps21
    go_wp2_with fail
    go_ret2
    exact ⟨by rw [HE.out]; rfl, Below.refl _ _⟩
  · exact parseE_any s w (by omega)
theorem pStyle_big {s : List UInt8} (h : 4000 < s.length) : pStyle s = ([], 4) := by unfold pStyle; rw [if_pos h]
set_option maxRecDepth 100000 in
set_option maxHeartbeats 8000000 in
theorem styleParts_any (x : ByteArray) (hx : x.size ≤ maxLen) (y : ByteArray) (hy : y.size ≤ maxLen) (n : Int) (_hn : -9223372036854775808 ≤ n ∧ n ≤ 9223372036854775807) (w : World) (hm : MX w) : Calls Tryd.prog 10 #[.string x, .string y, .int .i64 n] w fun r w' => r = .returned (.bool true) ∧ Below w.heap.size w w' := by
  have HM := Lib.hid hm
  have HP := Lib.hid hm.lt
  clear hm
  obtain ⟨s, rfl⟩ : ∃ s, x = mkB s := ⟨liB x, (mk_li x).symm⟩
  obtain ⟨z, rfl⟩ : ∃ s, y = mkB s := ⟨liB y, (mk_li y).symm⟩
  have hs1 := size_mk s
  have hs2 := size_mk z
  rw [hs1] at hx
  rw [hs2] at hy
  have hx2 : s.length ≤ 9223372036854775807 := hx
  have hy2 : z.length ≤ 9223372036854775807 := hy
  clear hx hy
  obtain ⟨m, hm7, hb, _⟩ := and7 n
  have HM7 := Lib.hid hm7
  have HMB := Lib.hid hb
  clear hm7 hb
  go_enter Tryd.func10, Tryd.ntmps10
  by_cases h1 : (1000 : Int) < RowKit.wrap64 ((s.length : Int) + (z.length : Int))
  · go_wp2_with fail
    with_reducible refine (known_any _ HM.out).mono ?_
    rintro _ wk ⟨rfl, hbk⟩
    have HBK := Lib.hid (hbk)
    clear hbk
    go_wp2_with fail
    go_ret
    exact ⟨rfl, HBK.out⟩
  have HL : Hid (s.length ≤ 4000 → z.length ≤ 4000 → s.length + z.length ≤ 1000) := Lib.hid fun h2 h3 => by
    unfold RowKit.wrap64 at h1
    omega
  have h1b : decide ((1000 : Int) < RowKit.wrap64 ((s.length : Int) + (z.length : Int))) = false := decide_eq_false h1
  go_wp2_with fail
  clear h1 h1b
  with_reducible refine (parseX_any s _ hx2).mono ?_
  rintro _ w3 ⟨rfl, hb3⟩
  have HB3 := Lib.hid hb3
  clear hb3
  obtain ⟨P, hp⟩ : ∃ P, pStyle s = P := ⟨_, rfl⟩
  rw [hp]
  have HPX := Lib.hid hp
  clear hp
  obtain ⟨u, E⟩ := P
  go_wp2_with fail
  with_reducible refine (parseX_any z _ hy2).mono ?_
  rintro _ w4 ⟨rfl, hb4⟩
  have HB4 := Lib.hid (below_trans' HB3.out hb4)
  clear hb4
  obtain ⟨P, hp⟩ : ∃ P, pStyle z = P := ⟨_, rfl⟩
  rw [hp]
  have HPY := Lib.hid hp
  clear hp
  obtain ⟨v, F⟩ := P
  by_cases e1 : E = 0
  · by_cases e2 : F = 0
    · subst e1 e2
      obtain ⟨ls, _, wu, lu⟩ := pStyle_ok HPX.out
      obtain ⟨lz, _, wv, lv⟩ := pStyle_ok HPY.out
      have hsum := HL.out ls lz
      have HWU := Lib.hid wu
      have HWV := Lib.hid wv
      have OU := Lib.hid (okW_of wu lu)
      have OV := Lib.hid (okW_of wv lv)
      have hsu := size_mk u
      have hsv := size_mk v
      clear wu wv
      go_wp2_with fail
      with_reducible refine (parseE_any u _ (by omega)).mono ?_
      rintro _ w5 ⟨rfl, hb5⟩
      rw [pStyle_word HWU.out lu]
      have HB5 := Lib.hid (below_trans' HB4.out hb5)
      clear hb5
      have hap := mk_append s z
      go_wp2_with fail
      clear hap
      with_reducible refine (parseE_any (s ++ z) _ (by rw [List.length_append]; omega)).mono ?_
      rintro _ w6 ⟨rfl, hb6⟩
      have HB6 := Lib.hid (below_trans' HB5.out hb6)
      clear hb6
      obtain ⟨P2, hp⟩ : ∃ P, pStyle (s ++ z) = P := ⟨_, rfl⟩
      rw [hp]
      have HP2 := Lib.hid hp
      clear hp
      obtain ⟨bo, be⟩ := P2
      go_wp2_with fail
      with_reducible refine (join_any (mkB u) (mkB v) _ (by omega) (by omega)).mono ?_
      rintro _ w7 ⟨rfl, hb7⟩
      have HB7 := Lib.hid (below_trans' HB6.out hb7)
      clear hb7
      obtain ⟨J, hj⟩ : ∃ J, joinR (mkB u) (mkB v) = J := ⟨_, rfl⟩
      rw [hj]
      have HJ := Lib.hid hj
      clear hj
      obtain ⟨jw, je⟩ := J
      go_wp2_with fail
      with_reducible refine (digit_any z _).mono ?_
      rintro _ w8 ⟨rfl, rfl⟩
      have hsame : dg z = false → bo = jw ∧ be = je := fun hd => by
        have h1 := pStyle_both HPX.out HPY.out (by omega) (nd_of hd)
        rw [HP2.out] at h1
        have h2 := HJ.out
        by_cases h60 : 60 < u.length + v.length
        · rw [if_pos h60] at h1
          rw [joinR_long OU.out OV.out (by show 60 < u.length + v.length; exact h60)] at h2
          cases h1; cases h2; exact ⟨rfl, rfl⟩
        · rw [if_neg h60] at h1
          rw [joinR_ok OU.out OV.out (by show ¬ 60 < u.length + v.length; exact h60)] at h2
          cases h1; cases h2; exact ⟨rfl, rfl⟩
      have hcut := digits_cut HM7.out
      have hpt := pStyle_times HWU.out lu HM7.out
      have hpw := powR_small (n := (m : Int)) OU.out ⟨by omega, by have := HM7.out; omega⟩
      rw [Int.natAbs_natCast, if_neg (show ¬ ((m : Int) < 0) by omega), hsu, Nat.mul_comm, show liB (mkB u) = u from rfl] at hpw
      rw [← hpw] at hpt
      clear hpw
      generalize UInt8.ofNat (48 + m) = D at hcut hpt
      have c1 : ({ data := #[40] } : ByteArray) ++ mkB u = mkB (40 :: u) := mk_append [40] u
      have c2 : mkB (40 :: u) ++ ({ data := #[41] } : ByteArray) = mkB (40 :: (u ++ [41])) := mk_append (40 :: u) [41]
      have c3 : mkB (40 :: (u ++ [41])) ++ mkB [D] = mkB (40 :: (u ++ [41, D])) := by rw [mk_append]; simp
      have c4 : ({ data := #[33, 40] } : ByteArray) ++ mkB u = mkB (33 :: 40 :: u) := mk_append [33, 40] u
      have c5 : mkB (33 :: 40 :: u) ++ ({ data := #[41] } : ByteArray) = mkB (33 :: 40 :: (u ++ [41])) := mk_append (33 :: 40 :: u) [41]
      have c6 : ({ data := #[126, 40] } : ByteArray) ++ mkB u = mkB (126 :: 40 :: u) := mk_append [126, 40] u
      have c7 : mkB (126 :: 40 :: u) ++ ({ data := #[41] } : ByteArray) = mkB (126 :: 40 :: (u ++ [41])) := mk_append (126 :: 40 :: u) [41]
      have c8 : ({ data := #[37, 40] } : ByteArray) ++ mkB u = mkB (37 :: 40 :: u) := mk_append [37, 40] u
      have c9 : mkB (37 :: 40 :: u) ++ ({ data := #[41] } : ByteArray) = mkB (37 :: 40 :: (u ++ [41])) := mk_append (37 :: 40 :: u) [41]
      have HC4 := Lib.hid (And.intro c4 (And.intro c5 (And.intro c6 (And.intro c7 (And.intro c8 c9)))))
      have HC1 := Lib.hid (And.intro hcut (And.intro c1 (And.intro c2 c3)))
      have HPT := Lib.hid hpt
      have HSG := Lib.hid (And.intro (pStyle_sign HWU.out lu (c := 33) (by decide)) (And.intro (pStyle_sign HWU.out lu (c := 126) (by decide)) (pStyle_sign HWU.out lu (c := 37) (by decide))))
      clear hcut hpt c1 c2 c3 c4 c5 c6 c7 c8 c9
      have key : ∀ (K : Prop), K → K := fun _ h => h
      rcases Bool.eq_false_or_eq_true (dg z) with hd | hd
      · rw [hd]
        clear hsame hd key
        have hb := HMB.out
        obtain ⟨hcut, c1, c2, c3⟩ := HC1.out
        have hm7 := HM7.out
        go_wp2_with fail
        clear hb hcut c1 c2 c3 hm7
        with_reducible refine (parseE_any (40 :: (u ++ [41, D])) _ (by simp; omega)).mono ?_
        rintro _ w9 ⟨rfl, hb9⟩
        rw [HPT.out]
        have HB9 := Lib.hid (below_trans' HB7.out hb9)
        clear hb9
        obtain ⟨PW, hpw⟩ : ∃ P, powR (mkB u) (m : Int) = P := ⟨_, rfl⟩
        rw [hpw]
        have HPW := Lib.hid hpw
        clear hpw
        go_wp2_with fail
        with_reducible refine (power_any (mkB u) (m : Int) _ (by omega)).mono ?_
        rintro _ w10 ⟨rfl, hb10⟩
        rw [HPW.out]
        have HB10 := Lib.hid (below_trans' HB9.out hb10)
        clear hb10
        obtain ⟨c4, c5, c6, c7, c8, c9⟩ := HC4.out
        go_wp2_with fail
        with_reducible refine (parseE_any (33 :: 40 :: (u ++ [41])) _ (by simp; omega)).mono ?_
        rintro _ w11 ⟨rfl, hb11⟩
        rw [HSG.out.1]
        have HB11 := Lib.hid (below_trans' HB10.out hb11)
        clear hb11
        go_wp2_with fail
        with_reducible refine (parseE_any (126 :: 40 :: (u ++ [41])) _ (by simp; omega)).mono ?_
        rintro _ w12 ⟨rfl, hb12⟩
        rw [HSG.out.2.1]
        have HB12 := Lib.hid (below_trans' HB11.out hb12)
        clear hb12
        go_wp2_with fail
        with_reducible refine (parseE_any (37 :: 40 :: (u ++ [41])) _ (by simp; omega)).mono ?_
        rintro _ w13 ⟨rfl, hb13⟩
        rw [HSG.out.2.2]
        have HB13 := Lib.hid (below_trans' HB12.out hb13)
        clear hb13 c4 c5 c6 c7 c8 c9
        go_wp2_with fail
        with_reducible refine (inverse_any (mkB u) _ (by omega)).mono ?_
        rintro _ w14 ⟨rfl, hb14⟩
        rw [ansW_ok OU.out, show inL (liB (mkB u)) = signW 33 u from rfl]
        have HB14 := Lib.hid (below_trans' HB13.out hb14)
        clear hb14
        go_wp2_with fail
        with_reducible refine (mirror_any (mkB u) _ (by omega)).mono ?_
        rintro _ w15 ⟨rfl, hb15⟩
        rw [ansW_ok OU.out, show miL (liB (mkB u)) = signW 126 u from rfl]
        have HB15 := Lib.hid (below_trans' HB14.out hb15)
        clear hb15
        go_wp2_with fail
        with_reducible refine (flip_any (mkB u) _ (by omega)).mono ?_
        rintro _ w16 ⟨rfl, hb16⟩
        rw [ansW_ok OU.out, show flL (liB (mkB u)) = signW 37 u from rfl]
        have HB16 := Lib.hid (below_trans' HB15.out hb16)
        clear hb16
        generalize signW 33 u = q1
        generalize signW 126 u = q2
        generalize signW 37 u = q3
        go_wp2_with fail
        with_reducible refine (known_any _ (HM.out.below HP.out HB16.out)).mono ?_
        rintro _ wk ⟨rfl, hbk⟩
        have HBK := Lib.hid (below_trans' HB16.out hbk)
        clear hbk
        go_wp2_with fail
        go_ret
        exact ⟨rfl, HBK.out⟩
      · rw [hd]
        obtain ⟨rfl, rfl⟩ := hsame hd
        clear hsame hd key
        have hb := HMB.out
        obtain ⟨hcut, c1, c2, c3⟩ := HC1.out
        have hm7 := HM7.out
        go_wp2_with fail
        clear hb hcut c1 c2 c3 hm7
        with_reducible refine (parseE_any (40 :: (u ++ [41, D])) _ (by simp; omega)).mono ?_
        rintro _ w9 ⟨rfl, hb9⟩
        rw [HPT.out]
        have HB9 := Lib.hid (below_trans' HB7.out hb9)
        clear hb9
        obtain ⟨PW, hpw⟩ : ∃ P, powR (mkB u) (m : Int) = P := ⟨_, rfl⟩
        rw [hpw]
        have HPW := Lib.hid hpw
        clear hpw
        go_wp2_with fail
        with_reducible refine (power_any (mkB u) (m : Int) _ (by omega)).mono ?_
        rintro _ w10 ⟨rfl, hb10⟩
        rw [HPW.out]
        have HB10 := Lib.hid (below_trans' HB9.out hb10)
        clear hb10
        obtain ⟨c4, c5, c6, c7, c8, c9⟩ := HC4.out
        go_wp2_with fail
        with_reducible refine (parseE_any (33 :: 40 :: (u ++ [41])) _ (by simp; omega)).mono ?_
        rintro _ w11 ⟨rfl, hb11⟩
        rw [HSG.out.1]
        have HB11 := Lib.hid (below_trans' HB10.out hb11)
        clear hb11
        go_wp2_with fail
        with_reducible refine (parseE_any (126 :: 40 :: (u ++ [41])) _ (by simp; omega)).mono ?_
        rintro _ w12 ⟨rfl, hb12⟩
        rw [HSG.out.2.1]
        have HB12 := Lib.hid (below_trans' HB11.out hb12)
        clear hb12
        go_wp2_with fail
        with_reducible refine (parseE_any (37 :: 40 :: (u ++ [41])) _ (by simp; omega)).mono ?_
        rintro _ w13 ⟨rfl, hb13⟩
        rw [HSG.out.2.2]
        have HB13 := Lib.hid (below_trans' HB12.out hb13)
        clear hb13 c4 c5 c6 c7 c8 c9
        go_wp2_with fail
        with_reducible refine (inverse_any (mkB u) _ (by omega)).mono ?_
        rintro _ w14 ⟨rfl, hb14⟩
        rw [ansW_ok OU.out, show inL (liB (mkB u)) = signW 33 u from rfl]
        have HB14 := Lib.hid (below_trans' HB13.out hb14)
        clear hb14
        go_wp2_with fail
        with_reducible refine (mirror_any (mkB u) _ (by omega)).mono ?_
        rintro _ w15 ⟨rfl, hb15⟩
        rw [ansW_ok OU.out, show miL (liB (mkB u)) = signW 126 u from rfl]
        have HB15 := Lib.hid (below_trans' HB14.out hb15)
        clear hb15
        go_wp2_with fail
        with_reducible refine (flip_any (mkB u) _ (by omega)).mono ?_
        rintro _ w16 ⟨rfl, hb16⟩
        rw [ansW_ok OU.out, show flL (liB (mkB u)) = signW 37 u from rfl]
        have HB16 := Lib.hid (below_trans' HB15.out hb16)
        clear hb16
        generalize signW 33 u = q1
        generalize signW 126 u = q2
        generalize signW 37 u = q3
        go_wp2_with fail
        with_reducible refine (known_any _ (HM.out.below HP.out HB16.out)).mono ?_
        rintro _ wk ⟨rfl, hbk⟩
        have HBK := Lib.hid (below_trans' HB16.out hbk)
        clear hbk
        go_wp2_with fail
        go_ret
        exact ⟨rfl, HBK.out⟩
    · have e2' : (F == 0) = false := beq_false_of_ne e2
      subst e1
      go_wp2_with fail
      with_reducible refine (known_any _ (HM.out.below HP.out HB4.out)).mono ?_
      rintro _ wk ⟨rfl, hbk⟩
      have HBK := Lib.hid (below_trans' HB4.out hbk)
      clear hbk
      go_wp2_with fail
      go_ret
      exact ⟨rfl, HBK.out⟩
  · have e1' : (E == 0) = false := beq_false_of_ne e1
    go_wp2_with fail
    with_reducible refine (known_any _ (HM.out.below HP.out HB4.out)).mono ?_
    rintro _ wk ⟨rfl, hbk⟩
    have HBK := Lib.hid (below_trans' HB4.out hbk)
    clear hbk
    go_wp2_with fail
    go_ret
    exact ⟨rfl, HBK.out⟩
end Go.Proofs.YtgkgloafjhiakaaDoor
