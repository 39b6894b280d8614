/- Walks: the law CardSums. -/
import Derived.Test.YtpoodhhajghaoaaGreatDoorFy
namespace Go.Proofs.YtpoodhhajghaoaaGreatDoor
open Go.RowKit Go.Sort

theorem own_reads {w : World} {bl n c : Nat} {A : Option Addr} {xs : List Value} (h : w.ownsRow bl 38 6 (.slice A n c) n xs) : Reads w w.heap.size 6 A n xs := Reads.of_own h
set_option maxRecDepth 100000 in
set_option maxHeartbeats 8000000 in
theorem lawSums (A : Option Addr) (n c : Nat) (es : List Ent) (B : Option Addr) (m d : Nat) (fs : List Ent) (w : World) (hm : MW w) (hl : InE w w A n c es) (hl2 : InE w w B m d fs) :
    Calls Tryz.prog 4 #[.slice A n c, .slice B m d] w fun r w' => r = .returned (.bool true) ∧ Below w.heap.size w w' := by
  have HL := Lib.hid hl
  have HR := Lib.hid hl2
  have HM := Lib.hid hm
  clear hl hl2 hm
  go_enter Tryz.func4, Tryz.ntmps4
  go_wp2_with fail
  with_reducible refine (long_any A n c es _ HL.out.rd).mono ?_
  rintro _ w1 ⟨rfl, hb1⟩
  have HW1 := Lib.hid hb1
  have HM1 := Lib.hid (HM.out.below hb1)
  have HR1 := Lib.hid (HR.out.on hb1)
  clear hb1
  cases hlong : longE es
  case true =>
    go_wp2_with fail
    with_reducible refine (known_any _).mono ?_
    rintro _ wk ⟨rfl, hbk⟩
    go_wp2_with fail
    go_ret
    exact ⟨rfl, below_trans' HW1.out hbk⟩
  have HN := Lib.hid (HL.out.small hlong)
  have HS := Lib.hid (long_no hlong).2
  have HL1 := Lib.hid (HL.out.rd.on HW1.out)
  clear hlong HL HR
  go_wp2_with fail
  with_reducible refine (long_any B m d fs _ HR1.out.rd).mono ?_
  rintro _ w2 ⟨rfl, hb2⟩
  have HW2 := Lib.hid (below_trans' HW1.out hb2)
  have HM2 := Lib.hid (HM1.out.below hb2)
  have HL2 := Lib.hid (HL1.out.on hb2)
  have HR2 := Lib.hid (HR1.out.rd.on hb2)
  clear hb2 HL1
  cases hlong2 : longE fs
  case true =>
    go_wp2_with fail
    with_reducible refine (known_any _).mono ?_
    rintro _ wk ⟨rfl, hbk⟩
    go_wp2_with fail
    go_ret
    exact ⟨rfl, below_trans' HW2.out hbk⟩
  have HN2 := Lib.hid (HR1.out.small hlong2)
  have HS2 := Lib.hid (long_no hlong2).2
  clear hlong2 HR1 HW1 HM1
  go_wp2_with fail
  obtain ⟨x, hx⟩ : ∃ x, mrgL es fs = x := ⟨_, rfl⟩
  obtain ⟨ex, hex⟩ : ∃ e, mrgE es fs = e := ⟨_, rfl⟩
  obtain ⟨y, hy⟩ : ∃ y, meetL es fs = y := ⟨_, rfl⟩
  obtain ⟨ey, hey⟩ : ∃ e, val2 es fs = e := ⟨_, rfl⟩
  have K1 := merge_any A B n m c d es fs w2 HL2.out HR2.out HN.out HN2.out HS.out HS2.out
  have K2 := fun w a b => meet_any A B n m c d es fs w a b HN.out HN2.out HS.out HS2.out
  rw [hx, hex] at K1
  rw [hy, hey] at K2
  have HK2 := Lib.hid K2
  have HX := Lib.hid hx
  have HEX := Lib.hid hex
  have HY := Lib.hid hy
  have HEY := Lib.hid hey
  clear K2 hx hex hy hey
  with_reducible refine K1.mono ?_
  rintro _ w3 ⟨X, dx, rfl, hrx, hb3⟩
  have HW3 := Lib.hid (below_trans' HW2.out hb3)
  have HM3 := Lib.hid (HM2.out.below hb3)
  have HL3 := Lib.hid (HL2.out.on hb3)
  have HR3 := Lib.hid (HR2.out.on hb3)
  have HX3 := Lib.hid (own_reads hrx)
  clear K1 hrx hb3 HW2 HM2 HL2 HR2
  go_wp2_with fail
  with_reducible refine (HK2.out w3 HL3.out HR3.out).mono ?_
  rintro _ w4 ⟨Y, dy, rfl, hry, hb4⟩
  have HWw4 := Lib.hid (below_trans' HW3.out hb4)
  have HMw4 := Lib.hid (HM3.out.below hb4)
  have HL4 := Lib.hid (HL3.out.on hb4)
  have HR4 := Lib.hid (HR3.out.on hb4)
  have HX4 := Lib.hid (HX3.out.on hb4)
  have HY4 := Lib.hid (own_reads hry)
  clear HK2 hry hb4 HW3 HM3 HL3 HR3 HX3
  by_cases he : ex = 0
  case neg =>
    have g := neB he
    clear he
    go_wp2_with fail
    with_reducible refine (known_any _).mono ?_
    rintro _ wk ⟨rfl, hbk⟩
    go_wp2_with fail
    go_ret
    exact ⟨rfl, below_trans' HWw4.out hbk⟩
  have g := neBf he
  obtain ⟨s1, s2, s3, s4, s5, s6, s7⟩ := sums_law (HEX.out.trans he)
  rw [HX.out] at s4 s6 s7
  rw [HY.out] at s5 s6 s7
  rw [HEY.out] at s1
  have q1 := foldX_small es
  have q2 := foldX_small fs
  have q3 := foldX_small x
  have q4 := foldX_small y
  have HSX : Hid (shortT x) := Lib.hid (HX.out ▸ mrgL_short HS.out HS2.out)
  have HSY : Hid (shortT y) := Lib.hid (HY.out ▸ meetL_short HS.out)
  have HNX : Hid (x.length ≤ 1000000) := Lib.hid (by have := mrgL_len es fs; rw [HX.out] at this; omega)
  have HNY : Hid (y.length ≤ 1000000) := Lib.hid (by
    have h1 := meetL_len es fs
    have h2 := HL4.out.1
    rw [ents_length] at h2
    have := HN.out
    rw [HY.out] at h1; omega)
  have F1 := fun w a => Fold_any A n c es w a HN.out HS.out
  have F2 := fun w a => Fold_any B m d fs w a HN2.out HS2.out
  have F3 := fun w a => Fold_any X x.length dx x w a HNX.out HSX.out
  have F4 := fun w a => Fold_any Y y.length dy y w a HNY.out HSY.out
  rw [s2] at F1
  rw [s3] at F2
  rw [s4] at F3
  rw [s5] at F4
  obtain ⟨⟨c1, a1, b1, l1⟩, h1⟩ : ∃ h, foldX es = h := ⟨_, rfl⟩
  obtain ⟨⟨c2, a2, b2, l2⟩, h2⟩ : ∃ h, foldX fs = h := ⟨_, rfl⟩
  obtain ⟨⟨c3, a3, b3, l3⟩, h3⟩ : ∃ h, foldX x = h := ⟨_, rfl⟩
  obtain ⟨⟨c4, a4, b4, l4⟩, h4⟩ : ∃ h, foldX y = h := ⟨_, rfl⟩
  rw [h1] at F1 q1 s6 s7
  rw [h2] at F2 q2 s6 s7
  rw [h3] at F3 q3 s6 s7
  rw [h4] at F4 q4 s6 s7
  unfold hval hcs at F1 F2 F3 F4
  dsimp only at F1 F2 F3 F4 q1 q2 q3 q4 s6 s7
  have HF1 := Lib.hid F1
  have HF2 := Lib.hid F2
  have HF3 := Lib.hid F3
  have HF4 := Lib.hid F4
  have gc : (((c3 : Int) + c4) == ((c1 : Int) + c2)) = true := by simp; omega
  have gb : (((b3 : Int) + b4) == ((b1 : Int) + b2)) = true := by simp; omega
  have GC := Lib.hid gc
  have GB := Lib.hid gb
  obtain ⟨p1, _, p2⟩ := q1
  obtain ⟨p3, _, p4⟩ := q2
  obtain ⟨p5, _, p6⟩ := q3
  obtain ⟨p7, _, p8⟩ := q4
  clear F1 F2 F3 F4 h1 h2 h3 h4 s2 s3 s4 s5 s6 s7 gc gb HX HY HEX HEY HNX HNY HSX HSY HN HN2 HS HS2
  subst he s1
  go_wp2_with fail
  with_reducible refine (HF1.out w4 HL4.out HMw4.out).mono ?_
  rintro _ w5a ⟨rfl, hb⟩
  have HWw5 := Lib.hid (below_trans' HWw4.out (below_trans' hb (belowA w5a (.cells #[.int .i64 c1, .int .i64 a1, .int .i64 b1, .string ⟨l1.toArray⟩] 26))))
  have HMw5 := Lib.hid (HMw4.out.below (below_trans' hb (belowA w5a (.cells #[.int .i64 c1, .int .i64 a1, .int .i64 b1, .string ⟨l1.toArray⟩] 26))))
  replace HR4 := Lib.hid (HR4.out.on (below_trans' hb (belowA w5a (.cells #[.int .i64 c1, .int .i64 a1, .int .i64 b1, .string ⟨l1.toArray⟩] 26))))
  replace HX4 := Lib.hid (HX4.out.on (below_trans' hb (belowA w5a (.cells #[.int .i64 c1, .int .i64 a1, .int .i64 b1, .string ⟨l1.toArray⟩] 26))))
  replace HY4 := Lib.hid (HY4.out.on (below_trans' hb (belowA w5a (.cells #[.int .i64 c1, .int .i64 a1, .int .i64 b1, .string ⟨l1.toArray⟩] 26))))
  have X1 := Lib.hid (Box.new w5a #[.int .i64 c1, .int .i64 a1, .int .i64 b1, .string ⟨l1.toArray⟩] 26)
  clear hb HF1 HWw4 HMw4
  go_wp2_with fail
  generalize w5a.alloc (.cells #[.int .i64 c1, .int .i64 a1, .int .i64 b1, .string ⟨l1.toArray⟩] 26) = w5 at *
  generalize w5a.heap.size = q1 at *
  with_reducible refine (HF2.out w5 HR4.out HMw5.out).mono ?_
  rintro _ w6a ⟨rfl, hb⟩
  have HWw6 := Lib.hid (below_trans' HWw5.out (below_trans' hb (belowA w6a (.cells #[.int .i64 c2, .int .i64 a2, .int .i64 b2, .string ⟨l2.toArray⟩] 26))))
  have HMw6 := Lib.hid (HMw5.out.below (below_trans' hb (belowA w6a (.cells #[.int .i64 c2, .int .i64 a2, .int .i64 b2, .string ⟨l2.toArray⟩] 26))))
  replace HX4 := Lib.hid (HX4.out.on (below_trans' hb (belowA w6a (.cells #[.int .i64 c2, .int .i64 a2, .int .i64 b2, .string ⟨l2.toArray⟩] 26))))
  replace HY4 := Lib.hid (HY4.out.on (below_trans' hb (belowA w6a (.cells #[.int .i64 c2, .int .i64 a2, .int .i64 b2, .string ⟨l2.toArray⟩] 26))))
  replace X1 := Lib.hid (X1.out.below (below_trans' hb (belowA w6a (.cells #[.int .i64 c2, .int .i64 a2, .int .i64 b2, .string ⟨l2.toArray⟩] 26))))
  have X2 := Lib.hid (Box.new w6a #[.int .i64 c2, .int .i64 a2, .int .i64 b2, .string ⟨l2.toArray⟩] 26)
  clear hb HF2 HWw5 HMw5
  go_wp2_with fail
  generalize w6a.alloc (.cells #[.int .i64 c2, .int .i64 a2, .int .i64 b2, .string ⟨l2.toArray⟩] 26) = w6 at *
  generalize w6a.heap.size = q2 at *
  with_reducible refine (HF3.out w6 HX4.out HMw6.out).mono ?_
  rintro _ w7a ⟨rfl, hb⟩
  have HWw7 := Lib.hid (below_trans' HWw6.out (below_trans' hb (belowA w7a (.cells #[.int .i64 c3, .int .i64 a3, .int .i64 b3, .string ⟨l3.toArray⟩] 26))))
  have HMw7 := Lib.hid (HMw6.out.below (below_trans' hb (belowA w7a (.cells #[.int .i64 c3, .int .i64 a3, .int .i64 b3, .string ⟨l3.toArray⟩] 26))))
  replace HY4 := Lib.hid (HY4.out.on (below_trans' hb (belowA w7a (.cells #[.int .i64 c3, .int .i64 a3, .int .i64 b3, .string ⟨l3.toArray⟩] 26))))
  replace X1 := Lib.hid (X1.out.below (below_trans' hb (belowA w7a (.cells #[.int .i64 c3, .int .i64 a3, .int .i64 b3, .string ⟨l3.toArray⟩] 26))))
  replace X2 := Lib.hid (X2.out.below (below_trans' hb (belowA w7a (.cells #[.int .i64 c3, .int .i64 a3, .int .i64 b3, .string ⟨l3.toArray⟩] 26))))
  have X3 := Lib.hid (Box.new w7a #[.int .i64 c3, .int .i64 a3, .int .i64 b3, .string ⟨l3.toArray⟩] 26)
  clear hb HF3 HWw6 HMw6
  go_wp2_with fail
  generalize w7a.alloc (.cells #[.int .i64 c3, .int .i64 a3, .int .i64 b3, .string ⟨l3.toArray⟩] 26) = w7 at *
  generalize w7a.heap.size = q3 at *
  with_reducible refine (HF4.out w7 HY4.out HMw7.out).mono ?_
  rintro _ w8 ⟨rfl, hb⟩
  have HW8 := Lib.hid (below_trans' HWw7.out (below_trans' hb (belowA w8 (.cells #[.int .i64 c4, .int .i64 a4, .int .i64 b4, .string ⟨l4.toArray⟩] 26))))
  have y1 := (X1.out.below (below_trans' hb (belowA w8 (.cells #[.int .i64 c4, .int .i64 a4, .int .i64 b4, .string ⟨l4.toArray⟩] 26)))).at
  have y2 := (X2.out.below (below_trans' hb (belowA w8 (.cells #[.int .i64 c4, .int .i64 a4, .int .i64 b4, .string ⟨l4.toArray⟩] 26)))).at
  have y3 := (X3.out.below (below_trans' hb (belowA w8 (.cells #[.int .i64 c4, .int .i64 a4, .int .i64 b4, .string ⟨l4.toArray⟩] 26)))).at
  have y4 := (Box.new w8 #[.int .i64 c4, .int .i64 a4, .int .i64 b4, .string ⟨l4.toArray⟩] 26).at
  have gc := GC.out
  have gb := GB.out
  clear hb HF4 HWw7 HMw7 X1 X2 X3
  go_wp2_with fail
  with_reducible refine (known_any _).mono ?_
  rintro _ w9 ⟨rfl, hb9⟩
  have HW9 := Lib.hid (below_trans' HW8.out hb9)
  clear hb9
  go_wp2_with fail
  go_ret
  exact ⟨rfl, HW9.out⟩
end Go.Proofs.YtpoodhhajghaoaaGreatDoor
