/- Walks: the law of texts. -/
import Derived.Test.YtfaleddacmbidaaDoorWj
import Derived.Test.YtfaleddacmbidaaDoorW11
namespace Go.Proofs.YtfaleddacmbidaaDoor
open Go.RowKit Go.Sort

set_option maxRecDepth 100000 in
set_option maxHeartbeats 4000000 in
theorem lawTexts (v : FV) (s : ByteArray) (w : World) (hm : MWf w) (hv : v.In w) (_ : s.size ≤ maxLen) :
    Calls Tryd.prog 3 #[v.val, .string s] w fun r w' => r = .returned (.bool true) ∧ Below w.heap.size w w' := by
  have HV := Lib.hid hv
  have HM := Lib.hid hm
  clear hv hm
  go_enter Tryd.func3, Tryd.ntmps3
  dsimp only [FV.val]
  go_wp2_with fail
  obtain ⟨q, hq⟩ : ∃ q, w.heap.size = q := ⟨_, rfl⟩
  have HA : Hid (Box (w.alloc (.cells #[.int .i64 v.f.W, .int .i64 v.f.H, .slice v.A v.n v.c, .slice v.B v.m v.d] 25)) q #[.int .i64 v.f.W, .int .i64 v.f.H, .slice v.A v.n v.c, .slice v.B v.m v.d]) := Lib.hid (by rw [← hq]; exact Box.new _ _ _)
  have HW := Lib.hid (belowA w (.cells #[.int .i64 v.f.W, .int .i64 v.f.H, .slice v.A v.n v.c, .slice v.B v.m v.d] 25))
  rw [hq]
  clear hq
  generalize (w.alloc (.cells #[.int .i64 v.f.W, .int .i64 v.f.H, .slice v.A v.n v.c, .slice v.B v.m v.d] 25)) = w1 at HA HW ⊢
  with_reducible refine (long_any v _ (HV.out.below HW.out)).mono ?_
  rintro _ w2 ⟨rfl, hb2⟩
  have HA2 := Lib.hid (HA.out.below hb2)
  have HW2 := Lib.hid (below_trans' HW.out hb2)
  clear hb2 HA HW
  cases hlong : longF v.f
  case true =>
    go_wp2_with fail
    with_reducible refine (known_any _).mono ?_
    rintro _ w3 ⟨rfl, hb3⟩
    go_wp2_with fail
    go_ret
    exact ⟨rfl, below_trans' HW2.out hb3⟩
  clear hlong
  by_cases hbig : s.size ≤ 5000
  case neg =>
    go_wp2_with fail
    with_reducible refine (known_any _).mono ?_
    rintro _ w3 ⟨rfl, hb3⟩
    go_wp2_with fail
    go_ret
    exact ⟨rfl, below_trans' HW2.out hb3⟩
  have ca := HA2.out.at
  go_wp2_with fail
  with_reducible refine (Format_any v _ (HV.out.below HW2.out)).mono ?_
  rintro _ w3 ⟨rfl, hb3⟩
  have HA3 := Lib.hid (HA2.out.below hb3)
  have HW3 := Lib.hid (below_trans' HW2.out hb3)
  clear hb3 HA2 HW2 ca
  obtain ⟨e, he⟩ : ∃ e, valid v.f = e := ⟨_, rfl⟩
  obtain ⟨t, ht⟩ : ∃ t : ByteArray, (⟨(fmtX v.f).toArray⟩ : ByteArray) = t := ⟨_, rfl⟩
  have HE := Lib.hid he
  have HT := Lib.hid ht
  have HF := Lib.hid (refFormat_any v)
  rw [he, ht] at HF ⊢
  clear he ht
  have ca := HA3.out.at
  go_wp2_with fail
  with_reducible refine (HF.out _ (HV.out.below HW3.out)).mono ?_
  rintro _ w4 ⟨rfl, hb4⟩
  have HA4 := Lib.hid (HA3.out.below hb4)
  have HW4 := Lib.hid (below_trans' HW3.out hb4)
  clear hb4 HA3 HW3 ca HF
  go_wp2_with fail
  with_reducible refine (Parse_any s _ (HM.out.below HW4.out HM.out.sz)).mono ?_
  rintro _ w5 ⟨u, e5, rfl, hp5, hu5, hb5⟩
  have HP5 := Lib.hid hp5
  have HU5 := Lib.hid hu5
  have HA5 := Lib.hid (HA4.out.below hb5)
  have HW5 := Lib.hid (below_trans' HW4.out hb5)
  clear hp5 hu5 hb5 HA4 HW4
  dsimp only [FV.val]
  go_wp2_with fail
  obtain ⟨q6, hq6⟩ : ∃ q, w5.heap.size = q := ⟨_, rfl⟩
  have HB6 : Hid (Box (w5.alloc (.cells #[.int .i64 u.f.W, .int .i64 u.f.H, .slice u.A u.n u.c, .slice u.B u.m u.d] 25)) q6 #[.int .i64 u.f.W, .int .i64 u.f.H, .slice u.A u.n u.c, .slice u.B u.m u.d]) := Lib.hid (by rw [← hq6]; exact Box.new _ _ _)
  have HX := Lib.hid (belowA w5 (.cells #[.int .i64 u.f.W, .int .i64 u.f.H, .slice u.A u.n u.c, .slice u.B u.m u.d] 25))
  have HA6 := Lib.hid (HA5.out.below HX.out)
  have HW6 := Lib.hid (below_trans' HW5.out HX.out)
  have HU6 := Lib.hid (HU5.out.below HX.out)
  rw [hq6]
  clear hq6 HX HA5 HW5 HU5
  generalize (w5.alloc (.cells #[.int .i64 u.f.W, .int .i64 u.f.H, .slice u.A u.n u.c, .slice u.B u.m u.d] 25)) = w6 at HB6 HA6 HW6 HU6 ⊢
  with_reducible refine (refParse_any s _).mono ?_
  rintro _ w7 ⟨y, e7, rfl, hp7, hu7, hb7⟩
  obtain ⟨hy, rfl⟩ := HP5.out.unique hp7
  have HY := Lib.hid hy
  have HY7 := Lib.hid hu7
  have HB7 := Lib.hid (HB6.out.below hb7)
  have HA7 := Lib.hid (HA6.out.below hb7)
  have HW7 := Lib.hid (below_trans' HW6.out hb7)
  have HU7 := Lib.hid (HU6.out.below hb7)
  clear hy hp7 hu7 hb7 HB6 HA6 HW6 HU6
  dsimp only [FV.val]
  obtain ⟨q8, hq8⟩ : ∃ q, w7.heap.size = q := ⟨_, rfl⟩
  have HC8 : Hid (Box (w7.alloc (.cells #[.int .i64 y.f.W, .int .i64 y.f.H, .slice y.A y.n y.c, .slice y.B y.m y.d] 25)) q8 #[.int .i64 y.f.W, .int .i64 y.f.H, .slice y.A y.n y.c, .slice y.B y.m y.d]) := Lib.hid (by rw [← hq8]; exact Box.new _ _ _)
  have HX := Lib.hid (belowA w7 (.cells #[.int .i64 y.f.W, .int .i64 y.f.H, .slice y.A y.n y.c, .slice y.B y.m y.d] 25))
  have HA8 := Lib.hid (HA7.out.below HX.out)
  have HB8 := Lib.hid (HB7.out.below HX.out)
  have HW8 := Lib.hid (below_trans' HW7.out HX.out)
  have HU8 := Lib.hid (HU7.out.below HX.out)
  have HY8 := Lib.hid (HY7.out.below HX.out)
  have cb0 : (w7.alloc (.cells #[.int .i64 y.f.W, .int .i64 y.f.H, .slice y.A y.n y.c, .slice y.B y.m y.d] 25)).cell? ⟨q6, 0, none⟩ = some (.int .i64 u.f.W) := HB8.out.at 0
  have cb1 : (w7.alloc (.cells #[.int .i64 y.f.W, .int .i64 y.f.H, .slice y.A y.n y.c, .slice y.B y.m y.d] 25)).cell? ⟨q6, 1, none⟩ = some (.int .i64 u.f.H) := HB8.out.at 1
  have cb2 : (w7.alloc (.cells #[.int .i64 y.f.W, .int .i64 y.f.H, .slice y.A y.n y.c, .slice y.B y.m y.d] 25)).cell? ⟨q6, 2, none⟩ = some (.slice u.A u.n u.c) := HB8.out.at 2
  have cb3 : (w7.alloc (.cells #[.int .i64 y.f.W, .int .i64 y.f.H, .slice y.A y.n y.c, .slice y.B y.m y.d] 25)).cell? ⟨q6, 3, none⟩ = some (.slice u.B u.m u.d) := HB8.out.at 3
  have cc0 : (w7.alloc (.cells #[.int .i64 y.f.W, .int .i64 y.f.H, .slice y.A y.n y.c, .slice y.B y.m y.d] 25)).cell? ⟨q8, 0, none⟩ = some (.int .i64 y.f.W) := HC8.out.at 0
  have cc1 : (w7.alloc (.cells #[.int .i64 y.f.W, .int .i64 y.f.H, .slice y.A y.n y.c, .slice y.B y.m y.d] 25)).cell? ⟨q8, 1, none⟩ = some (.int .i64 y.f.H) := HC8.out.at 1
  have cc2 : (w7.alloc (.cells #[.int .i64 y.f.W, .int .i64 y.f.H, .slice y.A y.n y.c, .slice y.B y.m y.d] 25)).cell? ⟨q8, 2, none⟩ = some (.slice y.A y.n y.c) := HC8.out.at 2
  have cc3 : (w7.alloc (.cells #[.int .i64 y.f.W, .int .i64 y.f.H, .slice y.A y.n y.c, .slice y.B y.m y.d] 25)).cell? ⟨q8, 3, none⟩ = some (.slice y.B y.m y.d) := HC8.out.at 3
  go_wp2_with fail
  with_reducible refine (same_any u y _ HU8.out HY8.out).mono ?_
  rintro _ w9 ⟨rfl, hb9⟩
  have HS : sameF u.f y.f = true := by rw [HY.out]; simp [sameF]
  have HA9 := Lib.hid (HA8.out.below hb9)
  have HW9 := Lib.hid (below_trans' HW8.out hb9)
  clear hb9 HA8 HB8 HC8 HX HW8 HU8 HY8 HA7 HB7 HW7 HU7 HY7 cb0 cb1 cb2 cb3 cc0 cc1 cc2 cc3 hq8
  rw [HS]
  clear HS
  by_cases he : e = 0
  case neg =>
    go_wp2_with fail
    with_reducible refine (known_any _).mono ?_
    rintro _ w10 ⟨rfl, hb10⟩
    go_wp2_with fail
    go_ret
    exact ⟨rfl, below_trans' HW9.out hb10⟩
  subst he
  have HQ : Hid (ParseR t.data.toList v.f 0) := Lib.hid (by
    have h0 := HE.out
    have h1 : t.data.toList = fmtL v.f := by rw [← HT.out, fmtX, if_pos h0]
    have h2 := fmt_len (okf_of_valid h0)
    rw [h1]
    exact .inr (.inl ⟨by omega, ⟨h0, rfl⟩, rfl⟩))
  have HV9 := Lib.hid (HV.out.below HW9.out)
  go_wp2_with fail
  with_reducible refine (Parse_any t _ (HM.out.below HW9.out HM.out.sz)).mono ?_
  rintro _ w10 ⟨x, e10, rfl, hp10, hx10, hb10⟩
  obtain ⟨hx, rfl⟩ := HQ.out.unique hp10
  have HX := Lib.hid hx
  have HI := Lib.hid hx10
  have HV10 := Lib.hid (HV9.out.below hb10)
  have HA10 := Lib.hid (HA9.out.below hb10)
  have HW10 := Lib.hid (below_trans' HW9.out hb10)
  clear hx hp10 hx10 hb10 HA9 HW9 HV9
  dsimp only [FV.val]
  obtain ⟨q11, hq11⟩ : ∃ q, w10.heap.size = q := ⟨_, rfl⟩
  have HC11 : Hid (Box (w10.alloc (.cells #[.int .i64 x.f.W, .int .i64 x.f.H, .slice x.A x.n x.c, .slice x.B x.m x.d] 25)) q11 #[.int .i64 x.f.W, .int .i64 x.f.H, .slice x.A x.n x.c, .slice x.B x.m x.d]) := Lib.hid (by rw [← hq11]; exact Box.new _ _ _)
  have HN := Lib.hid (belowA w10 (.cells #[.int .i64 x.f.W, .int .i64 x.f.H, .slice x.A x.n x.c, .slice x.B x.m x.d] 25))
  have HA11 := Lib.hid (HA10.out.below HN.out)
  have HW11 := Lib.hid (below_trans' HW10.out HN.out)
  have HV11 := Lib.hid (HV10.out.below HN.out)
  have HX11 := Lib.hid (HI.out.below HN.out)
  have cb0 : (w10.alloc (.cells #[.int .i64 x.f.W, .int .i64 x.f.H, .slice x.A x.n x.c, .slice x.B x.m x.d] 25)).cell? ⟨q, 0, none⟩ = some (.int .i64 v.f.W) := HA11.out.at 0
  have cb1 : (w10.alloc (.cells #[.int .i64 x.f.W, .int .i64 x.f.H, .slice x.A x.n x.c, .slice x.B x.m x.d] 25)).cell? ⟨q, 1, none⟩ = some (.int .i64 v.f.H) := HA11.out.at 1
  have cb2 : (w10.alloc (.cells #[.int .i64 x.f.W, .int .i64 x.f.H, .slice x.A x.n x.c, .slice x.B x.m x.d] 25)).cell? ⟨q, 2, none⟩ = some (.slice v.A v.n v.c) := HA11.out.at 2
  have cb3 : (w10.alloc (.cells #[.int .i64 x.f.W, .int .i64 x.f.H, .slice x.A x.n x.c, .slice x.B x.m x.d] 25)).cell? ⟨q, 3, none⟩ = some (.slice v.B v.m v.d) := HA11.out.at 3
  have cc0 : (w10.alloc (.cells #[.int .i64 x.f.W, .int .i64 x.f.H, .slice x.A x.n x.c, .slice x.B x.m x.d] 25)).cell? ⟨q11, 0, none⟩ = some (.int .i64 x.f.W) := HC11.out.at 0
  have cc1 : (w10.alloc (.cells #[.int .i64 x.f.W, .int .i64 x.f.H, .slice x.A x.n x.c, .slice x.B x.m x.d] 25)).cell? ⟨q11, 1, none⟩ = some (.int .i64 x.f.H) := HC11.out.at 1
  have cc2 : (w10.alloc (.cells #[.int .i64 x.f.W, .int .i64 x.f.H, .slice x.A x.n x.c, .slice x.B x.m x.d] 25)).cell? ⟨q11, 2, none⟩ = some (.slice x.A x.n x.c) := HC11.out.at 2
  have cc3 : (w10.alloc (.cells #[.int .i64 x.f.W, .int .i64 x.f.H, .slice x.A x.n x.c, .slice x.B x.m x.d] 25)).cell? ⟨q11, 3, none⟩ = some (.slice x.B x.m x.d) := HC11.out.at 3
  go_wp2_with fail
  with_reducible refine (same_any x v _ HX11.out HV11.out).mono ?_
  rintro _ w12 ⟨rfl, hb12⟩
  have HS : sameF x.f v.f = true := by rw [← HX.out]; simp [sameF]
  have HW12 := Lib.hid (below_trans' HW11.out hb12)
  rw [HS]
  clear HS
  go_wp2_with fail
  with_reducible refine (known_any _).mono ?_
  rintro _ w13 ⟨rfl, hb13⟩
  go_wp2_with fail
  go_ret
  exact ⟨rfl, below_trans' HW12.out hb13⟩
end Go.Proofs.YtfaleddacmbidaaDoor
