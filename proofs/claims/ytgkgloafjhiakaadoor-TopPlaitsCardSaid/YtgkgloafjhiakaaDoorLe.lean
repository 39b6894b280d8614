/- The law of ends, walked. -/
import Derived.Test.YtgkgloafjhiakaaDoorN5
import Derived.Test.YtgkgloafjhiakaaDoorC1
import Derived.Test.YtgkgloafjhiakaaDoorE1
namespace Go.Proofs.YtgkgloafjhiakaaDoor
open Go.RowKit Go.Sort

theorem eqi47 (a b : T3) (d : Nat) (w : World) : (Op.equalIn (d + 2) 47 (tval a) (tval b)).run Tryd.prog w = .ok (decide (a = b)) w := by
  obtain ⟨i, hi⟩ := info3i
  rw [run_equalIn_array w (d + 1) _ _ (show Tryd.prog.underlying 47 = some (.array 3 3) by kernel_rfl) hi]
  have hc : Tryd.prog.cellsOf 3 = 1 := by kernel_rfl
  have h3 : Tryd.prog.underlying 3 = some (.int .i64) := by kernel_rfl
  rw [hc]
  obtain ⟨a1, a2, a3⟩ := a
  obtain ⟨b1, b2, b3⟩ := b
  have hr : List.range 3 = [0, 1, 2] := rfl
  rw [hr]
  simp [go_sem, Op.eqItems, h3]
  by_cases h1 : a1 = b1 <;> by_cases h2 : a2 = b2 <;> by_cases h3 : a3 = b3 <;> simp [h1, h2, h3] <;> omega
theorem eql47 (a b : T3) (w : World) : (binOp .eql 47 (tval a) (tval b)).run Tryd.prog w = .ok (.bool (decide (a = b))) w := by
  rw [run_eql_struct, eqi47 a b 9998 w]; rfl
theorem neq47 (a b : T3) (w : World) : (binOp .neq 47 (tval a) (tval b)).run Tryd.prog w = .ok (.bool (!decide (a = b))) w := by
  rw [run_neq_struct, eqi47 a b 9998 w]; rfl
theorem neq47s (a : T3) (w : World) : (binOp .neq 47 (tval a) (tval a)).run Tryd.prog w = .ok (.bool false) w := by rw [neq47, decide_eq_true rfl]; rfl
theorem tri2 (w : World) (a b : T3) : TriAt ((w.alloc (.cells (tcs a) 47)).alloc (.cells (tcs b) 47)) w.heap.size a ∧ TriAt ((w.alloc (.cells (tcs a) 47)).alloc (.cells (tcs b) 47)) (w.heap.size + 1) b := by
  have s1 : (w.alloc (.cells (tcs a) 47)).heap.size = w.heap.size + 1 := by simp
  exact ⟨(TriAt.new w a).below (belowA _ _), by rw [← s1]; exact TriAt.new _ b⟩
set_option maxRecDepth 100000 in
set_option maxHeartbeats 8000000 in
theorem ends_law (t : ByteArray) (w : World) (hm : MX w) : Calls Tryd.prog 15 #[.string t] w fun r w' => r = .returned (.bool true) ∧ Below w.heap.size w w' := by
  have HM := Lib.hid hm
  have HP := Lib.hid hm.lt
  clear hm
  go_enter Tryd.func15, Tryd.ntmps15
  go_wp2_with fail
  with_reducible refine (long_any t _).mono ?_
  rintro _ w1 ⟨rfl, rfl⟩
  by_cases h1 : 200 < t.size
  · rw [decide_eq_true h1]
    clear h1
    go_wp2_with fail
    with_reducible refine (known_any _ HM.out).mono ?_
    rintro _ wk ⟨rfl, hbk⟩
    have HBK := Lib.hid (hbk)
    clear hbk
    go_wp2_with fail
    go_ret
    exact ⟨rfl, HBK.out⟩
  rw [decide_eq_false h1]
  have HT := Lib.hid (show t.size ≤ 1000000 by omega)
  clear h1
  have hcase : (ansE t = 1) ∨ (ansE t = 0 ∧ t.size ≤ 60 ∧ sum3 (overR t) = t.size ∧ sum3 (underR t) = t.size ∧ sum3 (endsR t) = 3) := by
    rcases Bool.eq_false_or_eq_true (okW t) with h | h
    · obtain ⟨s1, s2⟩ := runL_sums (liB t)
      rw [li_size] at s1 s2
      exact .inr ⟨ansE_ok h, (okW_iff.1 h).1, by rw [overR_ok h]; exact s1, by rw [underR_ok h]; exact s2, by rw [endsR_ok h]; exact perm_sum (endsL_perm _)⟩
    · exact .inl (ansE_no h)
  obtain ⟨E, hE⟩ : ∃ E, ansE t = E := ⟨_, rfl⟩
  obtain ⟨A, hA⟩ : ∃ A, endsR t = A := ⟨_, rfl⟩
  obtain ⟨O, hO⟩ : ∃ O, overR t = O := ⟨_, rfl⟩
  obtain ⟨U, hU⟩ : ∃ U, underR t = U := ⟨_, rfl⟩
  obtain ⟨RN, hR⟩ : ∃ R, ringR t = R := ⟨_, rfl⟩
  obtain ⟨CR, hC⟩ : ∃ C, crossR t = C := ⟨_, rfl⟩
  rw [hE, hA, hO, hU] at hcase
  have HCA := Lib.hid hcase
  have e1 := ends_any t
  have e2 := refEnds_any t
  have e3 := rings_any t
  have e4 := refRings_any t
  have e5 := crossings_any t
  have e6 := refCrossings_any t
  have e7 := shadow_any t
  have e8 := refShadow_any t
  rw [hE] at e1 e2 e3 e4 e5 e6 e7 e8
  rw [hA] at e1 e2
  rw [hR] at e3 e4
  rw [hC] at e5 e6
  rw [hO, hU] at e7 e8
  have E1 := Lib.hid e1
  have E2 := Lib.hid e2
  have E3 := Lib.hid e3
  have E4 := Lib.hid e4
  have E5 := Lib.hid e5
  have E6 := Lib.hid e6
  have E7 := Lib.hid e7
  have E8 := Lib.hid e8
  clear e1 e2 e3 e4 e5 e6 e7 e8 hE hA hO hU hR hC hcase
  go_wp2_with fail
  with_reducible refine (E1.out _ HT.out).mono ?_
  rintro _ w3 ⟨rfl, hb3⟩
  have HB3 := Lib.hid hb3
  clear hb3
  go_wp2_with fail
  have HA := Lib.hid (TriAt.new w3 A)
  have HB4 := Lib.hid (below_trans' HB3.out (belowA w3 (.cells (tcs A) 47)))
  generalize w3.alloc (.cells (tcs A) 47) = w4 at HA HB4 ⊢
  generalize w3.heap.size = Y1 at HA ⊢
  with_reducible refine (E2.out _ HT.out).mono ?_
  rintro _ w5 ⟨rfl, hb5⟩
  have HA5 := Lib.hid (HA.out.below hb5)
  have HB5 := Lib.hid (below_trans' HB4.out hb5)
  clear hb5 HA HB4 HB3
  go_wp2_with fail
  have HA6 := Lib.hid (HA5.out.below (belowA w5 (.cells (tcs A) 47)))
  have HD6 := Lib.hid (TriAt.new w5 A)
  have HB6 := Lib.hid (below_trans' HB5.out (belowA w5 (.cells (tcs A) 47)))
  generalize w5.alloc (.cells (tcs A) 47) = w6 at HA6 HD6 HB6 ⊢
  generalize w5.heap.size = Y2 at HD6 ⊢
  clear HA5 HB5
  with_reducible refine (E3.out _ HT.out).mono ?_
  rintro _ w7 ⟨rfl, hb7⟩
  have HA7 := Lib.hid (HA6.out.below hb7)
  have HD7 := Lib.hid (HD6.out.below hb7)
  have HB7 := Lib.hid (below_trans' HB6.out hb7)
  clear hb7 HA6 HD6 HB6
  go_wp2_with fail
  with_reducible refine (E4.out _ HT.out).mono ?_
  rintro _ w8 ⟨rfl, hb8⟩
  have HA8 := Lib.hid (HA7.out.below hb8)
  have HD8 := Lib.hid (HD7.out.below hb8)
  have HB8 := Lib.hid (below_trans' HB7.out hb8)
  clear hb8 HA7 HD7 HB7
  go_wp2_with fail
  with_reducible refine (E5.out _ HT.out).mono ?_
  rintro _ w9 ⟨rfl, hb9⟩
  have HA9 := Lib.hid (HA8.out.below hb9)
  have HD9 := Lib.hid (HD8.out.below hb9)
  have HB9 := Lib.hid (below_trans' HB8.out hb9)
  clear hb9 HA8 HD8 HB8
  go_wp2_with fail
  with_reducible refine (E6.out _ HT.out).mono ?_
  rintro _ w10 ⟨rfl, rfl⟩
  go_wp2_with fail
  with_reducible refine (E7.out _ HT.out).mono ?_
  rintro _ w11 ⟨rfl, hb11⟩
  have HA11 := Lib.hid (HA9.out.below hb11)
  have HD11 := Lib.hid (HD9.out.below hb11)
  have HB11 := Lib.hid (below_trans' HB9.out hb11)
  clear hb11 HA9 HD9 HB9
  go_wp2_with fail
  have k := belowAA w11 (.cells (tcs O) 47) (.cells (tcs U) 47)
  obtain ⟨tO, tU⟩ := tri2 w11 O U
  have HA12 := Lib.hid (HA11.out.below k)
  have HD12 := Lib.hid (HD11.out.below k)
  have HB12 := Lib.hid (below_trans' HB11.out k)
  have HO12 := Lib.hid tO
  have HU12 := Lib.hid tU
  clear k tO tU HA11 HD11 HB11
  generalize (w11.alloc (.cells (tcs O) 47)).alloc (.cells (tcs U) 47) = w12 at HA12 HD12 HB12 HO12 HU12 ⊢
  generalize w11.heap.size = Y3 at HO12 HU12 ⊢
  with_reducible refine (E8.out _ HT.out).mono ?_
  rintro _ w13 ⟨rfl, hb13⟩
  have HA13 := Lib.hid (HA12.out.below hb13)
  have HD13 := Lib.hid (HD12.out.below hb13)
  have HO13 := Lib.hid (HO12.out.below hb13)
  have HU13 := Lib.hid (HU12.out.below hb13)
  have HB13 := Lib.hid (below_trans' HB12.out hb13)
  clear hb13 HA12 HD12 HB12 HO12 HU12
  have k := belowAA w13 (.cells (tcs O) 47) (.cells (tcs U) 47)
  obtain ⟨tO, tU⟩ := tri2 w13 O U
  have x1 := (HA13.out.below k).box.2
  have x2 := (HD13.out.below k).box.2
  have x3 := (HO13.out.below k).box.2
  have x4 := (HU13.out.below k).box.2
  have x5 := tO.box.2
  have x6 := tU.box.2
  have HB14 := Lib.hid (below_trans' HB13.out k)
  have N1 := neq47s A
  have N2 := neq47s O
  have N3 := neq47s U
  clear k tO tU HA13 HD13 HO13 HU13 HB13
  obtain ⟨a1, a2, a3⟩ := A
  obtain ⟨o1, o2, o3⟩ := O
  obtain ⟨u1, u2, u3⟩ := U
  rcases HCA.out with e | ⟨e, h60, so, su, sa⟩
  · subst e
    go_wp2_with fail
    with_reducible refine (known_any _ (HM.out.below HP.out HB14.out)).mono ?_
    rintro _ wk ⟨rfl, hbk⟩
    have HBK := Lib.hid (below_trans' HB14.out hbk)
    clear hbk
    go_wp2_with fail
    go_ret
    exact ⟨rfl, HBK.out⟩
  · subst e
    have so' : o1 + o2 + o3 = t.size := so
    have su' : u1 + u2 + u3 = t.size := su
    have sa' : a1 + a2 + a3 = 3 := sa
    have so2 : (o1 : Int) + (o2 : Int) + (o3 : Int) = (t.size : Int) := by omega
    have su2 : (u1 : Int) + (u2 : Int) + (u3 : Int) = (t.size : Int) := by omega
    have sa2 : (a1 : Int) + (a2 : Int) + (a3 : Int) = 3 := by omega
    clear so su sa
    go_wp2_with fail
    with_reducible refine (known_any _ (HM.out.below HP.out HB14.out)).mono ?_
    rintro _ wk ⟨rfl, hbk⟩
    have HBK := Lib.hid (below_trans' HB14.out hbk)
    clear hbk
    go_wp2_with fail
    go_ret
    exact ⟨rfl, HBK.out⟩
end Go.Proofs.YtgkgloafjhiakaaDoor
