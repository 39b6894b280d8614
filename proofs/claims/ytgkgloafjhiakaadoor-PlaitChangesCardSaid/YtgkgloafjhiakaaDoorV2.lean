/- The law of changes, walked. -/
import Derived.Test.YtgkgloafjhiakaaDoorPk
import Derived.Test.YtgkgloafjhiakaaDoorV1
import Derived.Test.YtgkgloafjhiakaaDoorLu
import Derived.Test.YtgkgloafjhiakaaDoorC1
import Derived.Test.YtgkgloafjhiakaaDoorLe
namespace Go.Proofs.YtgkgloafjhiakaaDoor
open Go.RowKit Go.Sort

theorem chgL_len (u : List UInt8) (a k : Nat) : (chgL u a k).length ≤ u.length + 2 := by
  have hp : (putC k).length = 2 := by
    unfold putC
    split
    · rfl
    · split
      · rfl
      · split <;> rfl
  unfold chgL
  split
  · simp only [List.length_append, List.length_take, List.length_drop, hp]; omega
  · split
    · omega
    · split
      · simp only [List.length_append, List.length_take, List.length_drop, List.length_cons, List.length_nil]; omega
      · split
        · simp only [List.length_append, List.length_take, List.length_drop, List.length_cons, List.length_nil]; omega
        · omega
set_option maxRecDepth 100000 in
set_option maxHeartbeats 8000000 in
theorem changes_any (t : ByteArray) (A : Option Addr) (n c : Nat) (l : List (Int × Int)) (w : World) (hm : MX w) (hr : Reads w w.heap.size 2 A n (plcs l)) (hn : n ≤ 9223372036854775807) : Calls Tryd.prog 13 #[.string t, .slice A n c] w fun r w' => r = .returned (.bool true) ∧ Below w.heap.size w w' := by
  have HM := Lib.hid hm
  have HP := Lib.hid hm.lt
  have hlen := hr.1
  rw [plcs_length] at hlen
  have hln : l.length = n := by omega
  have HRD := Lib.hid hr
  clear hm hr hlen
  go_enter Tryd.func13, Tryd.ntmps13
  go_wp2_with fail
  with_reducible refine (long_any t _).mono ?_
  rintro _ w1 ⟨rfl, rfl⟩
  by_cases h1 : 200 < t.size
  · rw [decide_eq_true h1]
    clear h1
    go_wp2_with fail
    with_reducible refine (known_any _ HM.out).mono ?_
    rintro _ wk ⟨rfl, hbk⟩
    have HBK := Lib.hid (hbk)
    clear hbk
    go_wp2_with fail
    go_ret
    exact ⟨rfl, HBK.out⟩
  rw [decide_eq_false h1]
  have HT := Lib.hid (show t.size ≤ 1000000 by omega)
  clear h1
  go_wp2_with fail
  with_reducible refine (valid_any t _ HT.out).mono ?_
  rintro _ w2 ⟨rfl, hb2⟩
  have HB2 := Lib.hid hb2
  clear hb2
  rcases Bool.eq_false_or_eq_true (okW t) with hok | hno
  · rw [hok]
    have HO := Lib.hid hok
    clear hok
    by_cases hn100 : 100 < n
    · go_wp2_with fail
      with_reducible refine (known_any _ (HM.out.below HP.out HB2.out)).mono ?_
      rintro _ wk ⟨rfl, hbk⟩
      have HBK := Lib.hid (below_trans' HB2.out hbk)
      clear hbk
      go_wp2_with fail
      go_ret
      exact ⟨rfl, HBK.out⟩
    · go_wp2_with fail
      go_loopw [5, 6] (fun v i wr => ∃ (k : Nat) (u : List UInt8), k ≤ n ∧ i = .int .i64 k ∧ v = .string (mkB u) ∧ Alike (liB t) u ∧ okW (mkB u) = true ∧ Below w1.heap.size w1 wr) (fun _ i _ => n - (intOf i).toNat)
      case atStart => exact ⟨0, liB t, by omega, rfl, by rw [mk_li], .refl _, by rw [mk_li]; exact HO.out, HB2.out⟩
      case round =>
        obtain ⟨k, u, hk, rfl, rfl, hal, hou, hb⟩ := hrel
        have HAL := Lib.hid hal
        have HOU := Lib.hid hou
        have HB3 := Lib.hid hb
        have hu60 : u.length ≤ 60 := (okW_iff.1 hou).1
        clear hal hou hb
        by_cases hlt : k < n
        · obtain ⟨ad, e1, hbk, d0, d1⟩ := eat2 (HRD.out.on HB3.out) (k := k) (by omega)
          have X := fun w => ix43 (c := c) e1 hlt w
          generalize l[k] = q at d0 d1
          obtain ⟨qa, qk⟩ := q
          dsimp only at d0 d1
          clear e1 hbk
          go_wp2_with fail
          with_reducible refine (changed_any u qa qk _ hu60).mono ?_
          rintro _ w3 ⟨⟨i, j, rfl⟩, hb3⟩
          have HB4 := Lib.hid (below_trans' HB3.out hb3)
          have HA2 := Lib.hid (HAL.out.trans (alike_chg u i j))
          have hcl : (chgL u i j).length ≤ 62 := by have := chgL_len u i j; omega
          clear hb3 d0 d1 X
          generalize chgL u i j = v at HA2 hcl ⊢
          go_wp2_with fail
          with_reducible refine (valid_any (mkB v) _ (by rw [size_mk]; omega)).mono ?_
          rintro _ w4 ⟨rfl, hb4⟩
          have HB5 := Lib.hid (below_trans' HB4.out hb4)
          clear hb4
          rcases Bool.eq_false_or_eq_true (okW (mkB v)) with hv | hv
          · rw [hv]
            have HV := Lib.hid hv
            clear hv
            go_wp2_with fail
            go_roundw
            case rel => exact ⟨k + 1, v, by omega, by go_num, rfl, HA2.out, HV.out, HB5.out⟩
            case measure => simp [intOf]; omega
          · rw [hv]
            clear hv
            go_wp2_with fail
            go_roundw
            case rel => exact ⟨k + 1, u, by omega, by go_num, rfl, HAL.out, HOU.out, HB5.out⟩
            case measure => simp [intOf]; omega
        · have HS : Hid (sameR t (mkB u) = (true, 0)) := Lib.hid (by
            rw [sameR_ok HO.out HOU.out]
            unfold sameP
            rw [decide_eq_true ⟨HAL.out.mat, HAL.out.cnt⟩])
          have HE1 : Hid (endsR t = endsL u) := Lib.hid (by rw [endsR_ok HO.out, HAL.out.endsL])
          have HE2 : Hid (endsR (mkB u) = endsL u) := Lib.hid (endsR_ok HOU.out)
          have HC1 : Hid (crossR t = cntL u) := Lib.hid (by unfold crossR; rw [HO.out]; exact HAL.out.cnt)
          have HC2 : Hid (crossR (mkB u) = cntL u) := Lib.hid (by unfold crossR; rw [HOU.out]; rfl)
          have hus := size_mk u
          obtain rfl : k = n := by omega
          go_wp2_with fail
          with_reducible refine (same_any t (mkB u) _ (HM.out.below HP.out HB3.out) HT.out (by omega)).mono ?_
          rintro _ w4 ⟨rfl, hb4⟩
          rw [HS.out]
          have HB4 := Lib.hid (below_trans' HB3.out hb4)
          clear hb4
          go_wp2_with fail
          with_reducible refine (ends_any t _ HT.out).mono ?_
          rintro _ w5 ⟨rfl, hb5⟩
          rw [HE1.out, ansE_ok HO.out]
          have HB5 := Lib.hid (below_trans' HB4.out hb5)
          clear hb5
          generalize endsL u = EE at HE2 ⊢
          go_wp2_with fail
          have HA := Lib.hid (TriAt.new w5 EE)
          have HB6 := Lib.hid (below_trans' HB5.out (belowA w5 (.cells (tcs EE) 47)))
          generalize w5.alloc (.cells (tcs EE) 47) = w6 at HA HB6 ⊢
          generalize w5.heap.size = Y1 at HA ⊢
          with_reducible refine (ends_any (mkB u) _ (by omega)).mono ?_
          rintro _ w7 ⟨rfl, hb7⟩
          rw [HE2.out, ansE_ok HOU.out]
          have HA7 := Lib.hid (HA.out.below hb7)
          have HB7 := Lib.hid (below_trans' HB6.out hb7)
          clear hb7
          go_wp2_with fail
          have HA8 := Lib.hid (HA7.out.below (belowA w7 (.cells (tcs EE) 47)))
          have HD8 := Lib.hid (TriAt.new w7 EE)
          have HB8 := Lib.hid (below_trans' HB7.out (belowA w7 (.cells (tcs EE) 47)))
          generalize w7.alloc (.cells (tcs EE) 47) = w8 at HA8 HD8 HB8 ⊢
          generalize w7.heap.size = Y2 at HD8 ⊢
          with_reducible refine (crossings_any t _ HT.out).mono ?_
          rintro _ w9 ⟨rfl, hb9⟩
          rw [HC1.out, ansE_ok HO.out]
          have HA9 := Lib.hid (HA8.out.below hb9)
          have HD9 := Lib.hid (HD8.out.below hb9)
          have HB9 := Lib.hid (below_trans' HB8.out hb9)
          clear hb9
          generalize cntL u = CC at HC2 ⊢
          go_wp2_with fail
          with_reducible refine (crossings_any (mkB u) _ (by omega)).mono ?_
          rintro _ w10 ⟨rfl, hb10⟩
          rw [HC2.out, ansE_ok HOU.out]
          have HB10 := Lib.hid (below_trans' HB9.out hb10)
          have x1 := (HA9.out.below hb10).box.2
          have x2 := (HD9.out.below hb10).box.2
          have EQ : ∀ w, (binOp .eql 47 (tval EE) (tval EE)).run Tryd.prog w = .ok (.bool true) w := fun w => by rw [eql47, decide_eq_true rfl]
          clear hb10
          go_wp2_with fail
          with_reducible refine (known_any _ (HM.out.below HP.out HB10.out)).mono ?_
          rintro _ wk ⟨rfl, hbk⟩
          have HBK := Lib.hid (below_trans' HB10.out hbk)
          clear hbk
          go_wp2_with fail
          go_ret
          exact ⟨rfl, HBK.out⟩
  · rw [hno]
    go_wp2_with fail
    with_reducible refine (known_any _ (HM.out.below HP.out HB2.out)).mono ?_
    rintro _ wk ⟨rfl, hbk⟩
    have HBK := Lib.hid (below_trans' HB2.out hbk)
    clear hbk
    go_wp2_with fail
    go_ret
    exact ⟨rfl, HBK.out⟩
end Go.Proofs.YtgkgloafjhiakaaDoor
