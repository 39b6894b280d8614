/- Walks: Power of the reference. -/
import Derived.Test.YtgkgloafjhiakaaDoorJ2
namespace Go.Proofs.YtgkgloafjhiakaaDoor
open Go.RowKit Go.Sort

theorem rep_snoc (j : Nat) (B : List UInt8) : rep j B ++ B = rep (j + 1) B := by
  simp [rep, List.replicate_succ']
set_option maxRecDepth 100000 in
set_option maxHeartbeats 4000000 in
theorem refPower_any (u : ByteArray) (n : Int) (w : World) (hu : u.size ≤ 1000000) : Calls Tryd.prog 37 #[.string u, .int .i64 n] w fun r w' => r = .returned (.tuple #[.string (mkB (powR u n).1), .int .i64 (powR u n).2]) ∧ Below w.heap.size w w' := by
  go_enter Tryd.func37, Tryd.ntmps37
  go_wp2_with fail
  with_reducible refine (refValid_any u _ hu).mono ?_
  rintro _ w2 ⟨rfl, rfl⟩
  have HB := Lib.hid (Below.refl w2.heap.size w2)
  by_cases h1 : okW u = true
  · have HU := Lib.hid h1
    rw [h1]
    clear h1
    by_cases h0 : u.size = 0
    · have HP := Lib.hid (powR_nil (n := n) HU.out (.inl h0))
      have hE : u.toList = [] := by
        rw [ByteArray.toList_eq]
        exact List.length_eq_zero_iff.1 (by rw [← h0]; exact li_size u)
      clear h0
      go_wp2_with fail
      go_ret2
      exact ⟨by rw [HP.out]; rfl, HB.out⟩
    · obtain ⟨c, l, hcl⟩ : ∃ c l, u.toList = c :: l := by
        cases hx : u.toList with
        | nil => exact absurd (by rw [← li_size u]; unfold liB; rw [← ByteArray.toList_eq, hx]; rfl) h0
        | cons c l => exact ⟨c, l, rfl⟩
      by_cases hn0 : n = 0
      · have HP := Lib.hid (powR_nil (n := n) HU.out (.inr hn0))
        subst hn0
        go_wp2_with fail
        go_ret2
        exact ⟨by rw [HP.out]; rfl, HB.out⟩
      · have g0 : (n == 0) = false := by rw [beq_eq_false_iff_ne]; exact hn0
        have h2 : ¬ (u.size = 0 ∨ n = 0) := fun h => h.elim h0 hn0
        by_cases h3 : 60 < n ∨ n < -60
        · have HP := Lib.hid (powR_far HU.out h2 h3)
          clear hn0 h2
          rcases h3 with h3 | h3
          · go_wp2_with fail
            go_ret2
            exact ⟨by rw [HP.out]; rfl, HB.out⟩
          · have h3' : ¬ 60 < n := by omega
            go_wp2_with fail
            go_ret2
            exact ⟨by rw [HP.out]; rfl, HB.out⟩
        · have hu60 : u.size ≤ 60 := (okW_iff.1 HU.out).1
          have us : 0 < u.size := by omega
          have hW := (okW_iff.1 HU.out).2
          by_cases hneg : n < 0
          · obtain ⟨m, rfl⟩ : ∃ m : Nat, n = -(m : Int) := ⟨n.natAbs, by omega⟩
            have hna : (-(m : Int)).natAbs = m := by omega
            obtain ⟨q, hq⟩ : ∃ q, u.size * m = q := ⟨_, rfl⟩
            have hm60 : m ≤ 60 := by omega
            have hql : q ≤ 3600 := by rw [← hq]; exact Nat.mul_le_mul hu60 hm60
            have wm : IntKind.i64.wrap (m : Int) = (m : Int) := IntWalk.i64_in _ (by omega)
            have f1 : ¬ (60 : Int) < -(m : Int) := by omega
            have f2 : ¬ -(m : Int) < -60 := by omega
            have nn : - -(m : Int) = (m : Int) := Int.neg_neg _
            go_wp2_with fail
            with_reducible refine (swapped_any u _ hu hW).mono ?_
            rintro _ w3 ⟨rfl, hb3⟩
            have HB3 := Lib.hid hb3
            clear hb3
            go_wp2_with fail
            with_reducible refine (backward_any _ _ (by rw [size_mk]; unfold miL; rw [List.length_map, li_size]; exact hu)).mono ?_
            rintro _ w4 ⟨rfl, rfl⟩
            rw [show (mkB (liB (mkB (miL (liB u)))).reverse) = mkB (inL (liB u)) from rfl]
            obtain ⟨B, hBd⟩ : ∃ B, inL (liB u) = B := ⟨_, rfl⟩
            have hBl : B.length = u.size := by rw [← hBd, inL_length, li_size]
            rw [hBd]
            go_wp2_with fail
            have HNA := Lib.hid hna
            have HQ := Lib.hid hq
            have H2 := Lib.hid h2
            have H3 := Lib.hid h3
            clear hna hq h2 h3
            have hbs : (mkB B).size = u.size := by rw [size_mk]; exact hBl
            have HBL := Lib.hid hBl
            go_loopw [6, 7] (fun s i wr => ∃ j : Nat, j ≤ m ∧ i = .int .i64 j ∧ s = .string (mkB (rep j B)) ∧ wr = w4) (fun _ i _ => m - (intOf i).toNat)
            case atStart => exact ⟨0, by omega, rfl, rfl, rfl⟩
            case round =>
              obtain ⟨j, hj, rfl, rfl, rfl⟩ := hrel
              have hrs : (mkB (rep j B)).size = j * u.size := by rw [size_mk, rep_length, HBL.out]
              have hjq : j * u.size ≤ 3600 := Nat.le_trans (Nat.mul_le_mul hj (Nat.le_refl _)) (by rw [Nat.mul_comm, HQ.out]; exact hql)
              by_cases hlt : j < m
              · obtain ⟨e, he⟩ : ∃ e, j * u.size = e := ⟨_, rfl⟩
                rw [he] at hrs hjq
                clear he
                have HS : Hid (mkB (rep j B) ++ mkB B = mkB (rep (j + 1) B)) := Lib.hid (by rw [mk_append, rep_snoc])
                go_wp2_with fail
                go_roundw
                case rel => exact ⟨j + 1, by omega, by go_num, by rw [HS.out], trivial⟩
                case measure => simp [intOf]; omega
              · obtain rfl : j = m := by omega
                have hsh : shortR (mkB (rep j B)) = (mkB (powR u (-(j : Int))).1, (powR u (-(j : Int))).2) := by
                  by_cases h4 : 60 < u.size * j
                  · rw [powR_long HU.out H2.out H3.out (by rw [HNA.out]; exact h4)]
                    exact if_pos (by rw [hrs, Nat.mul_comm]; exact h4)
                  · rw [powR_ok HU.out H2.out H3.out (by rw [HNA.out]; exact h4), HNA.out, if_pos (by omega)]
                    rw [hBd]
                    exact if_neg (by rw [hrs, Nat.mul_comm]; exact h4)
                have HSH := Lib.hid hsh
                clear hsh hrs hjq
                go_wp2_with fail
                with_reducible refine (short_any (mkB (rep j B)) _).mono ?_
                rintro _ w9 ⟨rfl, rfl⟩
                rw [HSH.out]
                go_wp2_with fail
                go_ret2
                exact ⟨rfl, HB3.out⟩
          · obtain ⟨m, rfl⟩ : ∃ m : Nat, n = (m : Int) := ⟨n.toNat, by omega⟩
            have hna : ((m : Int)).natAbs = m := by omega
            obtain ⟨q, hq⟩ : ∃ q, u.size * m = q := ⟨_, rfl⟩
            have hm60 : m ≤ 60 := by omega
            have hql : q ≤ 3600 := by rw [← hq]; exact Nat.mul_le_mul hu60 hm60
            have f1 : ¬ (60 : Int) < (m : Int) := by omega
            have f2 : ¬ (m : Int) < -60 := by omega
            obtain ⟨B, hBd⟩ : ∃ B, liB u = B := ⟨_, rfl⟩
            have hBl : B.length = u.size := by rw [← hBd, li_size]
            have HMK := Lib.hid (show u = mkB B by rw [← hBd, mk_li])
            go_wp2_with fail
            have HNA := Lib.hid hna
            have HQ := Lib.hid hq
            have H2 := Lib.hid h2
            have H3 := Lib.hid h3
            clear hna hq h2 h3
            have hbs : (mkB B).size = u.size := by rw [size_mk]; exact hBl
            have HBL := Lib.hid hBl
            go_loopw [6, 7] (fun s i wr => ∃ j : Nat, j ≤ m ∧ i = .int .i64 j ∧ s = .string (mkB (rep j B)) ∧ wr = w2) (fun _ i _ => m - (intOf i).toNat)
            case atStart => exact ⟨0, by omega, rfl, rfl, rfl⟩
            case round =>
              obtain ⟨j, hj, rfl, rfl, rfl⟩ := hrel
              have hrs : (mkB (rep j B)).size = j * u.size := by rw [size_mk, rep_length, HBL.out]
              have hjq : j * u.size ≤ 3600 := Nat.le_trans (Nat.mul_le_mul hj (Nat.le_refl _)) (by rw [Nat.mul_comm, HQ.out]; exact hql)
              by_cases hlt : j < m
              · obtain ⟨e, he⟩ : ∃ e, j * u.size = e := ⟨_, rfl⟩
                rw [he] at hrs hjq
                clear he
                have HS : Hid (mkB (rep j B) ++ u = mkB (rep (j + 1) B)) := Lib.hid (by rw [HMK.out]; rw [mk_append, rep_snoc])
                go_wp2_with fail
                go_roundw
                case rel => exact ⟨j + 1, by omega, by go_num, by rw [HS.out], trivial⟩
                case measure => simp [intOf]; omega
              · obtain rfl : j = m := by omega
                have hsh : shortR (mkB (rep j B)) = (mkB (powR u (j : Int)).1, (powR u (j : Int)).2) := by
                  by_cases h4 : 60 < u.size * j
                  · rw [powR_long HU.out H2.out H3.out (by rw [HNA.out]; exact h4)]
                    exact if_pos (by rw [hrs, Nat.mul_comm]; exact h4)
                  · rw [powR_ok HU.out H2.out H3.out (by rw [HNA.out]; exact h4), HNA.out, if_neg (by omega)]
                    rw [hBd]
                    exact if_neg (by rw [hrs, Nat.mul_comm]; exact h4)
                have HSH := Lib.hid hsh
                clear hsh hrs hjq
                go_wp2_with fail
                with_reducible refine (short_any (mkB (rep j B)) _).mono ?_
                rintro _ w9 ⟨rfl, rfl⟩
                rw [HSH.out]
                go_wp2_with fail
                go_ret2
                exact ⟨rfl, HB.out⟩
  · have h1' : okW u = false := by simpa using h1
    have HP := Lib.hid (powR_no (n := n) h1')
    rw [h1']
    clear h1 h1'
    go_wp2_with fail
    go_ret2
    exact ⟨by rw [HP.out]; rfl, HB.out⟩
end Go.Proofs.YtgkgloafjhiakaaDoor
