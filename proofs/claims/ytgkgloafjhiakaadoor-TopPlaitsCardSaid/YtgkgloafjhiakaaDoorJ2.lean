/- Walks: Power of both sides. -/
import Derived.Test.YtgkgloafjhiakaaDoorJ1
namespace Go.Proofs.YtgkgloafjhiakaaDoor
open Go.RowKit Go.Sort

/-- What Power answers. -/
def powR (u : ByteArray) (n : Int) : List UInt8 × Int :=
  if okW u = false then ([], 1) else if u.size = 0 ∨ n = 0 then ([], 0) else if 60 < n ∨ n < -60 then ([], 4)
  else if 60 < u.size * n.natAbs then ([], 4) else (rep n.natAbs (if n < 0 then inL (liB u) else liB u), 0)
theorem powR_no {u : ByteArray} {n : Int} (h : okW u = false) : powR u n = ([], 1) := by unfold powR; rw [if_pos h]
theorem powR_nil {u : ByteArray} {n : Int} (h : okW u = true) (h2 : u.size = 0 ∨ n = 0) : powR u n = ([], 0) := by unfold powR; rw [if_neg (by rw [h]; simp), if_pos h2]
theorem powR_far {u : ByteArray} {n : Int} (h : okW u = true) (h2 : ¬ (u.size = 0 ∨ n = 0)) (h3 : 60 < n ∨ n < -60) : powR u n = ([], 4) := by unfold powR; rw [if_neg (by rw [h]; simp), if_neg h2, if_pos h3]
theorem powR_long {u : ByteArray} {n : Int} (h : okW u = true) (h2 : ¬ (u.size = 0 ∨ n = 0)) (h3 : ¬ (60 < n ∨ n < -60)) (h4 : 60 < u.size * n.natAbs) : powR u n = ([], 4) := by unfold powR; rw [if_neg (by rw [h]; simp), if_neg h2, if_neg h3, if_pos h4]
theorem powR_ok {u : ByteArray} {n : Int} (h : okW u = true) (h2 : ¬ (u.size = 0 ∨ n = 0)) (h3 : ¬ (60 < n ∨ n < -60)) (h4 : ¬ 60 < u.size * n.natAbs) : powR u n = (rep n.natAbs (if n < 0 then inL (liB u) else liB u), 0) := by unfold powR; rw [if_neg (by rw [h]; simp), if_neg h2, if_neg h3, if_neg h4]
theorem repeat_any (b : List UInt8) (m : Nat) (w : World) (h : b.length * m ≤ 1000000) (hm : m ≤ 60) : Calls Tryd.prog 74 #[.string (mkB b), .int .i64 (m : Int)] w fun r w' => r = .returned (.string (mkB (rep m b))) ∧ Below w.heap.size w w' :=
  (Tryd.strings_Repeat (mkB b) m w (by omega) (by rw [size_mk]; omega)).mono fun r w' ⟨h1, h2⟩ => ⟨by rw [h1, ← repeatL_rep], h2⟩
set_option maxRecDepth 100000 in
set_option maxHeartbeats 4000000 in
theorem power_any (u : ByteArray) (n : Int) (w : World) (hu : u.size ≤ 1000000) : Calls Tryd.prog 36 #[.string u, .int .i64 n] w fun r w' => r = .returned (.tuple #[.string (mkB (powR u n).1), .int .i64 (powR u n).2]) ∧ Below w.heap.size w w' := by
  go_enter Tryd.func36, Tryd.ntmps36
  go_wp2_with fail
  with_reducible refine (valid_any u _ hu).mono ?_
  rintro _ w2 ⟨rfl, hb⟩
  have HB := Lib.hid hb
  clear hb
  by_cases h1 : okW u = true
  · have HU := Lib.hid h1
    rw [h1]
    clear h1
    by_cases h0 : u.size = 0
    · have HP := Lib.hid (powR_nil (n := n) HU.out (.inl h0))
      have hE : u.toList = [] := by
        rw [ByteArray.toList_eq]
        exact List.length_eq_zero_iff.1 (by rw [← h0]; exact li_size u)
      clear h0
      go_wp2_with fail
      go_ret2
      exact ⟨by rw [HP.out]; rfl, HB.out⟩
    · obtain ⟨c, l, hcl⟩ : ∃ c l, u.toList = c :: l := by
        cases hx : u.toList with
        | nil => exact absurd (by rw [← li_size u]; unfold liB; rw [← ByteArray.toList_eq, hx]; rfl) h0
        | cons c l => exact ⟨c, l, rfl⟩
      by_cases hn0 : n = 0
      · have HP := Lib.hid (powR_nil (n := n) HU.out (.inr hn0))
        subst hn0
        go_wp2_with fail
        go_ret2
        exact ⟨by rw [HP.out]; rfl, HB.out⟩
      · have g0 : (n == 0) = false := by rw [beq_eq_false_iff_ne]; exact hn0
        have h2 : ¬ (u.size = 0 ∨ n = 0) := fun h => h.elim h0 hn0
        by_cases h3 : 60 < n ∨ n < -60
        · have HP := Lib.hid (powR_far HU.out h2 h3)
          clear hn0 h2
          rcases h3 with h3 | h3
          · go_wp2_with fail
            go_ret2
            exact ⟨by rw [HP.out]; rfl, HB.out⟩
          · have h3' : ¬ 60 < n := by omega
            go_wp2_with fail
            go_ret2
            exact ⟨by rw [HP.out]; rfl, HB.out⟩
        · have hu60 : u.size ≤ 60 := (okW_iff.1 HU.out).1
          have us : 0 < u.size := by omega
          by_cases hneg : n < 0
          · obtain ⟨m, rfl⟩ : ∃ m : Nat, n = -(m : Int) := ⟨n.natAbs, by omega⟩
            have hna : (-(m : Int)).natAbs = m := by omega
            obtain ⟨q, hq⟩ : ∃ q, u.size * m = q := ⟨_, rfl⟩
            have hm60 : m ≤ 60 := by omega
            have hql : q ≤ 3600 := by rw [← hq]; exact Nat.mul_le_mul hu60 hm60
            have hqi : (u.size : Int) * (m : Int) = (q : Int) := by rw [← hq]; push_cast; rfl
            have wq : IntKind.i64.wrap (q : Int) = (q : Int) := IntWalk.i64_in _ (by omega)
            have wm : IntKind.i64.wrap (m : Int) = (m : Int) := IntWalk.i64_in _ (by omega)
            have f1 : ¬ (60 : Int) < -(m : Int) := by omega
            have f2 : ¬ -(m : Int) < -60 := by omega
            have HUL : Hid (u.toList = c :: l) := Lib.hid hcl
            have hsz : (mkB (inL (liB u))).size = u.size := by rw [size_mk, inL_length, li_size]
            have nn : - -(m : Int) = (m : Int) := Int.neg_neg _
            go_wp2_with fail
            with_reducible refine (inverted_any u _ hu).mono ?_
            rintro _ w3 ⟨rfl, hb3⟩
            have HB3 := Lib.hid (below_trans' HB.out hb3)
            clear hb3
            by_cases h4 : 60 < q
            · have HP := Lib.hid (powR_long HU.out h2 h3 (by rw [hna, hq]; exact h4))
              clear h2 h3 hna hq
              go_wp2_with fail
              go_ret2
              exact ⟨by rw [HP.out]; rfl, HB3.out⟩
            · have HP := Lib.hid (powR_ok HU.out h2 h3 (by rw [hna, hq]; exact h4))
              have HNA := Lib.hid hna
              have HQ := Lib.hid hq
              clear h2 h3 hna hq
              go_wp2_with fail
              with_reducible refine (repeat_any (inL (liB u)) m _ (by rw [inL_length, li_size, HQ.out]; omega) (by omega)).mono ?_
              rintro _ w4 ⟨rfl, hb4⟩
              have HB4 := Lib.hid (below_trans' HB3.out hb4)
              clear hb4
              go_wp2_with fail
              go_ret2
              exact ⟨by rw [HP.out, HNA.out, if_pos (by omega)]; rfl, HB4.out⟩
          · obtain ⟨m, rfl⟩ : ∃ m : Nat, n = (m : Int) := ⟨n.toNat, by omega⟩
            have hna : ((m : Int)).natAbs = m := by omega
            obtain ⟨q, hq⟩ : ∃ q, u.size * m = q := ⟨_, rfl⟩
            have hm60 : m ≤ 60 := by omega
            have hql : q ≤ 3600 := by rw [← hq]; exact Nat.mul_le_mul hu60 hm60
            have hqi : (u.size : Int) * (m : Int) = (q : Int) := by rw [← hq]; push_cast; rfl
            have wq : IntKind.i64.wrap (q : Int) = (q : Int) := IntWalk.i64_in _ (by omega)
            have f1 : ¬ (60 : Int) < (m : Int) := by omega
            have f2 : ¬ (m : Int) < -60 := by omega
            have hmk : u = mkB (liB u) := (mk_li u).symm
            by_cases h4 : 60 < q
            · have HP := Lib.hid (powR_long HU.out h2 h3 (by rw [hna, hq]; exact h4))
              clear h2 h3 hna hq
              go_wp2_with fail
              go_ret2
              exact ⟨by rw [HP.out]; rfl, HB.out⟩
            · have HP := Lib.hid (powR_ok HU.out h2 h3 (by rw [hna, hq]; exact h4))
              have HNA := Lib.hid hna
              have HQ := Lib.hid hq
              clear h2 h3 hna hq
              go_wp2_with fail
              with_reducible refine (repeat_any (liB u) m _ (by rw [li_size, HQ.out]; omega) (by omega)).mono ?_
              rintro _ w4 ⟨rfl, hb4⟩
              have HB4 := Lib.hid (below_trans' HB.out hb4)
              clear hb4
              go_wp2_with fail
              go_ret2
              exact ⟨by rw [HP.out, HNA.out, if_neg (by omega)]; rfl, HB4.out⟩
  · have h1' : okW u = false := by simpa using h1
    have HP := Lib.hid (powR_no (n := n) h1')
    rw [h1']
    clear h1 h1'
    go_wp2_with fail
    go_ret2
    exact ⟨by rw [HP.out]; rfl, HB.out⟩
end Go.Proofs.YtgkgloafjhiakaaDoor
