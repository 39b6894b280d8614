/- Walks: Join of both sides. -/
import Derived.Test.YtgkgloafjhiakaaDoorQ8
namespace Go.Proofs.YtgkgloafjhiakaaDoor
open Go.RowKit Go.Sort

/-- What Join answers. -/
def joinR (u v : ByteArray) : List UInt8 × Int := if okW u = true ∧ okW v = true then (if 60 < u.size + v.size then ([], 4) else (liB u ++ liB v, 0)) else ([], 1)
theorem joinR_no1 {u v : ByteArray} (h : okW u = false) : joinR u v = ([], 1) := by unfold joinR; rw [if_neg (by rw [h]; simp)]
theorem joinR_no2 {u v : ByteArray} (h : okW v = false) : joinR u v = ([], 1) := by unfold joinR; rw [if_neg (by rw [h]; simp)]
theorem joinR_long {u v : ByteArray} (h1 : okW u = true) (h2 : okW v = true) (h : 60 < u.size + v.size) : joinR u v = ([], 4) := by unfold joinR; rw [if_pos ⟨h1, h2⟩, if_pos h]
theorem joinR_ok {u v : ByteArray} (h1 : okW u = true) (h2 : okW v = true) (h : ¬ 60 < u.size + v.size) : joinR u v = (liB u ++ liB v, 0) := by unfold joinR; rw [if_pos ⟨h1, h2⟩, if_neg h]
theorem append_li (u v : ByteArray) : u ++ v = mkB (liB u ++ liB v) := by
  rw [← mk_append, mk_li, mk_li]
set_option maxRecDepth 100000 in
theorem join_any (u v : ByteArray) (w : World) (hu : u.size ≤ 1000000) (hv : v.size ≤ 1000000) : Calls Tryd.prog 34 #[.string u, .string v] w fun r w' => r = .returned (.tuple #[.string (mkB (joinR u v).1), .int .i64 (joinR u v).2]) ∧ Below w.heap.size w w' := by
  go_enter Tryd.func34, Tryd.ntmps34
  go_wp2_with fail
  with_reducible refine (valid_any u _ hu).mono ?_
  rintro _ w2 ⟨rfl, hb⟩
  have HB := Lib.hid hb
  clear hb
  by_cases h1 : okW u = true
  · have HU := Lib.hid h1
    rw [h1]
    clear h1
    go_wp2_with fail
    with_reducible refine (valid_any v _ hv).mono ?_
    rintro _ w3 ⟨rfl, hb⟩
    have HB2 := Lib.hid (below_trans' HB.out hb)
    clear hb
    by_cases h2 : okW v = true
    · have HV := Lib.hid h2
      rw [h2]
      clear h2
      by_cases h3 : 60 < u.size + v.size
      · have HJ := Lib.hid (joinR_long HU.out HV.out h3)
        go_wp2_with fail
        go_ret2
        exact ⟨by rw [HJ.out]; rfl, HB2.out⟩
      · have HJ := Lib.hid (joinR_ok HU.out HV.out h3)
        go_wp2_with fail
        go_ret2
        exact ⟨by rw [HJ.out, ← append_li]; rfl, HB2.out⟩
    · have h2' : okW v = false := by simpa using h2
      have HJ := Lib.hid (joinR_no2 (u := u) h2')
      rw [h2']
      clear h2 h2'
      go_wp2_with fail
      go_ret2
      exact ⟨by rw [HJ.out]; rfl, HB2.out⟩
  · have h1' : okW u = false := by simpa using h1
    have HJ := Lib.hid (joinR_no1 (v := v) h1')
    rw [h1']
    clear h1 h1'
    go_wp2_with fail
    go_ret2
    exact ⟨by rw [HJ.out]; rfl, HB.out⟩
/-- A text that is not too long, or that it is. -/
def shortR (t : ByteArray) : ByteArray × Int := if 60 < t.size then (mkB [], 4) else (t, 0)
set_option maxRecDepth 100000 in
theorem short_any (t : ByteArray) (w : World) : Calls Tryd.prog 73 #[.string t] w fun r w' => r = .returned (.tuple #[.string (shortR t).1, .int .i64 (shortR t).2]) ∧ w' = w := by
  go_enter Tryd.func73, Tryd.ntmps73
  by_cases h : 60 < t.size
  · have HS : Hid (shortR t = (mkB [], 4)) := Lib.hid (if_pos h)
    go_wp2_with fail
    go_ret2
    exact ⟨by rw [HS.out]; rfl, rfl⟩
  · have HS : Hid (shortR t = (t, 0)) := Lib.hid (if_neg h)
    go_wp2_with fail
    go_ret2
    exact ⟨by rw [HS.out]; rfl, rfl⟩
theorem short_join {u v : ByteArray} (h1 : okW u = true) (h2 : okW v = true) : shortR (u ++ v) = (mkB (joinR u v).1, (joinR u v).2) := by
  have hs : (u ++ v).size = u.size + v.size := by simp
  by_cases h : 60 < u.size + v.size
  · rw [joinR_long h1 h2 h]
    exact if_pos (by rw [hs]; exact h)
  · rw [joinR_ok h1 h2 h, ← append_li]
    exact if_neg (by rw [hs]; exact h)
set_option maxRecDepth 100000 in
theorem refJoin_any (u v : ByteArray) (w : World) (hu : u.size ≤ 1000000) (hv : v.size ≤ 1000000) : Calls Tryd.prog 35 #[.string u, .string v] w fun r w' => r = .returned (.tuple #[.string (mkB (joinR u v).1), .int .i64 (joinR u v).2]) ∧ w' = w := by
  go_enter Tryd.func35, Tryd.ntmps35
  go_wp2_with fail
  with_reducible refine (refValid_any u _ hu).mono ?_
  rintro _ w2 ⟨rfl, rfl⟩
  by_cases h1 : okW u = true
  · have HU := Lib.hid h1
    rw [h1]
    clear h1
    go_wp2_with fail
    with_reducible refine (refValid_any v _ hv).mono ?_
    rintro _ w3 ⟨rfl, rfl⟩
    by_cases h2 : okW v = true
    · have HJ := Lib.hid (short_join HU.out h2)
      rw [h2]
      clear h2
      go_wp2_with fail
      with_reducible refine (short_any (u ++ v) _).mono ?_
      rintro _ w4 ⟨rfl, rfl⟩
      rw [HJ.out]
      go_wp2_with fail
      go_ret2
      exact ⟨rfl, rfl⟩
    · have h2' : okW v = false := by simpa using h2
      have HJ := Lib.hid (joinR_no2 (u := u) h2')
      rw [h2']
      clear h2 h2'
      go_wp2_with fail
      go_ret2
      exact ⟨by rw [HJ.out]; rfl, rfl⟩
  · have h1' : okW u = false := by simpa using h1
    have HJ := Lib.hid (joinR_no1 (v := v) h1')
    rw [h1']
    clear h1 h1'
    go_wp2_with fail
    go_ret2
    exact ⟨by rw [HJ.out]; rfl, rfl⟩
end Go.Proofs.YtgkgloafjhiakaaDoor
