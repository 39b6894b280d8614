/- Walks: Same of the program. -/
import Derived.Test.YtgkgloafjhiakaaDoorE1
namespace Go.Proofs.YtgkgloafjhiakaaDoor
open Go.RowKit Go.Sort

/-- Two words are the same plait, as far as matrices and crossings tell. -/
def sameP (u v : ByteArray) : Bool := decide (matL (liB u) = matL (liB v) ∧ cntL (liB u) = cntL (liB v))
/-- What Same answers. -/
def sameR (u v : ByteArray) : Bool × Int := if okW u = true ∧ okW v = true then (sameP u v, 0) else (false, 1)
theorem sameR_no1 {u v : ByteArray} (h : okW u = false) : sameR u v = (false, 1) := by unfold sameR; rw [if_neg (by rw [h]; simp)]
theorem sameR_no2 {u v : ByteArray} (h : okW v = false) : sameR u v = (false, 1) := by unfold sameR; rw [if_neg (by rw [h]; simp)]
theorem sameR_ok {u v : ByteArray} (h1 : okW u = true) (h2 : okW v = true) : sameR u v = (sameP u v, 0) := by unfold sameR; rw [if_pos ⟨h1, h2⟩]
set_option maxRecDepth 100000 in
set_option maxHeartbeats 4000000 in
theorem same_any (u v : ByteArray) (w : World) (hm : MX w) (hu : u.size ≤ 1000000) (hv : v.size ≤ 1000000) : Calls Tryd.prog 31 #[.string u, .string v] w fun r w' => r = .returned (.tuple #[.bool (sameR u v).1, .int .i64 (sameR u v).2]) ∧ Below w.heap.size w w' := by
  have HM := Lib.hid hm
  have HP := Lib.hid hm.lt
  clear hm
  go_enter Tryd.func31, Tryd.ntmps31
  go_wp2_with fail
  with_reducible refine (valid_any u _ hu).mono ?_
  rintro _ w2 ⟨rfl, hb⟩
  have HB := Lib.hid hb
  clear hb
  by_cases h1 : okW u = true
  · have HU := Lib.hid h1
    rw [h1]
    clear h1
    go_wp2_with fail
    with_reducible refine (valid_any v _ hv).mono ?_
    rintro _ w3 ⟨rfl, hb⟩
    have HB2 := Lib.hid (below_trans' HB.out hb)
    clear hb
    by_cases h2 : okW v = true
    · have HV := Lib.hid h2
      have HJ := Lib.hid (sameR_ok HU.out h2)
      rw [h2]
      clear h2
      have w1 := okW_iff.1 HU.out
      have w2 := okW_iff.1 HV.out
      go_wp2_with fail
      with_reducible refine (normal_any u _ (HM.out.below HP.out HB2.out) w1.1 w1.2).mono ?_
      rintro _ w4 ⟨k, p, rfl, hn, hb4⟩
      have HN := Lib.hid hn
      have HB4 := Lib.hid (below_trans' HB2.out hb4)
      clear hn hb4
      go_wp2_with fail
      with_reducible refine (normal_any v _ (HM.out.below HP.out HB4.out) w2.1 w2.2).mono ?_
      rintro _ w5 ⟨k', p', rfl, hn, hb5⟩
      have HN' := Lib.hid hn
      have HB5 := Lib.hid (below_trans' HB4.out hb5)
      clear hn hb5
      have EQ : ∀ w, (binOp .eql 56 (.agg #[.int .i64 k, .string (mkB p)]) (.agg #[.int .i64 k', .string (mkB p')])).run Tryd.prog w = .ok (.bool (sameP u v)) w := fun w => by
        have hd := HN.out.iff HN'.out
        rw [eql56]
        unfold sameP
        rw [decide_eq_decide.2 hd]
      go_wp2_with fail
      go_ret2
      exact ⟨by rw [HJ.out]; rfl, HB5.out⟩
    · have h2' : okW v = false := by simpa using h2
      have HJ := Lib.hid (sameR_no2 (u := u) h2')
      rw [h2']
      clear h2 h2'
      go_wp2_with fail
      go_ret2
      exact ⟨by rw [HJ.out]; rfl, HB2.out⟩
  · have h1' : okW u = false := by simpa using h1
    have HJ := Lib.hid (sameR_no1 (v := v) h1')
    rw [h1']
    clear h1 h1'
    go_wp2_with fail
    go_ret2
    exact ⟨by rw [HJ.out]; rfl, HB.out⟩
/-- What IsTwist answers: both sides. -/
def TwR (t : ByteArray) (r : Ending) : Prop := (okW t = false ∧ r = .returned (.tuple #[.bool false, .int .i64 1])) ∨ (okW t = true ∧ ∃ k p, Nf (liB t) k p ∧ r = .returned (.tuple #[.bool p.isEmpty, .int .i64 0]))
set_option maxRecDepth 100000 in
theorem isTwist_any (t : ByteArray) (w : World) (hm : MX w) (ht : t.size ≤ 1000000) : Calls Tryd.prog 47 #[.string t] w fun r w' => Below w.heap.size w w' ∧ TwR t r := by
  have HM := Lib.hid hm
  clear hm
  go_enter Tryd.func47, Tryd.ntmps47
  go_wp2_with fail
  with_reducible refine (normalE_any t _ HM.out ht).mono ?_
  rintro _ w2 ⟨hb2, ⟨hno, rfl⟩ | ⟨hok, k, p, rfl, hn⟩⟩
  · have HB := Lib.hid hb2
    have HN := Lib.hid hno
    clear hb2 hno
    go_wp2_with fail
    go_ret2
    exact ⟨HB.out, .inl ⟨HN.out, rfl⟩⟩
  · have HB := Lib.hid hb2
    have HN := Lib.hid hn
    have HO := Lib.hid hok
    clear hb2 hn hok
    cases p with
    | nil =>
      go_wp2_with fail
      go_ret2
      exact ⟨HB.out, .inr ⟨HO.out, k, [], HN.out, rfl⟩⟩
    | cons c l =>
      go_wp2_with fail
      go_ret2
      exact ⟨HB.out, .inr ⟨HO.out, k, c :: l, HN.out, rfl⟩⟩
set_option maxRecDepth 100000 in
theorem refIsTwist_any (t : ByteArray) (w : World) (ht : t.size ≤ 1000000) : Calls Tryd.prog 48 #[.string t] w fun r w' => Below w.heap.size w w' ∧ TwR t r := by
  go_enter Tryd.func48, Tryd.ntmps48
  go_wp2_with fail
  with_reducible refine (refValid_any t _ ht).mono ?_
  rintro _ w2 ⟨rfl, rfl⟩
  by_cases h : okW t = true
  · have hW := okW_iff.1 h
    have HO := Lib.hid h
    rw [h]
    clear h
    go_wp2_with fail
    with_reducible refine (refNormal_any t _ hW.1 hW.2).mono ?_
    rintro _ w3 ⟨k, p, rfl, hn, hb⟩
    have HN := Lib.hid hn
    have HB := Lib.hid hb
    clear hn hb
    cases p with
    | nil =>
      go_wp2_with fail
      go_ret2
      exact ⟨HB.out, .inr ⟨HO.out, k, [], HN.out, rfl⟩⟩
    | cons c l =>
      go_wp2_with fail
      go_ret2
      exact ⟨HB.out, .inr ⟨HO.out, k, c :: l, HN.out, rfl⟩⟩
  · have h' : okW t = false := by simpa using h
    have HO := Lib.hid h'
    rw [h']
    clear h h'
    go_wp2_with fail
    go_ret2
    exact ⟨Below.refl _ _, .inl ⟨HO.out, rfl⟩⟩
end Go.Proofs.YtgkgloafjhiakaaDoor
