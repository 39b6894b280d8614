/- The law of normal forms beside the reference's, walked. -/
import Derived.Test.YtgkgloafjhiakaaDoorQ8
namespace Go.Proofs.YtgkgloafjhiakaaDoor
open Go.RowKit Go.Sort

set_option maxRecDepth 100000 in
theorem refNormalE_any (t : ByteArray) (w : World) (ht : t.size ≤ 1000000) :
    Calls Tryd.prog 20 #[.string t] w fun r w' => Below w.heap.size w w' ∧ ((okW t = false ∧ r = .returned (.tuple #[.int .i64 0, .string (mkB []), .int .i64 1])) ∨ (okW t = true ∧ ∃ k p, r = .returned (.tuple #[.int .i64 k, .string (mkB p), .int .i64 0]) ∧ Nf (liB t) k p)) := by
  go_enter Tryd.func20, Tryd.ntmps20
  go_wp2_with fail
  with_reducible refine (refValid_any t _ ht).mono ?_
  rintro _ w2 ⟨rfl, rfl⟩
  by_cases h : okW t = true
  · have hW := okW_iff.1 h
    have HO := Lib.hid h
    rw [h]
    clear h
    go_wp2_with fail
    with_reducible refine (refNormal_any t _ hW.1 hW.2).mono ?_
    rintro _ w3 ⟨k, p, rfl, hn, hb⟩
    have HN := Lib.hid hn
    have HB2 := Lib.hid hb
    clear hb hn
    go_wp2_with fail
    go_ret3
    exact ⟨HB2.out, .inr ⟨HO.out, k, p, rfl, HN.out⟩⟩
  · have h' : okW t = false := by simpa using h
    have HO := Lib.hid h'
    rw [h']
    clear h h'
    go_wp2_with fail
    go_ret3
    exact ⟨Below.refl _ _, .inl ⟨HO.out, rfl⟩⟩
set_option maxRecDepth 100000 in
set_option maxHeartbeats 8000000 in
theorem normals_any (t : ByteArray) (w : World) (hm : MX w) : Calls Tryd.prog 3 #[.string t] w fun r w' => r = .returned (.bool true) ∧ Below w.heap.size w w' := by
  have HM := Lib.hid hm
  have HP := Lib.hid hm.lt
  clear hm
  go_enter Tryd.func3, Tryd.ntmps3
  go_wp2_with fail
  with_reducible refine (long_any t _).mono ?_
  rintro _ w1 ⟨rfl, rfl⟩
  by_cases h2 : 200 < t.size
  · rw [decide_eq_true h2]
    clear h2
    go_wp2_with fail
    with_reducible refine (known_any _ HM.out).mono ?_
    rintro _ w2 ⟨rfl, hb⟩
    have HB := Lib.hid hb
    clear hb
    go_wp2_with fail
    go_ret
    exact ⟨rfl, HB.out⟩
  rw [decide_eq_false h2]
  have HT := Lib.hid (show t.size ≤ 1000000 by omega)
  clear h2
  go_wp2_with fail
  with_reducible refine (normalE_any t _ HM.out HT.out).mono ?_
  rintro _ w2 ⟨hb2, ⟨hno, rfl⟩ | ⟨hok, k, p, rfl, hn⟩⟩
  · have HB2 := Lib.hid hb2
    clear hb2
    go_wp2_with fail
    with_reducible refine (refNormalE_any t _ HT.out).mono ?_
    rintro _ w3 ⟨hb3, ⟨_, rfl⟩ | ⟨hok, k, p, rfl, hn⟩⟩
    · have HB3 := Lib.hid (below_trans' HB2.out hb3)
      clear hb3 hno
      go_wp2_with fail
      with_reducible refine (known_any _ (HM.out.below HP.out HB3.out)).mono ?_
      rintro _ w8 ⟨rfl, hb8⟩
      have HB8 := Lib.hid (below_trans' HB3.out hb8)
      clear hb8
      go_wp2_with fail
      go_ret
      exact ⟨rfl, HB8.out⟩
    · rw [hno] at hok; cases hok
  · have HB2 := Lib.hid hb2
    have HN := Lib.hid hn
    clear hb2 hn
    go_wp2_with fail
    with_reducible refine (refNormalE_any t _ HT.out).mono ?_
    rintro _ w3 ⟨hb3, ⟨hno, rfl⟩ | ⟨_, k', p', rfl, hn⟩⟩
    · rw [hno] at hok; cases hok
    · obtain ⟨rfl, rfl⟩ := HN.out.unique hn
      have HB3 := Lib.hid (below_trans' HB2.out hb3)
      clear hb3 hn hok
      go_wp2_with fail
      with_reducible refine (known_any _ (HM.out.below HP.out HB3.out)).mono ?_
      rintro _ w8 ⟨rfl, hb8⟩
      have HB8 := Lib.hid (below_trans' HB3.out hb8)
      clear hb8
      go_wp2_with fail
      go_ret
      exact ⟨rfl, HB8.out⟩
end Go.Proofs.YtgkgloafjhiakaaDoor
