/- Walks: the law FlowSteeps. -/
import Derived.Test.YtahmdnboeenfkaaW31
import Derived.Test.YtahmdnboeenfkaaW26
namespace Go.Proofs.Ytahmdnboeenfkaa
open Go.RowKit Go.Sort

theorem steepR_spin {f : Fld} (h : valid f = 0) (k : Int) : steepR (spinR f k).1 = (stp_ f, 0) := by
  rw [spinR_ok h]
  show steepR (spinF f k) = _
  rw [steepR_ok (valid_spin h k), stp_spin h]
set_option maxRecDepth 4000 in
theorem lawSteeps (v : FV) (k : Int) (w : World) (hv : v.In w) :
    Calls Try.prog 11 #[v.val, .int .i64 k] w fun r w' => r = .returned (.bool true) ∧ Below w.heap.size w w' := by
  have HV := Lib.hid hv
  clear hv
  go_enter Try.func11, Try.ntmps11
  dsimp only [FV.val, eval_]
  go_wp2_with fail
  with_reducible refine (long_any v _ (HV.out.below (belowA _ _))).mono ?_
  rintro r w1 ⟨rfl, hb1⟩
  have b0 := (Box.new _ _ _).below hb1
  have hw1 := Lib.hid (below1 _ hb1)
  clear hb1
  cases hlong : longF v.f
  case true =>
    go_wp2_with fail
    with_reducible refine (known_any _).mono ?_
    rintro r w2 ⟨rfl, hb2⟩
    go_wp2_with fail
    go_ret
    exact ⟨rfl, below_trans' hw1.out hb2⟩
  clear hlong
  have c0 := b0.at
  go_wp2_with fail
  with_reducible refine (Steep_any v _ (HV.out.below hw1.out)).mono ?_
  rintro r w2 ⟨rfl, hb2⟩
  clear c0
  replace b0 := b0.below hb2
  replace hw1 := Lib.hid (below_trans' hw1.out hb2)
  clear hb2
  have c0 := b0.at
  go_wp2_with fail
  with_reducible refine (refSteep_any v _ (HV.out.below hw1.out)).mono ?_
  rintro r w2 ⟨rfl, hb2⟩
  clear c0
  replace b0 := b0.below hb2
  replace hw1 := Lib.hid (below_trans' hw1.out hb2)
  clear hb2
  have c0 := b0.at
  go_wp2_with fail
  with_reducible refine (Spin_any v k _ (HV.out.below hw1.out)).mono ?_
  rintro r w3 ⟨u, huf, rfl, ho, hb2⟩
  clear c0
  replace hw1 := Lib.hid (below_trans' hw1.out hb2)
  have HO := Lib.hid ho
  have HU := Lib.hid huf
  clear hb2 b0 ho huf
  dsimp only [FV.val]
  go_wp2_with fail
  with_reducible refine (Steep_any u _ (HO.out.In.below (belowA _ _))).mono ?_
  rintro r w4 ⟨rfl, hb2⟩
  replace hw1 := Lib.hid (below_trans' (below_trans' hw1.out (belowA _ _)) hb2)
  clear hb2
  by_cases hz : valid v.f = 0
  · have e1 := steepR_ok hz
    have e2 : steepR u.f = (stp_ v.f, 0) := by rw [HU.out, steepR_spin hz]
    have h3 := stp_three hz
    rw [e1, e2]
    dsimp only
    generalize stp_ v.f = s at h3 ⊢
    clear e1 e2 hz
    go_wp2_with fail
    with_reducible refine (known_any _).mono ?_
    rintro r w5 ⟨rfl, hb2⟩
    have HB := Lib.hid hb2
    clear hb2
    go_wp2_with fail
    go_ret
    exact ⟨rfl, below_trans' hw1.out HB.out⟩
  · have e1 := steepR_bad hz
    have g1 : (valid v.f != 0) = true := by simpa using hz
    rw [e1]
    dsimp only
    generalize (steepR u.f).1 = s1
    generalize (steepR u.f).2 = s2
    clear e1 hz
    go_wp2_with fail
    all_goals
      with_reducible refine (known_any _).mono ?_
      rintro r w5 ⟨rfl, hb2⟩
      have HB := Lib.hid hb2
      clear hb2
      go_wp2_with fail
      go_ret
      exact ⟨rfl, below_trans' hw1.out HB.out⟩
theorem lawSteepsR (v : FV) (k : Int) (w : World) (hv : v.In w) {p1 : Prop} (_ : p1) :
    Calls Try.prog 11 #[v.val, .int .i64 k] w fun r w' => r = .returned (.bool true) ∧ Below w.heap.size w w' := lawSteeps v k w hv
end Go.Proofs.Ytahmdnboeenfkaa
