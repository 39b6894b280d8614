/- Walks: the law FlowValidates. -/
import Derived.Test.YtahmdnboeenfkaaW12
namespace Go.Proofs.Ytahmdnboeenfkaa
open Go.RowKit Go.Sort

theorem sameF_refl (f : Fld) : sameF f f = true := by simp [sameF]
theorem lawValidates (v : FV) (w : World) (hv : v.In w) :
    Calls Try.prog 3 #[v.val] w fun r w' => r = .returned (.bool true) ∧ Below w.heap.size w w' := by
  have HV := Lib.hid hv
  clear hv
  go_enter Try.func3, Try.ntmps3
  dsimp only [FV.val]
  go_wp2_with fail
  refine (long_any v _ (HV.out.below (belowA _ _))).mono ?_
  rintro r w1 ⟨rfl, hb1⟩
  have b0 := (Box.new _ _ _).below hb1
  have hw1 := Lib.hid (below1 _ hb1)
  clear hb1
  cases hlong : longF v.f
  case true =>
    go_wp2_with fail
    refine (known_any _).mono ?_
    rintro r w2 ⟨rfl, hb2⟩
    go_wp2_with fail
    go_ret
    exact ⟨rfl, below_trans' hw1.out hb2⟩
  have hl := of_decide_eq_false hlong
  have HL := Lib.hid hl
  have HV1 := Lib.hid (HV.out.below hw1.out)
  clear hlong hl
  have c0 := b0.at
  go_wp2_with fail
  clear c0
  refine (copy_any v _ HV1.out (by have := HL.out; omega) (by have := HL.out; omega)).mono ?_
  rintro r w2 ⟨u, huf, rfl, hin, hb2⟩
  have b2 := b0.below hb2
  have hw2 := Lib.hid (below_trans' hw1.out hb2)
  have HU := Lib.hid huf
  have HUI := Lib.hid hin
  have HV2 := Lib.hid (HV.out.below hw2.out)
  clear hb2 huf hin HV1
  dsimp only [FV.val]
  go_wp2_with fail
  refine wp_gen (fun w3 => Box w3 w2.heap.size #[.int .i64 u.f.W, .int .i64 u.f.H, .slice u.A u.n u.c, .slice u.B u.m u.d] ∧ Below w2.heap.size w2 w3) ⟨Box.new _ _ _, belowA _ _⟩ ?_
  rintro w3 ⟨b3, hb3⟩
  have c2 := (b2.below hb3).rg
  have c3 := b3.rg
  have hw3 := Lib.hid (below_trans' hw2.out hb3)
  have HV3 := Lib.hid (HV.out.below hw3.out)
  have HU3 := Lib.hid (HUI.out.below hb3)
  have q0 : ∀ w4, Below w3.heap.size w3 w4 → Calls Try.prog 20 #[u.val] w4 fun r w' => r = .returned (.int .i64 (valid v.f)) ∧ Below w4.heap.size w4 w' := fun w4 hb => by
    have := validate_any u w4 (HU3.out.below hb)
    rwa [HU.out] at this
  have q1 : ∀ w4, Below w3.heap.size w3 w4 → Calls Try.prog 21 #[v.val] w4 fun r w' => r = .returned (.int .i64 (valid v.f)) ∧ Below w4.heap.size w4 w' := fun w4 hb => refValidate_any v w4 (HV3.out.below hb)
  have q2 : ∀ w4, Below w3.heap.size w3 w4 → Calls Try.prog 22 #[u.val, v.val] w4 fun r w' => r = .returned (.bool true) ∧ Below w4.heap.size w4 w' := fun w4 hb => by
    have := same_any u v w4 (HU3.out.below hb) (HV3.out.below hb)
    rwa [HU.out, sameF_refl] at this
  have Q0 := Lib.hid q0
  have Q1 := Lib.hid q1
  have Q2 := Lib.hid q2
  clear q0 q1 q2 hb3
  refine wp_region_qb mixed (by kernel_rfl) ?_
  repeat (go_big_quiet_step (first | (go_at_call 20; exact rg_call Q0.out _ _) | (go_at_call 21; exact rg_call Q1.out _ _) | (go_at_call 22; exact rg_call Q2.out _ _) | (go_at_call 18; exact rg_call (fun w _ => known_any w) _ _)))
  refine wpQuiet_nil ?_
  intro w4 hb4
  go_wp2_with fail
  go_ret
  exact ⟨rfl, below_trans' hw3.out hb4⟩
end Go.Proofs.Ytahmdnboeenfkaa
