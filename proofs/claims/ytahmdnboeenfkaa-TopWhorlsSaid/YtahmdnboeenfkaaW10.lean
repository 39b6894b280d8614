/- Walks: Index and Turning, on both sides. -/
import Derived.Test.YtahmdnboeenfkaaW9
namespace Go.Proofs.Ytahmdnboeenfkaa
open Go.RowKit Go.Sort

theorem isSquare_any (v : FV) (x y : Int) (w : World) (h1 : 1 ≤ v.f.W) (h2 : v.f.W ≤ 12) (h3 : 1 ≤ v.f.H) (h4 : v.f.H ≤ 12) :
    Calls Try.prog 69 #[v.val, .int .i64 x, .int .i64 y] w fun r w' => r = .returned (.bool (isS v.f.W v.f.H x y)) ∧ Below w.heap.size w w' := by
  by_cases g1 : 0 ≤ x ∧ x ≤ v.f.W - 2
  all_goals
    go_enter Try.func69, Try.ntmps69
    dsimp only [FV.val]
    go_wp2_with (go_at_call 61; first | (refine (within_t _ _ _ _ (by omega)).mono ?_; rintro e w' ⟨rfl, rfl⟩) | (refine (within_f _ _ _ _ (by omega)).mono ?_; rintro e w' ⟨rfl, rfl⟩) | (refine (within_any _ _ _ _).mono ?_; rintro e w' ⟨rfl, rfl⟩))
    all_goals go_ret
    all_goals refine ⟨ret_bool ?_, belowA _ _⟩
    all_goals (go_light; rw [Bool.eq_iff_iff]; simp only [isS, decide_eq_true_eq, Bool.and_eq_true, Bool.false_eq_true, false_iff] at *; omega)
theorem isPlace_any (v : FV) (x y : Int) (w : World) (h1 : 1 ≤ v.f.W) (h2 : v.f.W ≤ 12) (h3 : 1 ≤ v.f.H) (h4 : v.f.H ≤ 12) :
    Calls Try.prog 73 #[v.val, .int .i64 x, .int .i64 y] w fun r w' => r = .returned (.bool (isP v.f.W v.f.H x y)) ∧ Below w.heap.size w w' := by
  by_cases g1 : 0 ≤ x ∧ x ≤ v.f.W - 1
  all_goals
    go_enter Try.func73, Try.ntmps73
    dsimp only [FV.val]
    go_wp2_with (go_at_call 61; first | (refine (within_t _ _ _ _ (by omega)).mono ?_; rintro e w' ⟨rfl, rfl⟩) | (refine (within_f _ _ _ _ (by omega)).mono ?_; rintro e w' ⟨rfl, rfl⟩) | (refine (within_any _ _ _ _).mono ?_; rintro e w' ⟨rfl, rfl⟩))
    all_goals go_ret
    all_goals refine ⟨ret_bool ?_, belowA _ _⟩
    all_goals (go_light; rw [Bool.eq_iff_iff]; simp only [isP, decide_eq_true_eq, Bool.and_eq_true, Bool.false_eq_true, false_iff] at *; omega)

theorem round_any (v : FV) (x y : Int) (w : World) (hv : v.In w) (hk : Okf v.f) (hs : isS v.f.W v.f.H x y = true) :
    Calls Try.prog 70 #[v.val, .int .i64 x, .int .i64 y] w fun r w' => r = .returned (.int .i64 (v.f.rnd x y)) ∧ Below w.heap.size w w' := by
  unfold isS at hs
  rw [decide_eq_true_eq] at hs
  obtain ⟨x0, x1, y0, y1⟩ := hs
  have hw2 := hk.w2
  have hh2 := hk.h2
  have E0 : Hid (isE v.f.W v.f.H (x, y, 0) = true) := Lib.hid (by unfold isE; rw [decide_eq_true_eq]; simp; omega)
  have E1 : Hid (isE v.f.W v.f.H (x + 1, y, 1) = true) := Lib.hid (by unfold isE; rw [decide_eq_true_eq]; simp; omega)
  have E2 : Hid (isE v.f.W v.f.H (x, y + 1, 0) = true) := Lib.hid (by unfold isE; rw [decide_eq_true_eq]; simp; omega)
  have E3 : Hid (isE v.f.W v.f.H (x, y, 1) = true) := Lib.hid (by unfold isE; rw [decide_eq_true_eq]; simp; omega)
  obtain ⟨a0, a1⟩ := trn_bd v.f (x, y, 0)
  obtain ⟨a2, a3⟩ := trn_bd v.f (x + 1, y, 1)
  obtain ⟨a4, a5⟩ := trn_bd v.f (x, y + 1, 0)
  obtain ⟨a6, a7⟩ := trn_bd v.f (x, y, 1)
  have HK := Lib.hid hk
  have HVv := Lib.hid hv
  clear hk hv
  go_enter Try.func70, Try.ntmps70
  dsimp only [FV.val]
  go_wp2_with fail
  refine wp_gen (fun w1 => Box w1 w.heap.size #[.int .i64 v.f.W, .int .i64 v.f.H, .slice v.A v.n v.c, .slice v.B v.m v.d] ∧ Below w.heap.size w w1) ⟨Box.new _ _ _, belowA _ _⟩ ?_
  rintro w1 ⟨b0, hw10⟩
  have HV1 := Lib.hid (HVv.out.below hw10)
  have hw1 := Lib.hid hw10
  have c0 := b0.rg
  clear hw10
  have q0 : ∀ w2, Below w1.heap.size w1 w2 → Calls Try.prog 65 #[v.val, eval_ (x, y, 0)] w2 fun r w' => r = .returned (.int .i64 (v.f.trn (x, y, 0))) ∧ Below w2.heap.size w2 w' := fun w2 hb => turning_any v (x, y, 0) w2 (HV1.out.below hb) HK.out E0.out
  have q1 : ∀ w2, Below w1.heap.size w1 w2 → Calls Try.prog 65 #[v.val, eval_ (x + 1, y, 1)] w2 fun r w' => r = .returned (.int .i64 (v.f.trn (x + 1, y, 1))) ∧ Below w2.heap.size w2 w' := fun w2 hb => turning_any v (x + 1, y, 1) w2 (HV1.out.below hb) HK.out E1.out
  have q2 : ∀ w2, Below w1.heap.size w1 w2 → Calls Try.prog 65 #[v.val, eval_ (x, y + 1, 0)] w2 fun r w' => r = .returned (.int .i64 (v.f.trn (x, y + 1, 0))) ∧ Below w2.heap.size w2 w' := fun w2 hb => turning_any v (x, y + 1, 0) w2 (HV1.out.below hb) HK.out E2.out
  have q3 : ∀ w2, Below w1.heap.size w1 w2 → Calls Try.prog 65 #[v.val, eval_ (x, y, 1)] w2 fun r w' => r = .returned (.int .i64 (v.f.trn (x, y, 1))) ∧ Below w2.heap.size w2 w' := fun w2 hb => turning_any v (x, y, 1) w2 (HV1.out.below hb) HK.out E3.out
  have Q0 := Lib.hid q0
  have Q1 := Lib.hid q1
  have Q2 := Lib.hid q2
  have Q3 := Lib.hid q3
  clear q0 q1 q2 q3 E0 E1 E2 E3
  refine wp_region_qb mixed (by kernel_rfl) ?_
  repeat (go_big_quiet_step (with_reducible first | exact rg_call Q0.out _ _ | exact rg_call Q1.out _ _ | exact rg_call Q2.out _ _ | exact rg_call Q3.out _ _))
  refine wpQuiet_nil ?_
  intro w3 hb3
  go_wp2_with fail
  go_ret
  exact ⟨rfl, below_trans' hw1.out hb3⟩

theorem Index_any (v : FV) (x y : Int) (w : World) (hv : v.In w) :
    Calls Try.prog 25 #[v.val, .int .i64 x, .int .i64 y] w fun r w' => r = .returned (.tuple #[.int .i64 (indexR v.f x y).1, .int .i64 (indexR v.f x y).2]) ∧ Below w.heap.size w w' := by
  have HVv := Lib.hid hv
  clear hv
  go_enter Try.func25, Try.ntmps25
  dsimp only [FV.val, eval_]
  go_wp2_with fail
  refine (validate_any v _ (HVv.out.below (belowA _ _))).mono ?_
  rintro r w1 ⟨rfl, hb1⟩
  have b0 := (Box.new _ _ _).below hb1
  have hw1 := Lib.hid (below1 _ hb1)
  clear hb1
  by_cases hz : valid v.f = 0
  · have ok := Lib.hid (okf_of_valid hz)
    have hz' : (valid v.f != 0) = false := by simpa using hz
    have HZ := Lib.hid hz
    clear hz
    have c0 := b0.at
    go_wp2_with fail
    clear c0 
    refine (hasSquare_any v x y _ ok.out.w1 (by have := ok.out.w2; omega) ok.out.h1 (by have := ok.out.h2; omega)).mono ?_
    rintro r w2 ⟨rfl, hb2⟩
    have b2 := b0.below hb2
    have hw2 := Lib.hid (below_trans' hw1.out hb2)
    clear hb2 b0 
    cases hs : isS v.f.W v.f.H x y
    · have HR := Lib.hid (show indexR v.f x y = (0, 5) by unfold indexR; simp [HZ.out, hs])
      go_wp2_with fail
      go_ret2
      exact ⟨by rw [HR.out]; rfl, hw2.out⟩
    · have HS := Lib.hid hs
      clear hs
      have c0 := b2.at
      go_wp2_with fail
      clear c0 
      refine (index_any v x y _ (HVv.out.below hw2.out) ok.out HS.out).mono ?_
      rintro r w3 ⟨rfl, hb3⟩
      have HB3 := Lib.hid hb3
      clear hb3
      have HR := Lib.hid (show indexR v.f x y = ((v.f.rnd x y).tdiv 4, 0) by unfold indexR; simp [HZ.out, HS.out])
      go_wp2_with fail
      go_ret2
      exact ⟨by rw [HR.out]; rfl, below_trans' hw2.out HB3.out⟩
  · have hz' : (valid v.f != 0) = true := by simpa using hz
    have HR := Lib.hid (show indexR v.f x y = (0, valid v.f) by unfold indexR; simp [hz])
    clear hz
    go_wp2_with fail
    go_ret2
    exact ⟨by rw [HR.out]; rfl, hw1.out⟩

theorem rnd_bd (f : Fld) (x y : Int) : -16 ≤ f.rnd x y ∧ f.rnd x y ≤ 16 := by
  have := psum_bd f x y 4
  simpa [psum] using this
theorem refIndex_any (v : FV) (x y : Int) (w : World) (hv : v.In w) :
    Calls Try.prog 26 #[v.val, .int .i64 x, .int .i64 y] w fun r w' => r = .returned (.tuple #[.int .i64 (indexR v.f x y).1, .int .i64 (indexR v.f x y).2]) ∧ Below w.heap.size w w' := by
  have HVv := Lib.hid hv
  clear hv
  go_enter Try.func26, Try.ntmps26
  dsimp only [FV.val, eval_]
  go_wp2_with fail
  refine (refValidate_any v _ (HVv.out.below (belowA _ _))).mono ?_
  rintro r w1 ⟨rfl, hb1⟩
  have b0 := (Box.new _ _ _).below hb1
  have hw1 := Lib.hid (below1 _ hb1)
  clear hb1
  by_cases hz : valid v.f = 0
  · have ok := Lib.hid (okf_of_valid hz)
    have hz' : (valid v.f != 0) = false := by simpa using hz
    have HZ := Lib.hid hz
    clear hz
    have c0 := b0.at
    go_wp2_with fail
    clear c0 
    refine (isSquare_any v x y _ ok.out.w1 (by have := ok.out.w2; omega) ok.out.h1 (by have := ok.out.h2; omega)).mono ?_
    rintro r w2 ⟨rfl, hb2⟩
    have b2 := b0.below hb2
    have hw2 := Lib.hid (below_trans' hw1.out hb2)
    clear hb2 b0 
    cases hs : isS v.f.W v.f.H x y
    · have HR := Lib.hid (show indexR v.f x y = (0, 5) by unfold indexR; simp [HZ.out, hs])
      go_wp2_with fail
      go_ret2
      exact ⟨by rw [HR.out]; rfl, hw2.out⟩
    · have HS := Lib.hid hs
      clear hs
      have c0 := b2.at
      go_wp2_with fail
      clear c0 
      refine (round_any v x y _ (HVv.out.below hw2.out) ok.out HS.out).mono ?_
      rintro r w3 ⟨rfl, hb3⟩
      have HB3 := Lib.hid hb3
      obtain ⟨r0, r1⟩ := rnd_bd v.f x y
      clear hb3
      have HR := Lib.hid (show indexR v.f x y = ((v.f.rnd x y).tdiv 4, 0) by unfold indexR; simp [HZ.out, HS.out])
      go_wp2_with fail
      go_ret2
      exact ⟨by rw [HR.out]; rfl, below_trans' hw2.out HB3.out⟩
  · have hz' : (valid v.f != 0) = true := by simpa using hz
    have HR := Lib.hid (show indexR v.f x y = (0, valid v.f) by unfold indexR; simp [hz])
    clear hz
    go_wp2_with fail
    go_ret2
    exact ⟨by rw [HR.out]; rfl, hw1.out⟩

theorem Turning_any (v : FV) (e : Edg) (w : World) (hv : v.In w) :
    Calls Try.prog 23 #[v.val, eval_ e] w fun r w' => r = .returned (.tuple #[.int .i64 (turnR v.f e).1, .int .i64 (turnR v.f e).2]) ∧ Below w.heap.size w w' := by
  have HVv := Lib.hid hv
  clear hv
  go_enter Try.func23, Try.ntmps23
  dsimp only [FV.val, eval_]
  go_wp2_with fail
  refine (validate_any v _ (HVv.out.below (belowAA _ _ _))).mono ?_
  rintro r w1 ⟨rfl, hb1⟩
  have b0 := ((Box.new _ _ _).alloc _).below hb1
  have d0 := (Box.new2 _ _ _ _ _).below hb1
  have hw1 := Lib.hid (below2 _ _ hb1)
  clear hb1
  by_cases hz : valid v.f = 0
  · have ok := Lib.hid (okf_of_valid hz)
    have hz' : (valid v.f != 0) = false := by simpa using hz
    have HZ := Lib.hid hz
    clear hz
    have c0 := b0.at
    have c1 := d0.at
    go_wp2_with fail
    clear c0 c1
    refine (hasEdge_any v e _ ok.out.w1 (by have := ok.out.w2; omega) ok.out.h1 (by have := ok.out.h2; omega)).mono ?_
    rintro r w2 ⟨rfl, hb2⟩
    have b2 := b0.below hb2
    have d2 := d0.below hb2
    have hw2 := Lib.hid (below_trans' hw1.out hb2)
    clear hb2 b0 d0
    cases hs : isE v.f.W v.f.H e
    · have HR := Lib.hid (show turnR v.f e = (0, 5) by unfold turnR; simp [HZ.out, hs])
      go_wp2_with fail
      go_ret2
      exact ⟨by rw [HR.out]; rfl, hw2.out⟩
    · have HS := Lib.hid hs
      clear hs
      have c0 := b2.at
      have c1 := d2.at
      go_wp2_with fail
      clear c0 c1
      refine (turns_any v e _ (HVv.out.below hw2.out) ok.out HS.out).mono ?_
      rintro r w3 ⟨rfl, hb3⟩
      have HB3 := Lib.hid hb3
      clear hb3
      have HR := Lib.hid (show turnR v.f e = (v.f.trn e, 0) by unfold turnR; simp [HZ.out, HS.out])
      go_wp2_with fail
      go_ret2
      exact ⟨by rw [HR.out]; rfl, below_trans' hw2.out HB3.out⟩
  · have hz' : (valid v.f != 0) = true := by simpa using hz
    have HR := Lib.hid (show turnR v.f e = (0, valid v.f) by unfold turnR; simp [hz])
    clear hz
    go_wp2_with fail
    go_ret2
    exact ⟨by rw [HR.out]; rfl, hw1.out⟩

theorem refTurning_any (v : FV) (e : Edg) (w : World) (hv : v.In w) :
    Calls Try.prog 24 #[v.val, eval_ e] w fun r w' => r = .returned (.tuple #[.int .i64 (turnR v.f e).1, .int .i64 (turnR v.f e).2]) ∧ Below w.heap.size w w' := by
  have HVv := Lib.hid hv
  clear hv
  go_enter Try.func24, Try.ntmps24
  dsimp only [FV.val, eval_]
  go_wp2_with fail
  refine (refValidate_any v _ (HVv.out.below (belowAA _ _ _))).mono ?_
  rintro r w1 ⟨rfl, hb1⟩
  have b0 := ((Box.new _ _ _).alloc _).below hb1
  have d0 := (Box.new2 _ _ _ _ _).below hb1
  have hw1 := Lib.hid (below2 _ _ hb1)
  clear hb1
  by_cases hz : valid v.f = 0
  · have ok := Lib.hid (okf_of_valid hz)
    have hz' : (valid v.f != 0) = false := by simpa using hz
    have HZ := Lib.hid hz
    clear hz
    have c0 := b0.at
    have c1 := d0.at
    go_wp2_with fail
    clear c0 c1
    refine (isEdge_any v e _ ok.out.w1 (by have := ok.out.w2; omega) ok.out.h1 (by have := ok.out.h2; omega)).mono ?_
    rintro r w2 ⟨rfl, hb2⟩
    have b2 := b0.below hb2
    have d2 := d0.below hb2
    have hw2 := Lib.hid (below_trans' hw1.out hb2)
    clear hb2 b0 d0
    cases hs : isE v.f.W v.f.H e
    · have HR := Lib.hid (show turnR v.f e = (0, 5) by unfold turnR; simp [HZ.out, hs])
      go_wp2_with fail
      go_ret2
      exact ⟨by rw [HR.out]; rfl, hw2.out⟩
    · have HS := Lib.hid hs
      clear hs
      have c0 := b2.at
      have c1 := d2.at
      go_wp2_with fail
      clear c0 c1
      refine (turning_any v e _ (HVv.out.below hw2.out) ok.out HS.out).mono ?_
      rintro r w3 ⟨rfl, hb3⟩
      have HB3 := Lib.hid hb3
      clear hb3
      have HR := Lib.hid (show turnR v.f e = (v.f.trn e, 0) by unfold turnR; simp [HZ.out, HS.out])
      go_wp2_with fail
      go_ret2
      exact ⟨by rw [HR.out]; rfl, below_trans' hw2.out HB3.out⟩
  · have hz' : (valid v.f != 0) = true := by simpa using hz
    have HR := Lib.hid (show turnR v.f e = (0, valid v.f) by unfold turnR; simp [hz])
    clear hz
    go_wp2_with fail
    go_ret2
    exact ⟨by rw [HR.out]; rfl, hw1.out⟩
end Go.Proofs.Ytahmdnboeenfkaa
