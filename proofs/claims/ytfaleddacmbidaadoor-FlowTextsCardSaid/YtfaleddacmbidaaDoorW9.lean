/- Walks: the index of a square, what turns along an edge: the program's exported functions. -/
import Derived.Test.YtfaleddacmbidaaDoorW9a
namespace Go.Proofs.YtfaleddacmbidaaDoor
open Go.RowKit Go.Sort

def psum (f : Fld) (x y k : Int) : Int :=
  if k = 0 then 0 else if k = 1 then f.trn (x, y, 0) else if k = 2 then f.trn (x, y, 0) + f.trn (x + 1, y, 1) else if k = 3 then f.trn (x, y, 0) + f.trn (x + 1, y, 1) - f.trn (x, y + 1, 0) else f.rnd x y

theorem psum_bd (f : Fld) (x y k : Int) : -16 ≤ psum f x y k ∧ psum f x y k ≤ 16 := by
  obtain ⟨a0, a1⟩ := trn_bd f (x, y, 0)
  obtain ⟨a2, a3⟩ := trn_bd f (x + 1, y, 1)
  obtain ⟨a4, a5⟩ := trn_bd f (x, y + 1, 0)
  obtain ⟨a6, a7⟩ := trn_bd f (x, y, 1)
  unfold psum Fld.rnd
  repeat' split
  all_goals omega
theorem index_any (v : FV) (x y : Int) (w : World) (hv : v.In w) (hk : Okf v.f) (hs : isS v.f.W v.f.H x y = true) :
    Calls Tryd.prog 27 #[v.val, .int .i64 x, .int .i64 y] w fun r w' => r = .returned (.int .i64 ((v.f.rnd x y).tdiv 4)) ∧ Below w.heap.size w w' := by
  unfold isS at hs
  rw [decide_eq_true_eq] at hs
  obtain ⟨x0, x1, y0, y1⟩ := hs
  have hw2 := hk.w2
  have hh2 := hk.h2
  have e0 : isE v.f.W v.f.H (x, y, 0) = true := by unfold isE; rw [decide_eq_true_eq]; simp; omega
  have e1 : isE v.f.W v.f.H (x + 1, y, 1) = true := by unfold isE; rw [decide_eq_true_eq]; simp; omega
  have e2 : isE v.f.W v.f.H (x, y + 1, 0) = true := by unfold isE; rw [decide_eq_true_eq]; simp; omega
  have e3 : isE v.f.W v.f.H (x, y, 1) = true := by unfold isE; rw [decide_eq_true_eq]; simp; omega
  have E0 := Lib.hid e0
  have E1 := Lib.hid e1
  have E2 := Lib.hid e2
  have E3 := Lib.hid e3
  clear e0 e1 e2 e3
  obtain ⟨a0, a1⟩ := trn_bd v.f (x, y, 0)
  obtain ⟨a2, a3⟩ := trn_bd v.f (x + 1, y, 1)
  obtain ⟨a4, a5⟩ := trn_bd v.f (x, y + 1, 0)
  obtain ⟨a6, a7⟩ := trn_bd v.f (x, y, 1)
  have HK := Lib.hid hk
  have HVv := Lib.hid hv
  clear hk hv
  go_enter Tryd.func27, Tryd.ntmps27
  dsimp only [FV.val]
  go_wp2_with fail
  refine (sides_any x y _ x0 (by omega) y0 (by omega)).mono ?_
  rintro r w1 ⟨rfl, hb1⟩
  have b0 := (Box.new _ _ _).below hb1
  have hw1 := Lib.hid (below1 _ hb1)
  have HV1 := Lib.hid (HVv.out.below hw1.out)
  clear hb1
  go_wp2_with fail
  go_loopw [7, 13] (fun s i wr => ∃ k : Int, 0 ≤ k ∧ k ≤ 4 ∧ i = .int .i64 k ∧ s = .int .i64 (psum v.f x y k) ∧ Below w1.heap.size w1 wr) (fun _ i _ => (4 - intOf i).toNat)
  case atStart => exact ⟨0, by omega, by omega, rfl, rfl, Below.refl _ _⟩
  case round =>
    obtain ⟨k, hk0, hk4, rfl, rfl, hb0⟩ := hrel
    have hbel := Lib.hid hb0
    have HVr := Lib.hid (HV1.out.below hb0)
    have b1 := b0.below hb0
    clear hb0
    have ix0 : ∀ w, (Instr.index 69 (sidesV x y) (.int .i64 0)).run Tryd.prog w = .ok (.agg #[.int .i64 x, .int .i64 y, .int .i64 0, .int .i64 1]) w := fun _ => by kernel_rfl
    have ix1 : ∀ w, (Instr.index 69 (sidesV x y) (.int .i64 1)).run Tryd.prog w = .ok (.agg #[.int .i64 (x + 1), .int .i64 y, .int .i64 1, .int .i64 1]) w := fun _ => by kernel_rfl
    have ix2 : ∀ w, (Instr.index 69 (sidesV x y) (.int .i64 2)).run Tryd.prog w = .ok (.agg #[.int .i64 x, .int .i64 (y + 1), .int .i64 0, .int .i64 (-1)]) w := fun _ => by kernel_rfl
    have ix3 : ∀ w, (Instr.index 69 (sidesV x y) (.int .i64 3)).run Tryd.prog w = .ok (.agg #[.int .i64 x, .int .i64 y, .int .i64 1, .int .i64 (-1)]) w := fun _ => by kernel_rfl
    rcases (show k = 0 ∨ k = 1 ∨ k = 2 ∨ k = 3 ∨ k = 4 by omega) with rfl | rfl | rfl | rfl | rfl
    · obtain ⟨p0, p1⟩ := psum_bd v.f x y 0
      go_wp2_with fail
      refine wp_gen (fun w2 => Box w2 wr.heap.size #[.int .i64 x, .int .i64 y, .int .i64 0, .int .i64 1] ∧ Below wr.heap.size wr w2) ⟨Box.new _ _ _, belowA _ _⟩ ?_
      rintro w2 ⟨b2, hb2⟩
      have c2 := b2.rg
      have c1 := (b1.below hb2).rg
      have HV2 := Lib.hid (HVr.out.below hb2)
      have hbel2 := Lib.hid (below_trans' hbel.out hb2)
      clear hb2
      refine wp_region_qb mixed (by kernel_rfl) ?_
      repeat (go_big_quiet_step (exact rg_call (fun w1 hb => turns_any v (x, y, 0) w1 (HV2.out.below hb) HK.out E0.out) _ _))
      refine wpQuiet_nil ?_
      intro w3 hb3
      have hbel3 := Lib.hid (below_trans' hbel2.out hb3)
      clear hb3 c1 c2
      go_wp2_with fail
      go_roundw
      case rel => exact ⟨1, by omega, by omega, by go_num, congrArg _ (by simp [psum]; try omega), hbel3.out⟩
      case measure => simp [intOf]
    · obtain ⟨p0, p1⟩ := psum_bd v.f x y 1
      go_wp2_with fail
      refine wp_gen (fun w2 => Box w2 wr.heap.size #[.int .i64 (x + 1), .int .i64 y, .int .i64 1, .int .i64 1] ∧ Below wr.heap.size wr w2) ⟨Box.new _ _ _, belowA _ _⟩ ?_
      rintro w2 ⟨b2, hb2⟩
      have c2 := b2.rg
      have c1 := (b1.below hb2).rg
      have HV2 := Lib.hid (HVr.out.below hb2)
      have hbel2 := Lib.hid (below_trans' hbel.out hb2)
      clear hb2
      refine wp_region_qb mixed (by kernel_rfl) ?_
      repeat (go_big_quiet_step (exact rg_call (fun w1 hb => turns_any v (x + 1, y, 1) w1 (HV2.out.below hb) HK.out E1.out) _ _))
      refine wpQuiet_nil ?_
      intro w3 hb3
      have hbel3 := Lib.hid (below_trans' hbel2.out hb3)
      clear hb3 c1 c2
      go_wp2_with fail
      go_roundw
      case rel => exact ⟨2, by omega, by omega, by go_num, congrArg _ (by simp [psum]; try omega), hbel3.out⟩
      case measure => simp [intOf]
    · obtain ⟨p0, p1⟩ := psum_bd v.f x y 2
      go_wp2_with fail
      refine wp_gen (fun w2 => Box w2 wr.heap.size #[.int .i64 x, .int .i64 (y + 1), .int .i64 0, .int .i64 (-1)] ∧ Below wr.heap.size wr w2) ⟨Box.new _ _ _, belowA _ _⟩ ?_
      rintro w2 ⟨b2, hb2⟩
      have c2 := b2.rg
      have c1 := (b1.below hb2).rg
      have HV2 := Lib.hid (HVr.out.below hb2)
      have hbel2 := Lib.hid (below_trans' hbel.out hb2)
      clear hb2
      refine wp_region_qb mixed (by kernel_rfl) ?_
      repeat (go_big_quiet_step (exact rg_call (fun w1 hb => turns_any v (x, y + 1, 0) w1 (HV2.out.below hb) HK.out E2.out) _ _))
      refine wpQuiet_nil ?_
      intro w3 hb3
      have hbel3 := Lib.hid (below_trans' hbel2.out hb3)
      clear hb3 c1 c2
      go_wp2_with fail
      go_roundw
      case rel => exact ⟨3, by omega, by omega, by go_num, congrArg _ (by simp [psum]; try omega), hbel3.out⟩
      case measure => simp [intOf]
    · obtain ⟨p0, p1⟩ := psum_bd v.f x y 3
      go_wp2_with fail
      refine wp_gen (fun w2 => Box w2 wr.heap.size #[.int .i64 x, .int .i64 y, .int .i64 1, .int .i64 (-1)] ∧ Below wr.heap.size wr w2) ⟨Box.new _ _ _, belowA _ _⟩ ?_
      rintro w2 ⟨b2, hb2⟩
      have c2 := b2.rg
      have c1 := (b1.below hb2).rg
      have HV2 := Lib.hid (HVr.out.below hb2)
      have hbel2 := Lib.hid (below_trans' hbel.out hb2)
      clear hb2
      refine wp_region_qb mixed (by kernel_rfl) ?_
      repeat (go_big_quiet_step (exact rg_call (fun w1 hb => turns_any v (x, y, 1) w1 (HV2.out.below hb) HK.out E3.out) _ _))
      refine wpQuiet_nil ?_
      intro w3 hb3
      have hbel3 := Lib.hid (below_trans' hbel2.out hb3)
      clear hb3 c1 c2
      go_wp2_with fail
      go_roundw
      case rel => exact ⟨4, by omega, by omega, by go_num, congrArg _ (by simp [psum, Fld.rnd]; try omega), hbel3.out⟩
      case measure => simp [intOf]
    · obtain ⟨p0, p1⟩ := psum_bd v.f x y 4
      have hp := Lib.hid (show psum v.f x y 4 = v.f.rnd x y by simp [psum])
      clear ix0 ix1 ix2 ix3
      go_wp2_with fail
      go_ret
      exact ⟨ret_int (by rw [hp.out]), below_trans' hw1.out hbel.out⟩
end Go.Proofs.YtfaleddacmbidaaDoor
