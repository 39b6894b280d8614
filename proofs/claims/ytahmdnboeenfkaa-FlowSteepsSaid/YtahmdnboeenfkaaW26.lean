/- Walks: how steeply a field turns, on both sides. -/
import Derived.Test.YtahmdnboeenfkaaW12
import Derived.Test.YtahmdnboeenfkaaPl7
import Derived.Laws.Cover1
namespace Go.Proofs.Ytahmdnboeenfkaa
open Go.RowKit Go.Sort

theorem steepR_bad {f : Fld} (h : valid f ≠ 0) : steepR f = (0, valid f) := by unfold steepR; rw [if_pos h]
theorem steepR_ok {f : Fld} (h : valid f = 0) : steepR f = (stp_ f, 0) := by unfold steepR; rw [if_neg (by simpa using h)]
theorem max_abs (m t : Int) : max (max m t) (-t) = max m (absI t) := by unfold absI; split <;> omega

theorem run_max3 (x y z : Int) (w : World) : (Builtin.max_ #[3, 3, 3] 3 #[.int .i64 x, .int .i64 y, .int .i64 z]).run Try.prog w = .ok (.int .i64 (max (max x y) z)) w := by
  rw [run_max_int3]
  congr 2
  repeat' split
  all_goals omega
theorem Steep_any (v : FV) (w : World) (hv : v.In w) :
    Calls Try.prog 37 #[v.val] w fun r w' => r = .returned (.tuple #[.int .i64 (steepR v.f).1, .int .i64 (steepR v.f).2]) ∧ Below w.heap.size w w' := by
  have HVv := Lib.hid hv
  clear hv
  go_enter Try.func37, Try.ntmps37
  dsimp only [FV.val, eval_]
  go_wp2_with fail
  refine (validate_any v _ (HVv.out.below (belowA _ _))).mono ?_
  rintro r w1 ⟨rfl, hb1⟩
  have b0 := (Box.new _ _ _).below hb1
  have hw1 := Lib.hid (below1 _ hb1)
  clear hb1
  by_cases hz : valid v.f = 0
  case neg =>
    have hz' : (valid v.f != 0) = true := by simpa using hz
    have HR := Lib.hid (steepR_bad hz)
    clear hz
    go_wp2_with fail
    go_ret2
    exact ⟨by rw [HR.out]; rfl, hw1.out⟩
  have ok := Lib.hid (okf_of_valid hz)
  have hz' : (valid v.f != 0) = false := by simpa using hz
  have HR := Lib.hid (steepR_ok hz)
  clear hz
  have c0 := b0.at
  go_wp2_with fail
  clear c0
  refine (edges_any v _ ok.out.w1 ok.out.w2 ok.out.h1 ok.out.h2).mono ?_
  rintro r w2 ⟨B, d, rfl, hre, hb2⟩
  have hle := edgesP_le v.f.W v.f.H v.f.H.toNat ok.out.w2
  have okh := ok.out.h2
  obtain ⟨es, hes⟩ : ∃ es, es = edgesP v.f.W v.f.H v.f.H.toNat := ⟨_, rfl⟩
  rw [← hes] at hre hle ⊢
  have HES := Lib.hid hes
  replace HR := Lib.hid (show steepR v.f = (mxl v.f.trn es, 0) by rw [HR.out, hes]; rfl)
  replace b0 := b0.below hb2
  replace hw1 := Lib.hid (below_trans' hw1.out hb2)
  have HV1 := Lib.hid (HVv.out.below hw1.out)
  have HE1 := Lib.hid hre
  have hm : es.length ≤ 288 := by omega
  clear hb2 hre hle hes okh
  go_wp2_with fail
  go_loopw [5, 17] (fun s i wr => ∃ k : Nat, k ≤ es.length ∧ i = .int .i64 k ∧ s = .int .i64 (mxl v.f.trn (es.take k)) ∧ Below w2.heap.size w2 wr) (fun _ i _ => es.length - (intOf i).toNat)
  case atStart => exact ⟨0, by omega, rfl, rfl, Below.refl _ _⟩
  case round =>
    obtain ⟨k, hk, rfl, rfl, hb0⟩ := hrel
    have hbel := Lib.hid hb0
    have b2 := b0.below hb0
    have HEr := Lib.hid (HE1.out.on hb0)
    have HVr := Lib.hid (HV1.out.below hb0)
    clear hb0
    by_cases hlt : k < es.length
    · obtain ⟨ad, e, e1, hbk, hx0, d0, d1, d2⟩ := psat HEr.out (k := k) hlt
      have X := fun w => ix23 (c := d) e1 hlt w
      have HSU := Lib.hid (show mxl v.f.trn (es.take (k + 1)) = max (max (mxl v.f.trn (es.take k)) (v.f.trn e)) (-v.f.trn e) by rw [mxl_take_succ hx0, max_abs])
      obtain ⟨m0, m1⟩ := stp_bd v.f (es.take k)
      have hie := Lib.hid (show isE v.f.W v.f.H e = true from mem_edgesP.1 (by rw [← HES.out]; exact List.mem_of_getElem? hx0))
      clear hx0 e1
      generalize mxl v.f.trn (es.take k) = S at m0 m1 HSU ⊢
      obtain ⟨t0, t1⟩ := trn_bd v.f e
      have c0 := b2.at
      have c1 := fun o => (b2.alloc o).at
      go_wp2_with fail
      refine (turns_any v e _ (HVr.out.below (belowA _ _)) ok.out hie.out).mono ?_
      rintro r w4 ⟨rfl, hb4⟩
      have hbel4 := Lib.hid (below_trans' hbel.out (below_trans' (belowA _ _) hb4))
      clear hb4 c0 c1 d0 d1 d2 X
      generalize v.f.trn e = t at t0 t1 HSU ⊢
      have RM := fun w => run_max3 S t (-t) w
      obtain ⟨M, hM⟩ : ∃ M, M = max (max S t) (-t) := ⟨_, rfl⟩
      rw [← hM] at RM HSU
      clear hM
      go_wp2_with fail
      go_roundw
      case rel => exact ⟨k + 1, by omega, by go_num, by rw [HSU.out], hbel4.out⟩
      case measure => simp [intOf]; omega
    · have HE := Lib.hid (show es.take k = es from List.take_of_length_le (by omega))
      go_wp2_with fail
      go_ret2
      exact ⟨by rw [HR.out, HE.out]; rfl, below_trans' hw1.out hbel.out⟩

theorem refSteep_any (v : FV) (w : World) (hv : v.In w) :
    Calls Try.prog 38 #[v.val] w fun r w' => r = .returned (.tuple #[.int .i64 (steepR v.f).1, .int .i64 (steepR v.f).2]) ∧ Below w.heap.size w w' := by
  have HVv := Lib.hid hv
  clear hv
  go_enter Try.func38, Try.ntmps38
  dsimp only [FV.val, eval_]
  go_wp2_with fail
  refine (refValidate_any v _ (HVv.out.below (belowA _ _))).mono ?_
  rintro r w1 ⟨rfl, hb1⟩
  have b0 := (Box.new _ _ _).below hb1
  have hw1 := Lib.hid (below1 _ hb1)
  clear hb1
  by_cases hz : valid v.f = 0
  case neg =>
    have hz' : (valid v.f != 0) = true := by simpa using hz
    have HR := Lib.hid (steepR_bad hz)
    clear hz
    go_wp2_with fail
    go_ret2
    exact ⟨by rw [HR.out]; rfl, hw1.out⟩
  have ok := Lib.hid (okf_of_valid hz)
  have hz' : (valid v.f != 0) = false := by simpa using hz
  have HR := Lib.hid (steepR_ok hz)
  clear hz
  have c0 := b0.at
  go_wp2_with fail
  clear c0
  refine (refEdges_any v _ ok.out.w1 ok.out.w2 ok.out.h1 ok.out.h2).mono ?_
  rintro r w2 ⟨B, d, rfl, hre, hb2⟩
  have hle := edgesR_le v.f.W v.f.H v.f.W.toNat ok.out.h2
  have okw := ok.out.w2
  obtain ⟨es, hes⟩ : ∃ es, es = edgesR v.f.W v.f.H v.f.W.toNat := ⟨_, rfl⟩
  rw [← hes] at hre hle ⊢
  have HES := Lib.hid hes
  replace HR := Lib.hid (show steepR v.f = (mxl v.f.trn es, 0) by rw [HR.out, hes, stp_R])
  replace b0 := b0.below hb2
  replace hw1 := Lib.hid (below_trans' hw1.out hb2)
  have HV1 := Lib.hid (HVv.out.below hw1.out)
  have HE1 := Lib.hid hre
  have hm : es.length ≤ 288 := by omega
  clear hb2 hre hle hes okw
  go_wp2_with fail
  go_loopw [5, 7] (fun s i wr => ∃ k : Nat, k ≤ es.length ∧ i = .int .i64 k ∧ s = .int .i64 (mxl v.f.trn (es.take k)) ∧ Below w2.heap.size w2 wr) (fun _ i _ => es.length - (intOf i).toNat)
  case atStart => exact ⟨0, by omega, rfl, rfl, Below.refl _ _⟩
  case round =>
    obtain ⟨k, hk, rfl, rfl, hb0⟩ := hrel
    have hbel := Lib.hid hb0
    have b2 := b0.below hb0
    have HEr := Lib.hid (HE1.out.on hb0)
    have HVr := Lib.hid (HV1.out.below hb0)
    clear hb0
    by_cases hlt : k < es.length
    · obtain ⟨ad, e, e1, hbk, hx0, d0, d1, d2⟩ := psat HEr.out (k := k) hlt
      have X := fun w => ix23 (c := d) e1 hlt w
      have HSU := Lib.hid (show mxl v.f.trn (es.take (k + 1)) = max (max (mxl v.f.trn (es.take k)) (v.f.trn e)) (-v.f.trn e) by rw [mxl_take_succ hx0, max_abs])
      obtain ⟨m0, m1⟩ := stp_bd v.f (es.take k)
      have hie := Lib.hid (show isE v.f.W v.f.H e = true from mem_edgesR.1 (by rw [← HES.out]; exact List.mem_of_getElem? hx0))
      clear hx0 e1
      generalize mxl v.f.trn (es.take k) = S at m0 m1 HSU ⊢
      obtain ⟨t0, t1⟩ := trn_bd v.f e
      go_wp2_with fail
      have c2 := b2.rg
      have f0 := rg_cell d0
      have f1 := rg_cell d1
      have f2 := rg_cell d2
      have q0 : ∀ w4, Below wr.heap.size wr w4 → Calls Try.prog 65 #[v.val, eval_ e] w4 fun r w' => r = .returned (.int .i64 (v.f.trn e)) ∧ Below w4.heap.size w4 w' := fun w4 hb => turning_any v e w4 (HVr.out.below hb) ok.out hie.out
      have Q0 := Lib.hid q0
      clear q0 d0 d1 d2
      refine wp_region_qb mixed (by kernel_rfl) ?_
      repeat (go_big_quiet_step (exact rg_call Q0.out _ _))
      refine wpQuiet_nil ?_
      intro w4 hb4
      have hbel4 := Lib.hid (below_trans' hbel.out hb4)
      clear hb4 c2 f0 f1 f2 X
      generalize v.f.trn e = t at t0 t1 HSU ⊢
      have RM := fun w => run_max3 S t (-t) w
      obtain ⟨M, hM⟩ : ∃ M, M = max (max S t) (-t) := ⟨_, rfl⟩
      rw [← hM] at RM HSU
      clear hM
      go_wp2_with fail
      go_roundw
      case rel => exact ⟨k + 1, by omega, by go_num, by rw [HSU.out], hbel4.out⟩
      case measure => simp [intOf]; omega
    · have HE := Lib.hid (show es.take k = es from List.take_of_length_le (by omega))
      go_wp2_with fail
      go_ret2
      exact ⟨by rw [HR.out, HE.out]; rfl, below_trans' hw1.out hbel.out⟩
end Go.Proofs.Ytahmdnboeenfkaa
