/- Walks: ends of the reference, rings, shadows. -/
import Derived.Test.YtgkgloafjhiakaaDoorN2
namespace Go.Proofs.YtgkgloafjhiakaaDoor
open Go.RowKit Go.Sort

theorem zz_new (w : World) : TriAt ((w.alloc (.cells z3 47)).alloc (.cells z3 47)) w.heap.size (0, 0, 0) ∧ TriAt ((w.alloc (.cells z3 47)).alloc (.cells z3 47)) (w.heap.size + 1) (0, 0, 0) ∧ Below w.heap.size w ((w.alloc (.cells z3 47)).alloc (.cells z3 47)) ∧ w.heap.size + 1 < ((w.alloc (.cells z3 47)).alloc (.cells z3 47)).heap.size := by
  have s1 : (w.alloc (.cells z3 47)).heap.size = w.heap.size + 1 := by simp
  refine ⟨(z3_new w).below (belowA _ _), by rw [← s1]; exact z3_new _, belowAA w _ _, by simp⟩
set_option maxRecDepth 100000 in
set_option maxHeartbeats 4000000 in
theorem refEnds_any (t : ByteArray) (w : World) (ht : t.size ≤ 1000000) : Calls Tryd.prog 49 #[.string t] w fun r w' => r = .returned (.tuple #[tval (endsR t), .int .i64 (ansE t)]) ∧ Below w.heap.size w w' := by
  obtain ⟨hr, ho, hb, hlt0⟩ := zz_new w
  go_enter Tryd.func49, Tryd.ntmps49
  go_wp2_with fail
  generalize (w.alloc (.cells z3 47)).alloc (.cells z3 47) = w2 at hr ho hb hlt0 ⊢
  with_reducible refine (refValid_any t _ ht).mono ?_
  rintro _ w3 ⟨rfl, rfl⟩
  have HR := Lib.hid hr
  have HO := Lib.hid ho
  have HB := Lib.hid hb
  have HLT := Lib.hid hlt0
  clear hr ho hb hlt0
  rcases Bool.eq_false_or_eq_true (okW t) with h | h'
  · have hW := okW_iff.1 h
    have HC := Lib.hid (endsR_ok h)
    have HE := Lib.hid (ansE_ok h)
    rw [h]
    clear h
    go_wp2_with fail
    with_reducible refine (run_any t _ hW.1 hW.2).mono ?_
    rintro _ w4 ⟨rfl, hb4⟩
    have HR4 := Lib.hid (HR.out.below hb4)
    have HO4 := Lib.hid (HO.out.below hb4)
    have HB4 := Lib.hid (HB.out.trans (hb4.mono HB.out.size))
    have HLT4 := Lib.hid (Nat.lt_of_lt_of_le HLT.out hb4.size)
    clear hb4
    go_wp2_with fail
    have b := at3_lt (liB t)
    have HEN := Lib.hid (invJ_all (runL_perm (liB t)))
    have hED : endsL (liB t) = invP (runL (liB t)).at3 := rfl
    rw [hED, ← HEN.out] at HC
    clear hED HEN
    obtain ⟨M, hM⟩ : ∃ M, runL (liB t) = M := ⟨_, rfl⟩
    rw [hM] at HC b ⊢
    clear hM
    obtain ⟨⟨p, q, r⟩, ov, un⟩ := M
    obtain ⟨b1, b2, b3⟩ := b
    dsimp only at b1 b2 b3 HC
    have HB5 := Lib.hid (below_trans' HB4.out (below_trans' (belowA w4 (.cells (tcs (p, q, r)) 47)) (belowAA (w4.alloc (.cells (tcs (p, q, r)) 47)) (.cells (tcs ov) 47) (.cells (tcs un) 47))))
    have HA := Lib.hid (((TriAt.new w4 (p, q, r)).below (belowAA _ (.cells (tcs ov) 47) (.cells (tcs un) 47))))
    have HR5 := Lib.hid ((HR4.out.below (belowA w4 (.cells (tcs (p, q, r)) 47))).below (belowAA _ (.cells (tcs ov) 47) (.cells (tcs un) 47)))
    have HO5 := Lib.hid ((HO4.out.below (belowA w4 (.cells (tcs (p, q, r)) 47))).below (belowAA _ (.cells (tcs ov) 47) (.cells (tcs un) 47)))
    have HNE : Hid (w4.heap.size ≠ w.heap.size + 1) := Lib.hid (Nat.ne_of_gt HLT4.out)
    generalize ((w4.alloc (.cells (tcs (p, q, r)) 47)).alloc (.cells (tcs ov) 47)).alloc (.cells (tcs un) 47) = w5 at HB5 HA HR5 HO5 ⊢
    generalize w4.heap.size = Y at HA HNE ⊢
    go_loopw [8] (fun i wr => ∃ j : Nat, j ≤ 3 ∧ i = .int .i64 j ∧ Below w.heap.size w wr ∧ TriAt wr Y (p, q, r) ∧ TriAt wr w.heap.size (0, 0, 0) ∧ TriAt wr (w.heap.size + 1) (invJ (p, q, r) j)) (fun i _ => 3 - (intOf i).toNat)
    case atStart => exact ⟨0, by omega, rfl, HB5.out, HA.out, HR5.out, HO5.out⟩
    case round =>
      obtain ⟨j, hj, rfl, hb, ha, hr, hz⟩ := hrel
      have HB6 := Lib.hid hb
      have HA6 := Lib.hid ha
      have HR6 := Lib.hid hr
      have HZ2 := Lib.hid hz
      clear hb hz ha hr HB5 HA HR5 HO5
      rcases (show j = 0 ∨ j = 1 ∨ j = 2 ∨ j = 3 by omega) with rfl | rfl | rfl | rfl
      · have y1 := HZ2.out.at b1
        have z1 := HZ2.out.fz
        have x0 := HA6.out.box.2
        have HZ3 : Hid (TriAt (wr.setCell ⟨w.heap.size + 1, p, none⟩ (.int .i64 0)) (w.heap.size + 1) (invJ (p, q, r) 1)) := Lib.hid (HZ2.out.put b1 0)
        have HA7 := Lib.hid (HA6.out.far (b' := w.heap.size + 1) (i := p) HNE.out (.int .i64 0))
        have HR7 := Lib.hid (HR6.out.far (b' := w.heap.size + 1) (i := p) (by omega) (.int .i64 0))
        generalize invJ (p, q, r) 0 = I0 at HZ2 y1
        go_wp2_with fail
        go_roundw
        case rel => exact ⟨1, by omega, rfl, below_set HB6.out (Nat.le_succ _) _, HA7.out, HR7.out, HZ3.out⟩
        case measure => simp [intOf]
      · have y1 := HZ2.out.at b2
        have z1 := HZ2.out.fz
        have x0 := HA6.out.box.2
        have HZ3 : Hid (TriAt (wr.setCell ⟨w.heap.size + 1, q, none⟩ (.int .i64 1)) (w.heap.size + 1) (invJ (p, q, r) 2)) := Lib.hid (HZ2.out.put b2 1)
        have HA7 := Lib.hid (HA6.out.far (b' := w.heap.size + 1) (i := q) HNE.out (.int .i64 1))
        have HR7 := Lib.hid (HR6.out.far (b' := w.heap.size + 1) (i := q) (by omega) (.int .i64 1))
        generalize invJ (p, q, r) 1 = I0 at HZ2 y1
        go_wp2_with fail
        go_roundw
        case rel => exact ⟨2, by omega, rfl, below_set HB6.out (Nat.le_succ _) _, HA7.out, HR7.out, HZ3.out⟩
        case measure => simp [intOf]
      · have y1 := HZ2.out.at b3
        have z1 := HZ2.out.fz
        have x0 := HA6.out.box.2
        have HZ3 : Hid (TriAt (wr.setCell ⟨w.heap.size + 1, r, none⟩ (.int .i64 2)) (w.heap.size + 1) (invJ (p, q, r) 3)) := Lib.hid (HZ2.out.put b3 2)
        have HA7 := Lib.hid (HA6.out.far (b' := w.heap.size + 1) (i := r) HNE.out (.int .i64 2))
        have HR7 := Lib.hid (HR6.out.far (b' := w.heap.size + 1) (i := r) (by omega) (.int .i64 2))
        generalize invJ (p, q, r) 2 = I0 at HZ2 y1
        go_wp2_with fail
        go_roundw
        case rel => exact ⟨3, by omega, rfl, below_set HB6.out (Nat.le_succ _) _, HA7.out, HR7.out, HZ3.out⟩
        case measure => simp [intOf]
      · generalize invJ (p, q, r) 3 = D at HZ2 HC
        obtain ⟨d1, d2, d3⟩ := D
        have x1 := HZ2.out.box.2
        have y0 := HR6.out.box.2
        have f0 := HR6.out.fz
        have HRR := Lib.hid (HR6.out.set3 (d1, d2, d3))
        have HB7 := Lib.hid (below_set3 HB6.out (b := w.heap.size) (Nat.le_refl _) (.int .i64 (d1 : Nat)) (.int .i64 (d2 : Nat)) (.int .i64 (d3 : Nat)))
        go_wp2_with fail
        have cF := HRR.out.box.2
        refine bodyPost_ret (v := .tuple #[tval (d1, d2, d3), .int .i64 0]) (by simp [results, Tryd.results49, go_sem, cF]) rfl ⟨by rw [HC.out, HE.out], HB7.out⟩
  · have HC := Lib.hid (endsR_no h')
    have HE := Lib.hid (ansE_no h')
    rw [h']
    clear h'
    have x0 : ∀ i, w3.cell? ⟨w.heap.size + 1, i, none⟩ = z3[i]? := HO.out.box.2
    have y0 : ∀ i, w3.cell? ⟨w.heap.size, i, none⟩ = z3[i]? := HR.out.box.2
    have f0 := HR.out.fz
    have HR2 : Hid (TriAt (((w3.setCell ⟨w.heap.size, 0, none⟩ (.int .i64 0)).setCell ⟨w.heap.size, 1, none⟩ (.int .i64 0)).setCell ⟨w.heap.size, 2, none⟩ (.int .i64 0)) w.heap.size (0, 0, 0)) := Lib.hid (HR.out.set3 (0, 0, 0))
    have HB4 := Lib.hid (below_set3 HB.out (b := w.heap.size) (Nat.le_refl _) (.int .i64 0) (.int .i64 0) (.int .i64 0))
    go_wp2_with fail
    have cF : ∀ i, (((w3.setCell ⟨w.heap.size, 0, none⟩ (.int .i64 0)).setCell ⟨w.heap.size, 1, none⟩ (.int .i64 0)).setCell ⟨w.heap.size, 2, none⟩ (.int .i64 0)).cell? ⟨w.heap.size, i, none⟩ = z3[i]? := HR2.out.box.2
    refine bodyPost_ret (v := .tuple #[tval (0, 0, 0), .int .i64 1]) (by simp [results, Tryd.results49, go_sem, cF]) rfl ⟨by rw [HC.out, HE.out], HB4.out⟩
end Go.Proofs.YtgkgloafjhiakaaDoor
