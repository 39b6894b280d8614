/- Walks: rings. -/
import Derived.Test.YtgkgloafjhiakaaDoorN3
namespace Go.Proofs.YtgkgloafjhiakaaDoor
open Go.RowKit Go.Sort

theorem ix34 (p q r s : Value) (w : World) : (Instr.index 34 (.agg #[p, q, r, s]) (.int .i64 0)).run Tryd.prog w = .ok p w ∧ (Instr.index 34 (.agg #[p, q, r, s]) (.int .i64 1)).run Tryd.prog w = .ok q w ∧ (Instr.index 34 (.agg #[p, q, r, s]) (.int .i64 3)).run Tryd.prog w = .ok s w := ⟨by kernel_rfl, by kernel_rfl, by kernel_rfl⟩
def ringR (t : ByteArray) : Nat := if okW t then ringN (endsL (liB t)) else 0
theorem ringR_ok {t : ByteArray} (h : okW t = true) : ringR t = ringN (endsL (liB t)) := by simp [ringR, h]
theorem ringR_no {t : ByteArray} (h : okW t = false) : ringR t = 0 := by simp [ringR, h]
/-- How many of the first are kept. -/
def keptJ (a : T3) (j : Nat) : Nat := (if 0 < j ∧ a.1 = 0 then 1 else 0) + (if 1 < j ∧ a.2.1 = 1 then 1 else 0) + (if 2 < j ∧ a.2.2 = 2 then 1 else 0)
theorem keptJ_all (a : T3) : keptJ a 3 = keptN a := by simp [keptJ, keptN]
theorem kept_cases {a : T3} (h : Perm3 a) : (keptN a = 0 ∧ ringN a = 1) ∨ (keptN a = 1 ∧ ringN a = 2) ∨ (keptN a = 3 ∧ ringN a = 3) := by
  cases h <;> simp [keptN, ringN]
theorem perm_lt {a : T3} (h : Perm3 a) : a.1 < 3 ∧ a.2.1 < 3 ∧ a.2.2 < 3 := by cases h <;> decide
set_option maxRecDepth 100000 in
set_option maxHeartbeats 4000000 in
theorem rings_any (t : ByteArray) (w : World) (ht : t.size ≤ 1000000) : Calls Tryd.prog 50 #[.string t] w fun r w' => r = .returned (.tuple #[.int .i64 (ringR t : Nat), .int .i64 (ansE t)]) ∧ Below w.heap.size w w' := by
  go_enter Tryd.func50, Tryd.ntmps50
  go_wp2_with fail
  with_reducible refine (ends_any t _ ht).mono ?_
  rintro _ w2 ⟨rfl, hb⟩
  have HB := Lib.hid hb
  clear hb
  rcases Bool.eq_false_or_eq_true (okW t) with h | h'
  · have HC := Lib.hid (ringR_ok h)
    have HE := Lib.hid (ansE_ok h)
    have HK := Lib.hid (kept_cases (endsL_perm (liB t)))
    rw [endsR_ok h, ansE_ok h]
    obtain ⟨b1, b2, b3⟩ := perm_lt (endsL_perm (liB t))
    obtain ⟨M, hM⟩ : ∃ M, endsL (liB t) = M := ⟨_, rfl⟩
    rw [hM] at b1 b2 b3 HC HK ⊢
    clear hM h
    obtain ⟨p, q, r⟩ := M
    dsimp only at b1 b2 b3
    have HA := Lib.hid (TriAt.new w2 (p, q, r))
    have x0 := HA.out.box.2
    have HB3 := Lib.hid (below_trans' HB.out (belowA w2 (.cells (tcs (p, q, r)) 47)))
    go_wp2_with fail
    generalize w2.alloc (.cells (tcs (p, q, r)) 47) = w3 at HA HB3 x0 ⊢
    generalize w2.heap.size = Y at HA x0 ⊢
    clear x0
    go_loopw [6, 18] (fun s i wr => ∃ j : Nat, j ≤ 3 ∧ i = .int .i64 j ∧ s = .int .i64 (keptJ (p, q, r) j : Nat) ∧ Below w.heap.size w wr ∧ TriAt wr Y (p, q, r)) (fun _ i _ => 3 - (intOf i).toNat)
    case atStart => exact ⟨0, by omega, rfl, by simp [keptJ], HB3.out, HA.out⟩
    case round =>
      obtain ⟨j, hj, rfl, rfl, hb, ha⟩ := hrel
      have HB4 := Lib.hid hb
      have HA4 := Lib.hid ha
      have x0 := ha.box.2
      clear hb ha HB3 HA
      rcases (show j = 0 ∨ j = 1 ∨ j = 2 ∨ j = 3 by omega) with rfl | rfl | rfl | rfl
      · have T3 := ix0 (.int .i64 (p : Nat)) (.int .i64 (q : Nat)) (.int .i64 (r : Nat))
        by_cases e : p = 0
        · have HJ : Hid (keptJ (p, q, r) 1 = keptJ (p, q, r) 0 + 1) := Lib.hid (by simp [keptJ, e])
          have hle : keptJ (p, q, r) 0 ≤ 3 := by unfold keptJ; split <;> split <;> split <;> omega
          generalize keptJ (p, q, r) 0 = K at HJ hle ⊢
          have e2 : (((p : Nat) : Int) == 0) = true := beq_iff_eq.2 (by omega)
          have e3 : ((0 : Int) == ((p : Nat) : Int)) = true := beq_iff_eq.2 (by omega)
          clear e
          go_wp2_with fail
          go_roundw
          case rel => exact ⟨1, by omega, rfl, by rw [HJ.out]; simp, HB4.out, HA4.out⟩
          case measure => simp [intOf]
        · have HJ : Hid (keptJ (p, q, r) 1 = keptJ (p, q, r) 0) := Lib.hid (by simp [keptJ, e])
          have e2 : (((p : Nat) : Int) == 0) = false := beq_false_of_ne (by omega)
          have e3 : ((0 : Int) == ((p : Nat) : Int)) = false := beq_false_of_ne (by omega)
          generalize keptJ (p, q, r) 0 = K at HJ ⊢
          go_wp2_with fail
          go_roundw
          case rel => exact ⟨1, by omega, rfl, by rw [HJ.out], HB4.out, HA4.out⟩
          case measure => simp [intOf]
      · have T3 := ix1 (.int .i64 (p : Nat)) (.int .i64 (q : Nat)) (.int .i64 (r : Nat))
        by_cases e : q = 1
        · have HJ : Hid (keptJ (p, q, r) 2 = keptJ (p, q, r) 1 + 1) := Lib.hid (by simp [keptJ, e])
          have hle : keptJ (p, q, r) 1 ≤ 3 := by unfold keptJ; split <;> split <;> split <;> omega
          generalize keptJ (p, q, r) 1 = K at HJ hle ⊢
          have e2 : (((q : Nat) : Int) == 1) = true := beq_iff_eq.2 (by omega)
          have e3 : ((1 : Int) == ((q : Nat) : Int)) = true := beq_iff_eq.2 (by omega)
          clear e
          go_wp2_with fail
          go_roundw
          case rel => exact ⟨2, by omega, rfl, by rw [HJ.out]; simp, HB4.out, HA4.out⟩
          case measure => simp [intOf]
        · have HJ : Hid (keptJ (p, q, r) 2 = keptJ (p, q, r) 1) := Lib.hid (by simp [keptJ, e])
          have e2 : (((q : Nat) : Int) == 1) = false := beq_false_of_ne (by omega)
          have e3 : ((1 : Int) == ((q : Nat) : Int)) = false := beq_false_of_ne (by omega)
          generalize keptJ (p, q, r) 1 = K at HJ ⊢
          go_wp2_with fail
          go_roundw
          case rel => exact ⟨2, by omega, rfl, by rw [HJ.out], HB4.out, HA4.out⟩
          case measure => simp [intOf]
      · have T3 := ix2 (.int .i64 (p : Nat)) (.int .i64 (q : Nat)) (.int .i64 (r : Nat))
        by_cases e : r = 2
        · have HJ : Hid (keptJ (p, q, r) 3 = keptJ (p, q, r) 2 + 1) := Lib.hid (by simp [keptJ, e])
          have hle : keptJ (p, q, r) 2 ≤ 3 := by unfold keptJ; split <;> split <;> split <;> omega
          generalize keptJ (p, q, r) 2 = K at HJ hle ⊢
          have e2 : (((r : Nat) : Int) == 2) = true := beq_iff_eq.2 (by omega)
          have e3 : ((2 : Int) == ((r : Nat) : Int)) = true := beq_iff_eq.2 (by omega)
          clear e
          go_wp2_with fail
          go_roundw
          case rel => exact ⟨3, by omega, rfl, by rw [HJ.out]; simp, HB4.out, HA4.out⟩
          case measure => simp [intOf]
        · have HJ : Hid (keptJ (p, q, r) 3 = keptJ (p, q, r) 2) := Lib.hid (by simp [keptJ, e])
          have e2 : (((r : Nat) : Int) == 2) = false := beq_false_of_ne (by omega)
          have e3 : ((2 : Int) == ((r : Nat) : Int)) = false := beq_false_of_ne (by omega)
          generalize keptJ (p, q, r) 2 = K at HJ ⊢
          go_wp2_with fail
          go_roundw
          case rel => exact ⟨3, by omega, rfl, by rw [HJ.out], HB4.out, HA4.out⟩
          case measure => simp [intOf]
      · rw [keptJ_all]
        have T4 := ix34 (.int .i64 1) (.int .i64 2) (.int .i64 0) (.int .i64 3)
        have T5 := fun w => (T4 w).1
        have T6 := fun w => (T4 w).2.1
        have T7 := fun w => (T4 w).2.2
        clear T4
        rcases HK.out with ⟨k1, k2⟩ | ⟨k1, k2⟩ | ⟨k1, k2⟩
        all_goals
          rw [k1]
          rw [k2] at HC
          clear k1 k2
          go_wp2_with fail
          go_ret2
          exact ⟨by rw [HC.out, HE.out]; rfl, HB4.out⟩
  · have HC := Lib.hid (ringR_no h')
    have HE := Lib.hid (ansE_no h')
    rw [endsR_no h', ansE_no h']
    clear h'
    have HB3 := Lib.hid (below_trans' HB.out (belowA w2 (.cells z3 47)))
    go_wp2_with fail
    go_ret2
    exact ⟨by rw [HC.out, HE.out]; rfl, HB3.out⟩
set_option maxRecDepth 100000 in
set_option maxHeartbeats 4000000 in
theorem refRings_any (t : ByteArray) (w : World) (ht : t.size ≤ 1000000) : Calls Tryd.prog 51 #[.string t] w fun r w' => r = .returned (.tuple #[.int .i64 (ringR t : Nat), .int .i64 (ansE t)]) ∧ Below w.heap.size w w' := by
  go_enter Tryd.func51, Tryd.ntmps51
  go_wp2_with fail
  with_reducible refine (refEnds_any t _ ht).mono ?_
  rintro _ w2 ⟨rfl, hb⟩
  have HB := Lib.hid hb
  clear hb
  rcases Bool.eq_false_or_eq_true (okW t) with h | h'
  · have HC := Lib.hid (ringR_ok h)
    have HE := Lib.hid (ansE_ok h)
    have HK := Lib.hid (kept_cases (endsL_perm (liB t)))
    rw [endsR_ok h, ansE_ok h]
    obtain ⟨b1, b2, b3⟩ := perm_lt (endsL_perm (liB t))
    obtain ⟨M, hM⟩ : ∃ M, endsL (liB t) = M := ⟨_, rfl⟩
    rw [hM] at b1 b2 b3 HC HK ⊢
    clear hM h
    obtain ⟨p, q, r⟩ := M
    dsimp only at b1 b2 b3
    have HA := Lib.hid (TriAt.new w2 (p, q, r))
    have x0 := HA.out.box.2
    have HB3 := Lib.hid (below_trans' HB.out (belowA w2 (.cells (tcs (p, q, r)) 47)))
    go_wp2_with fail
    generalize w2.alloc (.cells (tcs (p, q, r)) 47) = w3 at HA HB3 x0 ⊢
    generalize w2.heap.size = Y at HA x0 ⊢
    clear x0
    go_loopw [6, 7] (fun s i wr => ∃ j : Nat, j ≤ 3 ∧ i = .int .i64 j ∧ s = .int .i64 (keptJ (p, q, r) j : Nat) ∧ Below w.heap.size w wr ∧ TriAt wr Y (p, q, r)) (fun _ i _ => 3 - (intOf i).toNat)
    case atStart => exact ⟨0, by omega, rfl, by simp [keptJ], HB3.out, HA.out⟩
    case round =>
      obtain ⟨j, hj, rfl, rfl, hb, ha⟩ := hrel
      have HB4 := Lib.hid hb
      have HA4 := Lib.hid ha
      have x0 := ha.box.2
      clear hb ha HB3 HA
      rcases (show j = 0 ∨ j = 1 ∨ j = 2 ∨ j = 3 by omega) with rfl | rfl | rfl | rfl
      · have T3 := ix0 (.int .i64 (p : Nat)) (.int .i64 (q : Nat)) (.int .i64 (r : Nat))
        by_cases e : p = 0
        · have HJ : Hid (keptJ (p, q, r) 1 = keptJ (p, q, r) 0 + 1) := Lib.hid (by simp [keptJ, e])
          have hle : keptJ (p, q, r) 0 ≤ 3 := by unfold keptJ; split <;> split <;> split <;> omega
          generalize keptJ (p, q, r) 0 = K at HJ hle ⊢
          have e2 : (((p : Nat) : Int) == 0) = true := beq_iff_eq.2 (by omega)
          have e3 : ((0 : Int) == ((p : Nat) : Int)) = true := beq_iff_eq.2 (by omega)
          clear e
          go_wp2_with fail
          go_roundw
          case rel => exact ⟨1, by omega, rfl, by rw [HJ.out]; simp, HB4.out, HA4.out⟩
          case measure => simp [intOf]
        · have HJ : Hid (keptJ (p, q, r) 1 = keptJ (p, q, r) 0) := Lib.hid (by simp [keptJ, e])
          have e2 : (((p : Nat) : Int) == 0) = false := beq_false_of_ne (by omega)
          have e3 : ((0 : Int) == ((p : Nat) : Int)) = false := beq_false_of_ne (by omega)
          generalize keptJ (p, q, r) 0 = K at HJ ⊢
          go_wp2_with fail
          go_roundw
          case rel => exact ⟨1, by omega, rfl, by rw [HJ.out], HB4.out, HA4.out⟩
          case measure => simp [intOf]
      · have T3 := ix1 (.int .i64 (p : Nat)) (.int .i64 (q : Nat)) (.int .i64 (r : Nat))
        by_cases e : q = 1
        · have HJ : Hid (keptJ (p, q, r) 2 = keptJ (p, q, r) 1 + 1) := Lib.hid (by simp [keptJ, e])
          have hle : keptJ (p, q, r) 1 ≤ 3 := by unfold keptJ; split <;> split <;> split <;> omega
          generalize keptJ (p, q, r) 1 = K at HJ hle ⊢
          have e2 : (((q : Nat) : Int) == 1) = true := beq_iff_eq.2 (by omega)
          have e3 : ((1 : Int) == ((q : Nat) : Int)) = true := beq_iff_eq.2 (by omega)
          clear e
          go_wp2_with fail
          go_roundw
          case rel => exact ⟨2, by omega, rfl, by rw [HJ.out]; simp, HB4.out, HA4.out⟩
          case measure => simp [intOf]
        · have HJ : Hid (keptJ (p, q, r) 2 = keptJ (p, q, r) 1) := Lib.hid (by simp [keptJ, e])
          have e2 : (((q : Nat) : Int) == 1) = false := beq_false_of_ne (by omega)
          have e3 : ((1 : Int) == ((q : Nat) : Int)) = false := beq_false_of_ne (by omega)
          generalize keptJ (p, q, r) 1 = K at HJ ⊢
          go_wp2_with fail
          go_roundw
          case rel => exact ⟨2, by omega, rfl, by rw [HJ.out], HB4.out, HA4.out⟩
          case measure => simp [intOf]
      · have T3 := ix2 (.int .i64 (p : Nat)) (.int .i64 (q : Nat)) (.int .i64 (r : Nat))
        by_cases e : r = 2
        · have HJ : Hid (keptJ (p, q, r) 3 = keptJ (p, q, r) 2 + 1) := Lib.hid (by simp [keptJ, e])
          have hle : keptJ (p, q, r) 2 ≤ 3 := by unfold keptJ; split <;> split <;> split <;> omega
          generalize keptJ (p, q, r) 2 = K at HJ hle ⊢
          have e2 : (((r : Nat) : Int) == 2) = true := beq_iff_eq.2 (by omega)
          have e3 : ((2 : Int) == ((r : Nat) : Int)) = true := beq_iff_eq.2 (by omega)
          clear e
          go_wp2_with fail
          go_roundw
          case rel => exact ⟨3, by omega, rfl, by rw [HJ.out]; simp, HB4.out, HA4.out⟩
          case measure => simp [intOf]
        · have HJ : Hid (keptJ (p, q, r) 3 = keptJ (p, q, r) 2) := Lib.hid (by simp [keptJ, e])
          have e2 : (((r : Nat) : Int) == 2) = false := beq_false_of_ne (by omega)
          have e3 : ((2 : Int) == ((r : Nat) : Int)) = false := beq_false_of_ne (by omega)
          generalize keptJ (p, q, r) 2 = K at HJ ⊢
          go_wp2_with fail
          go_roundw
          case rel => exact ⟨3, by omega, rfl, by rw [HJ.out], HB4.out, HA4.out⟩
          case measure => simp [intOf]
      · rw [keptJ_all]
        have T4 := ix34 (.int .i64 1) (.int .i64 2) (.int .i64 0) (.int .i64 3)
        have T5 := fun w => (T4 w).1
        have T6 := fun w => (T4 w).2.1
        have T7 := fun w => (T4 w).2.2
        clear T4
        rcases HK.out with ⟨k1, k2⟩ | ⟨k1, k2⟩ | ⟨k1, k2⟩
        all_goals
          rw [k1]
          rw [k2] at HC
          clear k1 k2
          go_wp2_with fail
          go_ret2
          exact ⟨by rw [HC.out, HE.out]; rfl, HB4.out⟩
  · have HC := Lib.hid (ringR_no h')
    have HE := Lib.hid (ansE_no h')
    rw [endsR_no h', ansE_no h']
    clear h'
    have HB3 := Lib.hid (below_trans' HB.out (belowA w2 (.cells z3 47)))
    go_wp2_with fail
    go_ret2
    exact ⟨by rw [HC.out, HE.out]; rfl, HB3.out⟩
end Go.Proofs.YtgkgloafjhiakaaDoor
