/- Walks: the law FlowWhorls. -/
import Derived.Test.YtahmdnboeenfkaaW14
import Derived.Test.YtahmdnboeenfkaaW11
namespace Go.Proofs.Ytahmdnboeenfkaa
open Go.RowKit Go.Sort

theorem take_all {α : Type} {l : List α} {k : Nat} (h : l.length ≤ k) : l.take k = l := List.take_of_length_le h
set_option maxRecDepth 10000 in
set_option maxHeartbeats 4000000 in
theorem lawWhorls (v : FV) (w : World) (hv : v.In w) :
    Calls Try.prog 5 #[v.val] w fun r w' => r = .returned (.bool true) ∧ Below w.heap.size w w' := by
  have hmb := hv.mb
  obtain ⟨l1, l2⟩ := hv.l2
  have HV := Lib.hid hv
  clear hv
  go_enter Try.func5, Try.ntmps5
  dsimp only [FV.val, eval_]
  go_wp2_with fail
  refine (long_any v _ (HV.out.below (belowA _ _))).mono ?_
  rintro r w1 ⟨rfl, hb1⟩
  have b0 := (Box.new _ _ _).below hb1
  have hw1 := Lib.hid (below1 _ hb1)
  clear hb1
  cases hlong : longF v.f
  case true =>
    go_wp2_with fail
    refine (known_any _).mono ?_
    rintro r w2 ⟨rfl, hb2⟩
    go_wp2_with fail
    go_ret
    exact ⟨rfl, below_trans' hw1.out hb2⟩
  clear hlong
  have c0 := b0.at
  have HV1 := Lib.hid (HV.out.below hw1.out)
  go_wp2_with fail
  refine (Whorls_any v _ HV1.out).mono ?_
  rintro r w2 ⟨A, c, rfl, hr2, hb2⟩
  clear c0
  replace b0 := b0.below hb2
  replace hw1 := Lib.hid (below_trans' hw1.out hb2)
  replace HV1 := Lib.hid (HV.out.below hw1.out)
  have HR := Lib.hid hr2
  clear hb2 hr2
  have c0 := b0.at
  obtain ⟨es, hes⟩ : ∃ es, es = whorls v.f := ⟨_, rfl⟩
  have hlen : es.length ≤ 144 := by
    rw [hes]
    unfold whorls
    split
    · rename_i hz
      have hk := okf_of_valid hz
      have := whF_le v.f (v.f.H - 1).toNat hk.w2
      have := hk.h2
      omega
    · simp
  have HES := Lib.hid hes
  rw [← hes] at HR ⊢
  clear hes
  go_wp2_with fail
  refine (refWhorls_any v _ HV1.out).mono ?_
  rintro r w3 ⟨A', c', rfl, hr2, hb2⟩
  rw [← HES.out] at hr2 ⊢
  clear c0
  replace b0 := b0.below hb2
  replace hw1 := Lib.hid (below_trans' hw1.out hb2)
  replace HV1 := Lib.hid (HV.out.below hw1.out)
  have HR' := Lib.hid hr2
  replace HR := Lib.hid (HR.out.on hb2)
  clear hb2 hr2
  have c0 := b0.at
  go_wp2_with fail
  clear c0
  go_loopw [7] (fun i wr => ∃ k : Nat, k ≤ es.length ∧ i = .int .i64 k ∧ Below w3.heap.size w3 wr) (fun i _ => es.length - (intOf i).toNat)
  case atStart => exact ⟨0, by omega, rfl, Below.refl _ _⟩
  case round =>
    obtain ⟨k, hk, rfl, hb0⟩ := hrel
    have hbel := Lib.hid hb0
    have b1 := b0.below hb0
    have HVr := Lib.hid (HV1.out.below hb0)
    have HRr := Lib.hid (HR.out.on hb0)
    have HRr' := Lib.hid (HR'.out.on hb0)
    clear hb0
    by_cases hlt : k < es.length
    · obtain ⟨ad, e, e1, hbk, hx0, d0, d1, d2⟩ := psat HRr.out hlt
      obtain ⟨ad', e', e1', hbk', hx0', d0', d1', d2'⟩ := psat HRr'.out hlt
      obtain rfl : e = e' := Option.some.inj (hx0.symm.trans hx0')
      have X := fun w => ix40 (c := c) e1 hlt w
      have X' := fun w => ix40 (c := c') e1' hlt w
      rw [HES.out] at hx0
      obtain ⟨hz, hs, hi, hn0⟩ := whorls_get hx0
      have hIR := Lib.hid (show indexR v.f e.1 e.2.1 = (e.2.2, 0) by unfold indexR; simp [hz, hs, hi])
      have hok := okf_of_valid hz
      have g0 : (e.2.2 == 0) = false := by simpa using hn0
      have hpar := Lib.hid (odd_rnd v.f e.1 e.2.1 (nodup_of_sorted hok.sorted))
      have r4 := rnd_four v.f e.1 e.2.1
      have r5 := rnd_bd v.f e.1 e.2.1
      rw [← hi] at r4
      obtain ⟨z0, z1⟩ : -4 ≤ e.2.2 ∧ e.2.2 ≤ 4 := by omega
      have HI := Lib.hid hi
      unfold isS at hs
      rw [decide_eq_true_eq] at hs
      obtain ⟨x0, x1, y0, y1⟩ := hs
      have hw2 := hok.w2
      have hh2 := hok.h2
      have q1 := eqg44 .neq
      have q2 : ∀ w, (binOp .neq 44 (eval_ e) (eval_ e)).run Try.prog w = .ok (.bool false) w := fun w => by rw [neq44 e e w]; simp [eqE]
      clear hx0 hx0' e1 e1' hz hi hok r4 r5 hn0
      have c0 := b1.at
      have c1 := fun o => (b1.alloc o).at
      go_wp2_with fail
      refine (Index_any v e.1 e.2.1 _ (HVr.out.below (belowA _ _))).mono ?_
      rintro r w4 ⟨rfl, hb4⟩
      rw [hIR.out]
      have n0 := rg_cell d0 
      have b2 := (b1.alloc _).below hb4
      have b3 := (Box.new _ _ _).below hb4
      have hb5 := below1 _ hb4
      have t0' := (hb5.cell (p := ad'.add (k * 3)) (by rw [blockAdd]; exact hbk')).trans d0'
      have t1' := (hb5.cell (p := ⟨(ad'.add (k * 3)).block, (ad'.add (k * 3)).off + 1, none⟩) (by show (ad'.add (k * 3)).block < _; rw [blockAdd]; exact hbk')).trans d1'
      have t2' := (hb5.cell (p := ⟨(ad'.add (k * 3)).block, (ad'.add (k * 3)).off + 2, none⟩) (by show (ad'.add (k * 3)).block < _; rw [blockAdd]; exact hbk')).trans d2'
      have hbel4 := Lib.hid (below_trans' hbel.out hb5)
      have HV4 := Lib.hid (HVr.out.below hb5)
      clear c0 c1 d0 d1 d2 d0' d1' d2' n0 hb4 hb5 b1 HVr
      have c2 := b2.at
      have c3 := b3.at
      go_wp2_with fail
      go_quiet (fail)
      go_wp2_with fail
      refine wp_gen (fun w5 => Box w5 w.heap.size #[.int .i64 v.f.W, .int .i64 v.f.H, .slice v.A v.n v.c, .slice v.B v.m v.d] ∧ Box w5 wr.heap.size #[.int .i64 e.1, .int .i64 e.2.1, .int .i64 e.2.2] ∧ Below w3.heap.size w3 w5 ∧ v.In w5) ⟨b2, b3, below_drewN' hbel4.out _, HV4.out.below (below_drewN' (Below.refl _ _) _)⟩ ?_
      rintro w5 ⟨b4, b5, hb5, hv5⟩
      have hbel5 := Lib.hid hb5
      have HV5 := Lib.hid hv5
      clear hb5 hv5 c2 c3 t0' t1' t2' X X' q1 q2 b2 b3
      obtain ⟨wo, rfl⟩ : ∃ wo : World, wo = wr := ⟨_, rfl⟩
      go_loopw [11, 12] (fun o i wi => ∃ i' : Nat, i' ≤ v.m ∧ i = .int .i64 i' ∧ o = .bool (oddP e.1 e.2.1 (v.f.ps.take i')) ∧ Below w5.heap.size w5 wi) (fun _ i _ => v.m - (intOf i).toNat)
      case atStart => exact ⟨0, by omega, rfl, rfl, Below.refl _ _⟩
      case round =>
        obtain ⟨i, hi, rfl, rfl, hb0⟩ := hrel
        have hbi := Lib.hid hb0
        have b6 := b4.below hb0
        have b7 := b5.below hb0
        have HVi := Lib.hid (HV5.out.below hb0)
        clear hb0
        by_cases hlti : i < v.m
        · obtain ⟨ap, p, e2, hbp, hp0, d0, d1, d2⟩ := HVi.out.psAt (k := i) (by omega)
          have X := fun w => ix23 (c := v.d) e2 hlti w
          have HP := Lib.hid (take_succ_of hp0)
          clear hp0 e2
          obtain ⟨ob, hob⟩ : ∃ ob, ob = oddP e.1 e.2.1 (v.f.ps.take i) := ⟨_, rfl⟩
          rw [← hob]
          have HO := Lib.hid hob
          clear hob
          have c0 := b6.at
          have c1 := b7.at
          have c2 := fun o => (b6.alloc o).at
          have c3 := fun o => (b7.alloc o).at
          have hstep : ∀ b, lies e.1 e.2.1 p = b → oddP e.1 e.2.1 (v.f.ps.take (i + 1)) = (ob != b) := fun b hb => by rw [HP.out, oddP_snoc, ← HO.out, hb]
          have HS := Lib.hid hstep
          clear hstep HP HO
          by_cases t1 : p.2.2 = 0
          · have g1 : (p.2.2 == 0) = true := by simpa using t1
            have gu : (p.2.2 == 1) = false := by simp; omega
            by_cases t2 : p.1 = e.1
            · have g2 : (p.1 == e.1) = true := by simpa using t2
              by_cases t3 : p.2.1 = e.2.1
              · have g3 : (p.2.1 == e.2.1) = true := by simpa using t3
                have hl := Lib.hid (HS.out true (by unfold lies; first | (rw [decide_eq_true_eq]; omega) | (rw [decide_eq_false_iff_not]; omega)))
                clear HS
                go_wp2_with fail
                go_roundw
                case rel => exact ⟨i + 1, by omega, by go_num, by rw [hl.out]; simp, below_trans' hbi.out (belowA _ _)⟩
                case measure => simp [intOf]; omega
              · have g3 : (p.2.1 == e.2.1) = false := by simpa using t3
                by_cases t4 : p.2.1 = e.2.1 + 1
                · have g4 : (p.2.1 == e.2.1 + 1) = true := by simpa using t4
                  have hl := Lib.hid (HS.out true (by unfold lies; first | (rw [decide_eq_true_eq]; omega) | (rw [decide_eq_false_iff_not]; omega)))
                  clear HS
                  go_wp2_with fail
                  go_roundw
                  case rel => exact ⟨i + 1, by omega, by go_num, by rw [hl.out]; simp, below_trans' hbi.out (belowA _ _)⟩
                  case measure => simp [intOf]; omega
                · have g4 : (p.2.1 == e.2.1 + 1) = false := by simpa using t4
                  have hl := Lib.hid (HS.out false (by unfold lies; first | (rw [decide_eq_true_eq]; omega) | (rw [decide_eq_false_iff_not]; omega)))
                  clear HS
                  go_wp2_with fail
                  go_roundw
                  case rel => exact ⟨i + 1, by omega, by go_num, by rw [hl.out]; simp, below_trans' hbi.out (belowA _ _)⟩
                  case measure => simp [intOf]; omega
            · have g2 : (p.1 == e.1) = false := by simpa using t2
              have hl := Lib.hid (HS.out false (by unfold lies; first | (rw [decide_eq_true_eq]; omega) | (rw [decide_eq_false_iff_not]; omega)))
              clear HS
              go_wp2_with fail
              go_roundw
              case rel => exact ⟨i + 1, by omega, by go_num, by rw [hl.out]; simp, below_trans' hbi.out (belowA _ _)⟩
              case measure => simp [intOf]; omega
          · have g1 : (p.2.2 == 0) = false := by simpa using t1
            by_cases t5 : p.2.2 = 1
            · have g5 : (p.2.2 == 1) = true := by simpa using t5
              by_cases t6 : p.2.1 = e.2.1
              · have g6 : (p.2.1 == e.2.1) = true := by simpa using t6
                by_cases t7 : p.1 = e.1
                · have g7 : (p.1 == e.1) = true := by simpa using t7
                  have hl := Lib.hid (HS.out true (by unfold lies; first | (rw [decide_eq_true_eq]; omega) | (rw [decide_eq_false_iff_not]; omega)))
                  clear HS
                  go_wp2_with fail
                  go_roundw
                  case rel => exact ⟨i + 1, by omega, by go_num, by rw [hl.out]; simp, below_trans' hbi.out (belowA _ _)⟩
                  case measure => simp [intOf]; omega
                · have g7 : (p.1 == e.1) = false := by simpa using t7
                  by_cases t8 : p.1 = e.1 + 1
                  · have g8 : (p.1 == e.1 + 1) = true := by simpa using t8
                    have hl := Lib.hid (HS.out true (by unfold lies; first | (rw [decide_eq_true_eq]; omega) | (rw [decide_eq_false_iff_not]; omega)))
                    clear HS
                    go_wp2_with fail
                    go_roundw
                    case rel => exact ⟨i + 1, by omega, by go_num, by rw [hl.out]; simp, below_trans' hbi.out (belowA _ _)⟩
                    case measure => simp [intOf]; omega
                  · have g8 : (p.1 == e.1 + 1) = false := by simpa using t8
                    have hl := Lib.hid (HS.out false (by unfold lies; first | (rw [decide_eq_true_eq]; omega) | (rw [decide_eq_false_iff_not]; omega)))
                    clear HS
                    go_wp2_with fail
                    go_roundw
                    case rel => exact ⟨i + 1, by omega, by go_num, by rw [hl.out]; simp, below_trans' hbi.out (belowA _ _)⟩
                    case measure => simp [intOf]; omega
              · have g6 : (p.2.1 == e.2.1) = false := by simpa using t6
                have hl := Lib.hid (HS.out false (by unfold lies; first | (rw [decide_eq_true_eq]; omega) | (rw [decide_eq_false_iff_not]; omega)))
                clear HS
                go_wp2_with fail
                go_roundw
                case rel => exact ⟨i + 1, by omega, by go_num, by rw [hl.out]; simp, below_trans' hbi.out (belowA _ _)⟩
                case measure => simp [intOf]; omega
            · have g5 : (p.2.2 == 1) = false := by simpa using t5
              have hl := Lib.hid (HS.out false (by unfold lies; first | (rw [decide_eq_true_eq]; omega) | (rw [decide_eq_false_iff_not]; omega)))
              clear HS
              go_wp2_with fail
              go_roundw
              case rel => exact ⟨i + 1, by omega, by go_num, by rw [hl.out]; simp, below_trans' hbi.out (belowA _ _)⟩
              case measure => simp [intOf]; omega
        · have hf := Lib.hid (show v.f.ps.take i = v.f.ps from take_all (by omega))
          rw [hf.out]
          have g1 : (!oddP e.1 e.2.1 v.f.ps == (e.2.2.tmod 2 != 0)) = false := by
            rw [hpar.out, ← HI.out]
            by_cases h : e.2.2.tmod 2 = 0 <;> simp [h]
          generalize oddP e.1 e.2.1 v.f.ps = ob at g1 ⊢
          have c0 := b6.at
          have c1 := b7.at
          go_wp2_with fail
          go_roundw
          case rel => exact ⟨k + 1, by omega, by go_num, below_trans' hbel5.out hbi.out⟩
          case measure => simp [intOf]; omega
    · go_wp2_with fail
      refine (known_any _).mono ?_
      rintro r w6 ⟨rfl, hb2⟩
      have HB := Lib.hid hb2
      clear hb2
      go_wp2_with fail
      go_ret
      exact ⟨rfl, below_trans' hw1.out (below_trans' hbel.out HB.out)⟩
end Go.Proofs.Ytahmdnboeenfkaa
