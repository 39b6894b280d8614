/- Walks: what turns from a place to a neighbor, on both sides. -/
import Derived.Test.YtahmdnboeenfkaaW12
import Derived.Test.YtahmdnboeenfkaaL2
import Derived.Test.YtahmdnboeenfkaaRk2
import Derived.Test.YtahmdnboeenfkaaPl3
namespace Go.Proofs.Ytahmdnboeenfkaa
open Go.RowKit Go.Sort

theorem plat {w : World} {B : Nat} {A : Option Addr} {m : Nat} {l : List Plc} (h : Reads w B 2 A m (plcs l)) {k : Nat} (hk : k < l.length) :
    ∃ ad q, A = some ad ∧ ad.block < B ∧ l[k]? = some q ∧ w.cell? (ad.add (k * 2)) = some (.int .i64 q.1) ∧ w.cell? ⟨(ad.add (k * 2)).block, (ad.add (k * 2)).off + 1, none⟩ = some (.int .i64 q.2) := by
  have hl := h.1
  rw [plcs_length] at hl
  obtain ⟨ad, e, hb, hc⟩ := h.2 (by omega)
  obtain ⟨g0, g1⟩ := plcs_get hk
  have e1 := hc _ _ g1
  rw [← add_of_add ad (k * 2) 1, add_pos _ _ (by omega)] at e1
  exact ⟨ad, l[k], e, hb, List.getElem?_eq_getElem hk, hc _ _ g0, e1⟩

set_option maxHeartbeats 1000000 in
set_option maxRecDepth 4000 in
theorem between_any (v : FV) (p q : Plc) (w : World) (hv : v.In w) (hk : Okf v.f) (hp : isPl v.f p = true) (hq : isPl v.f q = true) :
    Calls Try.prog 72 #[v.val, pval p, pval q] w fun r w' => r = .returned (.tuple #[.int .i64 (stepF v.f p q).1, .bool (stepF v.f p q).2]) ∧ Below w.heap.size w w' := by
  have s2 := hk.w2
  have s4 := hk.h2
  unfold isPl isP at hp hq
  rw [decide_eq_true_eq] at hp hq
  obtain ⟨x0, x1, y0, y1⟩ := hp
  obtain ⟨x2, x3, y2, y3⟩ := hq
  have HV := Lib.hid hv
  have HK := Lib.hid hk
  clear hv hk
  by_cases h1 : q.1 = p.1 + 1
  · have gh1 : (q.1 == p.1 + 1) = true := by rw [beq_iff_eq]; omega
    by_cases h2 : q.2 = p.2
    · have gh2 : (q.2 == p.2) = true := by rw [beq_iff_eq]; omega
      have hst := Lib.hid (show stepF v.f p q = (v.f.trn (p.1, p.2, 0), true) by unfold stepF; rw [if_pos (by omega)])
      have he := Lib.hid (show isE v.f.W v.f.H (p.1, p.2, 0) = true by unfold isE; rw [decide_eq_true_eq]; simp; omega)
      obtain ⟨tb0, tb1⟩ := trn_bd v.f (p.1, p.2, 0)
      clear h1 h2
      go_enter Try.func72, Try.ntmps72
      dsimp only [FV.val, eval_, pval]
      go_wp2_with fail
      refine (turns_any v (p.1, p.2, 0) _ (HV.out.below (belowAAA _ _ _ _)) HK.out he.out).mono ?_
      rintro r w1 ⟨rfl, hb1⟩
      have hw1 := Lib.hid (below3 _ _ _ hb1)
      clear hb1
      go_wp2_with fail
      refine bodyPost_ret (v := _) (by simp [results, Try.results72, go_sem]; rfl) rfl ⟨?_, hw1.out⟩
      rw [hst.out]
    · have gh2 : (q.2 == p.2) = false := by rw [beq_eq_false_iff_ne]; omega
      have f3 : (q.1 == p.1 - 1) = false := by rw [beq_eq_false_iff_ne]; omega
      have f4 : (q.1 == p.1) = false := by rw [beq_eq_false_iff_ne]; omega
      have hst := Lib.hid (show stepF v.f p q = (0, false) by unfold stepF; rw [if_neg (by omega), if_neg (by omega), if_neg (by omega), if_neg (by omega)])
      clear h1 h2
      go_enter Try.func72, Try.ntmps72
      dsimp only [FV.val, eval_, pval]
      go_wp2_with fail
      refine bodyPost_ret (v := _) (by simp [results, Try.results72, go_sem]; rfl) rfl ⟨?_, belowAAA _ _ _ _⟩
      rw [hst.out]
  · have gh1 : (q.1 == p.1 + 1) = false := by rw [beq_eq_false_iff_ne]; omega
    by_cases h5 : q.1 = p.1 - 1
    · have gh5 : (q.1 == p.1 - 1) = true := by rw [beq_iff_eq]; omega
      by_cases h6 : q.2 = p.2
      · have gh6 : (q.2 == p.2) = true := by rw [beq_iff_eq]; omega
        have hst := Lib.hid (show stepF v.f p q = (-v.f.trn (q.1, q.2, 0), true) by unfold stepF; rw [if_neg (by omega), if_pos (by omega)])
        have he := Lib.hid (show isE v.f.W v.f.H (q.1, q.2, 0) = true by unfold isE; rw [decide_eq_true_eq]; simp; omega)
        obtain ⟨tb0, tb1⟩ := trn_bd v.f (q.1, q.2, 0)
        clear h1 h5 h6
        go_enter Try.func72, Try.ntmps72
        dsimp only [FV.val, eval_, pval]
        go_wp2_with fail
        refine (turns_any v (q.1, q.2, 0) _ (HV.out.below (belowAAA _ _ _ _)) HK.out he.out).mono ?_
        rintro r w1 ⟨rfl, hb1⟩
        have hw1 := Lib.hid (below3 _ _ _ hb1)
        clear hb1
        go_wp2_with fail
        refine bodyPost_ret (v := _) (by simp [results, Try.results72, go_sem]; rfl) rfl ⟨?_, hw1.out⟩
        rw [hst.out]
      · have gh6 : (q.2 == p.2) = false := by rw [beq_eq_false_iff_ne]; omega
        have f7 : (q.1 == p.1) = false := by rw [beq_eq_false_iff_ne]; omega
        have hst := Lib.hid (show stepF v.f p q = (0, false) by unfold stepF; rw [if_neg (by omega), if_neg (by omega), if_neg (by omega), if_neg (by omega)])
        clear h1 h5 h6
        go_enter Try.func72, Try.ntmps72
        dsimp only [FV.val, eval_, pval]
        go_wp2_with fail
        refine bodyPost_ret (v := _) (by simp [results, Try.results72, go_sem]; rfl) rfl ⟨?_, belowAAA _ _ _ _⟩
        rw [hst.out]
    · have gh5 : (q.1 == p.1 - 1) = false := by rw [beq_eq_false_iff_ne]; omega
      by_cases h8 : q.1 = p.1
      · have gh8 : (q.1 == p.1) = true := by rw [beq_iff_eq]; omega
        by_cases h9 : q.2 = p.2 + 1
        · have gh9 : (q.2 == p.2 + 1) = true := by rw [beq_iff_eq]; omega
          have hst := Lib.hid (show stepF v.f p q = (v.f.trn (p.1, p.2, 1), true) by unfold stepF; rw [if_neg (by omega), if_neg (by omega), if_pos (by omega)])
          have he := Lib.hid (show isE v.f.W v.f.H (p.1, p.2, 1) = true by unfold isE; rw [decide_eq_true_eq]; simp; omega)
          obtain ⟨tb0, tb1⟩ := trn_bd v.f (p.1, p.2, 1)
          clear h1 h5 h8 h9
          go_enter Try.func72, Try.ntmps72
          dsimp only [FV.val, eval_, pval]
          go_wp2_with fail
          refine (turns_any v (p.1, p.2, 1) _ (HV.out.below (belowAAA _ _ _ _)) HK.out he.out).mono ?_
          rintro r w1 ⟨rfl, hb1⟩
          have hw1 := Lib.hid (below3 _ _ _ hb1)
          clear hb1
          go_wp2_with fail
          refine bodyPost_ret (v := _) (by simp [results, Try.results72, go_sem]; rfl) rfl ⟨?_, hw1.out⟩
          rw [hst.out]
        · have gh9 : (q.2 == p.2 + 1) = false := by rw [beq_eq_false_iff_ne]; omega
          by_cases h10 : q.2 = p.2 - 1
          · have gh10 : (q.2 == p.2 - 1) = true := by rw [beq_iff_eq]; omega
            have hst := Lib.hid (show stepF v.f p q = (-v.f.trn (q.1, q.2, 1), true) by unfold stepF; rw [if_neg (by omega), if_neg (by omega), if_neg (by omega), if_pos (by omega)])
            have he := Lib.hid (show isE v.f.W v.f.H (q.1, q.2, 1) = true by unfold isE; rw [decide_eq_true_eq]; simp; omega)
            obtain ⟨tb0, tb1⟩ := trn_bd v.f (q.1, q.2, 1)
            clear h1 h5 h8 h9 h10
            go_enter Try.func72, Try.ntmps72
            dsimp only [FV.val, eval_, pval]
            go_wp2_with fail
            refine (turns_any v (q.1, q.2, 1) _ (HV.out.below (belowAAA _ _ _ _)) HK.out he.out).mono ?_
            rintro r w1 ⟨rfl, hb1⟩
            have hw1 := Lib.hid (below3 _ _ _ hb1)
            clear hb1
            go_wp2_with fail
            refine bodyPost_ret (v := _) (by simp [results, Try.results72, go_sem]; rfl) rfl ⟨?_, hw1.out⟩
            rw [hst.out]
          · have gh10 : (q.2 == p.2 - 1) = false := by rw [beq_eq_false_iff_ne]; omega
            have hst := Lib.hid (show stepF v.f p q = (0, false) by unfold stepF; rw [if_neg (by omega), if_neg (by omega), if_neg (by omega), if_neg (by omega)])
            clear h1 h5 h8 h9 h10
            go_enter Try.func72, Try.ntmps72
            dsimp only [FV.val, eval_, pval]
            go_wp2_with fail
            refine bodyPost_ret (v := _) (by simp [results, Try.results72, go_sem]; rfl) rfl ⟨?_, belowAAA _ _ _ _⟩
            rw [hst.out]
      · have gh8 : (q.1 == p.1) = false := by rw [beq_eq_false_iff_ne]; omega
        have hst := Lib.hid (show stepF v.f p q = (0, false) by unfold stepF; rw [if_neg (by omega), if_neg (by omega), if_neg (by omega), if_neg (by omega)])
        clear h1 h5 h8
        go_enter Try.func72, Try.ntmps72
        dsimp only [FV.val, eval_, pval]
        go_wp2_with fail
        refine bodyPost_ret (v := _) (by simp [results, Try.results72, go_sem]; rfl) rfl ⟨?_, belowAAA _ _ _ _⟩
        rw [hst.out]

set_option maxHeartbeats 1000000 in
set_option maxRecDepth 4000 in
theorem step_any (v : FV) (p q : Plc) (w : World) (hv : v.In w) (hk : Okf v.f) (hp : isPl v.f p = true) (hq : isPl v.f q = true) :
    Calls Try.prog 74 #[v.val, pval p, pval q] w fun r w' => r = .returned (.tuple #[.int .i64 (stepF v.f p q).1, .bool (stepF v.f p q).2]) ∧ Below w.heap.size w w' := by
  have s2 := hk.w2
  have s4 := hk.h2
  unfold isPl isP at hp hq
  rw [decide_eq_true_eq] at hp hq
  obtain ⟨x0, x1, y0, y1⟩ := hp
  obtain ⟨x2, x3, y2, y3⟩ := hq
  have HV := Lib.hid hv
  have HK := Lib.hid hk
  clear hv hk
  by_cases h1 : q.1 = p.1 + 1
  · have gh1 : (q.1 - p.1 == 1) = true := by rw [beq_iff_eq]; omega
    by_cases h2 : q.2 = p.2
    · have gh2 : (q.2 - p.2 == 0) = true := by rw [beq_iff_eq]; omega
      have hst := Lib.hid (show stepF v.f p q = (v.f.trn (p.1, p.2, 0), true) by unfold stepF; rw [if_pos (by omega)])
      have he := Lib.hid (show isE v.f.W v.f.H (p.1, p.2, 0) = true by unfold isE; rw [decide_eq_true_eq]; simp; omega)
      obtain ⟨tb0, tb1⟩ := trn_bd v.f (p.1, p.2, 0)
      clear h1 h2
      go_enter Try.func74, Try.ntmps74
      dsimp only [FV.val, eval_, pval]
      go_wp2_with fail
      go_quiet (fail)
      go_wp2_with fail
      refine (turning_any v (p.1, p.2, 0) _ (HV.out.below (below_trans' (belowAAA _ _ _ _) (below_drewN' (Below.refl _ _) _))) HK.out he.out).mono ?_
      rintro r w1 ⟨rfl, hb1⟩
      have hw1 := Lib.hid (below_trans' (below_trans' (belowAAA _ _ _ _) (below_drewN' (Below.refl _ _) _)) hb1)
      clear hb1
      go_wp2_with fail
      refine bodyPost_ret (v := _) (by simp [results, Try.results74, go_sem]; rfl) rfl ⟨?_, hw1.out⟩
      rw [hst.out]
    · have gh2 : (q.2 - p.2 == 0) = false := by rw [beq_eq_false_iff_ne]; omega
      have f3 : (q.1 - p.1 == -1) = false := by rw [beq_eq_false_iff_ne]; omega
      have f4 : (q.1 - p.1 == 0) = false := by rw [beq_eq_false_iff_ne]; omega
      have hst := Lib.hid (show stepF v.f p q = (0, false) by unfold stepF; rw [if_neg (by omega), if_neg (by omega), if_neg (by omega), if_neg (by omega)])
      clear h1 h2
      go_enter Try.func74, Try.ntmps74
      dsimp only [FV.val, eval_, pval]
      go_wp2_with fail
      go_quiet (fail)
      go_wp2_with fail
      refine bodyPost_ret (v := _) (by simp [results, Try.results74, go_sem]; rfl) rfl ⟨?_, below_trans' (belowAAA _ _ _ _) (below_drewN' (Below.refl _ _) _)⟩
      rw [hst.out]
  · have gh1 : (q.1 - p.1 == 1) = false := by rw [beq_eq_false_iff_ne]; omega
    by_cases h5 : q.1 = p.1 - 1
    · have gh5 : (q.1 - p.1 == -1) = true := by rw [beq_iff_eq]; omega
      by_cases h6 : q.2 = p.2
      · have gh6 : (q.2 - p.2 == 0) = true := by rw [beq_iff_eq]; omega
        have hst := Lib.hid (show stepF v.f p q = (-v.f.trn (q.1, q.2, 0), true) by unfold stepF; rw [if_neg (by omega), if_pos (by omega)])
        have he := Lib.hid (show isE v.f.W v.f.H (q.1, q.2, 0) = true by unfold isE; rw [decide_eq_true_eq]; simp; omega)
        obtain ⟨tb0, tb1⟩ := trn_bd v.f (q.1, q.2, 0)
        clear h1 h5 h6
        go_enter Try.func74, Try.ntmps74
        dsimp only [FV.val, eval_, pval]
        go_wp2_with fail
        go_quiet (fail)
        go_wp2_with fail
        refine (turning_any v (q.1, q.2, 0) _ (HV.out.below (below_trans' (belowAAA _ _ _ _) (below_drewN' (Below.refl _ _) _))) HK.out he.out).mono ?_
        rintro r w1 ⟨rfl, hb1⟩
        have hw1 := Lib.hid (below_trans' (below_trans' (belowAAA _ _ _ _) (below_drewN' (Below.refl _ _) _)) hb1)
        clear hb1
        go_wp2_with fail
        refine bodyPost_ret (v := _) (by simp [results, Try.results74, go_sem]; rfl) rfl ⟨?_, hw1.out⟩
        rw [hst.out]
      · have gh6 : (q.2 - p.2 == 0) = false := by rw [beq_eq_false_iff_ne]; omega
        have f7 : (q.1 - p.1 == 0) = false := by rw [beq_eq_false_iff_ne]; omega
        have hst := Lib.hid (show stepF v.f p q = (0, false) by unfold stepF; rw [if_neg (by omega), if_neg (by omega), if_neg (by omega), if_neg (by omega)])
        clear h1 h5 h6
        go_enter Try.func74, Try.ntmps74
        dsimp only [FV.val, eval_, pval]
        go_wp2_with fail
        go_quiet (fail)
        go_wp2_with fail
        refine bodyPost_ret (v := _) (by simp [results, Try.results74, go_sem]; rfl) rfl ⟨?_, below_trans' (belowAAA _ _ _ _) (below_drewN' (Below.refl _ _) _)⟩
        rw [hst.out]
    · have gh5 : (q.1 - p.1 == -1) = false := by rw [beq_eq_false_iff_ne]; omega
      by_cases h8 : q.1 = p.1
      · have gh8 : (q.1 - p.1 == 0) = true := by rw [beq_iff_eq]; omega
        by_cases h9 : q.2 = p.2 + 1
        · have gh9 : (q.2 - p.2 == 1) = true := by rw [beq_iff_eq]; omega
          have hst := Lib.hid (show stepF v.f p q = (v.f.trn (p.1, p.2, 1), true) by unfold stepF; rw [if_neg (by omega), if_neg (by omega), if_pos (by omega)])
          have he := Lib.hid (show isE v.f.W v.f.H (p.1, p.2, 1) = true by unfold isE; rw [decide_eq_true_eq]; simp; omega)
          obtain ⟨tb0, tb1⟩ := trn_bd v.f (p.1, p.2, 1)
          clear h1 h5 h8 h9
          go_enter Try.func74, Try.ntmps74
          dsimp only [FV.val, eval_, pval]
          go_wp2_with fail
          go_quiet (fail)
          go_wp2_with fail
          refine (turning_any v (p.1, p.2, 1) _ (HV.out.below (below_trans' (belowAAA _ _ _ _) (below_drewN' (Below.refl _ _) _))) HK.out he.out).mono ?_
          rintro r w1 ⟨rfl, hb1⟩
          have hw1 := Lib.hid (below_trans' (below_trans' (belowAAA _ _ _ _) (below_drewN' (Below.refl _ _) _)) hb1)
          clear hb1
          go_wp2_with fail
          refine bodyPost_ret (v := _) (by simp [results, Try.results74, go_sem]; rfl) rfl ⟨?_, hw1.out⟩
          rw [hst.out]
        · have gh9 : (q.2 - p.2 == 1) = false := by rw [beq_eq_false_iff_ne]; omega
          by_cases h10 : q.2 = p.2 - 1
          · have gh10 : (q.2 - p.2 == -1) = true := by rw [beq_iff_eq]; omega
            have hst := Lib.hid (show stepF v.f p q = (-v.f.trn (q.1, q.2, 1), true) by unfold stepF; rw [if_neg (by omega), if_neg (by omega), if_neg (by omega), if_pos (by omega)])
            have he := Lib.hid (show isE v.f.W v.f.H (q.1, q.2, 1) = true by unfold isE; rw [decide_eq_true_eq]; simp; omega)
            obtain ⟨tb0, tb1⟩ := trn_bd v.f (q.1, q.2, 1)
            clear h1 h5 h8 h9 h10
            go_enter Try.func74, Try.ntmps74
            dsimp only [FV.val, eval_, pval]
            go_wp2_with fail
            go_quiet (fail)
            go_wp2_with fail
            refine (turning_any v (q.1, q.2, 1) _ (HV.out.below (below_trans' (belowAAA _ _ _ _) (below_drewN' (Below.refl _ _) _))) HK.out he.out).mono ?_
            rintro r w1 ⟨rfl, hb1⟩
            have hw1 := Lib.hid (below_trans' (below_trans' (belowAAA _ _ _ _) (below_drewN' (Below.refl _ _) _)) hb1)
            clear hb1
            go_wp2_with fail
            refine bodyPost_ret (v := _) (by simp [results, Try.results74, go_sem]; rfl) rfl ⟨?_, hw1.out⟩
            rw [hst.out]
          · have gh10 : (q.2 - p.2 == -1) = false := by rw [beq_eq_false_iff_ne]; omega
            have hst := Lib.hid (show stepF v.f p q = (0, false) by unfold stepF; rw [if_neg (by omega), if_neg (by omega), if_neg (by omega), if_neg (by omega)])
            clear h1 h5 h8 h9 h10
            go_enter Try.func74, Try.ntmps74
            dsimp only [FV.val, eval_, pval]
            go_wp2_with fail
            go_quiet (fail)
            go_wp2_with fail
            refine bodyPost_ret (v := _) (by simp [results, Try.results74, go_sem]; rfl) rfl ⟨?_, below_trans' (belowAAA _ _ _ _) (below_drewN' (Below.refl _ _) _)⟩
            rw [hst.out]
      · have gh8 : (q.1 - p.1 == 0) = false := by rw [beq_eq_false_iff_ne]; omega
        have hst := Lib.hid (show stepF v.f p q = (0, false) by unfold stepF; rw [if_neg (by omega), if_neg (by omega), if_neg (by omega), if_neg (by omega)])
        clear h1 h5 h8
        go_enter Try.func74, Try.ntmps74
        dsimp only [FV.val, eval_, pval]
        go_wp2_with fail
        go_quiet (fail)
        go_wp2_with fail
        refine bodyPost_ret (v := _) (by simp [results, Try.results74, go_sem]; rfl) rfl ⟨?_, below_trans' (belowAAA _ _ _ _) (below_drewN' (Below.refl _ _) _)⟩
        rw [hst.out]
end Go.Proofs.Ytahmdnboeenfkaa
