/- Paths: the walks on both sides. -/
import Derived.Test.YtahmdnboeenfkaaW11
import Derived.Test.YtahmdnboeenfkaaW12
import Derived.Test.YtahmdnboeenfkaaRk2
import Derived.Test.YtahmdnboeenfkaaPl3
import Derived.Test.YtahmdnboeenfkaaW14
namespace Go.Proofs.Ytahmdnboeenfkaa
open Go.RowKit Go.Sort

theorem Box.new3 (w : World) (cs ds es : Array Value) (t u x : TypeId) : Box (((w.alloc (.cells cs t)).alloc (.cells ds u)).alloc (.cells es x)) (w.heap.size + 2) es := by
  have := Box.new ((w.alloc (.cells cs t)).alloc (.cells ds u)) es x
  simpa using this
theorem below3 {w w' : World} (o u x : Obj) (h : Below (((w.alloc o).alloc u).alloc x).heap.size (((w.alloc o).alloc u).alloc x) w') : Below w.heap.size w w' := below2 o u (below1 x h)
theorem belowAAA (w : World) (o u x : Obj) : Below w.heap.size w (((w.alloc o).alloc u).alloc x) := below3 o u x (Below.refl _ _)

theorem lawTurns (v : FV) (e : Edg) (x y : Int) (w : World) (hv : v.In w) :
    Calls Try.prog 4 #[v.val, eval_ e, .agg #[.int .i64 x, .int .i64 y]] w fun r w' => r = .returned (.bool true) ∧ Below w.heap.size w w' := by
  have HV := Lib.hid hv
  clear hv
  go_enter Try.func4, Try.ntmps4
  dsimp only [FV.val, eval_]
  go_wp2_with fail
  refine (long_any v _ (HV.out.below (belowAAA _ _ _ _))).mono ?_
  rintro r w1 ⟨rfl, hb1⟩
  have b0 := (((Box.new _ _ _).alloc _).alloc _).below hb1
  have b1 := ((Box.new2 _ _ _ _ _).alloc _).below hb1
  have b2 := (Box.new3 _ _ _ _ _ _ _).below hb1
  have hw1 := Lib.hid (below3 _ _ _ hb1)
  clear hb1
  cases hlong : longF v.f
  case true =>
    go_wp2_with fail
    refine (known_any _).mono ?_
    rintro r w2 ⟨rfl, hb2⟩
    go_wp2_with fail
    go_ret
    exact ⟨rfl, below_trans' hw1.out hb2⟩
  clear hlong
  have c0 := b0.at
  have c1 := b1.at
  have c2 := b2.at
  have HV1 := Lib.hid (HV.out.below hw1.out)
  go_wp2_with fail
  refine (Turning_any v e _ HV1.out).mono ?_
  rintro r w2 ⟨rfl, hb2⟩
  clear c0 c1 c2
  replace b0 := b0.below hb2
  replace b1 := b1.below hb2
  replace b2 := b2.below hb2
  replace hw1 := Lib.hid (below_trans' hw1.out hb2)
  replace HV1 := Lib.hid (HV.out.below hw1.out)
  clear hb2
  have c0 := b0.at
  have c1 := b1.at
  have c2 := b2.at
  go_wp2_with fail
  refine (refTurning_any v e _ HV1.out).mono ?_
  rintro r w3 ⟨rfl, hb2⟩
  clear c0 c1 c2
  replace b0 := b0.below hb2
  replace b1 := b1.below hb2
  replace b2 := b2.below hb2
  replace hw1 := Lib.hid (below_trans' hw1.out hb2)
  replace HV1 := Lib.hid (HV.out.below hw1.out)
  clear hb2
  have c0 := b0.at
  have c1 := b1.at
  have c2 := b2.at
  go_wp2_with fail
  refine (Index_any v x y _ HV1.out).mono ?_
  rintro r w4 ⟨rfl, hb2⟩
  clear c0 c1 c2
  replace b0 := b0.below hb2
  replace b1 := b1.below hb2
  replace b2 := b2.below hb2
  replace hw1 := Lib.hid (below_trans' hw1.out hb2)
  replace HV1 := Lib.hid (HV.out.below hw1.out)
  clear hb2
  have c0 := b0.at
  have c1 := b1.at
  have c2 := b2.at
  go_wp2_with fail
  refine (refIndex_any v x y _ HV1.out).mono ?_
  rintro r w5 ⟨rfl, hb2⟩
  clear c0 c1 c2
  replace hw1 := Lib.hid (below_trans' hw1.out hb2)
  clear hb2 b0 b1 b2
  go_wp2_with fail
  refine (known_any _).mono ?_
  rintro r w6 ⟨rfl, hb2⟩
  have HB := Lib.hid hb2
  clear hb2
  go_wp2_with fail
  go_ret
  exact ⟨rfl, below_trans' hw1.out HB.out⟩
theorem lawTurnsR (v : FV) (e : Edg) (q : Int × Int) (w : World) (hv : v.In w) {p1 p2 : Prop} (_ : p1) (_ : p2) :
    Calls Try.prog 4 #[v.val, eval_ e, .agg #[.int .i64 q.1, .int .i64 q.2]] w fun r w' => r = .returned (.bool true) ∧ Below w.heap.size w w' := lawTurns v e q.1 q.2 w hv
end Go.Proofs.Ytahmdnboeenfkaa

namespace Go.Proofs.Ytahmdnboeenfkaa
open Go.RowKit Go.Sort

theorem plat {w : World} {B : Nat} {A : Option Addr} {m : Nat} {l : List Plc} (h : Reads w B 2 A m (plcs l)) {k : Nat} (hk : k < l.length) :
    ∃ ad q, A = some ad ∧ ad.block < B ∧ l[k]? = some q ∧ w.cell? (ad.add (k * 2)) = some (.int .i64 q.1) ∧ w.cell? ⟨(ad.add (k * 2)).block, (ad.add (k * 2)).off + 1, none⟩ = some (.int .i64 q.2) := by
  have hl := h.1
  rw [plcs_length] at hl
  obtain ⟨ad, e, hb, hc⟩ := h.2 (by omega)
  obtain ⟨g0, g1⟩ := plcs_get hk
  have e1 := hc _ _ g1
  rw [← add_of_add ad (k * 2) 1, add_pos _ _ (by omega)] at e1
  exact ⟨ad, l[k], e, hb, List.getElem?_eq_getElem hk, hc _ _ g0, e1⟩

set_option maxHeartbeats 1000000 in
set_option maxRecDepth 4000 in
theorem between_any (v : FV) (p q : Plc) (w : World) (hv : v.In w) (hk : Okf v.f) (hp : isPl v.f p = true) (hq : isPl v.f q = true) :
    Calls Try.prog 72 #[v.val, pval p, pval q] w fun r w' => r = .returned (.tuple #[.int .i64 (stepF v.f p q).1, .bool (stepF v.f p q).2]) ∧ Below w.heap.size w w' := by
  have s2 := hk.w2
  have s4 := hk.h2
  unfold isPl isP at hp hq
  rw [decide_eq_true_eq] at hp hq
  obtain ⟨x0, x1, y0, y1⟩ := hp
  obtain ⟨x2, x3, y2, y3⟩ := hq
  have HV := Lib.hid hv
  have HK := Lib.hid hk
  clear hv hk
  by_cases h1 : q.1 = p.1 + 1
  · have gh1 : (q.1 == p.1 + 1) = true := by rw [beq_iff_eq]; omega
    by_cases h2 : q.2 = p.2
    · have gh2 : (q.2 == p.2) = true := by rw [beq_iff_eq]; omega
      have hst := Lib.hid (show stepF v.f p q = (v.f.trn (p.1, p.2, 0), true) by unfold stepF; rw [if_pos (by omega)])
      have he := Lib.hid (show isE v.f.W v.f.H (p.1, p.2, 0) = true by unfold isE; rw [decide_eq_true_eq]; simp; omega)
      obtain ⟨tb0, tb1⟩ := trn_bd v.f (p.1, p.2, 0)
      clear h1 h2
      go_enter Try.func72, Try.ntmps72
      dsimp only [FV.val, eval_, pval]
      go_wp2_with fail
      refine (turns_any v (p.1, p.2, 0) _ (HV.out.below (belowAAA _ _ _ _)) HK.out he.out).mono ?_
      rintro r w1 ⟨rfl, hb1⟩
      have hw1 := Lib.hid (below3 _ _ _ hb1)
      clear hb1
      go_wp2_with fail
      refine bodyPost_ret (v := _) (by simp [results, Try.results72, go_sem]; rfl) rfl ⟨?_, hw1.out⟩
      rw [hst.out]
    · have gh2 : (q.2 == p.2) = false := by rw [beq_eq_false_iff_ne]; omega
      have f3 : (q.1 == p.1 - 1) = false := by rw [beq_eq_false_iff_ne]; omega
      have f4 : (q.1 == p.1) = false := by rw [beq_eq_false_iff_ne]; omega
      have hst := Lib.hid (show stepF v.f p q = (0, false) by unfold stepF; rw [if_neg (by omega), if_neg (by omega), if_neg (by omega), if_neg (by omega)])
      clear h1 h2
      go_enter Try.func72, Try.ntmps72
      dsimp only [FV.val, eval_, pval]
      go_wp2_with fail
      refine bodyPost_ret (v := _) (by simp [results, Try.results72, go_sem]; rfl) rfl ⟨?_, belowAAA _ _ _ _⟩
      rw [hst.out]
  · have gh1 : (q.1 == p.1 + 1) = false := by rw [beq_eq_false_iff_ne]; omega
    by_cases h5 : q.1 = p.1 - 1
    · have gh5 : (q.1 == p.1 - 1) = true := by rw [beq_iff_eq]; omega
      by_cases h6 : q.2 = p.2
      · have gh6 : (q.2 == p.2) = true := by rw [beq_iff_eq]; omega
        have hst := Lib.hid (show stepF v.f p q = (-v.f.trn (q.1, q.2, 0), true) by unfold stepF; rw [if_neg (by omega), if_pos (by omega)])
        have he := Lib.hid (show isE v.f.W v.f.H (q.1, q.2, 0) = true by unfold isE; rw [decide_eq_true_eq]; simp; omega)
        obtain ⟨tb0, tb1⟩ := trn_bd v.f (q.1, q.2, 0)
        clear h1 h5 h6
        go_enter Try.func72, Try.ntmps72
        dsimp only [FV.val, eval_, pval]
        go_wp2_with fail
        refine (turns_any v (q.1, q.2, 0) _ (HV.out.below (belowAAA _ _ _ _)) HK.out he.out).mono ?_
        rintro r w1 ⟨rfl, hb1⟩
        have hw1 := Lib.hid (below3 _ _ _ hb1)
        clear hb1
        go_wp2_with fail
        refine bodyPost_ret (v := _) (by simp [results, Try.results72, go_sem]; rfl) rfl ⟨?_, hw1.out⟩
        rw [hst.out]
      · have gh6 : (q.2 == p.2) = false := by rw [beq_eq_false_iff_ne]; omega
        have f7 : (q.1 == p.1) = false := by rw [beq_eq_false_iff_ne]; omega
        have hst := Lib.hid (show stepF v.f p q = (0, false) by unfold stepF; rw [if_neg (by omega), if_neg (by omega), if_neg (by omega), if_neg (by omega)])
        clear h1 h5 h6
        go_enter Try.func72, Try.ntmps72
        dsimp only [FV.val, eval_, pval]
        go_wp2_with fail
        refine bodyPost_ret (v := _) (by simp [results, Try.results72, go_sem]; rfl) rfl ⟨?_, belowAAA _ _ _ _⟩
        rw [hst.out]
    · have gh5 : (q.1 == p.1 - 1) = false := by rw [beq_eq_false_iff_ne]; omega
      by_cases h8 : q.1 = p.1
      · have gh8 : (q.1 == p.1) = true := by rw [beq_iff_eq]; omega
        by_cases h9 : q.2 = p.2 + 1
        · have gh9 : (q.2 == p.2 + 1) = true := by rw [beq_iff_eq]; omega
          have hst := Lib.hid (show stepF v.f p q = (v.f.trn (p.1, p.2, 1), true) by unfold stepF; rw [if_neg (by omega), if_neg (by omega), if_pos (by omega)])
          have he := Lib.hid (show isE v.f.W v.f.H (p.1, p.2, 1) = true by unfold isE; rw [decide_eq_true_eq]; simp; omega)
          obtain ⟨tb0, tb1⟩ := trn_bd v.f (p.1, p.2, 1)
          clear h1 h5 h8 h9
          go_enter Try.func72, Try.ntmps72
          dsimp only [FV.val, eval_, pval]
          go_wp2_with fail
          refine (turns_any v (p.1, p.2, 1) _ (HV.out.below (belowAAA _ _ _ _)) HK.out he.out).mono ?_
          rintro r w1 ⟨rfl, hb1⟩
          have hw1 := Lib.hid (below3 _ _ _ hb1)
          clear hb1
          go_wp2_with fail
          refine bodyPost_ret (v := _) (by simp [results, Try.results72, go_sem]; rfl) rfl ⟨?_, hw1.out⟩
          rw [hst.out]
        · have gh9 : (q.2 == p.2 + 1) = false := by rw [beq_eq_false_iff_ne]; omega
          by_cases h10 : q.2 = p.2 - 1
          · have gh10 : (q.2 == p.2 - 1) = true := by rw [beq_iff_eq]; omega
            have hst := Lib.hid (show stepF v.f p q = (-v.f.trn (q.1, q.2, 1), true) by unfold stepF; rw [if_neg (by omega), if_neg (by omega), if_neg (by omega), if_pos (by omega)])
            have he := Lib.hid (show isE v.f.W v.f.H (q.1, q.2, 1) = true by unfold isE; rw [decide_eq_true_eq]; simp; omega)
            obtain ⟨tb0, tb1⟩ := trn_bd v.f (q.1, q.2, 1)
            clear h1 h5 h8 h9 h10
            go_enter Try.func72, Try.ntmps72
            dsimp only [FV.val, eval_, pval]
            go_wp2_with fail
            refine (turns_any v (q.1, q.2, 1) _ (HV.out.below (belowAAA _ _ _ _)) HK.out he.out).mono ?_
            rintro r w1 ⟨rfl, hb1⟩
            have hw1 := Lib.hid (below3 _ _ _ hb1)
            clear hb1
            go_wp2_with fail
            refine bodyPost_ret (v := _) (by simp [results, Try.results72, go_sem]; rfl) rfl ⟨?_, hw1.out⟩
            rw [hst.out]
          · have gh10 : (q.2 == p.2 - 1) = false := by rw [beq_eq_false_iff_ne]; omega
            have hst := Lib.hid (show stepF v.f p q = (0, false) by unfold stepF; rw [if_neg (by omega), if_neg (by omega), if_neg (by omega), if_neg (by omega)])
            clear h1 h5 h8 h9 h10
            go_enter Try.func72, Try.ntmps72
            dsimp only [FV.val, eval_, pval]
            go_wp2_with fail
            refine bodyPost_ret (v := _) (by simp [results, Try.results72, go_sem]; rfl) rfl ⟨?_, belowAAA _ _ _ _⟩
            rw [hst.out]
      · have gh8 : (q.1 == p.1) = false := by rw [beq_eq_false_iff_ne]; omega
        have hst := Lib.hid (show stepF v.f p q = (0, false) by unfold stepF; rw [if_neg (by omega), if_neg (by omega), if_neg (by omega), if_neg (by omega)])
        clear h1 h5 h8
        go_enter Try.func72, Try.ntmps72
        dsimp only [FV.val, eval_, pval]
        go_wp2_with fail
        refine bodyPost_ret (v := _) (by simp [results, Try.results72, go_sem]; rfl) rfl ⟨?_, belowAAA _ _ _ _⟩
        rw [hst.out]

set_option maxHeartbeats 1000000 in
set_option maxRecDepth 4000 in
theorem step_any (v : FV) (p q : Plc) (w : World) (hv : v.In w) (hk : Okf v.f) (hp : isPl v.f p = true) (hq : isPl v.f q = true) :
    Calls Try.prog 74 #[v.val, pval p, pval q] w fun r w' => r = .returned (.tuple #[.int .i64 (stepF v.f p q).1, .bool (stepF v.f p q).2]) ∧ Below w.heap.size w w' := by
  have s2 := hk.w2
  have s4 := hk.h2
  unfold isPl isP at hp hq
  rw [decide_eq_true_eq] at hp hq
  obtain ⟨x0, x1, y0, y1⟩ := hp
  obtain ⟨x2, x3, y2, y3⟩ := hq
  have HV := Lib.hid hv
  have HK := Lib.hid hk
  clear hv hk
  by_cases h1 : q.1 = p.1 + 1
  · have gh1 : (q.1 - p.1 == 1) = true := by rw [beq_iff_eq]; omega
    by_cases h2 : q.2 = p.2
    · have gh2 : (q.2 - p.2 == 0) = true := by rw [beq_iff_eq]; omega
      have hst := Lib.hid (show stepF v.f p q = (v.f.trn (p.1, p.2, 0), true) by unfold stepF; rw [if_pos (by omega)])
      have he := Lib.hid (show isE v.f.W v.f.H (p.1, p.2, 0) = true by unfold isE; rw [decide_eq_true_eq]; simp; omega)
      obtain ⟨tb0, tb1⟩ := trn_bd v.f (p.1, p.2, 0)
      clear h1 h2
      go_enter Try.func74, Try.ntmps74
      dsimp only [FV.val, eval_, pval]
      go_wp2_with fail
      go_quiet (fail)
      go_wp2_with fail
      refine (turning_any v (p.1, p.2, 0) _ (HV.out.below (below_trans' (belowAAA _ _ _ _) (below_drewN' (Below.refl _ _) _))) HK.out he.out).mono ?_
      rintro r w1 ⟨rfl, hb1⟩
      have hw1 := Lib.hid (below_trans' (below_trans' (belowAAA _ _ _ _) (below_drewN' (Below.refl _ _) _)) hb1)
      clear hb1
      go_wp2_with fail
      refine bodyPost_ret (v := _) (by simp [results, Try.results74, go_sem]; rfl) rfl ⟨?_, hw1.out⟩
      rw [hst.out]
    · have gh2 : (q.2 - p.2 == 0) = false := by rw [beq_eq_false_iff_ne]; omega
      have f3 : (q.1 - p.1 == -1) = false := by rw [beq_eq_false_iff_ne]; omega
      have f4 : (q.1 - p.1 == 0) = false := by rw [beq_eq_false_iff_ne]; omega
      have hst := Lib.hid (show stepF v.f p q = (0, false) by unfold stepF; rw [if_neg (by omega), if_neg (by omega), if_neg (by omega), if_neg (by omega)])
      clear h1 h2
      go_enter Try.func74, Try.ntmps74
      dsimp only [FV.val, eval_, pval]
      go_wp2_with fail
      go_quiet (fail)
      go_wp2_with fail
      refine bodyPost_ret (v := _) (by simp [results, Try.results74, go_sem]; rfl) rfl ⟨?_, below_trans' (belowAAA _ _ _ _) (below_drewN' (Below.refl _ _) _)⟩
      rw [hst.out]
  · have gh1 : (q.1 - p.1 == 1) = false := by rw [beq_eq_false_iff_ne]; omega
    by_cases h5 : q.1 = p.1 - 1
    · have gh5 : (q.1 - p.1 == -1) = true := by rw [beq_iff_eq]; omega
      by_cases h6 : q.2 = p.2
      · have gh6 : (q.2 - p.2 == 0) = true := by rw [beq_iff_eq]; omega
        have hst := Lib.hid (show stepF v.f p q = (-v.f.trn (q.1, q.2, 0), true) by unfold stepF; rw [if_neg (by omega), if_pos (by omega)])
        have he := Lib.hid (show isE v.f.W v.f.H (q.1, q.2, 0) = true by unfold isE; rw [decide_eq_true_eq]; simp; omega)
        obtain ⟨tb0, tb1⟩ := trn_bd v.f (q.1, q.2, 0)
        clear h1 h5 h6
        go_enter Try.func74, Try.ntmps74
        dsimp only [FV.val, eval_, pval]
        go_wp2_with fail
        go_quiet (fail)
        go_wp2_with fail
        refine (turning_any v (q.1, q.2, 0) _ (HV.out.below (below_trans' (belowAAA _ _ _ _) (below_drewN' (Below.refl _ _) _))) HK.out he.out).mono ?_
        rintro r w1 ⟨rfl, hb1⟩
        have hw1 := Lib.hid (below_trans' (below_trans' (belowAAA _ _ _ _) (below_drewN' (Below.refl _ _) _)) hb1)
        clear hb1
        go_wp2_with fail
        refine bodyPost_ret (v := _) (by simp [results, Try.results74, go_sem]; rfl) rfl ⟨?_, hw1.out⟩
        rw [hst.out]
      · have gh6 : (q.2 - p.2 == 0) = false := by rw [beq_eq_false_iff_ne]; omega
        have f7 : (q.1 - p.1 == 0) = false := by rw [beq_eq_false_iff_ne]; omega
        have hst := Lib.hid (show stepF v.f p q = (0, false) by unfold stepF; rw [if_neg (by omega), if_neg (by omega), if_neg (by omega), if_neg (by omega)])
        clear h1 h5 h6
        go_enter Try.func74, Try.ntmps74
        dsimp only [FV.val, eval_, pval]
        go_wp2_with fail
        go_quiet (fail)
        go_wp2_with fail
        refine bodyPost_ret (v := _) (by simp [results, Try.results74, go_sem]; rfl) rfl ⟨?_, below_trans' (belowAAA _ _ _ _) (below_drewN' (Below.refl _ _) _)⟩
        rw [hst.out]
    · have gh5 : (q.1 - p.1 == -1) = false := by rw [beq_eq_false_iff_ne]; omega
      by_cases h8 : q.1 = p.1
      · have gh8 : (q.1 - p.1 == 0) = true := by rw [beq_iff_eq]; omega
        by_cases h9 : q.2 = p.2 + 1
        · have gh9 : (q.2 - p.2 == 1) = true := by rw [beq_iff_eq]; omega
          have hst := Lib.hid (show stepF v.f p q = (v.f.trn (p.1, p.2, 1), true) by unfold stepF; rw [if_neg (by omega), if_neg (by omega), if_pos (by omega)])
          have he := Lib.hid (show isE v.f.W v.f.H (p.1, p.2, 1) = true by unfold isE; rw [decide_eq_true_eq]; simp; omega)
          obtain ⟨tb0, tb1⟩ := trn_bd v.f (p.1, p.2, 1)
          clear h1 h5 h8 h9
          go_enter Try.func74, Try.ntmps74
          dsimp only [FV.val, eval_, pval]
          go_wp2_with fail
          go_quiet (fail)
          go_wp2_with fail
          refine (turning_any v (p.1, p.2, 1) _ (HV.out.below (below_trans' (belowAAA _ _ _ _) (below_drewN' (Below.refl _ _) _))) HK.out he.out).mono ?_
          rintro r w1 ⟨rfl, hb1⟩
          have hw1 := Lib.hid (below_trans' (below_trans' (belowAAA _ _ _ _) (below_drewN' (Below.refl _ _) _)) hb1)
          clear hb1
          go_wp2_with fail
          refine bodyPost_ret (v := _) (by simp [results, Try.results74, go_sem]; rfl) rfl ⟨?_, hw1.out⟩
          rw [hst.out]
        · have gh9 : (q.2 - p.2 == 1) = false := by rw [beq_eq_false_iff_ne]; omega
          by_cases h10 : q.2 = p.2 - 1
          · have gh10 : (q.2 - p.2 == -1) = true := by rw [beq_iff_eq]; omega
            have hst := Lib.hid (show stepF v.f p q = (-v.f.trn (q.1, q.2, 1), true) by unfold stepF; rw [if_neg (by omega), if_neg (by omega), if_neg (by omega), if_pos (by omega)])
            have he := Lib.hid (show isE v.f.W v.f.H (q.1, q.2, 1) = true by unfold isE; rw [decide_eq_true_eq]; simp; omega)
            obtain ⟨tb0, tb1⟩ := trn_bd v.f (q.1, q.2, 1)
            clear h1 h5 h8 h9 h10
            go_enter Try.func74, Try.ntmps74
            dsimp only [FV.val, eval_, pval]
            go_wp2_with fail
            go_quiet (fail)
            go_wp2_with fail
            refine (turning_any v (q.1, q.2, 1) _ (HV.out.below (below_trans' (belowAAA _ _ _ _) (below_drewN' (Below.refl _ _) _))) HK.out he.out).mono ?_
            rintro r w1 ⟨rfl, hb1⟩
            have hw1 := Lib.hid (below_trans' (below_trans' (belowAAA _ _ _ _) (below_drewN' (Below.refl _ _) _)) hb1)
            clear hb1
            go_wp2_with fail
            refine bodyPost_ret (v := _) (by simp [results, Try.results74, go_sem]; rfl) rfl ⟨?_, hw1.out⟩
            rw [hst.out]
          · have gh10 : (q.2 - p.2 == -1) = false := by rw [beq_eq_false_iff_ne]; omega
            have hst := Lib.hid (show stepF v.f p q = (0, false) by unfold stepF; rw [if_neg (by omega), if_neg (by omega), if_neg (by omega), if_neg (by omega)])
            clear h1 h5 h8 h9 h10
            go_enter Try.func74, Try.ntmps74
            dsimp only [FV.val, eval_, pval]
            go_wp2_with fail
            go_quiet (fail)
            go_wp2_with fail
            refine bodyPost_ret (v := _) (by simp [results, Try.results74, go_sem]; rfl) rfl ⟨?_, below_trans' (belowAAA _ _ _ _) (below_drewN' (Below.refl _ _) _)⟩
            rw [hst.out]
      · have gh8 : (q.1 - p.1 == 0) = false := by rw [beq_eq_false_iff_ne]; omega
        have hst := Lib.hid (show stepF v.f p q = (0, false) by unfold stepF; rw [if_neg (by omega), if_neg (by omega), if_neg (by omega), if_neg (by omega)])
        clear h1 h5 h8
        go_enter Try.func74, Try.ntmps74
        dsimp only [FV.val, eval_, pval]
        go_wp2_with fail
        go_quiet (fail)
        go_wp2_with fail
        refine bodyPost_ret (v := _) (by simp [results, Try.results74, go_sem]; rfl) rfl ⟨?_, below_trans' (belowAAA _ _ _ _) (below_drewN' (Below.refl _ _) _)⟩
        rw [hst.out]
end Go.Proofs.Ytahmdnboeenfkaa

namespace Go.Proofs.Ytahmdnboeenfkaa
open Go.RowKit Go.Sort

theorem Walk_any (v : FV) (A : Option Addr) (n c : Nat) (l : List Plc) (w : World) (hv : v.In w) (hl : Reads w w.heap.size 2 A n (plcs l)) (hn : n ≤ 9223372036854775807) :
    Calls Try.prog 29 #[v.val, .slice A n c] w fun r w' => r = .returned (.tuple #[.int .i64 (walkR v.f l).1, .int .i64 (walkR v.f l).2]) ∧ Below w.heap.size w w' := by
  have hlen := hl.1
  rw [plcs_length] at hlen
  have l1 : n ≤ l.length := by omega
  have l2 : l.length ≤ n := by omega
  clear hlen
  have HL := Lib.hid hl
  have HVv := Lib.hid hv
  clear hv hl
  go_enter Try.func29, Try.ntmps29
  dsimp only [FV.val, eval_]
  go_wp2_with fail
  refine (validate_any v _ (HVv.out.below (belowA _ _))).mono ?_
  rintro r w1 ⟨rfl, hb1⟩
  have b0 := (Box.new _ _ _).below hb1
  have hw1 := Lib.hid (below1 _ hb1)
  clear hb1
  by_cases hz : valid v.f = 0
  case neg =>
    have hz' : (valid v.f != 0) = true := by simpa using hz
    have HR := Lib.hid (walkR_bad (l := l) hz)
    clear hz
    go_wp2_with fail
    go_ret2
    exact ⟨by rw [HR.out]; rfl, hw1.out⟩
  have ok := Lib.hid (okf_of_valid hz)
  have hz' : (valid v.f != 0) = false := by simpa using hz
  have HZ := Lib.hid hz
  clear hz
  by_cases hlong : 1000 < n
  · have HR := Lib.hid (walkR_long (l := l) HZ.out (by omega))
    go_wp2_with fail
    go_ret2
    exact ⟨by rw [HR.out]; rfl, hw1.out⟩
  have HNL := Lib.hid (show ¬ 1000 < l.length by omega)
  go_wp2_with fail
  have HV1 := Lib.hid (HVv.out.below hw1.out)
  have HL1 := Lib.hid (HL.out.on hw1.out)
  go_loopw [23] (fun i wr => ∃ k : Nat, k ≤ n ∧ i = .int .i64 k ∧ (∀ j q, j < k → l[j]? = some q → isPl v.f q = true) ∧ Below w1.heap.size w1 wr) (fun i _ => n - (intOf i).toNat)
  case atStart => exact ⟨0, by omega, rfl, fun j q hj => absurd hj (by omega), Below.refl _ _⟩
  case round =>
    obtain ⟨k, hk, rfl, hok0, hb0⟩ := hrel
    have hok := Lib.hid hok0
    have hbel := Lib.hid hb0
    have b2 := b0.below hb0
    have HLr := Lib.hid (HL1.out.on hb0)
    clear hok0 hb0
    by_cases hlt : k < n
    · obtain ⟨ad, q, e1, hbk, hx0, d0, d1⟩ := plat HLr.out (k := k) (by omega)
      have X := fun w => ix45 (c := c) e1 hlt w
      have hx := Lib.hid hx0
      clear hx0 e1
      have c0 := b2.at
      have c1 := fun o => (b2.alloc o).at
      go_wp2_with fail
      refine (has_any v q.1 q.2 _).mono ?_
      rintro r w4 ⟨rfl, hb4⟩
      have hbel4 := Lib.hid (below_trans' hbel.out (below_trans' (belowA _ _) hb4))
      clear hb4 c0 c1 d0 d1 X
      cases hp : isP v.f.W v.f.H q.1 q.2
      · have HR := Lib.hid (walkR_off HZ.out HNL.out (l := l) (fun h => by have := h q (List.mem_of_getElem? hx.out); unfold isPl at this; rw [hp] at this; cases this))
        clear hp
        go_wp2_with fail
        go_ret2
        exact ⟨by rw [HR.out]; rfl, below_trans' hw1.out hbel4.out⟩
      · have HP := Lib.hid hp
        clear hp
        go_wp2_with fail
        go_roundw
        case rel =>
          refine ⟨k + 1, by omega, by go_num, fun j y hj hy => ?_, hbel4.out⟩
          rcases Nat.lt_or_ge j k with h | h
          · exact hok.out j y h hy
          · obtain rfl : j = k := by omega
            have := hx.out.symm.trans hy
            obtain rfl := Option.some.inj this
            exact HP.out
        case measure => simp [intOf]; omega
    · have hwall := Lib.hid (show wall v.f l from fun q hq => by
        obtain ⟨j, hj, rfl⟩ := List.getElem_of_mem hq
        exact hok.out j _ (by omega) (List.getElem?_eq_getElem hj))
      clear hok
      go_wp2_with fail
      obtain ⟨wo, rfl⟩ : ∃ wo : World, wo = wr := ⟨_, rfl⟩
      have HV2 := Lib.hid (HV1.out.below hbel.out)
      go_loopw [9, 10] (fun s i wr => ∃ k : Nat, (k ≤ n ∨ k ≤ 1) ∧ 1 ≤ k ∧ i = .int .i64 k ∧ s = .int .i64 (wsum v.f l k) ∧ (∀ j, j < k → 0 < j → (stp v.f l j).2 = true) ∧ Below wo.heap.size wo wr) (fun _ i _ => n - (intOf i).toNat)
      case atStart => exact ⟨1, by omega, by omega, rfl, by simp [wsum], fun j hj h0 => absurd hj (by omega), Below.refl _ _⟩
      case round =>
        clear hk hlt
        obtain ⟨k, hk, hk1, rfl, rfl, hok0, hb0⟩ := hrel
        have hok := Lib.hid hok0
        have hbr := Lib.hid hb0
        have b3 := b2.below hb0
        have HLs := Lib.hid (HLr.out.on hb0)
        have HV3 := Lib.hid (HV2.out.below hb0)
        clear hok0 hb0
        by_cases hlt : k < n
        · obtain ⟨ad, p, e1, hbk, hx0, d0, d1⟩ := plat HLs.out (k := k - 1) (by omega)
          obtain ⟨ad', q, e1', hbk', hy0, d0', d1'⟩ := plat HLs.out (k := k) (by omega)
          obtain rfl : ad = ad' := Option.some.inj (e1.symm.trans e1')
          have X := fun w => ix45 (c := c) e1 hlt w
          have X' := fun w => ix45p (c := c) e1 hlt (by omega) w
          have hpp := Lib.hid (hwall.out p (List.mem_of_getElem? hx0))
          have hqq := Lib.hid (hwall.out q (List.mem_of_getElem? hy0))
          have hst := Lib.hid (wok_stp (f := v.f) hx0 hy0)
          have hsb := wsum_bd v.f l k
          have hsd := stepF_bd v.f p q
          clear hx0 hy0 e1 e1'
          have c2 := b3.rg
          have f0 := rg_cell d0
          have f1 := rg_cell d1
          have f0' := rg_cell d0'
          have f1' := rg_cell d1'
          clear d0 d1 d0' d1'
          go_wp2_with fail
          refine wp_region_qb mixed (by kernel_rfl) ?_
          repeat (go_big_quiet_step (exact rg_call (fun w1 hb => between_any v p q w1 (HV3.out.below hb) ok.out hpp.out hqq.out) _ _))
          refine wpQuiet_nil ?_
          intro w4 hb4
          have hbel4 := Lib.hid (below_trans' hbr.out hb4)
          clear hb4 c2 f0 f1 f0' f1' X X'
          cases hp : (stepF v.f p q).2
          · have HR := Lib.hid (walkR_broken HZ.out HNL.out (l := l) hwall.out (fun h => by have := h k (by omega) (by omega); rw [hst.out, hp] at this; cases this))
            clear hp
            go_wp2_with fail
            go_ret2
            exact ⟨by rw [HR.out]; rfl, below_trans' hw1.out (below_trans' hbel.out hbel4.out)⟩
          · have HP := Lib.hid hp
            clear hp
            go_wp2_with fail
            go_roundw
            case rel =>
              refine ⟨k + 1, by omega, by omega, by go_num, ?_, fun j hj h0 => ?_, hbel4.out⟩
              · rw [wsum, if_neg (by omega), hst.out]
              · rcases Nat.lt_or_ge j k with h | h
                · exact hok.out j h h0
                · obtain rfl : j = k := by omega
                  rw [hst.out, HP.out]
            case measure => simp [intOf]; omega
        · have hs := Lib.hid (walkR_sum HZ.out HNL.out hwall.out (fun j hj h0 => hok.out j (by omega) h0))
          have hk2 := Lib.hid (show wsum v.f l k = wsum v.f l l.length by
            rcases Nat.lt_or_ge l.length k with h | h
            · obtain rfl : k = 1 := by omega
              have : l.length = 0 := by omega
              rw [this]; simp [wsum]
            · rw [show k = l.length by omega])
          clear hok
          go_wp2_with fail
          go_ret2
          exact ⟨by rw [hs.out, ← hk2.out]; rfl, below_trans' hw1.out (below_trans' hbel.out hbr.out)⟩
end Go.Proofs.Ytahmdnboeenfkaa

namespace Go.Proofs.Ytahmdnboeenfkaa
open Go.RowKit Go.Sort

theorem refWalk_any (v : FV) (A : Option Addr) (n c : Nat) (l : List Plc) (w : World) (hv : v.In w) (hl : Reads w w.heap.size 2 A n (plcs l)) (hn : n ≤ 9223372036854775807) :
    Calls Try.prog 30 #[v.val, .slice A n c] w fun r w' => r = .returned (.tuple #[.int .i64 (walkR v.f l).1, .int .i64 (walkR v.f l).2]) ∧ Below w.heap.size w w' := by
  have hlen := hl.1
  rw [plcs_length] at hlen
  have l1 : n ≤ l.length := by omega
  have l2 : l.length ≤ n := by omega
  clear hlen
  have HL := Lib.hid hl
  have HVv := Lib.hid hv
  clear hv hl
  go_enter Try.func30, Try.ntmps30
  dsimp only [FV.val, eval_]
  go_wp2_with fail
  refine (refValidate_any v _ (HVv.out.below (belowA _ _))).mono ?_
  rintro r w1 ⟨rfl, hb1⟩
  have b0 := (Box.new _ _ _).below hb1
  have hw1 := Lib.hid (below1 _ hb1)
  clear hb1
  by_cases hz : valid v.f = 0
  case neg =>
    have hz' : (valid v.f != 0) = true := by simpa using hz
    have HR := Lib.hid (walkR_bad (l := l) hz)
    clear hz
    go_wp2_with fail
    go_ret2
    exact ⟨by rw [HR.out]; rfl, hw1.out⟩
  have ok := Lib.hid (okf_of_valid hz)
  have hz' : (valid v.f != 0) = false := by simpa using hz
  have HZ := Lib.hid hz
  clear hz
  by_cases hlong : 1000 < n
  · have HR := Lib.hid (walkR_long (l := l) HZ.out (by omega))
    go_wp2_with fail
    go_ret2
    exact ⟨by rw [HR.out]; rfl, hw1.out⟩
  have HNL := Lib.hid (show ¬ 1000 < l.length by omega)
  go_wp2_with fail
  have HV1 := Lib.hid (HVv.out.below hw1.out)
  have HL1 := Lib.hid (HL.out.on hw1.out)
  go_loopw [7] (fun i wr => ∃ k : Nat, k ≤ n ∧ i = .int .i64 k ∧ (∀ j q, j < k → l[j]? = some q → isPl v.f q = true) ∧ Below w1.heap.size w1 wr) (fun i _ => n - (intOf i).toNat)
  case atStart => exact ⟨0, by omega, rfl, fun j q hj => absurd hj (by omega), Below.refl _ _⟩
  case round =>
    obtain ⟨k, hk, rfl, hok0, hb0⟩ := hrel
    have hok := Lib.hid hok0
    have hbel := Lib.hid hb0
    have b2 := b0.below hb0
    have HLr := Lib.hid (HL1.out.on hb0)
    clear hok0 hb0
    by_cases hlt : k < n
    · obtain ⟨ad, q, e1, hbk, hx0, d0, d1⟩ := plat HLr.out (k := k) (by omega)
      have X := fun w => ix45 (c := c) e1 hlt w
      have hx := Lib.hid hx0
      clear hx0 e1
      have c0 := b2.at
      have c1 := fun o => (b2.alloc o).at
      go_wp2_with fail
      have c2 := b2.rg
      have f0 := rg_cell d0
      have f1 := rg_cell d1
      clear d0 d1 c0 c1
      refine wp_region_qb mixed (by kernel_rfl) ?_
      repeat (go_big_quiet_step (exact rg_call (fun w1 hb => isPlace_any v q.1 q.2 w1 ok.out.w1 ok.out.w2 ok.out.h1 ok.out.h2) _ _))
      refine wpQuiet_nil ?_
      intro w4 hb4
      have hbel4 := Lib.hid (below_trans' hbel.out hb4)
      clear hb4 c2 f0 f1 X
      cases hp : isP v.f.W v.f.H q.1 q.2
      · have HR := Lib.hid (walkR_off HZ.out HNL.out (l := l) (fun h => by have := h q (List.mem_of_getElem? hx.out); unfold isPl at this; rw [hp] at this; cases this))
        clear hp
        go_wp2_with fail
        go_ret2
        exact ⟨by rw [HR.out]; rfl, below_trans' hw1.out hbel4.out⟩
      · have HP := Lib.hid hp
        clear hp
        go_wp2_with fail
        go_roundw
        case rel =>
          refine ⟨k + 1, by omega, by go_num, fun j y hj hy => ?_, hbel4.out⟩
          rcases Nat.lt_or_ge j k with h | h
          · exact hok.out j y h hy
          · obtain rfl : j = k := by omega
            have := hx.out.symm.trans hy
            obtain rfl := Option.some.inj this
            exact HP.out
        case measure => simp [intOf]; omega
    · have hwall := Lib.hid (show wall v.f l from fun q hq => by
        obtain ⟨j, hj, rfl⟩ := List.getElem_of_mem hq
        exact hok.out j _ (by omega) (List.getElem?_eq_getElem hj))
      clear hok
      go_wp2_with fail
      obtain ⟨wo, rfl⟩ : ∃ wo : World, wo = wr := ⟨_, rfl⟩
      have HV2 := Lib.hid (HV1.out.below hbel.out)
      go_loopw [8, 9] (fun s i wr => ∃ k : Nat, (k ≤ n ∨ k ≤ 1) ∧ 1 ≤ k ∧ i = .int .i64 k ∧ s = .int .i64 (wsum v.f l k) ∧ (∀ j, j < k → 0 < j → (stp v.f l j).2 = true) ∧ Below wo.heap.size wo wr) (fun _ i _ => n - (intOf i).toNat)
      case atStart => exact ⟨1, by omega, by omega, rfl, by simp [wsum], fun j hj h0 => absurd hj (by omega), Below.refl _ _⟩
      case round =>
        clear hk hlt
        obtain ⟨k, hk, hk1, rfl, rfl, hok0, hb0⟩ := hrel
        have hok := Lib.hid hok0
        have hbr := Lib.hid hb0
        have b3 := b2.below hb0
        have HLs := Lib.hid (HLr.out.on hb0)
        have HV3 := Lib.hid (HV2.out.below hb0)
        clear hok0 hb0
        by_cases hlt : k < n
        · obtain ⟨ad, p, e1, hbk, hx0, d0, d1⟩ := plat HLs.out (k := k - 1) (by omega)
          obtain ⟨ad', q, e1', hbk', hy0, d0', d1'⟩ := plat HLs.out (k := k) (by omega)
          obtain rfl : ad = ad' := Option.some.inj (e1.symm.trans e1')
          have X := fun w => ix45 (c := c) e1 hlt w
          have X' := fun w => ix45p (c := c) e1 hlt (by omega) w
          have hpp := Lib.hid (hwall.out p (List.mem_of_getElem? hx0))
          have hqq := Lib.hid (hwall.out q (List.mem_of_getElem? hy0))
          have hst := Lib.hid (wok_stp (f := v.f) hx0 hy0)
          have hsb := wsum_bd v.f l k
          have hsd := stepF_bd v.f p q
          clear hx0 hy0 e1 e1'
          have c2 := b3.rg
          have f0 := rg_cell d0
          have f1 := rg_cell d1
          have f0' := rg_cell d0'
          have f1' := rg_cell d1'
          clear d0 d1 d0' d1'
          go_wp2_with fail
          refine wp_region_qb mixed (by kernel_rfl) ?_
          repeat (go_big_quiet_step (exact rg_call (fun w1 hb => step_any v p q w1 (HV3.out.below hb) ok.out hpp.out hqq.out) _ _))
          refine wpQuiet_nil ?_
          intro w4 hb4
          have hbel4 := Lib.hid (below_trans' hbr.out hb4)
          clear hb4 c2 f0 f1 f0' f1' X X'
          cases hp : (stepF v.f p q).2
          · have HR := Lib.hid (walkR_broken HZ.out HNL.out (l := l) hwall.out (fun h => by have := h k (by omega) (by omega); rw [hst.out, hp] at this; cases this))
            clear hp
            go_wp2_with fail
            go_ret2
            exact ⟨by rw [HR.out]; rfl, below_trans' hw1.out (below_trans' hbel.out hbel4.out)⟩
          · have HP := Lib.hid hp
            clear hp
            go_wp2_with fail
            go_roundw
            case rel =>
              refine ⟨k + 1, by omega, by omega, by go_num, ?_, fun j hj h0 => ?_, hbel4.out⟩
              · rw [wsum, if_neg (by omega), hst.out]
              · rcases Nat.lt_or_ge j k with h | h
                · exact hok.out j h h0
                · obtain rfl : j = k := by omega
                  rw [hst.out, HP.out]
            case measure => simp [intOf]; omega
        · have hs := Lib.hid (walkR_sum HZ.out HNL.out hwall.out (fun j hj h0 => hok.out j (by omega) h0))
          have hk2 := Lib.hid (show wsum v.f l k = wsum v.f l l.length by
            rcases Nat.lt_or_ge l.length k with h | h
            · obtain rfl : k = 1 := by omega
              have : l.length = 0 := by omega
              rw [this]; simp [wsum]
            · rw [show k = l.length by omega])
          clear hok
          go_wp2_with fail
          go_ret2
          exact ⟨by rw [hs.out, ← hk2.out]; rfl, below_trans' hw1.out (below_trans' hbel.out hbr.out)⟩
end Go.Proofs.Ytahmdnboeenfkaa

namespace Go.Proofs.Ytahmdnboeenfkaa

def dxs : List Int := [1, 1, 0, -1, -1, -1, 0, 1]
def dys : List Int := [0, 1, 1, 1, 0, -1, -1, -1]
def dX (d : Int) : Int := dxs.getD d.toNat 0
def dY (d : Int) : Int := dys.getD d.toNat 0
def nxt (f : Fld) (p : Plc) : Plc := (p.1 + dX (f.dir p.1 p.2), p.2 + dY (f.dir p.1 p.2))
def itn (f : Fld) (p : Plc) : Nat → Plc
  | 0 => p
  | k + 1 => nxt f (itn f p k)
def pth (f : Fld) (p : Plc) (k : Nat) : List Plc := (List.range k).map (itn f p)
/-- The first k places are on the field, and no two are the same. -/
structure Goes (f : Fld) (p : Plc) (k : Nat) : Prop where
  on : ∀ i, i < k → isPl f (itn f p i) = true
  new : ∀ i j, i < j → j < k → itn f p i ≠ itn f p j
structure Stop (f : Fld) (p : Plc) (k : Nat) (b : Bool) : Prop where
  goes : Goes f p k
  pos : 0 < k
  off : b = false → isPl f (itn f p k) = false
  back : b = true → isPl f (itn f p k) = true ∧ ∃ i, i < k ∧ itn f p i = itn f p k

theorem pth_length (f : Fld) (p : Plc) (k : Nat) : (pth f p k).length = k := by simp [pth]
theorem pth_get {f : Fld} {p : Plc} {k i : Nat} (h : i < k) : (pth f p k)[i]? = some (itn f p i) := by simp [pth, h]
theorem pth_succ (f : Fld) (p : Plc) (k : Nat) : pth f p (k + 1) = pth f p k ++ [itn f p k] := by unfold pth; rw [List.range_succ, List.map_append]; rfl
theorem mem_pth {f : Fld} {p q : Plc} {k : Nat} : q ∈ pth f p k ↔ ∃ i, i < k ∧ itn f p i = q := by simp [pth]
theorem dX_bd (d : Int) : -1 ≤ dX d ∧ dX d ≤ 1 := by
  unfold dX
  rcases Nat.lt_or_ge d.toNat 8 with h | h
  · generalize d.toNat = n at h ⊢
    have : ∀ n : Fin 8, -1 ≤ dxs.getD n.1 0 ∧ dxs.getD n.1 0 ≤ 1 := by decide
    exact this ⟨n, h⟩
  · rw [List.getD_eq_getElem?_getD, List.getElem?_eq_none (by simpa [dxs] using h)]; simp
theorem dY_bd (d : Int) : -1 ≤ dY d ∧ dY d ≤ 1 := by
  unfold dY
  rcases Nat.lt_or_ge d.toNat 8 with h | h
  · generalize d.toNat = n at h ⊢
    have : ∀ n : Fin 8, -1 ≤ dys.getD n.1 0 ∧ dys.getD n.1 0 ≤ 1 := by decide
    exact this ⟨n, h⟩
  · rw [List.getD_eq_getElem?_getD, List.getElem?_eq_none (by simpa [dys] using h)]; simp

theorem Goes.zero (f : Fld) (p : Plc) : Goes f p 0 := ⟨fun i h => by omega, fun i j _ h => by omega⟩
theorem Goes.succ {f : Fld} {p : Plc} {k : Nat} (h : Goes f p k) (h1 : isPl f (itn f p k) = true) (h2 : itn f p k ∉ pth f p k) : Goes f p (k + 1) := by
  constructor
  · intro i hi
    rcases Nat.lt_or_ge i k with g | g
    · exact h.on i g
    · rw [show i = k by omega]; exact h1
  · intro i j hij hj
    rcases Nat.lt_or_ge j k with g | g
    · exact h.new i j hij g
    · obtain rfl : j = k := by omega
      exact fun e => h2 (mem_pth.2 ⟨i, hij, e⟩)
theorem Stop.off' {f : Fld} {p : Plc} {k : Nat} (h : Goes f p k) (h0 : 0 < k) (h1 : isPl f (itn f p k) = false) : Stop f p k false := ⟨h, h0, fun _ => h1, fun e => by cases e⟩
theorem Stop.back' {f : Fld} {p : Plc} {k : Nat} (h : Goes f p k) (h0 : 0 < k) (h1 : isPl f (itn f p k) = true) (h2 : itn f p k ∈ pth f p k) : Stop f p k true := ⟨h, h0, fun e => (by cases e), fun _ => ⟨h1, mem_pth.1 h2⟩⟩
/-- There is one place to stop. -/
theorem Stop.le {f : Fld} {p : Plc} {k m : Nat} {b c : Bool} (h : Stop f p k b) (g : Stop f p m c) : m ≤ k := by
  rcases Nat.lt_or_ge k m with hlt | hge
  · exfalso
    cases b with
    | false => have := h.off rfl; rw [g.goes.on k hlt] at this; cases this
    | true =>
      obtain ⟨_, i, hi, e⟩ := h.back rfl
      exact g.goes.new i k hi hlt e
  · exact hge
theorem Stop.unique {f : Fld} {p : Plc} {k m : Nat} {b c : Bool} (h : Stop f p k b) (g : Stop f p m c) : k = m ∧ b = c := by
  have h1 := h.le g
  have h2 := g.le h
  obtain rfl : k = m := by omega
  refine ⟨rfl, ?_⟩
  cases b <;> cases c <;> try rfl
  · have := h.off rfl; rw [(g.back rfl).1] at this; cases this
  · have := g.off rfl; rw [(h.back rfl).1] at this; cases this

/-- Numbers below n, no two the same, are no more than n. -/
theorem length_le_of_nodup : ∀ (n : Nat) (l : List Nat), l.Nodup → (∀ a ∈ l, a < n) → l.length ≤ n := by
  intro n
  induction n with
  | zero =>
    intro l _ h
    cases l with
    | nil => simp
    | cons a l => have := h a (by simp); omega
  | succ n ih =>
    intro l hl h
    have h1 : (l.erase n).length ≤ n := by
      refine ih _ (hl.erase n) fun a ha => ?_
      have h2 := h a (List.mem_of_mem_erase ha)
      have h3 : a ≠ n := fun e => by
        subst e
        exact (List.Nodup.not_mem_erase hl) ha
      omega
    have h4 : l.length - 1 ≤ (l.erase n).length := by
      rw [List.length_erase]
      split <;> omega
    omega
theorem Goes.len {f : Fld} {p : Plc} {k : Nat} (h : Goes f p k) (hw : 0 ≤ f.W) (hh : 0 ≤ f.H) : (k : Int) ≤ f.W * f.H := by
  have hcode : ∀ q : Plc, isPl f q = true → 0 ≤ q.2 * f.W + q.1 ∧ q.2 * f.W + q.1 < f.W * f.H := by
    intro q hq
    unfold isPl isP at hq
    rw [decide_eq_true_eq] at hq
    obtain ⟨a, b, c, d⟩ := hq
    have e1 : 0 ≤ q.2 * f.W := Int.mul_nonneg c hw
    have e2 : q.2 * f.W ≤ (f.H - 1) * f.W := Int.mul_le_mul_of_nonneg_right (by omega) hw
    have e3 : (f.H - 1) * f.W = f.W * f.H - f.W := by rw [Int.sub_mul, Int.one_mul, Int.mul_comm]
    omega
  have hinj : ∀ q r : Plc, isPl f q = true → isPl f r = true → q.2 * f.W + q.1 = r.2 * f.W + r.1 → q = r := by
    intro q r hq hr e
    unfold isPl isP at hq hr
    rw [decide_eq_true_eq] at hq hr
    obtain ⟨a, b, c, d⟩ := hq
    obtain ⟨a', b', c', d'⟩ := hr
    have h1 : q.2 = r.2 := by
      rcases Int.lt_trichotomy q.2 r.2 with g | g | g
      · have := Int.mul_le_mul_of_nonneg_right (show q.2 + 1 ≤ r.2 by omega) hw
        rw [Int.add_mul, Int.one_mul] at this
        omega
      · exact g
      · have := Int.mul_le_mul_of_nonneg_right (show r.2 + 1 ≤ q.2 by omega) hw
        rw [Int.add_mul, Int.one_mul] at this
        omega
    rw [h1] at e
    exact Prod.ext (by omega) h1
  have hl := length_le_of_nodup (f.W * f.H).toNat ((List.range k).map fun i => ((itn f p i).2 * f.W + (itn f p i).1).toNat) (by
    unfold List.Nodup
    rw [List.pairwise_map]
    refine List.Pairwise.imp_of_mem ?_ (List.pairwise_lt_range)
    intro i j hi hj hij e
    rw [List.mem_range] at hi hj
    have c1 := hcode _ (h.on i hi)
    have c2 := hcode _ (h.on j hj)
    exact h.new i j hij hj (hinj _ _ (h.on i hi) (h.on j hj) (by omega))) (by
    intro a ha
    simp only [List.mem_map, List.mem_range] at ha
    obtain ⟨i, hi, rfl⟩ := ha
    have c1 := hcode _ (h.on i hi)
    omega)
  simp at hl
  have := Int.mul_nonneg hw hh
  omega

theorem itn_add (f : Fld) (p : Plc) (a i : Nat) : itn f (itn f p a) i = itn f p (a + i) := by
  induction i with
  | zero => rfl
  | succ i ih => rw [itn, ih]; rfl
/-- A path that comes back stays on the field. -/
theorem Stop.ever {f : Fld} {p : Plc} {k : Nat} (h : Stop f p k true) (n : Nat) : ∃ i, i < k ∧ itn f p n = itn f p i := by
  induction n with
  | zero => exact ⟨0, h.pos, rfl⟩
  | succ n ih =>
    obtain ⟨i, hi, e⟩ := ih
    rw [itn, e]
    rcases Nat.lt_or_ge (i + 1) k with g | g
    · exact ⟨i + 1, g, rfl⟩
    · obtain ⟨_, j, hj, e'⟩ := h.back rfl
      refine ⟨j, hj, ?_⟩
      rw [e', show k = i + 1 by omega]; rfl
/-- Combing from a later place of a path. -/
theorem Stop.later {f : Fld} {p : Plc} {k m a : Nat} {b c : Bool} (h : Stop f p k b) (ha : a < k) (g : Stop f (itn f p a) m c) : b = c ∧ k - a ≤ m ∧ (b = false → m = k - a) := by
  cases b with
  | false =>
    have h1 : Stop f (itn f p a) (k - a) false := by
      refine ⟨⟨fun i hi => ?_, fun i j hij hj => ?_⟩, by omega, fun _ => ?_, fun e => by cases e⟩
      · rw [itn_add]; exact h.goes.on _ (by omega)
      · rw [itn_add, itn_add]; exact h.goes.new _ _ (by omega) (by omega)
      · rw [itn_add, show a + (k - a) = k by omega]; exact h.off rfl
    obtain ⟨e1, e2⟩ := h1.unique g
    exact ⟨e2, by omega, fun _ => by omega⟩
  | true =>
    refine ⟨?_, ?_, fun e => by cases e⟩
    · cases c with
      | true => rfl
      | false =>
        have h1 := g.off rfl
        rw [itn_add] at h1
        obtain ⟨i, hi, e⟩ := h.ever (a + m)
        rw [e, h.goes.on i hi] at h1
        cases h1
    · rcases Nat.lt_or_ge m (k - a) with hlt | hge
      · exfalso
        cases c with
        | false =>
          have h1 := g.off rfl
          rw [itn_add, h.goes.on _ (by omega)] at h1
          cases h1
        | true =>
          obtain ⟨_, i, hi, e⟩ := g.back rfl
          rw [itn_add, itn_add] at e
          exact h.goes.new _ _ (by omega) (by omega) e
      · exact hge
end Go.Proofs.Ytahmdnboeenfkaa

namespace Go.Proofs.Ytahmdnboeenfkaa
open Go.RowKit Go.Sort

def eqP (a b : Plc) : Bool := decide (a = b)
theorem eqP_iff {a b : Plc} : eqP a b = true ↔ a = b := by simp [eqP]
theorem eqP_not {a b : Plc} : eqP a b = false ↔ a ≠ b := by simp [eqP]
theorem eqg35 (o : BinOp) (x y : Operand) (xs ys : Array Value) (w : World) : (eqGuard o 35 x y (.agg xs) (.agg ys)).run Try.prog w = .ok () w :=
  run_eqGuard_agg w o 35 x y xs ys (by kernel_rfl)
theorem eqi35 (a b : Plc) (d : Nat) (w : World) : (Op.equalIn (d + 2) 35 (pval a) (pval b)).run Try.prog w = .ok (eqP a b) w := by
  rw [run_equalIn_struct w (d + 1) 35 _ _ (by kernel_rfl) (by kernel_rfl)]
  have hf : (Try.prog.fieldsOf 35).toList = [⟨"X", 3, 0, false, "", "", 0⟩, ⟨"Y", 3, 1, false, "", "", 8⟩] := by kernel_rfl
  have h3 : Try.prog.underlying 3 = some (.int .i64) := by kernel_rfl
  rw [hf]
  obtain ⟨a1, a2⟩ := a
  obtain ⟨b1, b2⟩ := b
  simp [go_sem, h3, eqP]
  by_cases h1 : a1 = b1 <;> by_cases h2 : a2 = b2 <;> simp [h1, h2]
theorem eql35 (a b : Plc) (w : World) : (binOp .eql 35 (pval a) (pval b)).run Try.prog w = .ok (.bool (eqP a b)) w := by
  rw [run_eql_struct, eqi35 a b 9998 w]; rfl
theorem neq35 (a b : Plc) (w : World) : (binOp .neq 35 (pval a) (pval b)).run Try.prog w = .ok (.bool (!eqP a b)) w := by
  rw [run_neq_struct, eqi35 a b 9998 w]; rfl

theorem indexP_any (A : Option Addr) (n c : Nat) (l : List Plc) (q : Plc) (w : World) (hl : Reads w w.heap.size 2 A n (plcs l)) (hn : n ≤ 9223372036854775807) :
    Calls Try.prog 94 #[.slice A n c, pval q] w fun r w' => ∃ z : Int, r = .returned (.int .i64 z) ∧ decide (0 ≤ z) = decide (q ∈ l) ∧ -1 ≤ z ∧ z ≤ 9223372036854775807 ∧ Below w.heap.size w w' := by
  have hlen := hl.1
  rw [plcs_length] at hlen
  have l1 : n ≤ l.length := by omega
  have l2 : l.length ≤ n := by omega
  clear hlen
  have HL := Lib.hid hl
  clear hl
  go_enter Try.func94, Try.ntmps94
  dsimp only [pval]
  go_wp2_with fail
  refine wp_gen (fun w1 => Box w1 w.heap.size #[.int .i64 q.1, .int .i64 q.2] ∧ Below w.heap.size w w1) ⟨Box.new _ _ _, belowA _ _⟩ ?_
  rintro w1 ⟨b0, hw10⟩
  have hw1 := Lib.hid hw10
  have HL1 := Lib.hid (HL.out.on hw10)
  clear hw10
  go_loopw [8] (fun i wr => ∃ k : Nat, k ≤ n ∧ i = .int .i64 k ∧ (∀ j, j < k → l[j]? ≠ some q) ∧ Below w1.heap.size w1 wr) (fun i _ => n - (intOf i).toNat)
  case atStart => exact ⟨0, by omega, rfl, fun j hj => absurd hj (by omega), Below.refl _ _⟩
  case round =>
    obtain ⟨k, hk, rfl, hno0, hb0⟩ := hrel
    have hno := Lib.hid hno0
    have hbel := Lib.hid hb0
    have c0 := (b0.below hb0).at
    have HLr := Lib.hid (HL1.out.on hb0)
    clear hno0 hb0
    by_cases hlt : k < n
    · obtain ⟨ad, x, e1, hbk, hx0, d0, d1⟩ := plat HLr.out (k := k) (by omega)
      have hx := Lib.hid hx0
      have X := fun w => ix45 (c := c) e1 hlt w
      clear hx0 e1
      have q1 := eqg35 .eql
      have q2 := eql35 q x
      go_wp2_with fail
      go_quiet (fail)
      cases hq : eqP q x
      · have HQ := Lib.hid (eqP_not.1 hq)
        go_wp2_with fail
        go_roundw
        case rel =>
          refine ⟨k + 1, by omega, by go_num, fun j hj => ?_, below_drewN' hbel.out _⟩
          rcases Nat.lt_or_ge j k with h | h
          · exact hno.out j h
          · obtain rfl : j = k := by omega
            rw [hx.out]; intro h; exact HQ.out (Option.some.inj h).symm
        case measure => simp [intOf]; omega
      · have HQ := Lib.hid (eqP_iff.1 hq)
        go_wp2_with fail
        go_ret
        refine ⟨k, rfl, ?_, by omega, by omega, below_trans' hw1.out (below_drewN' hbel.out _)⟩
        rw [decide_eq_decide]
        refine ⟨fun _ => ?_, fun _ => by omega⟩
        rw [HQ.out]; exact List.mem_of_getElem? hx.out
    · go_wp2_with fail
      go_ret
      refine ⟨-1, rfl, ?_, by omega, by omega, below_trans' hw1.out hbel.out⟩
      rw [decide_eq_decide]
      refine ⟨fun h => by omega, fun h => ?_⟩
      obtain ⟨j, hj, e⟩ := List.getElem_of_mem h
      exact absurd (by rw [List.getElem?_eq_getElem hj, e]) (hno.out j (by omega))
theorem contains_any (A : Option Addr) (n c : Nat) (l : List Plc) (q : Plc) (w : World) (hl : Reads w w.heap.size 2 A n (plcs l)) (hn : n ≤ 9223372036854775807) :
    Calls Try.prog 76 #[.slice A n c, pval q] w fun r w' => r = .returned (.bool (decide (q ∈ l))) ∧ Below w.heap.size w w' := by
  have HL := Lib.hid hl
  clear hl
  go_enter Try.func76, Try.ntmps76
  dsimp only [pval]
  go_wp2_with fail
  refine (indexP_any A n c l q _ (HL.out.on (belowA _ _)) hn).mono ?_
  rintro r w1 ⟨z, rfl, hz, z0, z1, hb1⟩
  have HZ := Lib.hid hz
  have hw1 := Lib.hid (below1 _ hb1)
  clear hz hb1
  go_wp2_with fail
  go_ret
  exact ⟨ret_bool HZ.out, hw1.out⟩
theorem named_any (A : Option Addr) (n c : Nat) (l : List Plc) (x y : Int) (w : World) (hl : Reads w w.heap.size 2 A n (plcs l)) (hn : n ≤ 9223372036854775807) :
    Calls Try.prog 77 #[.slice A n c, .int .i64 x, .int .i64 y] w fun r w' => r = .returned (.bool (decide ((x, y) ∈ l))) ∧ Below w.heap.size w w' := by
  have hlen := hl.1
  rw [plcs_length] at hlen
  have l1 : n ≤ l.length := by omega
  have l2 : l.length ≤ n := by omega
  clear hlen
  have HL := Lib.hid hl
  clear hl
  go_enter Try.func77, Try.ntmps77
  go_wp2_with fail
  go_loopw [7] (fun i wr => ∃ k : Nat, k ≤ n ∧ i = .int .i64 k ∧ (∀ j, j < k → l[j]? ≠ some (x, y)) ∧ Below w.heap.size w wr) (fun i _ => n - (intOf i).toNat)
  case atStart => exact ⟨0, by omega, rfl, fun j hj => absurd hj (by omega), Below.refl _ _⟩
  case round =>
    obtain ⟨k, hk, rfl, hno0, hb0⟩ := hrel
    have hno := Lib.hid hno0
    have hbel := Lib.hid hb0
    have HLr := Lib.hid (HL.out.on hb0)
    clear hno0 hb0
    by_cases hlt : k < n
    · obtain ⟨ad, q, e1, hbk, hx0, d0, d1⟩ := plat HLr.out (k := k) (by omega)
      have hx := Lib.hid hx0
      have X := fun w => ix45 (c := c) e1 hlt w
      clear hx0 e1
      have hne : (q.1 == x) = false ∨ (q.2 == y) = false → l[k]? ≠ some (x, y) := fun h e => by
        have := hx.out.symm.trans e
        obtain rfl := Option.some.inj this
        simp at h
      have HNE := Lib.hid hne
      have HYE := Lib.hid (show (q.1 == x) = true → (q.2 == y) = true → l[k]? = some (x, y) from fun h1 h2 => by
        rw [hx.out, ← eq_of_beq h1, ← eq_of_beq h2])
      clear hne
      cases h1 : q.1 == x
      · have hno2 := Lib.hid (HNE.out (.inl h1))
        go_wp2_with fail
        go_roundw
        case rel =>
          refine ⟨k + 1, by omega, by go_num, fun j hj => ?_, hbel.out⟩
          rcases Nat.lt_or_ge j k with h | h
          · exact hno.out j h
          · obtain rfl : j = k := by omega
            exact hno2.out
        case measure => simp [intOf]; omega
      · cases h2 : q.2 == y
        · have hno2 := Lib.hid (HNE.out (.inr h2))
          go_wp2_with fail
          go_roundw
          case rel =>
            refine ⟨k + 1, by omega, by go_num, fun j hj => ?_, hbel.out⟩
            rcases Nat.lt_or_ge j k with h | h
            · exact hno.out j h
            · obtain rfl : j = k := by omega
              exact hno2.out
          case measure => simp [intOf]; omega
        · have hyes := Lib.hid (HYE.out h1 h2)
          go_wp2_with fail
          go_ret
          exact ⟨ret_bool (by have := List.mem_of_getElem? hyes.out; simpa using this), hbel.out⟩
    · go_wp2_with fail
      go_ret
      refine ⟨ret_bool ?_, hbel.out⟩
      symm
      rw [decide_eq_false_iff_not]
      intro h
      obtain ⟨j, hj, e⟩ := List.getElem_of_mem h
      exact absurd (by rw [List.getElem?_eq_getElem hj, e]) (hno.out j (by omega))
end Go.Proofs.Ytahmdnboeenfkaa
