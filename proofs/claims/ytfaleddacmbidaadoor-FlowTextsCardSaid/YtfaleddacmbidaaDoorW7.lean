/- Walks: Validate, the reference's. -/
import Derived.Test.YtfaleddacmbidaaDoorW6
namespace Go.Proofs.YtfaleddacmbidaaDoor
open Go.RowKit Go.Sort

theorem within_t (n lo hi : Int) (w : World) (h : lo ≤ n ∧ n ≤ hi) : Calls Tryd.prog 34 #[.int .i64 n, .int .i64 lo, .int .i64 hi] w fun e w' => e = .returned (.bool true) ∧ w = w' := by
  have := within_any n lo hi w
  rwa [decide_eq_true h] at this
theorem within_f (n lo hi : Int) (w : World) (h : ¬ (lo ≤ n ∧ n ≤ hi)) : Calls Tryd.prog 34 #[.int .i64 n, .int .i64 lo, .int .i64 hi] w fun e w' => e = .returned (.bool false) ∧ w = w' := by
  have := within_any n lo hi w
  rwa [decide_eq_false h] at this
theorem refValidate_size (v : FV) (w : World) (hv : v.In w) (h : ¬ sizeOk v.f) :
    Calls Tryd.prog 18 #[v.val] w fun r w' => r = .returned (.int .i64 1) ∧ Below w.heap.size w w' := by
  have hnb := hv.nb
  by_cases h1 : v.f.W < 1
  · go_enter Tryd.func18, Tryd.ntmps18
    dsimp only [FV.val]
    go_wp2_with (go_at_call 34; first | (refine (within_t _ _ _ _ (by omega)).mono ?_; rintro e w' ⟨rfl, rfl⟩) | (refine (within_f _ _ _ _ (by omega)).mono ?_; rintro e w' ⟨rfl, rfl⟩))
    go_ret
    exact ⟨rfl, belowA _ _⟩
  by_cases h2 : 12 < v.f.W
  · go_enter Tryd.func18, Tryd.ntmps18
    dsimp only [FV.val]
    go_wp2_with (go_at_call 34; first | (refine (within_t _ _ _ _ (by omega)).mono ?_; rintro e w' ⟨rfl, rfl⟩) | (refine (within_f _ _ _ _ (by omega)).mono ?_; rintro e w' ⟨rfl, rfl⟩))
    go_ret
    exact ⟨rfl, belowA _ _⟩
  by_cases h3 : v.f.H < 1
  · go_enter Tryd.func18, Tryd.ntmps18
    dsimp only [FV.val]
    go_wp2_with (go_at_call 34; first | (refine (within_t _ _ _ _ (by omega)).mono ?_; rintro e w' ⟨rfl, rfl⟩) | (refine (within_f _ _ _ _ (by omega)).mono ?_; rintro e w' ⟨rfl, rfl⟩))
    go_ret
    exact ⟨rfl, belowA _ _⟩
  by_cases h4 : 12 < v.f.H
  · go_enter Tryd.func18, Tryd.ntmps18
    dsimp only [FV.val]
    go_wp2_with (go_at_call 34; first | (refine (within_t _ _ _ _ (by omega)).mono ?_; rintro e w' ⟨rfl, rfl⟩) | (refine (within_f _ _ _ _ (by omega)).mono ?_; rintro e w' ⟨rfl, rfl⟩))
    go_ret
    exact ⟨rfl, belowA _ _⟩
  have h5 : ((v.n : Int) != v.f.W * v.f.H) = true := by
    rw [bne_iff_ne]
    intro h5
    refine h ⟨by omega, by omega, by omega, by omega, ?_⟩
    rw [← hv.len]; exact h5
  have p1 : 0 ≤ v.f.W * v.f.H := Int.mul_nonneg (by omega) (by omega)
  have p2 : v.f.W * v.f.H ≤ 144 := by
    have := Int.mul_le_mul (show v.f.W ≤ 12 by omega) (show v.f.H ≤ 12 by omega) (by omega) (by omega)
    omega
  go_enter Tryd.func18, Tryd.ntmps18
  dsimp only [FV.val]
  go_wp2_with (go_at_call 34; first | (refine (within_t _ _ _ _ (by omega)).mono ?_; rintro e w' ⟨rfl, rfl⟩) | (refine (within_f _ _ _ _ (by omega)).mono ?_; rintro e w' ⟨rfl, rfl⟩))
  go_ret
  exact ⟨rfl, belowA _ _⟩

theorem refValidate_main (v : FV) (w : World) (hv : v.In w) (hs : sizeOk v.f) :
    Calls Tryd.prog 18 #[v.val] w fun r w' => r = .returned (.int .i64 (valid v.f)) ∧ Below w.heap.size w w' := by
  have hnb := hv.nb
  have hmb := hv.mb
  obtain ⟨l1, l2⟩ := hv.l1
  obtain ⟨l3, l4⟩ := hv.l2
  obtain ⟨s1, s2, s3, s4, s5⟩ := hs
  have hs : sizeOk v.f := ⟨s1, s2, s3, s4, s5⟩
  have h5 : ((v.n : Int) != v.f.W * v.f.H) = false := by
    rw [bne_eq_false_iff_eq, ← s5, ← hv.len]
  clear s5
  have p1 : 0 ≤ v.f.W * v.f.H := Int.mul_nonneg (by omega) (by omega)
  have p2 : v.f.W * v.f.H ≤ 144 := by
    have := Int.mul_le_mul s2 s4 (by omega) (by omega)
    omega
  have HV := Lib.hid hv
  clear hv
  go_enter Tryd.func18, Tryd.ntmps18
  dsimp only [FV.val]
  go_wp2_with (go_at_call 34; first | (refine (within_t _ _ _ _ (by omega)).mono ?_; rintro e w' ⟨rfl, rfl⟩) | (refine (within_f _ _ _ _ (by omega)).mono ?_; rintro e w' ⟨rfl, rfl⟩))
  clear h5 p1 p2
  refine wp_gen (fun w1 => Box w1 w.heap.size #[.int .i64 v.f.W, .int .i64 v.f.H, .slice v.A v.n v.c, .slice v.B v.m v.d] ∧ Below w.heap.size w w1) ⟨Box.new _ _ _, belowA _ _⟩ ?_
  rintro w1 ⟨b0, hw10⟩
  have HV1 := Lib.hid (HV.out.below hw10)
  have hw1 := Lib.hid hw10
  clear hw10
  have c0 := b0.at
  go_loop [3] (fun i => ∃ k : Nat, k ≤ v.n ∧ i = .int .i64 k ∧ (∀ j z, j < k → v.f.ds[j]? = some z → 0 ≤ z ∧ z ≤ 7)) (fun i => v.n - (intOf i).toNat)
  case atStart => exact ⟨0, by omega, rfl, fun j z hj => absurd hj (by omega)⟩
  case round =>
    obtain ⟨k, hk, rfl, hok0⟩ := hrel
    have hok := Lib.hid hok0
    clear hok0
    by_cases hlt : k < v.n
    · obtain ⟨ad, z, e1, hbk, hz0, d0⟩ := HV1.out.dsAt (k := k) (by omega)
      have hz := Lib.hid hz0
      have X := fun w => ix22 (c := v.c) e1 hlt w
      clear hz0 e1
      by_cases g1 : z < 0
      · have hval := Lib.hid (valid_dirs hs fun hd => by have := (hd z (List.mem_of_getElem? hz.out)).1; omega)
        go_wp2_with (go_at_call 34; first | (refine (within_t _ _ _ _ (by omega)).mono ?_; rintro e w' ⟨rfl, rfl⟩) | (refine (within_f _ _ _ _ (by omega)).mono ?_; rintro e w' ⟨rfl, rfl⟩))
        go_ret
        exact ⟨ret_int hval.out.symm, hw1.out⟩
      by_cases g2 : 7 < z
      · have hval := Lib.hid (valid_dirs hs fun hd => by have := (hd z (List.mem_of_getElem? hz.out)).2; omega)
        go_wp2_with (go_at_call 34; first | (refine (within_t _ _ _ _ (by omega)).mono ?_; rintro e w' ⟨rfl, rfl⟩) | (refine (within_f _ _ _ _ (by omega)).mono ?_; rintro e w' ⟨rfl, rfl⟩))
        go_ret
        exact ⟨ret_int hval.out.symm, hw1.out⟩
      go_wp2_with (go_at_call 34; first | (refine (within_t _ _ _ _ (by omega)).mono ?_; rintro e w' ⟨rfl, rfl⟩) | (refine (within_f _ _ _ _ (by omega)).mono ?_; rintro e w' ⟨rfl, rfl⟩))
      go_round
      case rel =>
        refine ⟨k + 1, by omega, by go_num, fun j y hj hy => ?_⟩
        rcases Nat.lt_or_ge j k with h | h
        · exact hok.out j y h hy
        · obtain rfl : j = k := by omega
          have := hz.out.symm.trans hy
          obtain rfl := Option.some.inj this
          omega
      case measure => simp [intOf]; omega
    · have hd : dirsOk v.f := by
        intro z hz
        obtain ⟨j, hj, rfl⟩ := List.getElem_of_mem hz
        exact hok.out j _ (by omega) (List.getElem?_eq_getElem hj)
      clear hok
      have HD := Lib.hid hd
      clear hd
      by_cases hlarge : 60 < v.m
      · have hval := Lib.hid (valid_large hs HD.out (by omega))
        go_wp2_with fail
        go_ret
        exact ⟨ret_int hval.out.symm, hw1.out⟩
      go_wp2_with fail
      clear c0
      go_loopw [4] (fun i wr => ∃ k : Nat, k ≤ v.m ∧ i = .int .i64 k ∧ (∀ j, j < k → partOk v.f j) ∧ Below w1.heap.size w1 wr) (fun i _ => v.m - (intOf i).toNat)
      case atStart => exact ⟨0, by omega, rfl, fun j hj => absurd hj (by omega), Below.refl _ _⟩
      case round =>
        clear hk hlt
        obtain ⟨k, hk, rfl, hok0, hb0⟩ := hrel
        have hok := Lib.hid hok0
        have hbel := Lib.hid hb0
        have HVr := Lib.hid (HV1.out.below hb0)
        have b1 := b0.below hb0
        clear hok0 hb0
        by_cases hlt : k < v.m
        · obtain ⟨ad, x, e1, hbk, hx0, d0, d1, d2⟩ := HVr.out.psAt (k := k) (by omega)
          have hx := Lib.hid hx0
          have hxg : v.f.ps.getD k (0, 0, 0) = x := by rw [List.getD_eq_getElem?_getD, hx0]; rfl
          have HXG := Lib.hid hxg
          have E1 := Lib.hid e1
          have X1 := fun w => ix23 (c := v.d) e1 hlt w
          clear hx0 hxg e1
          have c1 := b1.at
          go_wp2_with fail
          clear c1
          have c1 := b1.rg
          have f0 := rg_cell d0
          have f1 := rg_cell d1
          have f2 := rg_cell d2
          cases he : isE v.f.W v.f.H x
          · have hval := Lib.hid (valid_parts hs HD.out (by omega) fun hp => by have := (hp k (by omega)).1; rw [HXG.out, he] at this; cases this)
            have HE := Lib.hid he
            have q0 : ∀ w1, Below wr.heap.size wr w1 → Calls Tryd.prog 35 #[v.val, eval_ x] w1 fun r w' => r = .returned (.bool false) ∧ Below w1.heap.size w1 w' := fun w1 _ => by rw [← HE.out]; exact isEdge_any v x w1 s1 (by omega) s3 (by omega)
            have Q0 := Lib.hid q0
            clear q0 he
            refine wp_region_qb mixed (by kernel_rfl) ?_
            repeat (go_big_quiet_step (exact rg_call Q0.out _ _))
            refine wpQuiet_nil ?_
            intro w4 hb4
            have HB4 := Lib.hid hb4
            clear hb4
            go_wp2_with fail
            go_ret
            exact ⟨ret_int hval.out.symm, below_trans' hw1.out (below_trans' hbel.out HB4.out)⟩
          · have HE := Lib.hid he
            have q0 : ∀ w1, Below wr.heap.size wr w1 → Calls Tryd.prog 35 #[v.val, eval_ x] w1 fun r w' => r = .returned (.bool true) ∧ Below w1.heap.size w1 w' := fun w1 _ => by rw [← HE.out]; exact isEdge_any v x w1 s1 (by omega) s3 (by omega)
            have Q0 := Lib.hid q0
            clear q0 he
            by_cases hk0 : 0 < k
            · obtain ⟨ad', x', e1', hbk', hx0, d0', d1', d2'⟩ := HVr.out.psAt (k := k - 1) (by omega)
              obtain rfl : ad = ad' := Option.some.inj (E1.out.symm.trans e1')
              have X2 := fun w => ix23p (c := v.d) e1' hlt hk0 w
              have hxg : v.f.ps.getD (k - 1) (0, 0, 0) = x' := by rw [List.getD_eq_getElem?_getD, hx0]; rfl
              have HXG' := Lib.hid hxg
              have f0' := rg_cell d0'
              have f1' := rg_cell d1'
              have f2' := rg_cell d2'
              have hd : decide (0 < k) = true := decide_eq_true hk0
              clear hx0 hxg d0 d1 d2 d0' d1' d2' e1'
              refine wp_region_qb mixed (by kernel_rfl) ?_
              repeat (go_big_quiet_step (first | (go_at_call 35; exact rg_call Q0.out _ _) | (go_at_call 36; exact rg_call (fun w1 _ => before_any x' x w1) _ _)))
              refine wpQuiet_nil ?_
              intro w4 hb4
              have HB4 := Lib.hid hb4
              clear hb4 f0 f1 f2 f0' f1' f2' c1
              cases hc : decide (ltE x' x)
              · have hval := Lib.hid (valid_parts hs HD.out (by omega) fun hp => by
                  have := (hp k (by omega)).2 hk0
                  rw [HXG.out, HXG'.out] at this
                  exact (of_decide_eq_false hc) this)
                go_wp2_with fail
                go_ret
                exact ⟨ret_int hval.out.symm, below_trans' hw1.out (below_trans' hbel.out HB4.out)⟩
              · have hc' := Lib.hid (of_decide_eq_true hc)
                go_wp2_with fail
                go_roundw
                case rel =>
                  refine ⟨k + 1, by omega, by go_num, fun j hj => ?_, below_trans' hbel.out HB4.out⟩
                  rcases Nat.lt_or_ge j k with h | h
                  · exact hok.out j h
                  · obtain rfl : j = k := by omega
                    exact ⟨by rw [HXG.out]; exact HE.out, fun _ => by rw [HXG.out, HXG'.out]; exact hc'.out⟩
                case measure => simp [intOf]; omega
            · have hd : decide (0 < k) = false := decide_eq_false hk0
              clear d0 d1 d2
              refine wp_region_qb mixed (by kernel_rfl) ?_
              repeat (go_big_quiet_step (first | (go_at_call 35; exact rg_call Q0.out _ _) | fail))
              refine wpQuiet_nil ?_
              intro w4 hb4
              have HB4 := Lib.hid hb4
              clear hb4 c1
              go_wp2_with fail
              go_roundw
              case rel =>
                refine ⟨k + 1, by omega, by go_num, fun j hj => ?_, below_trans' hbel.out HB4.out⟩
                rcases Nat.lt_or_ge j k with h | h
                · exact hok.out j h
                · obtain rfl : j = k := by omega
                  exact ⟨by rw [HXG.out]; exact HE.out, fun h0 => absurd h0 hk0⟩
              case measure => simp [intOf]; omega
        · have hpo : partsOk v.f := fun j hj => hok.out j (by omega)
          have hokf := okf_of hs HD.out (by omega) hpo
          have HPO := Lib.hid hpo
          have HOK := Lib.hid hokf
          clear hok hpo hokf
          have c1 := b1.at
          go_wp2_with fail
          refine (refEdges_any v wr s1 s2 s3 s4).mono ?_
          rintro r w2 ⟨A, c, rfl, hr, hb2⟩
          have HR := Lib.hid hr
          have b2 := b1.below hb2
          have hbel2 := Lib.hid (below_trans' hbel.out hb2)
          have HV2 := Lib.hid (HVr.out.below hb2)
          have hlen := edgesR_le v.f.W v.f.H v.f.W.toNat s4
          have hlen2 : (edgesR v.f.W v.f.H v.f.W.toNat).length ≤ 288 := by omega
          clear hr hb2 c1 hbel HVr hlen
          obtain ⟨es, hes⟩ : ∃ es, es = edgesR v.f.W v.f.H v.f.W.toNat := ⟨_, rfl⟩
          rw [← hes] at hlen2 HR ⊢
          have HES := Lib.hid hes
          clear hes
          go_wp2_with fail
          go_loopw [6] (fun i wr => ∃ k : Nat, k ≤ es.length ∧ i = .int .i64 k ∧ (∀ j x, j < k → es[j]? = some x → v.f.trn x ≠ 4) ∧ Below w2.heap.size w2 wr) (fun i _ => es.length - (intOf i).toNat)
          case atStart => exact ⟨0, by omega, rfl, fun j x hj => absurd hj (by omega), Below.refl _ _⟩
          case round =>
            clear hk hlt
            obtain ⟨k, hk, rfl, hok0, hb0⟩ := hrel
            have hok := Lib.hid hok0
            have hbel := Lib.hid (below_trans' hbel2.out hb0)
            have hb := Lib.hid hb0
            have HVr := Lib.hid (HV2.out.below hb0)
            have b3 := b2.below hb0
            have HR3 := Lib.hid (HR.out.on hb0)
            clear hok0 hb0
            by_cases hlt : k < es.length
            · obtain ⟨ad, x, rfl, hbk, hx0, d0, d1, d2⟩ := psat HR3.out hlt
              have he : isE v.f.W v.f.H x = true := by
                have := List.mem_of_getElem? hx0
                rw [HES.out] at this
                exact mem_edgesR.1 this
              have HE := Lib.hid he
              have hx := Lib.hid hx0
              clear hx0 he
              go_wp2_with fail
              have c1 := b3.rg
              have f0 := rg_cell d0
              have f1 := rg_cell d1
              have f2 := rg_cell d2
              clear d0 d1 d2
              refine wp_region_qb mixed (by kernel_rfl) ?_
              repeat (go_big_quiet_step (exact rg_call (fun w1 hb => turning_any v x w1 (HVr.out.below hb) HOK.out HE.out) _ _))
              refine wpQuiet_nil ?_
              intro w4 hb4
              have hbel4 := Lib.hid hb4
              clear hb4 c1 f0 f1 f2
              by_cases h4 : v.f.trn x = 4
              · have hval := Lib.hid (valid_sharp HOK.out HPO.out ⟨x, mem_edgesP.2 HE.out, h4⟩)
                have g4 : (v.f.trn x == 4) = true := by simpa using h4
                clear h4
                go_wp2_with fail
                go_ret
                exact ⟨ret_int hval.out.symm, below_trans' hw1.out (below_trans' hbel.out hbel4.out)⟩
              · have g4 : (v.f.trn x == 4) = false := by simpa using h4
                have H4 := Lib.hid h4
                clear h4
                go_wp2_with fail
                go_roundw
                case rel =>
                  refine ⟨k + 1, by omega, by go_num, fun j y hj hy => ?_, below_trans' hb.out hbel4.out⟩
                  rcases Nat.lt_or_ge j k with h | h
                  · exact hok.out j y h hy
                  · obtain rfl : j = k := by omega
                    have := hx.out.symm.trans hy
                    rw [← Option.some.inj this]
                    exact H4.out
                case measure => simp [intOf]; omega
            · have hns : ¬ sharp v.f := by
                rintro ⟨x, hx, h4⟩
                have hx := mem_edgesR.2 (mem_edgesP.1 hx)
                rw [← HES.out] at hx
                obtain ⟨j, hj, rfl⟩ := List.getElem_of_mem hx
                exact hok.out j _ (by omega) (List.getElem?_eq_getElem hj) h4
              have hval := Lib.hid (valid_ok HOK.out HPO.out hns)
              clear hns
              go_wp2_with fail
              go_ret
              exact ⟨ret_int hval.out.symm, below_trans' hw1.out hbel.out⟩
theorem refValidate_any (v : FV) (w : World) (hv : v.In w) :
    Calls Tryd.prog 18 #[v.val] w fun r w' => r = .returned (.int .i64 (valid v.f)) ∧ Below w.heap.size w w' := by
  by_cases hs : sizeOk v.f
  · exact refValidate_main v w hv hs
  · rw [valid_size hs]; exact refValidate_size v w hv hs
end Go.Proofs.YtfaleddacmbidaaDoor
