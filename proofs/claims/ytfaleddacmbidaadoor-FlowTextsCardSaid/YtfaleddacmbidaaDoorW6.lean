/- Walks: Validate, the program's. -/
import Derived.Test.YtfaleddacmbidaaDoorW5
namespace Go.Proofs.YtfaleddacmbidaaDoor
open Go.RowKit Go.Sort

theorem valid_size {f : Fld} (h : ¬ sizeOk f) : valid f = 1 := by unfold valid; rw [if_pos h]
theorem valid_dirs {f : Fld} (h1 : sizeOk f) (h : ¬ dirsOk f) : valid f = 1 := by unfold valid; rw [if_neg (by simpa using h1), if_pos h]
theorem valid_large {f : Fld} (h1 : sizeOk f) (h2 : dirsOk f) (h : 60 < f.ps.length) : valid f = 4 := by
  unfold valid; rw [if_neg (by simpa using h1), if_neg (by simpa using h2), if_pos h]
theorem valid_parts {f : Fld} (h1 : sizeOk f) (h2 : dirsOk f) (h3 : ¬ 60 < f.ps.length) (h : ¬ partsOk f) : valid f = 1 := by
  unfold valid; rw [if_neg (by simpa using h1), if_neg (by simpa using h2), if_neg h3, if_pos h]
theorem valid_sharp {f : Fld} (h : Okf f) (hp : partsOk f) (hs : sharp f) : valid f = 9 := by
  have h1 := h.size
  have h2 : dirsOk f := h.dir
  have h3 : ¬ 60 < f.ps.length := by have := h.cnt; omega
  unfold valid; rw [if_neg (by simpa using h1), if_neg (by simpa using h2), if_neg h3, if_neg (by simpa using hp), if_pos hs]
theorem valid_ok {f : Fld} (h : Okf f) (hp : partsOk f) (hs : ¬ sharp f) : valid f = 0 := by
  have h1 := h.size
  have h2 : dirsOk f := h.dir
  have h3 : ¬ 60 < f.ps.length := by have := h.cnt; omega
  unfold valid; rw [if_neg (by simpa using h1), if_neg (by simpa using h2), if_neg h3, if_neg (by simpa using hp), if_neg hs]

theorem validate_size (v : FV) (w : World) (hv : v.In w) (h : ¬ sizeOk v.f) :
    Calls Tryd.prog 13 #[v.val] w fun r w' => r = .returned (.int .i64 1) ∧ Below w.heap.size w w' := by
  have hnb := hv.nb
  by_cases h1 : v.f.W < 1
  · go_enter Tryd.func13, Tryd.ntmps13
    dsimp only [FV.val]
    go_wp2_with fail
    go_ret
    exact ⟨rfl, belowA _ _⟩
  by_cases h2 : 12 < v.f.W
  · go_enter Tryd.func13, Tryd.ntmps13
    dsimp only [FV.val]
    go_wp2_with fail
    go_ret
    exact ⟨rfl, belowA _ _⟩
  by_cases h3 : v.f.H < 1
  · go_enter Tryd.func13, Tryd.ntmps13
    dsimp only [FV.val]
    go_wp2_with fail
    go_ret
    exact ⟨rfl, belowA _ _⟩
  by_cases h4 : 12 < v.f.H
  · go_enter Tryd.func13, Tryd.ntmps13
    dsimp only [FV.val]
    go_wp2_with fail
    go_ret
    exact ⟨rfl, belowA _ _⟩
  have h5 : ((v.n : Int) != v.f.W * v.f.H) = true := by
    rw [bne_iff_ne]
    intro h5
    refine h ⟨by omega, by omega, by omega, by omega, ?_⟩
    rw [← hv.len]; exact h5
  have p1 : 0 ≤ v.f.W * v.f.H := Int.mul_nonneg (by omega) (by omega)
  have p2 : v.f.W * v.f.H ≤ 144 := by
    have := Int.mul_le_mul (show v.f.W ≤ 12 by omega) (show v.f.H ≤ 12 by omega) (by omega) (by omega)
    omega
  go_enter Tryd.func13, Tryd.ntmps13
  dsimp only [FV.val]
  go_wp2_with fail
  go_ret
  exact ⟨rfl, belowA _ _⟩

theorem validate_main (v : FV) (w : World) (hv : v.In w) (hs : sizeOk v.f) :
    Calls Tryd.prog 13 #[v.val] w fun r w' => r = .returned (.int .i64 (valid v.f)) ∧ Below w.heap.size w w' := by
  have hnb := hv.nb
  have hmb := hv.mb
  obtain ⟨l1, l2⟩ := hv.l1
  obtain ⟨l3, l4⟩ := hv.l2
  obtain ⟨s1, s2, s3, s4, s5⟩ := hs
  have hs : sizeOk v.f := ⟨s1, s2, s3, s4, s5⟩
  have h5 : ((v.n : Int) != v.f.W * v.f.H) = false := by
    rw [bne_eq_false_iff_eq, ← s5, ← hv.len]
  clear s5
  have p1 : 0 ≤ v.f.W * v.f.H := Int.mul_nonneg (by omega) (by omega)
  have p2 : v.f.W * v.f.H ≤ 144 := by
    have := Int.mul_le_mul s2 s4 (by omega) (by omega)
    omega
  have HV := Lib.hid hv
  clear hv
  go_enter Tryd.func13, Tryd.ntmps13
  dsimp only [FV.val]
  go_wp2_with fail
  clear h5 p1 p2
  refine wp_gen (fun w1 => Box w1 w.heap.size #[.int .i64 v.f.W, .int .i64 v.f.H, .slice v.A v.n v.c, .slice v.B v.m v.d] ∧ Below w.heap.size w w1) ⟨Box.new _ _ _, belowA _ _⟩ ?_
  rintro w1 ⟨b0, hw10⟩
  have HV1 := Lib.hid (HV.out.below hw10)
  have hw1 := Lib.hid hw10
  clear hw10
  have c0 := b0.at
  go_loop [41] (fun i => ∃ k : Nat, k ≤ v.n ∧ i = .int .i64 k ∧ (∀ j z, j < k → v.f.ds[j]? = some z → 0 ≤ z ∧ z ≤ 7)) (fun i => v.n - (intOf i).toNat)
  case atStart => exact ⟨0, by omega, rfl, fun j z hj => absurd hj (by omega)⟩
  case round =>
    obtain ⟨k, hk, rfl, hok0⟩ := hrel
    have hok := Lib.hid hok0
    clear hok0
    by_cases hlt : k < v.n
    · obtain ⟨ad, z, e1, hbk, hz0, d0⟩ := HV1.out.dsAt (k := k) (by omega)
      have hz := Lib.hid hz0
      clear hz0
      by_cases g1 : z < 0
      · have hval := Lib.hid (valid_dirs hs fun hd => by have := (hd z (List.mem_of_getElem? hz.out)).1; omega)
        go_wp2_with fail
        go_ret
        exact ⟨ret_int hval.out.symm, hw1.out⟩
      by_cases g2 : 7 < z
      · have hval := Lib.hid (valid_dirs hs fun hd => by have := (hd z (List.mem_of_getElem? hz.out)).2; omega)
        go_wp2_with fail
        go_ret
        exact ⟨ret_int hval.out.symm, hw1.out⟩
      go_wp2_with fail
      go_round
      case rel =>
        refine ⟨k + 1, by omega, by go_num, fun j y hj hy => ?_⟩
        rcases Nat.lt_or_ge j k with h | h
        · exact hok.out j y h hy
        · obtain rfl : j = k := by omega
          have := hz.out.symm.trans hy
          obtain rfl := Option.some.inj this
          omega
      case measure => simp [intOf]; omega
    · have hd : dirsOk v.f := by
        intro z hz
        obtain ⟨j, hj, rfl⟩ := List.getElem_of_mem hz
        exact hok.out j _ (by omega) (List.getElem?_eq_getElem hj)
      clear hok
      have HD := Lib.hid hd
      clear hd
      by_cases hlarge : 60 < v.m
      · have hval := Lib.hid (valid_large hs HD.out (by omega))
        go_wp2_with fail
        go_ret
        exact ⟨ret_int hval.out.symm, hw1.out⟩
      go_wp2_with fail
      clear c0
      go_loopw [59] (fun i wr => ∃ k : Nat, k ≤ v.m ∧ i = .int .i64 k ∧ (∀ j, j < k → partOk v.f j) ∧ Below w1.heap.size w1 wr) (fun i _ => v.m - (intOf i).toNat)
      case atStart => exact ⟨0, by omega, rfl, fun j hj => absurd hj (by omega), Below.refl _ _⟩
      case round =>
        clear hk hlt
        obtain ⟨k, hk, rfl, hok0, hb0⟩ := hrel
        have hok := Lib.hid hok0
        have hbel := Lib.hid hb0
        have HVr := Lib.hid (HV1.out.below hb0)
        have b1 := b0.below hb0
        clear hok0 hb0
        by_cases hlt : k < v.m
        · obtain ⟨ad, x, e1, hbk, hx0, d0, d1, d2⟩ := HVr.out.psAt (k := k) (by omega)
          have hx := Lib.hid hx0
          have hxg : v.f.ps.getD k (0, 0, 0) = x := by rw [List.getD_eq_getElem?_getD, hx0]; rfl
          have HXG := Lib.hid hxg
          clear hx0 hxg
          have c1 := b1.at
          go_wp2_with fail
          refine wp_gen (fun w2 => Box w2 wr.heap.size #[.int .i64 x.1, .int .i64 x.2.1, .int .i64 x.2.2] ∧ Below wr.heap.size wr w2) ⟨Box.new _ _ _, belowA _ _⟩ ?_
          rintro w2 ⟨b2, hb2⟩
          clear c1 d0 d1 d2 e1 hbk
          have b3 := b1.below hb2
          have c2 := b2.rg
          have c3 := b3.rg
          have hbel2 := Lib.hid (below_trans' hbel.out hb2)
          have HV2 := Lib.hid (HVr.out.below hb2)
          clear hbel hb2 HVr b1
          cases he : isE v.f.W v.f.H x
          · have hval := Lib.hid (valid_parts hs HD.out (by omega) fun hp => by have := (hp k (by omega)).1; rw [HXG.out, he] at this; cases this)
            have HE := Lib.hid he
            have q0 : ∀ w1, Below w2.heap.size w2 w1 → Calls Tryd.prog 28 #[v.val, eval_ x] w1 fun r w' => r = .returned (.bool false) ∧ Below w1.heap.size w1 w' := fun w1 _ => by rw [← HE.out]; exact hasEdge_any v x w1 s1 (by omega) s3 (by omega)
            have Q0 := Lib.hid q0
            clear q0 he
            refine wp_region_qb mixed (by kernel_rfl) ?_
            repeat (go_big_quiet_step (exact rg_call Q0.out _ _))
            refine wpQuiet_nil ?_
            intro w4 hb4
            have HB4 := Lib.hid hb4
            clear hb4
            go_wp2_with fail
            go_ret
            exact ⟨ret_int hval.out.symm, below_trans' hw1.out (below_trans' hbel2.out HB4.out)⟩
          · have HE := Lib.hid he
            have q0 : ∀ w1, Below w2.heap.size w2 w1 → Calls Tryd.prog 28 #[v.val, eval_ x] w1 fun r w' => r = .returned (.bool true) ∧ Below w1.heap.size w1 w' := fun w1 _ => by rw [← HE.out]; exact hasEdge_any v x w1 s1 (by omega) s3 (by omega)
            have Q0 := Lib.hid q0
            clear q0 he
            by_cases hk0 : 0 < k
            · obtain ⟨ad', x', e1, hbk, hx0, d0, d1, d2⟩ := HV2.out.psAt (k := k - 1) (by omega)
              have hxg : v.f.ps.getD (k - 1) (0, 0, 0) = x' := by rw [List.getD_eq_getElem?_getD, hx0]; rfl
              have HXG' := Lib.hid hxg
              have f0 := rg_cell d0
              have f1 := rg_cell d1
              have f2 := rg_cell d2
              have hd : decide (0 < k) = true := decide_eq_true hk0
              clear hx0 hxg d0 d1 d2
              have q1 := Q0.out
              simp only [FV.val, e1] at q1
              have Q1 := Lib.hid q1
              clear q1
              refine wp_region_qb mixed (by kernel_rfl) ?_
              repeat (go_big_quiet_step (first | (go_at_call 28; exact rg_call Q1.out _ _) | (go_at_call 29; exact rg_call (fun w1 _ => cmpE_any x' x w1) _ _)))
              refine wpQuiet_nil ?_
              intro w4 hb4
              have HB4 := Lib.hid hb4
              clear hb4 f0 f1 f2 c2 c3
              go_wp2_with fail
              · have hc : 0 ≤ cmpE x' x := by assumption
                have hval := Lib.hid (valid_parts hs HD.out (by omega) fun hp => by
                  have := (hp k (by omega)).2 hk0
                  rw [HXG.out, HXG'.out, ← cmpE_neg] at this
                  omega)
                go_ret
                exact ⟨ret_int hval.out.symm, below_trans' hw1.out (below_trans' hbel2.out HB4.out)⟩
              · have hc : cmpE x' x < 0 := by assumption
                go_roundw
                case rel =>
                  refine ⟨k + 1, by omega, by go_num, fun j hj => ?_, below_trans' hbel2.out HB4.out⟩
                  rcases Nat.lt_or_ge j k with h | h
                  · exact hok.out j h
                  · obtain rfl : j = k := by omega
                    exact ⟨by rw [HXG.out]; exact HE.out, fun _ => by rw [HXG.out, HXG'.out]; exact (cmpE_neg _ _).1 hc⟩
                case measure => simp [intOf]; omega
            · have hd : decide (0 < k) = false := decide_eq_false hk0
              refine wp_region_qb mixed (by kernel_rfl) ?_
              repeat (go_big_quiet_step (first | (go_at_call 28; exact rg_call Q0.out _ _) | fail))
              refine wpQuiet_nil ?_
              intro w4 hb4
              have HB4 := Lib.hid hb4
              clear hb4 c2 c3
              go_wp2_with fail
              go_roundw
              case rel =>
                refine ⟨k + 1, by omega, by go_num, fun j hj => ?_, below_trans' hbel2.out HB4.out⟩
                rcases Nat.lt_or_ge j k with h | h
                · exact hok.out j h
                · obtain rfl : j = k := by omega
                  exact ⟨by rw [HXG.out]; exact HE.out, fun h0 => absurd h0 hk0⟩
              case measure => simp [intOf]; omega
        · have hpo : partsOk v.f := fun j hj => hok.out j (by omega)
          have hokf := okf_of hs HD.out (by omega) hpo
          have HPO := Lib.hid hpo
          have HOK := Lib.hid hokf
          clear hok hpo hokf
          have c1 := b1.at
          go_wp2_with fail
          refine (edges_any v wr s1 s2 s3 s4).mono ?_
          rintro r w2 ⟨A, c, rfl, hr, hb2⟩
          have HR := Lib.hid hr
          have b2 := b1.below hb2
          have hbel2 := Lib.hid (below_trans' hbel.out hb2)
          have HV2 := Lib.hid (HVr.out.below hb2)
          have hlen := edgesP_le v.f.W v.f.H v.f.H.toNat s2
          have hlen2 : (edgesP v.f.W v.f.H v.f.H.toNat).length ≤ 288 := by omega
          clear hr hb2 c1 hbel HVr hlen
          obtain ⟨es, hes⟩ : ∃ es, es = edgesP v.f.W v.f.H v.f.H.toNat := ⟨_, rfl⟩
          rw [← hes] at hlen2 HR ⊢
          have HES := Lib.hid hes
          clear hes
          go_wp2_with fail
          go_loopw [87] (fun i wr => ∃ k : Nat, k ≤ es.length ∧ i = .int .i64 k ∧ (∀ j x, j < k → es[j]? = some x → v.f.trn x ≠ 4) ∧ Below w2.heap.size w2 wr) (fun i _ => es.length - (intOf i).toNat)
          case atStart => exact ⟨0, by omega, rfl, fun j x hj => absurd hj (by omega), Below.refl _ _⟩
          case round =>
            clear hk hlt
            obtain ⟨k, hk, rfl, hok0, hb0⟩ := hrel
            have hok := Lib.hid hok0
            have hbel := Lib.hid (below_trans' hbel2.out hb0)
            have hb := Lib.hid hb0
            have HVr := Lib.hid (HV2.out.below hb0)
            have b3 := b2.below hb0
            have HR3 := Lib.hid (HR.out.on hb0)
            clear hok0 hb0
            by_cases hlt : k < es.length
            · obtain ⟨ad, x, rfl, hbk, hx0, d0, d1, d2⟩ := psat HR3.out hlt
              have he : isE v.f.W v.f.H x = true := by
                have := List.mem_of_getElem? hx0
                rw [HES.out] at this
                exact mem_edgesP.1 this
              have HE := Lib.hid he
              have hx := Lib.hid hx0
              clear hx0 he
              have c1 := b3.at
              have c2 := fun o => (b3.alloc o).at
              go_wp2_with fail
              refine (turns_any v x _ (HVr.out.below (belowA _ _)) HOK.out HE.out).mono ?_
              rintro r w4 ⟨rfl, hb4⟩
              have hbel4 := Lib.hid (below_trans' (belowA _ _) hb4)
              clear hb4 c1 c2 d0 d1 d2
              by_cases h4 : v.f.trn x = 4
              · have hval := Lib.hid (valid_sharp HOK.out HPO.out ⟨x, by rw [← HES.out]; exact List.mem_of_getElem? hx.out, h4⟩)
                have g4 : (v.f.trn x == 4) = true := by simpa using h4
                clear h4
                go_wp2_with fail
                go_ret
                exact ⟨ret_int hval.out.symm, below_trans' hw1.out (below_trans' hbel.out hbel4.out)⟩
              · have g4 : (v.f.trn x == 4) = false := by simpa using h4
                have H4 := Lib.hid h4
                clear h4
                go_wp2_with fail
                go_roundw
                case rel =>
                  refine ⟨k + 1, by omega, by go_num, fun j y hj hy => ?_, below_trans' hb.out hbel4.out⟩
                  rcases Nat.lt_or_ge j k with h | h
                  · exact hok.out j y h hy
                  · obtain rfl : j = k := by omega
                    have := hx.out.symm.trans hy
                    rw [← Option.some.inj this]
                    exact H4.out
                case measure => simp [intOf]; omega
            · have hns : ¬ sharp v.f := by
                rintro ⟨x, hx, h4⟩
                rw [← HES.out] at hx
                obtain ⟨j, hj, rfl⟩ := List.getElem_of_mem hx
                exact hok.out j _ (by omega) (List.getElem?_eq_getElem hj) h4
              have hval := Lib.hid (valid_ok HOK.out HPO.out hns)
              clear hns
              go_wp2_with fail
              go_ret
              exact ⟨ret_int hval.out.symm, below_trans' hw1.out hbel.out⟩
theorem validate_any (v : FV) (w : World) (hv : v.In w) :
    Calls Tryd.prog 13 #[v.val] w fun r w' => r = .returned (.int .i64 (valid v.f)) ∧ Below w.heap.size w w' := by
  by_cases hs : sizeOk v.f
  · exact validate_main v w hv hs
  · rw [valid_size hs]; exact validate_size v w hv hs
end Go.Proofs.YtfaleddacmbidaaDoor
