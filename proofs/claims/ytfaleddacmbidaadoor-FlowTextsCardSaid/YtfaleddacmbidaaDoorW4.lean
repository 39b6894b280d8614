/- Walks: what turns along an edge, on both sides. -/
import Derived.Test.YtfaleddacmbidaaDoorW3
namespace Go.Proofs.YtfaleddacmbidaaDoor
open Go.RowKit Go.Sort

theorem turns_u0 (v : FV) (x y : Int) (w : World) (hv : v.In w) (hk : Okf v.f) (x0 : 0 ≤ x) (x1 : x < v.f.W - 1) (y0 : 0 ≤ y) (y1 : y < v.f.H) :
    Calls Tryd.prog 31 #[v.val, eval_ (x, y, 0)] w fun r w' => r = .returned (.int .i64 (v.f.trn (x, y, 0))) ∧ Below w.heap.size w w' := by
  have hs := hk.size
  have hw2 := hk.w2
  have hh2 := hk.h2
  obtain ⟨d0, d1⟩ := dir_bd hk x y x0 (by omega) y0 y1
  obtain ⟨d2, d3⟩ := dir_bd hk (x + 1) y (by omega) (by omega) y0 y1
  have hsort := Lib.hid hk.sorted
  have hmb : v.m ≤ 140737488355328 := by have := hk.cnt; have := hv.lenp; omega
  go_enter Tryd.func31, Tryd.ntmps31
  dsimp only [FV.val, eval_]
  go_wp2_with fail
  refine wp_gen (fun w1 => Box w1 w.heap.size #[.int .i64 v.f.W, .int .i64 v.f.H, .slice v.A v.n v.c, .slice v.B v.m v.d] ∧ Box w1 (w.heap.size + 1) #[.int .i64 x, .int .i64 y, .int .i64 0] ∧ Below w.heap.size w w1) ⟨(Box.new _ _ _).alloc _, Box.new2 _ _ _ _ _, belowAA _ _ _⟩ ?_
  rintro w1 ⟨b0, b1, hw1⟩
  have c0 := b0.rg
  have c1 := b1.rg
  refine wp_region_qb mixed (by kernel_rfl) ?_
  repeat (go_big_quiet_step (fail))
  refine wpQuiet_nil ?_
  intro w2 hb2
  clear c0 c1
  replace b0 := b0.below hb2
  replace b1 := b1.below hb2
  replace hw1 := below_trans' hw1 hb2
  have c0 := b0.at
  have c1 := b1.at
  go_wp2_with fail
  clear c0 c1
  have c0 := b0.rg
  have c1 := b1.rg
  have hv2 := hv.below hw1
  refine wp_region_qb mixed (by kernel_rfl) ?_
  repeat (go_big_quiet_step (exact rg_call (fun w1 hb => at_any v _ _ w1 (hv2.below hb) hs (by omega) (by omega) (by omega) (by omega)) _ _))
  refine wpQuiet_nil ?_
  intro w3 hb3
  clear c0 c1
  replace b0 := b0.below hb3
  replace b1 := b1.below hb3
  replace hw1 := below_trans' hw1 hb3
  have c0 := b0.at
  have c1 := b1.at
  have hv3 := hv.below hw1
  go_wp2_with fail
  refine (bs_any v.B v.m v.d v.f.ps (x, y, 0) w3 hv3.ps hmb hsort.out).mono ?_
  rintro r w4 ⟨rfl, hb4⟩
  replace hw1 := below_trans' hw1 hb4
  clear c0 c1 b0 b1 hb3 hb4
  have HW := Lib.hid hw1
  clear hw1
  by_cases hp : (x, y, (0 : Int)) ∈ v.f.ps
  · have ht := Lib.hid (show v.f.trn (x, y, 0) = turnN (v.f.dir (x + 1) y - v.f.dir x y + 4) by unfold Fld.trn Fld.bend; simp [hp])
    go_wp2_with (go_at_call 47; refine (mod_any _ _).mono ?_; rintro e w' ⟨rfl, rfl⟩)
    all_goals
      go_ret
      exact ⟨ret_int (by rw [ht.out]; unfold turnN; split <;> omega), HW.out⟩
  · have ht := Lib.hid (show v.f.trn (x, y, 0) = turnN (v.f.dir (x + 1) y - v.f.dir x y) by unfold Fld.trn Fld.bend; simp [hp])
    go_wp2_with (go_at_call 47; refine (mod_any _ _).mono ?_; rintro e w' ⟨rfl, rfl⟩)
    all_goals
      go_ret
      exact ⟨ret_int (by rw [ht.out]; unfold turnN; split <;> omega), HW.out⟩
theorem turns_u1 (v : FV) (x y : Int) (w : World) (hv : v.In w) (hk : Okf v.f) (x0 : 0 ≤ x) (x1 : x < v.f.W) (y0 : 0 ≤ y) (y1 : y < v.f.H - 1) :
    Calls Tryd.prog 31 #[v.val, eval_ (x, y, 1)] w fun r w' => r = .returned (.int .i64 (v.f.trn (x, y, 1))) ∧ Below w.heap.size w w' := by
  have hs := hk.size
  have hw2 := hk.w2
  have hh2 := hk.h2
  obtain ⟨d0, d1⟩ := dir_bd hk x y x0 (by omega) y0 (by omega)
  obtain ⟨d2, d3⟩ := dir_bd hk x (y + 1) x0 (by omega) (by omega) (by omega)
  have hsort := Lib.hid hk.sorted
  have hmb : v.m ≤ 140737488355328 := by have := hk.cnt; have := hv.lenp; omega
  go_enter Tryd.func31, Tryd.ntmps31
  dsimp only [FV.val, eval_]
  go_wp2_with fail
  refine wp_gen (fun w1 => Box w1 w.heap.size #[.int .i64 v.f.W, .int .i64 v.f.H, .slice v.A v.n v.c, .slice v.B v.m v.d] ∧ Box w1 (w.heap.size + 1) #[.int .i64 x, .int .i64 y, .int .i64 1] ∧ Below w.heap.size w w1) ⟨(Box.new _ _ _).alloc _, Box.new2 _ _ _ _ _, belowAA _ _ _⟩ ?_
  rintro w1 ⟨b0, b1, hw1⟩
  have c0 := b0.rg
  have c1 := b1.rg
  refine wp_region_qb mixed (by kernel_rfl) ?_
  repeat (go_big_quiet_step (fail))
  refine wpQuiet_nil ?_
  intro w2 hb2
  clear c0 c1
  replace b0 := b0.below hb2
  replace b1 := b1.below hb2
  replace hw1 := below_trans' hw1 hb2
  have c0 := b0.at
  have c1 := b1.at
  go_wp2_with fail
  clear c0 c1
  have c0 := b0.rg
  have c1 := b1.rg
  refine wp_region_qb mixed (by kernel_rfl) ?_
  repeat (go_big_quiet_step (fail))
  refine wpQuiet_nil ?_
  intro w2' hb2
  clear c0 c1
  replace b0 := b0.below hb2
  replace b1 := b1.below hb2
  replace hw1 := below_trans' hw1 hb2
  have c0 := b0.at
  have c1 := b1.at
  go_wp2_with fail
  clear c0 c1
  have c0 := b0.rg
  have c1 := b1.rg
  have hv2 := hv.below hw1
  refine wp_region_qb mixed (by kernel_rfl) ?_
  repeat (go_big_quiet_step (exact rg_call (fun w1 hb => at_any v _ _ w1 (hv2.below hb) hs (by omega) (by omega) (by omega) (by omega)) _ _))
  refine wpQuiet_nil ?_
  intro w3 hb3
  clear c0 c1
  replace b0 := b0.below hb3
  replace b1 := b1.below hb3
  replace hw1 := below_trans' hw1 hb3
  have c0 := b0.at
  have c1 := b1.at
  have hv3 := hv.below hw1
  go_wp2_with fail
  refine (bs_any v.B v.m v.d v.f.ps (x, y, 1) w3 hv3.ps hmb hsort.out).mono ?_
  rintro r w4 ⟨rfl, hb4⟩
  replace hw1 := below_trans' hw1 hb4
  clear c0 c1 b0 b1 hb3 hb4
  have HW := Lib.hid hw1
  clear hw1
  by_cases hp : (x, y, (1 : Int)) ∈ v.f.ps
  · have ht := Lib.hid (show v.f.trn (x, y, 1) = turnN (v.f.dir x (y + 1) - v.f.dir x y + 4) by unfold Fld.trn Fld.bend; simp [hp, show x + 1 - 1 = x by omega])
    go_wp2_with (go_at_call 47; refine (mod_any _ _).mono ?_; rintro e w' ⟨rfl, rfl⟩)
    all_goals
      go_ret
      exact ⟨ret_int (by rw [ht.out]; unfold turnN; split <;> omega), HW.out⟩
  · have ht := Lib.hid (show v.f.trn (x, y, 1) = turnN (v.f.dir x (y + 1) - v.f.dir x y) by unfold Fld.trn Fld.bend; simp [hp, show x + 1 - 1 = x by omega])
    go_wp2_with (go_at_call 47; refine (mod_any _ _).mono ?_; rintro e w' ⟨rfl, rfl⟩)
    all_goals
      go_ret
      exact ⟨ret_int (by rw [ht.out]; unfold turnN; split <;> omega), HW.out⟩

theorem isE_cases {W H : Int} {e : Edg} (h : isE W H e = true) : (∃ x y, e = (x, y, 0) ∧ 0 ≤ x ∧ x < W - 1 ∧ 0 ≤ y ∧ y < H) ∨ (∃ x y, e = (x, y, 1) ∧ 0 ≤ x ∧ x < W ∧ 0 ≤ y ∧ y < H - 1) := by
  obtain ⟨x, y, u⟩ := e
  simp only [isE, decide_eq_true_eq] at h
  rcases h with ⟨rfl, h⟩ | ⟨rfl, h⟩
  · exact .inl ⟨x, y, rfl, h⟩
  · exact .inr ⟨x, y, rfl, h⟩
theorem turns_any (v : FV) (e : Edg) (w : World) (hv : v.In w) (hk : Okf v.f) (he : isE v.f.W v.f.H e = true) :
    Calls Tryd.prog 31 #[v.val, eval_ e] w fun r w' => r = .returned (.int .i64 (v.f.trn e)) ∧ Below w.heap.size w w' := by
  rcases isE_cases he with ⟨x, y, rfl, h1, h2, h3, h4⟩ | ⟨x, y, rfl, h1, h2, h3, h4⟩
  · exact turns_u0 v x y w hv hk h1 h2 h3 h4
  · exact turns_u1 v x y w hv hk h1 h2 h3 h4

theorem turning_u (v : FV) (x y u : Int) (w : World) (hv : v.In w) (hk : Okf v.f) (u0 : 0 ≤ u) (u1 : u ≤ 1) (x0 : 0 ≤ x) (x1 : x < v.f.W) (x2 : x + 1 - u < v.f.W) (y0 : 0 ≤ y) (y1 : y < v.f.H) (y2 : y + u < v.f.H) :
    Calls Tryd.prog 38 #[v.val, eval_ (x, y, u)] w fun r w' => r = .returned (.int .i64 (v.f.trn (x, y, u))) ∧ Below w.heap.size w w' := by
  have hs := hk.size
  have hw2 := hk.w2
  have hh2 := hk.h2
  obtain ⟨d0, d1⟩ := dir_bd hk x y x0 x1 y0 y1
  obtain ⟨d2, d3⟩ := dir_bd hk (x + 1 - u) (y + u) (by omega) x2 (by omega) y2
  go_enter Tryd.func38, Tryd.ntmps38
  dsimp only [FV.val, eval_]
  go_wp2_with fail
  refine wp_gen (fun w1 => Box w1 w.heap.size #[.int .i64 v.f.W, .int .i64 v.f.H, .slice v.A v.n v.c, .slice v.B v.m v.d] ∧ Box w1 (w.heap.size + 1) #[.int .i64 x, .int .i64 y, .int .i64 u] ∧ Below w.heap.size w w1) ⟨(Box.new _ _ _).alloc _, Box.new2 _ _ _ _ _, belowAA _ _ _⟩ ?_
  rintro w1 ⟨b0, b1, hw1⟩
  have hv1 := hv.below hw1
  have c0 := b0.rg
  have c1 := b1.rg
  refine wp_region_qb mixed (by kernel_rfl) ?_
  repeat (go_big_quiet_step (exact rg_call (fun w1 hb => refAt_any v _ _ w1 (hv1.below hb) hs (by omega) (by omega) (by omega) (by omega)) _ _))
  refine wpQuiet_nil ?_
  intro w2 hb2
  clear c0 c1
  replace b0 := b0.below hb2
  replace b1 := b1.below hb2
  replace hw1 := below_trans' hw1 hb2
  have hv2 := hv.below hw1
  have c0 := b0.at
  have c1 := b1.at
  go_wp2_with fail
  refine (parted_any v (x, y, u) w2 hv2).mono ?_
  rintro r w4 ⟨rfl, hb4⟩
  have hT : v.f.trn (x, y, u) = turnN (v.f.dir (x + 1 - u) (y + u) - v.f.dir x y + if decide ((x, y, u) ∈ v.f.ps) = true then 4 else 0) := by
    unfold Fld.trn Fld.bend
    simp
  replace hw1 := below_trans' hw1 hb4
  clear c0 c1 b0 b1 hb2 hb4
  have HW := Lib.hid hw1
  have HT := Lib.hid hT
  clear hw1 hT
  generalize decide ((x, y, u) ∈ v.f.ps) = bp at HT ⊢
  generalize hTT : v.f.trn (x, y, u) = T at HT ⊢
  have HTT := Lib.hid hTT
  clear hTT
  have hD0 : -7 ≤ v.f.dir (x + 1 - u) (y + u) - v.f.dir x y := by omega
  have hD1 : v.f.dir (x + 1 - u) (y + u) - v.f.dir x y ≤ 7 := by omega
  generalize v.f.dir (x + 1 - u) (y + u) - v.f.dir x y = D at HT hD0 hD1 ⊢
  cases bp
  all_goals
    have HT2 := HT.out
    simp only [if_true, if_false, Bool.false_eq_true, Int.add_zero] at HT2
    clear HT
    have HT := Lib.hid HT2
    clear HT2
    go_wp2_with fail
    go_loop [5] (fun i => ∃ d : Int, i = .int .i64 d ∧ turnN d = T ∧ -7 ≤ d ∧ d ≤ 11) (fun i => (intOf i).toNat)
    case atStart => exact ⟨_, rfl, HT.out.symm, by omega, by omega⟩
    case round =>
      obtain ⟨d, rfl, hd0, hd1, hd2⟩ := hrel
      have hd := Lib.hid hd0
      clear hd0 HT
      by_cases hlt : 4 < d
      · go_wp2
        go_round
        case rel => exact ⟨d - 8, rfl, by rw [← hd.out]; unfold turnN; split <;> split <;> omega, by omega, by omega⟩
        case measure => simp [intOf]; omega
      · go_wp2_with fail
        go_loop [5] (fun i => ∃ d : Int, i = .int .i64 d ∧ turnN d = T ∧ -7 ≤ d ∧ d ≤ 4) (fun i => (-(intOf i)).toNat)
        case atStart => exact ⟨_, rfl, hd.out, by omega, by omega⟩
        case round =>
          clear hd hlt hd1 hd2
          obtain ⟨d', rfl, hd0, hd1, hd2⟩ := hrel
          have hd := Lib.hid hd0
          clear hd0
          by_cases hlt : d' < -3
          · go_wp2
            go_round
            case rel => exact ⟨d' + 8, rfl, by rw [← hd.out]; unfold turnN; split <;> split <;> omega, by omega, by omega⟩
            case measure => simp [intOf]; omega
          · go_wp2
            go_ret
            exact ⟨ret_int (by rw [HTT.out, ← hd.out]; unfold turnN; split <;> omega), HW.out⟩
theorem turning_any (v : FV) (e : Edg) (w : World) (hv : v.In w) (hk : Okf v.f) (he : isE v.f.W v.f.H e = true) :
    Calls Tryd.prog 38 #[v.val, eval_ e] w fun r w' => r = .returned (.int .i64 (v.f.trn e)) ∧ Below w.heap.size w w' := by
  rcases isE_cases he with ⟨x, y, rfl, h1, h2, h3, h4⟩ | ⟨x, y, rfl, h1, h2, h3, h4⟩
  · exact turning_u v x y 0 w hv hk (by omega) (by omega) h1 (by omega) (by omega) h3 h4 (by omega)
  · exact turning_u v x y 1 w hv hk (by omega) (by omega) h1 (by omega) (by omega) h3 (by omega) (by omega)
end Go.Proofs.YtfaleddacmbidaaDoor
