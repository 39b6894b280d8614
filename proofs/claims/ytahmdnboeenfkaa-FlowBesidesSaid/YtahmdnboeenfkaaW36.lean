/- Walks: a field turned by a quarter, the program's. -/
import Derived.Test.YtahmdnboeenfkaaGq
namespace Go.Proofs.Ytahmdnboeenfkaa
open Go.RowKit Go.Sort

set_option maxHeartbeats 4000000 in
set_option maxRecDepth 100000 in
theorem Quarter_any (v : FV) (w : World) (hv : v.In w) :
    Calls Try.prog 51 #[v.val] w (RetOwn (quaR v.f).1 (quaR v.f).2 w) := by
  have HVv := Lib.hid hv
  clear hv
  go_enter Try.func51, Try.ntmps51
  dsimp only [FV.val]
  go_wp2_with fail
  with_reducible refine (validate_any v _ (HVv.out.below (belowAA _ _ _))).mono ?_
  rintro r w1 ⟨rfl, hb1⟩
  have hR := (ResB.new w #[.int .i64 v.f.W, .int .i64 v.f.H, .slice v.A v.n v.c, .slice v.B v.m v.d] 25).on hb1
  have b0 := ((Box.new w #[.int .i64 v.f.W, .int .i64 v.f.H, .slice v.A v.n v.c, .slice v.B v.m v.d] 25).alloc (.cells #[.int .i64 0, .int .i64 0, .slice none 0 0, .slice none 0 0] 25)).below hb1
  have hw1 := Lib.hid (below2 _ _ hb1)
  clear hb1
  by_cases hz : valid v.f = 0
  case neg =>
    have hz' : (valid v.f != 0) = true := by simpa using hz
    have HF := Lib.hid (quaR_bad hz)
    have HR := Lib.hid hR
    have cr := hR.box.at
    have fr := hR.fz
    clear hz hR
    go_wp2_with fail
    have cF := (HR.out.box.four (.int .i64 0) (.int .i64 0) (.slice none 0 0) (.slice none 0 0)).at
    exact bodyPost_ret (v := .tuple #[.agg #[.int .i64 0, .int .i64 0, .slice none 0 0, .slice none 0 0], .int .i64 (valid v.f)]) (by simp [results, Try.results51, go_sem, cF]) rfl
      ⟨⟨zeroF, none, none, 0, 0, 0, 0⟩, by rw [HF.out], by rw [HF.out]; rfl, FOwn.zero _ _, res_bel HR.out.bel HR.out.le _ _ _ _⟩
  have ok := Lib.hid (okf_of_valid hz)
  have hz' : (valid v.f != 0) = false := by simpa using hz
  have HS := Lib.hid (quaR_ok hz)
  have HZ := Lib.hid hz
  have HV1 := Lib.hid (HVv.out.below hw1.out)
  have HRR := Lib.hid hR
  obtain ⟨n0, m0⟩ := okf_lens (okf_of_valid hz)
  have okw := ok.out.w2
  have okw1 := ok.out.w1
  have okh := ok.out.h2
  have okh1 := ok.out.h1
  have HN0 := Lib.hid n0
  have HM0 := Lib.hid m0
  have HM1 := Lib.hid (show v.m = v.f.ps.length from HVv.out.lenp)
  have hml : v.m ≤ 60 := by rw [HM1.out]; exact HM0.out
  obtain ⟨Wn, hWn⟩ := Int.eq_ofNat_of_zero_le (show 0 ≤ v.f.W by omega)
  obtain ⟨Hn, hHn⟩ := Int.eq_ofNat_of_zero_le (show 0 ≤ v.f.H by omega)
  have HW := Lib.hid hWn
  have HH := Lib.hid hHn
  have hWn1 : (Wn : Int) ≤ v.f.W := by omega
  have hWn2 : v.f.W ≤ (Wn : Int) := by omega
  have hHn1 : (Hn : Int) ≤ v.f.H := by omega
  have hHn2 : v.f.H ≤ (Hn : Int) := by omega
  have hnl : (v.n : Int) = v.f.W * v.f.H := by rw [← ok.out.len]; exact_mod_cast HVv.out.len
  have hnl2 : v.n = Wn * Hn := by
    rw [hWn, hHn] at hnl
    exact_mod_cast hnl
  have hn1 : v.n ≤ 144 := by rw [show v.n = v.f.ds.length from HVv.out.len]; exact n0
  have HNL := Lib.hid hnl2
  have hWH : Wn * Hn ≤ 144 := by rw [← hnl2]; exact hn1
  clear hz hR n0 m0 hWn hHn hnl hnl2
  have HMK := Lib.hid (mk22 v.n (by omega))
  have mk := HMK.out
  have c0 := b0.at
  have c0A := fun o => (b0.alloc o).at
  go_wp2_with fail
  have hlt1 := HRR.out.box.1
  have hne1 : w.heap.size ≠ w1.heap.size := by omega
  have hne2 : w.heap.size ≠ w1.heap.size + 1 := by omega
  go_region_held3 (fun w' => ∀ i, w'.cell? ⟨w.heap.size, i, none⟩ = (#[.int .i64 v.f.W, .int .i64 v.f.H, .slice v.A v.n v.c, .slice v.B v.m v.d] : Array Value)[i]?) (first | exact b0.drew.at | exact (b0.alloc _).drew.at | exact ((b0.alloc _).alloc _).drew.at | exact ((((((b0.alloc _).alloc _).drew).far hne2 _).far hne2 _).far hne2 _ |>.far hne2 _).at | exact ((((((b0.alloc _).alloc _).drew).far hne1 _).far hne1 _).far hne1 _ |>.far hne1 _).at) (first | fail)
  · have c0AA := fun o o' => ((b0.alloc o).alloc o').drew.at
    have hgA := Lib.hid (GF.made2 w1 v.f.H v.f.W v.n (by omega))
    clear c0 c0A mk
    go_wp2_with fail
    clear c0AA
    refine wp_gen (fun W => (∃ A, A = some (⟨w1.heap.size, 0, none⟩ : Addr) ∧ GF w1 w1.heap.size (w1.heap.size + 2) W (w1.heap.size + 1) ⟨⟨v.f.H, v.f.W, List.replicate v.n 0, []⟩, A, none, v.n, v.n, 0, 0⟩) ∧ w1.heap.size + 2 ≤ W.heap.size) ⟨⟨_, rfl, hgA.out⟩, by show _ ≤ ((w1.alloc _).alloc _).heap.size; simp⟩ ?_
    rintro w3 ⟨⟨A, hA, hg3⟩, hz3⟩
    have HA := Lib.hid hA
    have HG3 := Lib.hid hg3
    clear hA hg3 hgA
    have hHn0 : 0 < Hn := by omega
    go_loopw [27] (fun i wr => ∃ y : Nat, (y : Int) ≤ v.f.H ∧ i = .int .i64 y ∧ GF w1 w1.heap.size (w1.heap.size + 2) wr (w1.heap.size + 1) ⟨⟨v.f.H, v.f.W, visL (quaG v.f) Hn (Wn * Hn) y 0, []⟩, A, none, v.n, v.n, 0, 0⟩ ∧ w1.heap.size + 2 ≤ wr.heap.size) (fun i _ => (v.f.H - intOf i).toNat)
    case atStart => exact ⟨0, by omega, rfl, by rw [visL_zero, ← HNL.out]; exact HG3.out, hz3⟩
    case round =>
      clear hz3
      obtain ⟨y, hy, rfl, hgy, hzy⟩ := hrel
      have HGy := Lib.hid hgy
      have b3 := b0.below hgy.bel
      by_cases hlty : (y : Int) < v.f.H
      · have c0 := b3.at
        have co := HGy.out.box.at
        clear hgy
        go_wp2_with fail
        clear c0 co
        go_loopw [32] (fun i wr => ∃ x : Nat, (x : Int) ≤ v.f.W ∧ i = .int .i64 x ∧ GF w1 w1.heap.size (w1.heap.size + 2) wr (w1.heap.size + 1) ⟨⟨v.f.H, v.f.W, visL (quaG v.f) Hn (Wn * Hn) y x, []⟩, A, none, v.n, v.n, 0, 0⟩ ∧ w1.heap.size + 2 ≤ wr.heap.size) (fun i _ => (v.f.W - intOf i).toNat)
        case atStart => exact ⟨0, by omega, rfl, HGy.out, hzy⟩
        case round =>
          clear b3 hzy
          obtain ⟨x, hx, rfl, hgx, hzx⟩ := hrel
          have HGx := Lib.hid hgx
          have b3 := b0.below hgx.bel
          by_cases hltx : (x : Int) < v.f.W
          · have hxW : x < Wn := by omega
            have hyH : y < Hn := by omega
            have hp0 : x * Hn + (Hn - 1 - y) < v.n := by
              rw [HNL.out]
              have := Nat.mul_le_mul_right Hn (show x + 1 ≤ Wn by omega)
              rw [Nat.add_mul, Nat.one_mul] at this
              omega
            have hke : (x : Int) * v.f.H + v.f.H - 1 - (y : Int) = ((x * Hn + (Hn - 1 - y) : Nat) : Int) := by
              rw [HH.out, Int.natCast_add, Int.natCast_mul]; omega
            have j0 : 0 ≤ (x : Int) * v.f.H := Int.mul_nonneg (by omega) (by omega)
            have j1 : (x : Int) * v.f.H + v.f.H ≤ 1000000 := by omega
            have X : ∀ w, (Instr.indexAt 22 (.slice A v.n v.n) (.int .i64 ((x : Int) * v.f.H + v.f.H - 1 - (y : Int)))).run Try.prog w = .ok (.pointer (some ⟨w1.heap.size, x * Hn + (Hn - 1 - y), none⟩)) w := fun w => by
              have := ix22 (c := v.n) HA.out hp0 w
              rw [← hke] at this
              rwa [show (⟨w1.heap.size, 0, none⟩ : Addr).add (x * Hn + (Hn - 1 - y)) = ⟨w1.heap.size, x * Hn + (Hn - 1 - y), none⟩ by unfold Addr.add; split <;> simp_all] at this
            have HSET := Lib.hid (visL_set (quaG v.f) Hn Wn y x hyH hxW)
            have HGV := Lib.hid (quaG_at2 (f := v.f) (x := x) HH.out hyH)
            have hdb := dir_bd ok.out (x : Int) (y : Int) (by omega) hltx (by omega) hlty
            obtain ⟨db0, db1⟩ := hdb
            have hpd : x * Hn + (Hn - 1 - y) < (visL (quaG v.f) Hn (Wn * Hn) y x).length := by rw [visL_length, ← HNL.out]; exact hp0
            obtain ⟨d9, hd9⟩ : ∃ d, (visL (quaG v.f) Hn (Wn * Hn) y x)[x * Hn + (Hn - 1 - y)]? = some d := ⟨_, List.getElem?_eq_getElem hpd⟩
            obtain ⟨g', hg', hgl, hgw, d0, z0⟩ := hgx.own.atD (k := x * Hn + (Hn - 1 - y)) hd9
            obtain rfl : g' = w1.heap.size := by
              have : some (⟨g', 0, none⟩ : Addr) = some ⟨w1.heap.size, 0, none⟩ := hg'.symm.trans HA.out
              injection this with this
              injection this
            have HV3 := Lib.hid (HV1.out.below hgx.bel)
            have Q0 := Lib.hid (fun w5 (hb : Below wr.heap.size wr w5) => at_any v (x : Int) (y : Int) w5 (HV3.out.below hb) ok.out.size (by omega) hltx (by omega) hlty)
            have co := hgx.box.rg
            have c3 := b3.rg
            have hgl' := Lib.hid hgl
            have hgw' := Lib.hid hgw
            have D0 := Lib.hid d0
            have Z0 := Lib.hid z0
            clear hgx hg' hp0 hke d0 z0 hgl hgw hpd hd9
            go_wp2_with fail
            generalize v.f.dir (x : Int) (y : Int) = dd at db0 db1 HGV Q0
            refine wp_region_qt 19 mixed (by kernel_rfl) ?_
            simp only [List.take_succ_cons, List.take_zero, List.drop_succ_cons, List.drop_zero]
            repeat (go_big_quiet_step (first | exact rg_call Q0.out _ _ | exact rg_call (fun w _ => mod_b _ w) _ _))
            refine wpQuiet_nil ?_
            intro w4 hb4
            have d4 := (hb4.cell (p := ⟨w1.heap.size, x * Hn + (Hn - 1 - y), none⟩) hgw'.out).trans D0.out
            have z4 := (hb4.frozen (p := ⟨w1.heap.size, x * Hn + (Hn - 1 - y), none⟩) hgw'.out).trans (Z0.out (x * Hn + (Hn - 1 - y)))
            have HO5 := Lib.hid ((HGx.out.on hb4).storeA HA.out hgl'.out (x * Hn + (Hn - 1 - y)) (quaG v.f (x * Hn + (Hn - 1 - y))))
            have hz4 : w1.heap.size + 2 ≤ w4.heap.size := Nat.le_trans hzx hb4.size
            rw [← HGV.out]
            clear hb4 co c3 b3 X D0 Z0
            go_wp2_with fail
            go_roundw
            case rel => exact ⟨x + 1, by omega, by go_num, by rw [← HSET.out]; exact HO5.out, by rw [size_set]; exact hz4⟩
            case measure => simp [intOf]; omega
          · have hxe : x = Wn := by omega
            have HG4 := Lib.hid (show GF w1 w1.heap.size (w1.heap.size + 2) wr (w1.heap.size + 1) ⟨⟨v.f.H, v.f.W, visL (quaG v.f) Hn (Wn * Hn) (y + 1) 0, []⟩, A, none, v.n, v.n, 0, 0⟩ by have h := hgx; rw [hxe, visL_row _ _ _ _ hHn0] at h; exact h)
            have c3 := b3.at
            clear hgx hxe
            go_wp2_with fail
            go_roundw
            case rel => exact ⟨y + 1, by omega, by go_num, HG4.out, hzx⟩
            case measure => simp [intOf]; omega
      · have HD := Lib.hid (show GF w1 w1.heap.size (w1.heap.size + 2) wr (w1.heap.size + 1) ⟨⟨v.f.H, v.f.W, (quaF v.f).ds, []⟩, A, none, v.n, v.n, 0, 0⟩ by
          have h1 : (quaF v.f).ds = visL (quaG v.f) Hn (Wn * Hn) y 0 := by
            rw [visL_all _ _ _ _ hHn0 (by omega)]
            unfold quaF
            rw [HW.out, HH.out]
            rfl
          rw [h1]; exact hgy)
        have c3 := b3.at
        clear hgy HGy HG3
        go_wp2_with fail
        clear c3
        clear hy hlty b3
        have hAb := Lib.hid (show ∀ p, A = some p → p.block < w1.heap.size + 2 from fun p hp => by rw [HA.out] at hp; injection hp with hp; subst hp; show w1.heap.size < _; omega)
        go_loopw [59] (fun i wr => ∃ k : Nat, k ≤ v.m ∧ i = .int .i64 k ∧ (∃ Bp d, GF w1 w1.heap.size (w1.heap.size + 2) wr (w1.heap.size + 1) ⟨⟨v.f.H, v.f.W, (quaF v.f).ds, (v.f.ps.take k).map (quaE v.f.H)⟩, A, Bp, v.n, v.n, k, d⟩) ∧ w1.heap.size + 2 ≤ wr.heap.size) (fun i _ => v.m - (intOf i).toNat)
        case atStart => exact ⟨0, by omega, rfl, ⟨none, 0, HD.out⟩, hzy⟩
        case round =>
          clear hzy
          obtain ⟨k, hk, rfl, ⟨Bp, dp, hgk⟩, hzk⟩ := hrel
          have HGk := Lib.hid hgk
          have b3 := b0.below hgk.bel
          by_cases hlt : k < v.m
          · obtain ⟨ad, e, e1, hbk, he, d0, d1, d2⟩ := psat (HV1.out.below hgk.bel).ps (k := k) (by rw [← HM1.out]; exact hlt)
            have X := fun w => ix23 (c := v.d) e1 hlt w
            have HEB := Lib.hid (isE_bd2 (ok.out.edge e (List.mem_of_getElem? he)))
            have HPS := Lib.hid (take_map_succ (h := quaE v.f.H) he)
            obtain ⟨x, y', up⟩ := e
            obtain ⟨x0, x1, up01⟩ := HEB.out
            dsimp only at x0 x1 up01
            have co := hgk.box.at
            have coA := fun o => (hgk.box.alloc o).at
            have c3 := b3.at
            have c3A := fun o => (b3.alloc o).at
            clear hgk he e1 b3
            rcases up01 with rfl | rfl
            · have HQE := Lib.hid (show quaE v.f.H (x, y', 0) = (v.f.H - 1 - y', x, 1) from Prod.ext (by show v.f.H - 1 - 0 - y' = v.f.H - 1 - y'; omega) rfl)
              go_wp2_with (at_builtin; refine wpList_pushGE rfl _ _ rfl (w1.heap.size + 2) _ _ k ((v.f.ps.take k).map (quaE v.f.H)) (v.f.H - 1 - y', x, 1) _ rfl (HGk.out.on (belowAA _ _ _)).ps (by simp only [World.size_alloc]; omega) rfl (Box.new2 _ _ _ _ _) (by omega) ?_; intro B' d' w6 hr1 hr2; have g5 := Lib.hid (HGk.out.on (belowAA wr (Obj.cells #[.int .i64 x, .int .i64 y', .int .i64 0] 33) (Obj.cells #[.int .i64 (v.f.H - 1 - y'), .int .i64 x, .int .i64 1] 33))); have hbl := Lib.hid (g5.out.belB (by simp only [World.size_alloc]; omega) hr2); have bx6 := g5.out.box.under hbl.out (by omega); have c6 := bx6.at; have f6 := (fun i => by rw [hbl.out.frozen (p := ⟨(w1.heap.size + 1), i, none⟩) (by show (w1.heap.size + 1) < _; omega)]; exact g5.out.fz i : ∀ i, w6.frozen? ⟨(w1.heap.size + 1), i, none⟩ = false); have HG6 := Lib.hid (g5.out.putB hAb.out (by omega) (by simp only [World.size_alloc]; omega) hr1 hr2); have hz6 : w1.heap.size + 2 ≤ w6.heap.size := (by have := hbl.out.size; simp only [World.size_alloc] at this; omega); clear hr1 hr2 co coA c3 c3A d0 d1 d2)
              have HPS2 := Lib.hid (show (v.f.ps.take k).map (quaE v.f.H) ++ [(v.f.H - 1 - y', x, 1)] = (v.f.ps.take (k + 1)).map (quaE v.f.H) by rw [← HQE.out]; exact HPS.out)
              clear bx6 c6 f6 X HQE
              go_roundw
              case rel => exact ⟨k + 1, by omega, by go_num, ⟨B', d', by rw [← HPS2.out]; exact HG6.out⟩, by rw [size_set]; exact hz6⟩
              case measure => simp [intOf]; omega
            · have HQE := Lib.hid (show quaE v.f.H (x, y', 1) = (v.f.H - 2 - y', x, 0) from Prod.ext (by show v.f.H - 1 - 1 - y' = v.f.H - 2 - y'; omega) rfl)
              go_wp2_with (at_builtin; refine wpList_pushGE rfl _ _ rfl (w1.heap.size + 2) _ _ k ((v.f.ps.take k).map (quaE v.f.H)) (v.f.H - 2 - y', x, 0) _ rfl (HGk.out.on (belowAA _ _ _)).ps (by simp only [World.size_alloc]; omega) rfl (Box.new2 _ _ _ _ _) (by omega) ?_; intro B' d' w6 hr1 hr2; have g5 := Lib.hid (HGk.out.on (belowAA wr (Obj.cells #[.int .i64 x, .int .i64 y', .int .i64 1] 33) (Obj.cells #[.int .i64 (v.f.H - 2 - y'), .int .i64 x, .int .i64 0] 33))); have hbl := Lib.hid (g5.out.belB (by simp only [World.size_alloc]; omega) hr2); have bx6 := g5.out.box.under hbl.out (by omega); have c6 := bx6.at; have f6 := (fun i => by rw [hbl.out.frozen (p := ⟨(w1.heap.size + 1), i, none⟩) (by show (w1.heap.size + 1) < _; omega)]; exact g5.out.fz i : ∀ i, w6.frozen? ⟨(w1.heap.size + 1), i, none⟩ = false); have HG6 := Lib.hid (g5.out.putB hAb.out (by omega) (by simp only [World.size_alloc]; omega) hr1 hr2); have hz6 : w1.heap.size + 2 ≤ w6.heap.size := (by have := hbl.out.size; simp only [World.size_alloc] at this; omega); clear hr1 hr2 co coA c3 c3A d0 d1 d2)
              have HPS2 := Lib.hid (show (v.f.ps.take k).map (quaE v.f.H) ++ [(v.f.H - 2 - y', x, 0)] = (v.f.ps.take (k + 1)).map (quaE v.f.H) by rw [← HQE.out]; exact HPS.out)
              clear bx6 c6 f6 X HQE
              go_roundw
              case rel => exact ⟨k + 1, by omega, by go_num, ⟨B', d', by rw [← HPS2.out]; exact HG6.out⟩, by rw [size_set]; exact hz6⟩
              case measure => simp [intOf]; omega
          · have hres : Calls Try.prog 84 #[(⟨⟨v.f.H, v.f.W, (quaF v.f).ds, (v.f.ps.take k).map (quaE v.f.H)⟩, A, Bp, v.n, v.n, k, dp⟩ : FV).val] wr (RetOwn (fin (quaF v.f)) (valid (quaF v.f)) w1) := by
              have h := result_any ⟨⟨v.f.H, v.f.W, (quaF v.f).ds, (v.f.ps.take k).map (quaE v.f.H)⟩, A, Bp, v.n, v.n, k, dp⟩ w1 wr hgk.bel HGk.out.own (by show k ≤ _; omega)
              have e : srt (⟨v.f.H, v.f.W, (quaF v.f).ds, (v.f.ps.take k).map (quaE v.f.H)⟩ : Fld) = quaF v.f := by
                rw [List.take_of_length_le (by rw [← HM1.out]; omega)]; rfl
              dsimp only at h
              rw [e] at h
              exact h
            have HRES := Lib.hid hres
            have co := hgk.box.at
            have c3 := b3.at
            clear hgk hres
            go_wp2_with fail
            with_reducible refine HRES.out.mono ?_
            rintro r w5 ⟨u', hu', rfl, ho5, hb5⟩
            have HU' := Lib.hid hu'
            have HO5 := Lib.hid ho5
            have HR5 := Lib.hid (HRR.out.on hb5)
            have cr := HR5.out.box.at
            have fr := HR5.out.fz
            clear hu' ho5 hb5 co c3 b3
            dsimp only [FV.val]
            go_wp2_with fail
            have cF := (HR5.out.box.four (.int .i64 u'.f.W) (.int .i64 u'.f.H) (.slice u'.A u'.n u'.c) (.slice u'.B u'.m u'.d)).at
            have HE := res_own HO5.out hlt1 HR5.out.bel HR5.out.le hw1.out.size (.int .i64 u'.f.W) (.int .i64 u'.f.H) (.slice u'.A u'.n u'.c) (.slice u'.B u'.m u'.d)
            exact bodyPost_ret (v := .tuple #[.agg #[.int .i64 u'.f.W, .int .i64 u'.f.H, .slice u'.A u'.n u'.c, .slice u'.B u'.m u'.d], .int .i64 (valid (quaF v.f))]) (by simp [results, Try.results51, go_sem, cF]) rfl
              ⟨u', by rw [HU'.out, HS.out], by rw [HS.out], HE.1, HE.2⟩
  · have c0AA := fun o o' => ((b0.alloc o).alloc o').drew.at
    have hgA := Lib.hid (GF.made1 w1 v.f.H v.f.W v.n (by omega))
    clear c0 c0A mk
    go_wp2_with fail
    clear c0AA
    refine wp_gen (fun W => (∃ A, A = some (⟨(w1.heap.size + 1), 0, none⟩ : Addr) ∧ GF w1 w1.heap.size (w1.heap.size + 2) W w1.heap.size ⟨⟨v.f.H, v.f.W, List.replicate v.n 0, []⟩, A, none, v.n, v.n, 0, 0⟩) ∧ w1.heap.size + 2 ≤ W.heap.size) ⟨⟨_, rfl, hgA.out⟩, by show _ ≤ ((w1.alloc _).alloc _).heap.size; simp⟩ ?_
    rintro w3 ⟨⟨A, hA, hg3⟩, hz3⟩
    have HA := Lib.hid hA
    have HG3 := Lib.hid hg3
    clear hA hg3 hgA
    have hHn0 : 0 < Hn := by omega
    go_loopw [27] (fun i wr => ∃ y : Nat, (y : Int) ≤ v.f.H ∧ i = .int .i64 y ∧ GF w1 w1.heap.size (w1.heap.size + 2) wr w1.heap.size ⟨⟨v.f.H, v.f.W, visL (quaG v.f) Hn (Wn * Hn) y 0, []⟩, A, none, v.n, v.n, 0, 0⟩ ∧ w1.heap.size + 2 ≤ wr.heap.size) (fun i _ => (v.f.H - intOf i).toNat)
    case atStart => exact ⟨0, by omega, rfl, by rw [visL_zero, ← HNL.out]; exact HG3.out, hz3⟩
    case round =>
      clear hz3
      obtain ⟨y, hy, rfl, hgy, hzy⟩ := hrel
      have HGy := Lib.hid hgy
      have b3 := b0.below hgy.bel
      by_cases hlty : (y : Int) < v.f.H
      · have c0 := b3.at
        have co := HGy.out.box.at
        clear hgy
        go_wp2_with fail
        clear c0 co
        go_loopw [32] (fun i wr => ∃ x : Nat, (x : Int) ≤ v.f.W ∧ i = .int .i64 x ∧ GF w1 w1.heap.size (w1.heap.size + 2) wr w1.heap.size ⟨⟨v.f.H, v.f.W, visL (quaG v.f) Hn (Wn * Hn) y x, []⟩, A, none, v.n, v.n, 0, 0⟩ ∧ w1.heap.size + 2 ≤ wr.heap.size) (fun i _ => (v.f.W - intOf i).toNat)
        case atStart => exact ⟨0, by omega, rfl, HGy.out, hzy⟩
        case round =>
          clear b3 hzy
          obtain ⟨x, hx, rfl, hgx, hzx⟩ := hrel
          have HGx := Lib.hid hgx
          have b3 := b0.below hgx.bel
          by_cases hltx : (x : Int) < v.f.W
          · have hxW : x < Wn := by omega
            have hyH : y < Hn := by omega
            have hp0 : x * Hn + (Hn - 1 - y) < v.n := by
              rw [HNL.out]
              have := Nat.mul_le_mul_right Hn (show x + 1 ≤ Wn by omega)
              rw [Nat.add_mul, Nat.one_mul] at this
              omega
            have hke : (x : Int) * v.f.H + v.f.H - 1 - (y : Int) = ((x * Hn + (Hn - 1 - y) : Nat) : Int) := by
              rw [HH.out, Int.natCast_add, Int.natCast_mul]; omega
            have j0 : 0 ≤ (x : Int) * v.f.H := Int.mul_nonneg (by omega) (by omega)
            have j1 : (x : Int) * v.f.H + v.f.H ≤ 1000000 := by omega
            have X : ∀ w, (Instr.indexAt 22 (.slice A v.n v.n) (.int .i64 ((x : Int) * v.f.H + v.f.H - 1 - (y : Int)))).run Try.prog w = .ok (.pointer (some ⟨(w1.heap.size + 1), x * Hn + (Hn - 1 - y), none⟩)) w := fun w => by
              have := ix22 (c := v.n) HA.out hp0 w
              rw [← hke] at this
              rwa [show (⟨(w1.heap.size + 1), 0, none⟩ : Addr).add (x * Hn + (Hn - 1 - y)) = ⟨(w1.heap.size + 1), x * Hn + (Hn - 1 - y), none⟩ by unfold Addr.add; split <;> simp_all] at this
            have HSET := Lib.hid (visL_set (quaG v.f) Hn Wn y x hyH hxW)
            have HGV := Lib.hid (quaG_at2 (f := v.f) (x := x) HH.out hyH)
            have hdb := dir_bd ok.out (x : Int) (y : Int) (by omega) hltx (by omega) hlty
            obtain ⟨db0, db1⟩ := hdb
            have hpd : x * Hn + (Hn - 1 - y) < (visL (quaG v.f) Hn (Wn * Hn) y x).length := by rw [visL_length, ← HNL.out]; exact hp0
            obtain ⟨d9, hd9⟩ : ∃ d, (visL (quaG v.f) Hn (Wn * Hn) y x)[x * Hn + (Hn - 1 - y)]? = some d := ⟨_, List.getElem?_eq_getElem hpd⟩
            obtain ⟨g', hg', hgl, hgw, d0, z0⟩ := hgx.own.atD (k := x * Hn + (Hn - 1 - y)) hd9
            obtain rfl : g' = (w1.heap.size + 1) := by
              have : some (⟨g', 0, none⟩ : Addr) = some ⟨(w1.heap.size + 1), 0, none⟩ := hg'.symm.trans HA.out
              injection this with this
              injection this
            have HV3 := Lib.hid (HV1.out.below hgx.bel)
            have Q0 := Lib.hid (fun w5 (hb : Below wr.heap.size wr w5) => at_any v (x : Int) (y : Int) w5 (HV3.out.below hb) ok.out.size (by omega) hltx (by omega) hlty)
            have co := hgx.box.rg
            have c3 := b3.rg
            have hgl' := Lib.hid hgl
            have hgw' := Lib.hid hgw
            have D0 := Lib.hid d0
            have Z0 := Lib.hid z0
            clear hgx hg' hp0 hke d0 z0 hgl hgw hpd hd9
            go_wp2_with fail
            generalize v.f.dir (x : Int) (y : Int) = dd at db0 db1 HGV Q0
            refine wp_region_qt 19 mixed (by kernel_rfl) ?_
            simp only [List.take_succ_cons, List.take_zero, List.drop_succ_cons, List.drop_zero]
            repeat (go_big_quiet_step (first | exact rg_call Q0.out _ _ | exact rg_call (fun w _ => mod_b _ w) _ _))
            refine wpQuiet_nil ?_
            intro w4 hb4
            have d4 := (hb4.cell (p := ⟨(w1.heap.size + 1), x * Hn + (Hn - 1 - y), none⟩) hgw'.out).trans D0.out
            have z4 := (hb4.frozen (p := ⟨(w1.heap.size + 1), x * Hn + (Hn - 1 - y), none⟩) hgw'.out).trans (Z0.out (x * Hn + (Hn - 1 - y)))
            have HO5 := Lib.hid ((HGx.out.on hb4).storeA HA.out hgl'.out (x * Hn + (Hn - 1 - y)) (quaG v.f (x * Hn + (Hn - 1 - y))))
            have hz4 : w1.heap.size + 2 ≤ w4.heap.size := Nat.le_trans hzx hb4.size
            rw [← HGV.out]
            clear hb4 co c3 b3 X D0 Z0
            go_wp2_with fail
            go_roundw
            case rel => exact ⟨x + 1, by omega, by go_num, by rw [← HSET.out]; exact HO5.out, by rw [size_set]; exact hz4⟩
            case measure => simp [intOf]; omega
          · have hxe : x = Wn := by omega
            have HG4 := Lib.hid (show GF w1 w1.heap.size (w1.heap.size + 2) wr w1.heap.size ⟨⟨v.f.H, v.f.W, visL (quaG v.f) Hn (Wn * Hn) (y + 1) 0, []⟩, A, none, v.n, v.n, 0, 0⟩ by have h := hgx; rw [hxe, visL_row _ _ _ _ hHn0] at h; exact h)
            have c3 := b3.at
            clear hgx hxe
            go_wp2_with fail
            go_roundw
            case rel => exact ⟨y + 1, by omega, by go_num, HG4.out, hzx⟩
            case measure => simp [intOf]; omega
      · have HD := Lib.hid (show GF w1 w1.heap.size (w1.heap.size + 2) wr w1.heap.size ⟨⟨v.f.H, v.f.W, (quaF v.f).ds, []⟩, A, none, v.n, v.n, 0, 0⟩ by
          have h1 : (quaF v.f).ds = visL (quaG v.f) Hn (Wn * Hn) y 0 := by
            rw [visL_all _ _ _ _ hHn0 (by omega)]
            unfold quaF
            rw [HW.out, HH.out]
            rfl
          rw [h1]; exact hgy)
        have c3 := b3.at
        clear hgy HGy HG3
        go_wp2_with fail
        clear c3
        clear hy hlty b3
        have hAb := Lib.hid (show ∀ p, A = some p → p.block < w1.heap.size + 2 from fun p hp => by rw [HA.out] at hp; injection hp with hp; subst hp; show (w1.heap.size + 1) < _; omega)
        go_loopw [59] (fun i wr => ∃ k : Nat, k ≤ v.m ∧ i = .int .i64 k ∧ (∃ Bp d, GF w1 w1.heap.size (w1.heap.size + 2) wr w1.heap.size ⟨⟨v.f.H, v.f.W, (quaF v.f).ds, (v.f.ps.take k).map (quaE v.f.H)⟩, A, Bp, v.n, v.n, k, d⟩) ∧ w1.heap.size + 2 ≤ wr.heap.size) (fun i _ => v.m - (intOf i).toNat)
        case atStart => exact ⟨0, by omega, rfl, ⟨none, 0, HD.out⟩, hzy⟩
        case round =>
          clear hzy
          obtain ⟨k, hk, rfl, ⟨Bp, dp, hgk⟩, hzk⟩ := hrel
          have HGk := Lib.hid hgk
          have b3 := b0.below hgk.bel
          by_cases hlt : k < v.m
          · obtain ⟨ad, e, e1, hbk, he, d0, d1, d2⟩ := psat (HV1.out.below hgk.bel).ps (k := k) (by rw [← HM1.out]; exact hlt)
            have X := fun w => ix23 (c := v.d) e1 hlt w
            have HEB := Lib.hid (isE_bd2 (ok.out.edge e (List.mem_of_getElem? he)))
            have HPS := Lib.hid (take_map_succ (h := quaE v.f.H) he)
            obtain ⟨x, y', up⟩ := e
            obtain ⟨x0, x1, up01⟩ := HEB.out
            dsimp only at x0 x1 up01
            have co := hgk.box.at
            have coA := fun o => (hgk.box.alloc o).at
            have c3 := b3.at
            have c3A := fun o => (b3.alloc o).at
            clear hgk he e1 b3
            rcases up01 with rfl | rfl
            · have HQE := Lib.hid (show quaE v.f.H (x, y', 0) = (v.f.H - 1 - y', x, 1) from Prod.ext (by show v.f.H - 1 - 0 - y' = v.f.H - 1 - y'; omega) rfl)
              go_wp2_with (at_builtin; refine wpList_pushGE rfl _ _ rfl (w1.heap.size + 2) _ _ k ((v.f.ps.take k).map (quaE v.f.H)) (v.f.H - 1 - y', x, 1) _ rfl (HGk.out.on (belowAA _ _ _)).ps (by simp only [World.size_alloc]; omega) rfl (Box.new2 _ _ _ _ _) (by omega) ?_; intro B' d' w6 hr1 hr2; have g5 := Lib.hid (HGk.out.on (belowAA wr (Obj.cells #[.int .i64 x, .int .i64 y', .int .i64 0] 33) (Obj.cells #[.int .i64 (v.f.H - 1 - y'), .int .i64 x, .int .i64 1] 33))); have hbl := Lib.hid (g5.out.belB (by simp only [World.size_alloc]; omega) hr2); have bx6 := g5.out.box.under hbl.out (by omega); have c6 := bx6.at; have f6 := (fun i => by rw [hbl.out.frozen (p := ⟨w1.heap.size, i, none⟩) (by show w1.heap.size < _; omega)]; exact g5.out.fz i : ∀ i, w6.frozen? ⟨w1.heap.size, i, none⟩ = false); have HG6 := Lib.hid (g5.out.putB hAb.out (by omega) (by simp only [World.size_alloc]; omega) hr1 hr2); have hz6 : w1.heap.size + 2 ≤ w6.heap.size := (by have := hbl.out.size; simp only [World.size_alloc] at this; omega); clear hr1 hr2 co coA c3 c3A d0 d1 d2)
              have HPS2 := Lib.hid (show (v.f.ps.take k).map (quaE v.f.H) ++ [(v.f.H - 1 - y', x, 1)] = (v.f.ps.take (k + 1)).map (quaE v.f.H) by rw [← HQE.out]; exact HPS.out)
              clear bx6 c6 f6 X HQE
              go_roundw
              case rel => exact ⟨k + 1, by omega, by go_num, ⟨B', d', by rw [← HPS2.out]; exact HG6.out⟩, by rw [size_set]; exact hz6⟩
              case measure => simp [intOf]; omega
            · have HQE := Lib.hid (show quaE v.f.H (x, y', 1) = (v.f.H - 2 - y', x, 0) from Prod.ext (by show v.f.H - 1 - 1 - y' = v.f.H - 2 - y'; omega) rfl)
              go_wp2_with (at_builtin; refine wpList_pushGE rfl _ _ rfl (w1.heap.size + 2) _ _ k ((v.f.ps.take k).map (quaE v.f.H)) (v.f.H - 2 - y', x, 0) _ rfl (HGk.out.on (belowAA _ _ _)).ps (by simp only [World.size_alloc]; omega) rfl (Box.new2 _ _ _ _ _) (by omega) ?_; intro B' d' w6 hr1 hr2; have g5 := Lib.hid (HGk.out.on (belowAA wr (Obj.cells #[.int .i64 x, .int .i64 y', .int .i64 1] 33) (Obj.cells #[.int .i64 (v.f.H - 2 - y'), .int .i64 x, .int .i64 0] 33))); have hbl := Lib.hid (g5.out.belB (by simp only [World.size_alloc]; omega) hr2); have bx6 := g5.out.box.under hbl.out (by omega); have c6 := bx6.at; have f6 := (fun i => by rw [hbl.out.frozen (p := ⟨w1.heap.size, i, none⟩) (by show w1.heap.size < _; omega)]; exact g5.out.fz i : ∀ i, w6.frozen? ⟨w1.heap.size, i, none⟩ = false); have HG6 := Lib.hid (g5.out.putB hAb.out (by omega) (by simp only [World.size_alloc]; omega) hr1 hr2); have hz6 : w1.heap.size + 2 ≤ w6.heap.size := (by have := hbl.out.size; simp only [World.size_alloc] at this; omega); clear hr1 hr2 co coA c3 c3A d0 d1 d2)
              have HPS2 := Lib.hid (show (v.f.ps.take k).map (quaE v.f.H) ++ [(v.f.H - 2 - y', x, 0)] = (v.f.ps.take (k + 1)).map (quaE v.f.H) by rw [← HQE.out]; exact HPS.out)
              clear bx6 c6 f6 X HQE
              go_roundw
              case rel => exact ⟨k + 1, by omega, by go_num, ⟨B', d', by rw [← HPS2.out]; exact HG6.out⟩, by rw [size_set]; exact hz6⟩
              case measure => simp [intOf]; omega
          · have hres : Calls Try.prog 84 #[(⟨⟨v.f.H, v.f.W, (quaF v.f).ds, (v.f.ps.take k).map (quaE v.f.H)⟩, A, Bp, v.n, v.n, k, dp⟩ : FV).val] wr (RetOwn (fin (quaF v.f)) (valid (quaF v.f)) w1) := by
              have h := result_any ⟨⟨v.f.H, v.f.W, (quaF v.f).ds, (v.f.ps.take k).map (quaE v.f.H)⟩, A, Bp, v.n, v.n, k, dp⟩ w1 wr hgk.bel HGk.out.own (by show k ≤ _; omega)
              have e : srt (⟨v.f.H, v.f.W, (quaF v.f).ds, (v.f.ps.take k).map (quaE v.f.H)⟩ : Fld) = quaF v.f := by
                rw [List.take_of_length_le (by rw [← HM1.out]; omega)]; rfl
              dsimp only at h
              rw [e] at h
              exact h
            have HRES := Lib.hid hres
            have co := hgk.box.at
            have c3 := b3.at
            clear hgk hres
            go_wp2_with fail
            with_reducible refine HRES.out.mono ?_
            rintro r w5 ⟨u', hu', rfl, ho5, hb5⟩
            have HU' := Lib.hid hu'
            have HO5 := Lib.hid ho5
            have HR5 := Lib.hid (HRR.out.on hb5)
            have cr := HR5.out.box.at
            have fr := HR5.out.fz
            clear hu' ho5 hb5 co c3 b3
            dsimp only [FV.val]
            go_wp2_with fail
            have cF := (HR5.out.box.four (.int .i64 u'.f.W) (.int .i64 u'.f.H) (.slice u'.A u'.n u'.c) (.slice u'.B u'.m u'.d)).at
            have HE := res_own HO5.out hlt1 HR5.out.bel HR5.out.le hw1.out.size (.int .i64 u'.f.W) (.int .i64 u'.f.H) (.slice u'.A u'.n u'.c) (.slice u'.B u'.m u'.d)
            exact bodyPost_ret (v := .tuple #[.agg #[.int .i64 u'.f.W, .int .i64 u'.f.H, .slice u'.A u'.n u'.c, .slice u'.B u'.m u'.d], .int .i64 (valid (quaF v.f))]) (by simp [results, Try.results51, go_sem, cF]) rfl
              ⟨u', by rw [HU'.out, HS.out], by rw [HS.out], HE.1, HE.2⟩
end Go.Proofs.Ytahmdnboeenfkaa
