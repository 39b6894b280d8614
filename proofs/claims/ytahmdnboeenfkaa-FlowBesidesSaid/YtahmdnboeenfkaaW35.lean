/- Walks: a field turned by a quarter, the reference's. -/
import Derived.Test.YtahmdnboeenfkaaW34
namespace Go.Proofs.Ytahmdnboeenfkaa
open Go.RowKit Go.Sort

theorem isE_bd2 {W H : Int} {e : Edg} (h : isE W H e = true) : 0 ≤ e.2.1 ∧ e.2.1 < H ∧ (e.2.2 = 0 ∨ e.2.2 = 1) := by
  unfold isE at h
  simp at h
  omega
def quaG (f : Fld) (i : Nat) : Int := (f.dir ((i / f.H.toNat : Nat) : Int) (f.H - 1 - ((i % f.H.toNat : Nat) : Int)) + 2) % 8
def quaE (H : Int) (e : Edg) : Edg := (H - 1 - e.2.2 - e.2.1, e.1, 1 - e.2.2)
def quaF (f : Fld) : Fld := ⟨f.H, f.W, (List.range (f.W * f.H).toNat).map (quaG f), sortE (f.ps.map (quaE f.H))⟩
def quaR (f : Fld) : Fld × Int := if valid f ≠ 0 then (zeroF, valid f) else (fin (quaF f), valid (quaF f))
theorem quaR_bad {f : Fld} (h : valid f ≠ 0) : quaR f = (zeroF, valid f) := by unfold quaR; rw [if_pos h]
theorem quaR_ok {f : Fld} (h : valid f = 0) : quaR f = (fin (quaF f), valid (quaF f)) := by unfold quaR; rw [if_neg (by simpa using h)]
theorem quaG_at {f : Fld} {x y : Nat} {Hn : Nat} (hH : f.H = (Hn : Int)) (hx : x < Hn) : quaG f (y * Hn + x) = (f.dir (y : Int) (f.H - 1 - (x : Int)) + 2) % 8 := by
  have h1 : (y * Hn + x) % f.H.toNat = x := by rw [hH, Int.toNat_natCast, Nat.add_comm, Nat.add_mul_mod_self_right, Nat.mod_eq_of_lt hx]
  have h2 : (y * Hn + x) / f.H.toNat = y := by rw [hH, Int.toNat_natCast, Nat.add_comm, Nat.add_mul_div_right _ _ (by omega), Nat.div_eq_of_lt hx, Nat.zero_add]
  unfold quaG
  rw [h1, h2]

set_option maxHeartbeats 4000000 in
set_option maxRecDepth 100000 in
theorem refQuarter_any (v : FV) (w : World) (hv : v.In w) :
    Calls Try.prog 52 #[v.val] w (RetOwn (quaR v.f).1 (quaR v.f).2 w) := by
  have HVv := Lib.hid hv
  clear hv
  go_enter Try.func52, Try.ntmps52
  dsimp only [FV.val]
  go_wp2_with fail
  with_reducible refine (refValidate_any v _ (HVv.out.below (belowAA _ _ _))).mono ?_
  rintro r w1 ⟨rfl, hb1⟩
  have hR := (ResB.new w #[.int .i64 v.f.W, .int .i64 v.f.H, .slice v.A v.n v.c, .slice v.B v.m v.d] 25).on hb1
  have b0 := ((Box.new w #[.int .i64 v.f.W, .int .i64 v.f.H, .slice v.A v.n v.c, .slice v.B v.m v.d] 25).alloc (.cells #[.int .i64 0, .int .i64 0, .slice none 0 0, .slice none 0 0] 25)).below hb1
  have hw1 := Lib.hid (below2 _ _ hb1)
  clear hb1
  by_cases hz : valid v.f = 0
  case neg =>
    have hz' : (valid v.f != 0) = true := by simpa using hz
    have HF := Lib.hid (quaR_bad hz)
    have HR := Lib.hid hR
    have cr := hR.box.at
    have fr := hR.fz
    clear hz hR
    go_wp2_with fail
    have cF := (HR.out.box.four (.int .i64 0) (.int .i64 0) (.slice none 0 0) (.slice none 0 0)).at
    exact bodyPost_ret (v := .tuple #[.agg #[.int .i64 0, .int .i64 0, .slice none 0 0, .slice none 0 0], .int .i64 (valid v.f)]) (by simp [results, Try.results52, go_sem, cF]) rfl
      ⟨⟨zeroF, none, none, 0, 0, 0, 0⟩, by rw [HF.out], by rw [HF.out]; rfl, FOwn.zero _ _, res_bel HR.out.bel HR.out.le _ _ _ _⟩
  have ok := Lib.hid (okf_of_valid hz)
  have hz' : (valid v.f != 0) = false := by simpa using hz
  have HS := Lib.hid (quaR_ok hz)
  have HZ := Lib.hid hz
  have HV1 := Lib.hid (HVv.out.below hw1.out)
  have HRR := Lib.hid hR
  obtain ⟨n0, m0⟩ := okf_lens (okf_of_valid hz)
  have okw := ok.out.w2
  have okw1 := ok.out.w1
  have okh := ok.out.h2
  have okh1 := ok.out.h1
  have HN0 := Lib.hid n0
  have HM0 := Lib.hid m0
  have HM1 := Lib.hid (show v.m = v.f.ps.length from HVv.out.lenp)
  have hml : v.m ≤ 60 := by rw [HM1.out]; exact HM0.out
  obtain ⟨Wn, hWn⟩ := Int.eq_ofNat_of_zero_le (show 0 ≤ v.f.W by omega)
  obtain ⟨Hn, hHn⟩ := Int.eq_ofNat_of_zero_le (show 0 ≤ v.f.H by omega)
  have HW := Lib.hid hWn
  have HH := Lib.hid hHn
  have hWn1 : (Wn : Int) ≤ v.f.W := by omega
  have hWn2 : v.f.W ≤ (Wn : Int) := by omega
  have hHn1 : (Hn : Int) ≤ v.f.H := by omega
  have hHn2 : v.f.H ≤ (Hn : Int) := by omega
  clear hz hR n0 m0 hWn hHn
  have c0 := b0.at
  go_wp2_with fail
  clear c0
  refine wp_gen (fun W => ∃ A c, GF w1 (w1.heap.size + 1) (w1.heap.size + 1) W w1.heap.size ⟨⟨v.f.H, v.f.W, rngs (quaG v.f) 0, []⟩, A, none, 0, c, 0, 0⟩ ∧ w1.heap.size + 1 ≤ W.heap.size) ⟨none, 0, GF.new w1 w1 (Below.refl _ _) _ _ _ (by omega) (by omega), by simp⟩ ?_
  rintro w3 ⟨A0, c0, hg3, hz3⟩
  have HG3 := Lib.hid hg3
  clear hg3
  go_loopw [6] (fun i wr => ∃ y : Nat, (y : Int) ≤ v.f.W ∧ i = .int .i64 y ∧ (∃ A c, GF w1 (w1.heap.size + 1) (w1.heap.size + 1) wr w1.heap.size ⟨⟨v.f.H, v.f.W, rngs (quaG v.f) (y * Hn), []⟩, A, none, y * Hn, c, 0, 0⟩) ∧ w1.heap.size + 1 ≤ wr.heap.size) (fun i _ => (v.f.W - intOf i).toNat)
  case atStart => exact ⟨0, by omega, rfl, ⟨A0, c0, by rw [Nat.zero_mul]; exact HG3.out⟩, hz3⟩
  case round =>
    clear hz3
    obtain ⟨y, hy, rfl, ⟨A1, c1, hgy⟩, hzy⟩ := hrel
    have HGy := Lib.hid hgy
    have b3 := b0.below hgy.bel
    by_cases hlty : (y : Int) < v.f.W
    · have c0 := b3.at
      have co := HGy.out.box.at
      clear hgy
      go_wp2_with fail
      clear c0 co
      go_loopw [7] (fun i wr => ∃ x : Nat, (x : Int) ≤ v.f.H ∧ i = .int .i64 x ∧ (∃ A c, GF w1 (w1.heap.size + 1) (w1.heap.size + 1) wr w1.heap.size ⟨⟨v.f.H, v.f.W, rngs (quaG v.f) (y * Hn + x), []⟩, A, none, y * Hn + x, c, 0, 0⟩) ∧ w1.heap.size + 1 ≤ wr.heap.size) (fun i _ => (v.f.H - intOf i).toNat)
      case atStart => exact ⟨0, by omega, rfl, ⟨A1, c1, HGy.out⟩, hzy⟩
      case round =>
        clear b3 hzy
        obtain ⟨x, hx, rfl, ⟨A2, c2, hgx⟩, hzx⟩ := hrel
        have HGx := Lib.hid hgx
        have b3 := b0.below hgx.bel
        by_cases hltx : (x : Int) < v.f.H
        · obtain ⟨i0, i1, i2, i3, i4⟩ := idx_bd okw1 okw okh (show (0 : Int) ≤ y by omega) hlty (show (0 : Int) ≤ x by omega) hltx
          have hxW : x < Hn := by omega
          have hlen : y * Hn + x < 1000000000 := by
            have h1 : y * Hn ≤ 12 * 12 := Nat.mul_le_mul (by omega) (by omega)
            omega
          have HGV := Lib.hid (quaG_at (f := v.f) (y := y) HH.out hxW)
          obtain ⟨db0, db1⟩ := dir_bd ok.out (y : Int) (v.f.H - 1 - (x : Int)) (by omega) hlty (by omega) (by omega)
          have HV3 := Lib.hid (HV1.out.below hgx.bel)
          have Q0 := Lib.hid (fun w5 (hb : Below wr.heap.size wr w5) => refAt_any v (y : Int) (v.f.H - 1 - (x : Int)) w5 (HV3.out.below hb) ok.out.size (by omega) hlty (by omega) (by omega))
          have co := hgx.box.at
          have c3 := b3.at
          have z3 := hgx.fz
          clear hgx
          go_wp2_with fail
          generalize v.f.dir (y : Int) (v.f.H - 1 - (x : Int)) = dd at db0 db1 HGV Q0
          refine wp_region_ht [0, 1, 2, 3, 4, 5, 6, 7, 8, 14] [9, 10, 11, 12, 13, 15] (TwoB w.heap.size #[.int .i64 v.f.W, .int .i64 v.f.H, .slice v.A v.n v.c, .slice v.B v.m v.d] w1.heap.size #[.int .i64 v.f.H, .int .i64 v.f.W, .slice A2 (y * Hn + x) c2, .slice none 0 0]) mixed (by kernel_rfl) ⟨b3.drew.at, HGx.out.box.drew.at⟩ ?_
          repeat
            refine canonH_step (v := ?_) rfl (by rfl) ?_ ?_
            rotate_left
            · intro w hSw
              obtain ⟨s1, s2⟩ := hSw
              go_simp <;> with_reducible rfl
            simp only [Act.put, List.setIfInBounds_toArray]
          refine canonH_nil ?_
          clear co c3 z3
          refine tailW_step rfl ?_
          go_wp2_with fail
          with_reducible refine (Q0.out _ (Below.refl _ _).drew).mono ?_
          rintro e w4 ⟨rfl, hb4⟩
          have b4 := b3.drew.below hb4
          have g4 := Lib.hid ((HGx.out.on (Below.refl _ _).drew).on hb4)
          have hz4 : w1.heap.size + 1 ≤ w4.heap.size := Nat.le_trans hzx hb4.size
          clear hb4 Q0 b3
          go_wp2_with fail
          refine ⟨⟨b4.at, g4.out.box.at⟩, ?_⟩
          refine tailW_step rfl ?_
          go_wp2_with fail
          refine ⟨⟨b4.at, g4.out.box.at⟩, ?_⟩
          refine tailW_step rfl ?_
          go_wp2_with fail
          with_reducible refine (eighth_any _ _).mono ?_
          rintro e w5 ⟨rfl, rfl⟩
          rw [← HGV.out]
          go_wp2_with fail
          refine ⟨⟨b4.at, g4.out.box.at⟩, ?_⟩
          refine tailW_step rfl ?_
          go_wp2_with fail
          refine ⟨⟨(b4.alloc _).at, (g4.out.box.alloc _).at⟩, ?_⟩
          refine tailW_step rfl ?_
          refine wpList_pushGI rfl _ _ rfl (w1.heap.size + 1) _ _ (y * Hn + x) (rngs (quaG v.f) (y * Hn + x)) (quaG v.f (y * Hn + x)) _ rfl (g4.out.on (belowA _ _)).ds (by rw [World.size_alloc]; omega) rfl (Box.new _ _ _) hlen ?_
          intro A' c' w6 hr1 hr2
          have HR1 := Lib.hid hr1
          have HR2 := Lib.hid hr2
          clear hr1 hr2
          go_wp2_with fail
          have g5 := Lib.hid (g4.out.on (belowA w4 (Obj.cells #[.int .i64 (quaG v.f (y * Hn + x))] 3)))
          have hz5 : w1.heap.size + 1 ≤ (w4.alloc (Obj.cells #[.int .i64 (quaG v.f (y * Hn + x))] 3)).heap.size := by rw [World.size_alloc]; omega
          have hbl := Lib.hid (g5.out.belA hz5 HR2.out)
          have hlt1 := Lib.hid HRR.out.box.1
          have b6 := (b4.alloc (Obj.cells #[.int .i64 (quaG v.f (y * Hn + x))] 3)).under hbl.out (by have := hlt1.out; omega)
          have bx6 := g5.out.box.under hbl.out (by omega)
          have hz6 : w1.heap.size + 1 ≤ w6.heap.size := Nat.le_trans hz5 hbl.out.size
          have f6 : ∀ i, w6.frozen? ⟨w1.heap.size, i, none⟩ = false := fun i => by rw [hbl.out.frozen (p := ⟨w1.heap.size, i, none⟩) (by show w1.heap.size < _; omega)]; exact g5.out.fz i
          have c6 := bx6.at
          refine ⟨⟨b6.at, bx6.at⟩, ?_⟩
          refine tailW_last rfl ?_
          go_wp2_with fail
          refine NoPanic.normal ?_
          have HG6 := Lib.hid (g5.out.putA rfl (by omega) hz5 HR1.out HR2.out)
          clear b4 c6 f6 bx6 b6 hz5
          go_wp2_with fail
          go_roundw
          case rel => exact ⟨x + 1, by omega, by go_num, ⟨A', c', by rw [← Nat.add_assoc, ← rngs_succ]; exact HG6.out⟩, by rw [size_set]; exact hz6⟩
          case measure => simp [intOf]; omega
        · have HX := Lib.hid (show y * Hn + x = (y + 1) * Hn by rw [show x = Hn by omega, Nat.add_mul, Nat.one_mul])
          have c3 := b3.at
          have co := HGx.out.box.at
          clear hgx
          go_wp2_with fail
          go_roundw
          case rel => exact ⟨y + 1, by omega, by go_num, ⟨A2, c2, by rw [← HX.out]; exact HGx.out⟩, hzx⟩
          case measure => simp [intOf]; omega
    · have hds : rngs (quaG v.f) (y * Hn) = (quaF v.f).ds := by
        have h1 : y = Wn := by omega
        unfold rngs quaF
        rw [HW.out, HH.out, h1]
        rfl
      have hyl : y * Hn ≤ 1000000 := by have : y * Hn ≤ 12 * 12 := Nat.mul_le_mul (by omega) (by omega); omega
      have HD := Lib.hid (show GF w1 (w1.heap.size + 1) (w1.heap.size + 1) wr w1.heap.size ⟨⟨v.f.H, v.f.W, (quaF v.f).ds, []⟩, A1, none, y * Hn, c1, 0, 0⟩ by rw [← hds]; exact hgy)
      have c3 := b3.at
      have co := HD.out.box.at
      clear hgy HGy hds HG3
      go_wp2_with fail
      clear c3 co
      clear hy hlty b3
      go_loopw [8] (fun i wr => ∃ k : Nat, k ≤ v.m ∧ i = .int .i64 k ∧ (∃ Bp d, GF w1 (w1.heap.size + 1) (w1.heap.size + 1) wr w1.heap.size ⟨⟨v.f.H, v.f.W, (quaF v.f).ds, puts (quaE v.f.H) k v.f.ps⟩, A1, Bp, y * Hn, c1, (puts (quaE v.f.H) k v.f.ps).length, d⟩) ∧ w1.heap.size + 1 ≤ wr.heap.size) (fun i _ => v.m - (intOf i).toNat)
      case atStart => exact ⟨0, by omega, rfl, ⟨none, 0, by rw [puts_zero]; exact HD.out⟩, hzy⟩
      case round =>
        clear hzy
        obtain ⟨k, hk, rfl, ⟨Bp, dp, hgk⟩, hzk⟩ := hrel
        have HGk := Lib.hid hgk
        have b3 := b0.below hgk.bel
        by_cases hlt : k < v.m
        · obtain ⟨ad, e, e1, hbk, he, d0, d1, d2⟩ := psat (HV1.out.below hgk.bel).ps (k := k) (by rw [← HM1.out]; exact hlt)
          have X := fun w => ix23 (c := v.d) e1 hlt w
          have HEB := Lib.hid (isE_bd2 (ok.out.edge e (List.mem_of_getElem? he)))
          have HPS := Lib.hid (puts_succ (h := quaE v.f.H) he)
          have hpl := puts_length (quaE v.f.H) k v.f.ps
          obtain ⟨x, y', up⟩ := e
          obtain ⟨x0, x1, up01⟩ := HEB.out
          dsimp only at x0 x1 up01
          have u0 : 0 ≤ up := by omega
          have u1 : up ≤ 1 := by omega
          have co := hgk.box.at
          have coA := fun o => (hgk.box.alloc o).at
          have c3 := b3.at
          have c3A := fun o => (b3.alloc o).at
          clear hgk he e1 up01
          go_wp2_with fail
          show Calls Try.prog 90 #[.slice Bp (puts (quaE v.f.H) k v.f.ps).length dp, eval_ (quaE v.f.H (x, y', up))] _ _
          have g4 := Lib.hid (HGk.out.on (belowA wr (Obj.cells #[.int .i64 x, .int .i64 y', .int .i64 up] 33)))
          with_reducible refine (put_any _ _ _ _ _ _ (Reads.of_own g4.out.ps) (by show (puts (quaE v.f.H) k v.f.ps).length ≤ 1000000; omega)).mono ?_
          rintro r w5 ⟨B', d', rfl, hr5, hb5⟩
          have HR5 := Lib.hid hr5
          have HB5 := Lib.hid hb5
          have g5 := Lib.hid (g4.out.on hb5)
          have c5 := g5.out.box.at
          have f5 := g5.out.fz
          have hz5 : w1.heap.size + 1 ≤ w5.heap.size := by have := hb5.size; rw [World.size_alloc] at this; omega
          have hz4 : w1.heap.size + 1 ≤ (wr.alloc (Obj.cells #[.int .i64 x, .int .i64 y', .int .i64 up] 33)).heap.size := by rw [World.size_alloc]; omega
          have HG6 := Lib.hid (g4.out.putN hz4 HR5.out HB5.out)
          clear co coA c3 c3A hr5 hb5 b3 d0 d1 d2 X
          go_wp2_with fail
          go_roundw
          case rel => exact ⟨k + 1, by omega, by go_num, ⟨B', d', by rw [← HPS.out]; exact HG6.out⟩, by rw [size_set]; exact hz5⟩
          case measure => simp [intOf]; omega
        · have hres : Calls Try.prog 86 #[(⟨⟨v.f.H, v.f.W, (quaF v.f).ds, puts (quaE v.f.H) k v.f.ps⟩, A1, Bp, y * Hn, c1, (puts (quaE v.f.H) k v.f.ps).length, dp⟩ : FV).val] wr (RetOwn (fin (quaF v.f)) (valid (quaF v.f)) w1) := by
            have h := refResult_any ⟨⟨v.f.H, v.f.W, (quaF v.f).ds, puts (quaE v.f.H) k v.f.ps⟩, A1, Bp, y * Hn, c1, (puts (quaE v.f.H) k v.f.ps).length, dp⟩ w1 wr hgk.bel HGk.out.own
            have e : (⟨v.f.H, v.f.W, (quaF v.f).ds, puts (quaE v.f.H) k v.f.ps⟩ : Fld) = quaF v.f := by
              rw [puts_all (by rw [← HM1.out]; omega)]; rfl
            dsimp only at h
            rw [e] at h
            exact h
          have HRES := Lib.hid hres
          have co := hgk.box.at
          have c3 := b3.at
          clear hgk hres
          go_wp2_with fail
          with_reducible refine HRES.out.mono ?_
          rintro r w5 ⟨u', hu', rfl, ho5, hb5⟩
          have HU' := Lib.hid hu'
          have HO5 := Lib.hid ho5
          have HR5 := Lib.hid (HRR.out.on hb5)
          have hlt1 := Lib.hid HRR.out.box.1
          have cr := HR5.out.box.at
          have fr := HR5.out.fz
          clear hu' ho5 hb5 co c3 b3
          dsimp only [FV.val]
          go_wp2_with fail
          have cF := (HR5.out.box.four (.int .i64 u'.f.W) (.int .i64 u'.f.H) (.slice u'.A u'.n u'.c) (.slice u'.B u'.m u'.d)).at
          have HE := res_own HO5.out hlt1.out HR5.out.bel HR5.out.le hw1.out.size (.int .i64 u'.f.W) (.int .i64 u'.f.H) (.slice u'.A u'.n u'.c) (.slice u'.B u'.m u'.d)
          exact bodyPost_ret (v := .tuple #[.agg #[.int .i64 u'.f.W, .int .i64 u'.f.H, .slice u'.A u'.n u'.c, .slice u'.B u'.m u'.d], .int .i64 (valid (quaF v.f))]) (by simp [results, Try.results52, go_sem, cF]) rfl
            ⟨u', by rw [HU'.out, HS.out], by rw [HS.out], HE.1, HE.2⟩
end Go.Proofs.Ytahmdnboeenfkaa
