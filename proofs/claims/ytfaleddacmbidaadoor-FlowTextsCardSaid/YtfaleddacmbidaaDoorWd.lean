/- Walks: the text of a field, the reference's. -/
import Derived.Test.YtfaleddacmbidaaDoorWc
namespace Go.Proofs.YtfaleddacmbidaaDoor
open Go.RowKit Go.Sort

theorem itoa_dgt {d : Int} (h0 : 0 ≤ d) (h7 : d ≤ 7) : Lib.itoa d = [dgt d] := by
  rw [itoa_small h0 (by omega)]
  unfold decL dgt
  rw [if_pos (by omega)]
theorem strB {s : ByteArray} {l : List UInt8} (h : s.data.toList = l) : s = ⟨l.toArray⟩ := ByteArray.ext (Array.toList_inj.1 (by simpa using h))
set_option maxRecDepth 100000 in
set_option maxHeartbeats 4000000 in
theorem refFormat_any (v : FV) (w : World) (hv : v.In w) :
    Calls Tryd.prog 7 #[v.val] w fun r w' => r = .returned (.tuple #[.string ⟨(fmtX v.f).toArray⟩, .int .i64 (valid v.f)]) ∧ Below w.heap.size w w' := by
  have HV := Lib.hid hv
  clear hv
  go_enter Tryd.func7, Tryd.ntmps7
  dsimp only [FV.val]
  go_wp2_with fail
  obtain ⟨q, hq⟩ : ∃ q, w.heap.size = q := ⟨_, rfl⟩
  have HA : Hid (Box (w.alloc (.cells #[.int .i64 v.f.W, .int .i64 v.f.H, .slice v.A v.n v.c, .slice v.B v.m v.d] 25)) q #[.int .i64 v.f.W, .int .i64 v.f.H, .slice v.A v.n v.c, .slice v.B v.m v.d]) := Lib.hid (by rw [← hq]; exact Box.new _ _ _)
  have HW := Lib.hid (belowA w (.cells #[.int .i64 v.f.W, .int .i64 v.f.H, .slice v.A v.n v.c, .slice v.B v.m v.d] 25))
  have HQ := Lib.hid hq
  rw [hq]
  clear hq
  generalize (w.alloc (.cells #[.int .i64 v.f.W, .int .i64 v.f.H, .slice v.A v.n v.c, .slice v.B v.m v.d] 25)) = w1 at HA HW ⊢
  with_reducible refine (refValidate_any v _ (HV.out.below HW.out)).mono ?_
  rintro _ w2 ⟨rfl, hb2⟩
  have HA2 := Lib.hid (HA.out.below hb2)
  have HW2 := Lib.hid (below_trans' HW.out hb2)
  clear hb2 HA HW
  by_cases hval : valid v.f = 0
  case neg =>
    have g : (valid v.f != 0) = true := by simpa using hval
    have HF := Lib.hid (show fmtX v.f = [] from if_neg hval)
    clear hval
    go_wp2_with fail
    go_ret2
    exact ⟨by rw [HF.out]; rfl, HW2.out⟩
  have HF := Lib.hid (show fmtX v.f = fmtL v.f from if_pos hval)
  have HOK := Lib.hid (okf_of_valid hval)
  have HV0 := Lib.hid hval
  rw [hval]
  clear hval
  have ca := HA2.out.at
  go_wp2_with fail
  have cr := HA2.out.rg
  have W0 := HOK.out.w1
  have W1 := HOK.out.w2
  have H0 := HOK.out.h1
  have H1 := HOK.out.h2
  have Q1 : Hid (∀ w', Below w2.heap.size w2 w' → Calls Tryd.prog 19 #[.int .i64 v.f.W] w' fun r w'' => r = .returned (.string ⟨(Lib.itoa v.f.W).toArray⟩) ∧ Below w'.heap.size w' w'') := Lib.hid fun w' _ => (digits_any _ _ (by omega) (by omega)).mono fun r w'' ⟨h1, h2⟩ => ⟨h1, by rw [h2]; exact Below.refl _ _⟩
  have Q2 : Hid (∀ w', Below w2.heap.size w2 w' → Calls Tryd.prog 19 #[.int .i64 v.f.H] w' fun r w'' => r = .returned (.string ⟨(Lib.itoa v.f.H).toArray⟩) ∧ Below w'.heap.size w' w'') := Lib.hid fun w' _ => (digits_any _ _ (by omega) (by omega)).mono fun r w'' ⟨h1, h2⟩ => ⟨h1, by rw [h2]; exact Below.refl _ _⟩
  have HLW := itoa_len2 (n := v.f.W) (by omega) (by omega)
  have HLH := itoa_len2 (n := v.f.H) (by omega) (by omega)
  refine wp_region_qb mixed (by kernel_rfl) ?_
  repeat (go_big_quiet_step (first | with_reducible exact rg_call Q1.out _ _ | with_reducible exact rg_call Q2.out _ _))
  refine wpQuiet_nil ?_
  intro w4 hb4
  have HA4 := Lib.hid (HA2.out.below hb4)
  have HW4 := Lib.hid (below_trans' HW2.out hb4)
  clear hb4 cr Q1 Q2 HA2 HW2 ca
  obtain ⟨t, ht⟩ : ∃ t, (⟨#[102, 108, 111, 119, 32]⟩ : ByteArray) ++ (⟨(Lib.itoa v.f.W).toArray⟩ : ByteArray) ++ (⟨#[32]⟩ : ByteArray) ++ (⟨(Lib.itoa v.f.H).toArray⟩ : ByteArray) ++ (⟨#[32]⟩ : ByteArray) = t := ⟨_, rfl⟩
  have HT : Hid (t = ⟨(preT v.f 0).toArray⟩) := Lib.hid (strB (by rw [← ht, pre_zero]; simp [hdT]))
  rw [ht]
  clear ht HLW HLH
  rw [HT.out]
  clear HT
  go_wp2_with fail
  have l1 := (HV.out.below HW4.out).l1
  have l2 := (HV.out.below HW4.out).l2
  have hn144 : v.n ≤ 144 := by have := ds_len HOK.out; omega
  go_loopw [5, 6] (fun s i wr => ∃ k : Nat, k ≤ v.n ∧ i = .int .i64 k ∧ s = .string ⟨(preT v.f k).toArray⟩ ∧ Box wr q #[.int .i64 v.f.W, .int .i64 v.f.H, .slice v.A v.n v.c, .slice v.B v.m v.d] ∧ Below w.heap.size w wr) (fun _ i _ => v.n - (intOf i).toNat)
  case atStart => exact ⟨0, by omega, rfl, rfl, HA4.out, HW4.out⟩
  case round =>
    clear HA4 HW4
    obtain ⟨k, hk, rfl, rfl, hat, hbw⟩ := hrel
    have HA := Lib.hid hat
    have HW := Lib.hid hbw
    clear hat hbw
    have ca := HA.out.at
    have hpl := pre_len HOK.out k
    by_cases hlt : k < v.n
    · obtain ⟨ad, d, e1, hbk, hd, d0⟩ := (HV.out.below HW.out).dsAt (k := k) (by omega)
      have X := fun w => ix22 (c := v.c) e1 hlt w
      have HPS := Lib.hid (pre_succ hd)
      obtain ⟨g0, g7⟩ := HOK.out.dir d (List.mem_of_getElem? hd)
      have D := digits_any d
      rw [itoa_dgt g0 g7] at D
      have HD := Lib.hid fun w => D w g0 (by omega)
      have hmod : (k : Int).tmod v.f.W = (k : Int) % v.f.W := Int.tmod_eq_emod_of_nonneg (by omega)
      clear hd e1 D
      rcases (show (0 < k ∧ (k : Int) % v.f.W = 0) ∨ (¬ (0 < k) ∨ (0 < k ∧ ¬ (k : Int) % v.f.W = 0)) by omega) with hc | hc
      · have hk0 : (0 : Int) < (k : Int) := by omega
        have gm : ((k : Int) % v.f.W == 0) = true := by simpa using hc.2
        have HP2 : Hid ((⟨(preT v.f k).toArray⟩ : ByteArray) ++ (⟨#[47]⟩ : ByteArray) ++ (⟨#[dgt d]⟩ : ByteArray) = ⟨(preT v.f (k + 1)).toArray⟩) := Lib.hid (by rw [HPS.out, if_pos hc]; exact strB (by simp))
        clear hc HPS
        go_wp2_with fail
        with_reducible refine (HD.out _).mono ?_
        rintro _ _ ⟨rfl, rfl⟩
        go_wp2_with fail
        go_roundw
        case rel => exact ⟨k + 1, by omega, by go_num, by rw [← HP2.out], HA.out, HW.out⟩
        case measure => simp [intOf]; omega
      · have HP2 : Hid ((⟨(preT v.f k).toArray⟩ : ByteArray) ++ (⟨#[dgt d]⟩ : ByteArray) = ⟨(preT v.f (k + 1)).toArray⟩) := Lib.hid (by rw [HPS.out, if_neg (by omega)]; exact strB (by simp))
        rcases hc with hc | hc
        · have hk0 : ¬ (0 : Int) < (k : Int) := by omega
          clear hc HPS
          go_wp2_with fail
          with_reducible refine (HD.out _).mono ?_
          rintro _ _ ⟨rfl, rfl⟩
          go_wp2_with fail
          go_roundw
          case rel => exact ⟨k + 1, by omega, by go_num, by rw [← HP2.out], HA.out, HW.out⟩
          case measure => simp [intOf]; omega
        · have hk0 : (0 : Int) < (k : Int) := by omega
          have gm : ((k : Int) % v.f.W == 0) = false := by simpa using hc.2
          clear hc HPS
          go_wp2_with fail
          with_reducible refine (HD.out _).mono ?_
          rintro _ _ ⟨rfl, rfl⟩
          go_wp2_with fail
          go_roundw
          case rel => exact ⟨k + 1, by omega, by go_num, by rw [← HP2.out], HA.out, HW.out⟩
          case measure => simp [intOf]; omega
    · have hkn : k = v.n := by omega
      subst hkn
      have HP := Lib.hid (pre_all v.f)
      have hlen : v.f.ds.length = v.n := by omega
      rw [hlen] at HP
      rw [HP.out]
      clear HP hlen hlt hpl
      go_wp2_with fail
      have hm60 : v.m ≤ 60 := by have := HOK.out.cnt; omega
      go_loopw [5, 7] (fun s i wr => ∃ k : Nat, k ≤ v.m ∧ i = .int .i64 k ∧ s = .string ⟨(postT v.f k).toArray⟩ ∧ Box wr q #[.int .i64 v.f.W, .int .i64 v.f.H, .slice v.A v.n v.c, .slice v.B v.m v.d] ∧ Below w.heap.size w wr) (fun _ i _ => v.m - (intOf i).toNat)
      case atStart => exact ⟨0, by omega, rfl, rfl, HA.out, HW.out⟩
      case round =>
        clear HA HW ca
        obtain ⟨k, hk, rfl, rfl, hat, hbw⟩ := hrel
        have HA := Lib.hid hat
        have HW := Lib.hid hbw
        clear hat hbw
        have ca := HA.out.at
        have hpl := post_len HOK.out k
        by_cases hlt : k < v.m
        · obtain ⟨ad, e, e1, hbk, he, d0, d1, d2⟩ := (HV.out.below HW.out).psAt (k := k) (by omega)
          have X := fun w => ix23 (c := v.d) e1 hlt w
          have HPS := Lib.hid (post_succ he)
          obtain ⟨⟨b0, b1⟩, ⟨b2, b3⟩, b4, b5⟩ := okf_bd HOK.out (List.mem_of_getElem? he)
          clear he e1
          go_wp2_with fail
          obtain ⟨p, hp⟩ : ∃ p, wr.heap.size = p := ⟨_, rfl⟩
          have HE : Hid (Box (wr.alloc (.cells #[.int .i64 e.1, .int .i64 e.2.1, .int .i64 e.2.2] 50)) p #[.int .i64 e.1, .int .i64 e.2.1, .int .i64 e.2.2]) := Lib.hid (by rw [← hp]; exact Box.new _ _ _)
          have HA7 := Lib.hid (HA.out.below (belowA wr (.cells #[.int .i64 e.1, .int .i64 e.2.1, .int .i64 e.2.2] 50)))
          have HW7 := Lib.hid (below_trans' HW.out (belowA wr (.cells #[.int .i64 e.1, .int .i64 e.2.1, .int .i64 e.2.2] 50)))
          rw [hp]
          clear hp HA HW d0 d1 d2 X hbk ca
          generalize (wr.alloc (.cells #[.int .i64 e.1, .int .i64 e.2.1, .int .i64 e.2.2] 50)) = w7 at HE HA7 HW7 ⊢
          have cr := HE.out.rg
          have Q1 : Hid (∀ w', Below w7.heap.size w7 w' → Calls Tryd.prog 19 #[.int .i64 e.1] w' fun r w'' => r = .returned (.string ⟨(Lib.itoa e.1).toArray⟩) ∧ Below w'.heap.size w' w'') := Lib.hid fun w' _ => (digits_any _ _ b0 b1).mono fun r w'' ⟨h1, h2⟩ => ⟨h1, by rw [h2]; exact Below.refl _ _⟩
          have Q2 : Hid (∀ w', Below w7.heap.size w7 w' → Calls Tryd.prog 19 #[.int .i64 e.2.1] w' fun r w'' => r = .returned (.string ⟨(Lib.itoa e.2.1).toArray⟩) ∧ Below w'.heap.size w' w'') := Lib.hid fun w' _ => (digits_any _ _ b2 b3).mono fun r w'' ⟨h1, h2⟩ => ⟨h1, by rw [h2]; exact Below.refl _ _⟩
          have Q3 : Hid (∀ w', Below w7.heap.size w7 w' → Calls Tryd.prog 19 #[.int .i64 e.2.2] w' fun r w'' => r = .returned (.string ⟨(Lib.itoa e.2.2).toArray⟩) ∧ Below w'.heap.size w' w'') := Lib.hid fun w' _ => (digits_any _ _ b4 b5).mono fun r w'' ⟨h1, h2⟩ => ⟨h1, by rw [h2]; exact Below.refl _ _⟩
          have L1 := itoa_len2 b0 b1
          have L2 := itoa_len2 b2 b3
          have L3 := itoa_len2 b4 b5
          refine wp_region_qb mixed (by kernel_rfl) ?_
          repeat (go_big_quiet_step (first | with_reducible exact rg_call Q1.out _ _ | with_reducible exact rg_call Q2.out _ _ | with_reducible exact rg_call Q3.out _ _))
          refine wpQuiet_nil ?_
          intro w8 hb8
          have HA8 := Lib.hid (HA7.out.below hb8)
          have HW8 := Lib.hid (below_trans' HW7.out hb8)
          clear hb8 cr Q1 Q2 Q3 HA7 HW7 HE
          obtain ⟨t, ht⟩ : ∃ t, (⟨(postT v.f k).toArray⟩ : ByteArray) ++ ((⟨#[32]⟩ : ByteArray) ++ (⟨(Lib.itoa e.1).toArray⟩ : ByteArray) ++ (⟨#[44]⟩ : ByteArray) ++ (⟨(Lib.itoa e.2.1).toArray⟩ : ByteArray) ++ (⟨#[44]⟩ : ByteArray) ++ (⟨(Lib.itoa e.2.2).toArray⟩ : ByteArray)) = t := ⟨_, rfl⟩
          have HT : Hid (t = ⟨(postT v.f (k + 1)).toArray⟩) := Lib.hid (strB (by rw [← ht, HPS.out]; simp [bodyE, join]))
          rw [ht]
          clear ht L1 L2 L3 hpl
          rw [HT.out]
          clear HT
          go_wp2_with fail
          go_roundw
          case rel => exact ⟨k + 1, by omega, by go_num, rfl, HA8.out, HW8.out⟩
          case measure => simp [intOf]; omega
        · have hkm : k = v.m := by omega
          subst hkm
          have HP := Lib.hid (post_all v.f)
          have hlen : v.f.ps.length = v.m := by omega
          rw [hlen] at HP
          clear hlen hlt
          go_wp2_with fail
          go_ret2
          exact ⟨by rw [HV0.out, HF.out, ← HP.out]; rfl, HW.out⟩
end Go.Proofs.YtfaleddacmbidaaDoor
