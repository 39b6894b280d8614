/- Walks: the reference's Whorls. -/
import Derived.Test.YtahmdnboeenfkaaW13
namespace Go.Proofs.Ytahmdnboeenfkaa
open Go.RowKit Go.Sort

theorem refWhorls_any (v : FV) (w : World) (hv : v.In w) : Calls Try.prog 28 #[v.val] w (RetTri (whorls v.f) (valid v.f) w) := by
  have HVv := Lib.hid hv
  clear hv
  go_enter Try.func28, Try.ntmps28
  dsimp only [FV.val, eval_]
  go_wp2_with fail
  refine (refValidate_any v _ (HVv.out.below (belowA _ _))).mono ?_
  rintro r w1 ⟨rfl, hb1⟩
  have b0 := (Box.new _ _ _).below hb1
  have hw1 := Lib.hid (below1 _ hb1)
  clear hb1
  by_cases hz : valid v.f = 0
  · have hok := okf_of_valid hz
    have s1 := hok.w1
    have s2 := hok.w2
    have s3 := hok.h1
    have s4 := hok.h2
    have ok := Lib.hid hok
    have hz' : (valid v.f != 0) = false := by simpa using hz
    have HZ := Lib.hid hz
    clear hz hok
    have c0 := b0.at
    go_wp2_with fail
    clear c0
    go_loopw [5, 6] (fun out i wr => ∃ y : Nat, (y : Int) ≤ v.f.H - 1 ∧ i = .int .i64 y ∧ OwnX 44 3 w1 wr out (whF v.f y).length (edgs (whF v.f y))) (fun _ i _ => (v.f.H - 1 - intOf i).toNat)
    case atStart => exact ⟨0, by omega, rfl, OwnX.nil _ _ _⟩
    case round =>
      obtain ⟨y, hy, rfl, hown0⟩ := hrel
      have c0 := (b0.below hown0.bel).at
      have hown := Lib.hid hown0
      clear hown0
      by_cases hlt : (y : Int) + 1 < v.f.H
      · go_wp2_with fail
        obtain ⟨wo, rfl⟩ : ∃ wo : World, wo = wr := ⟨_, rfl⟩
        clear c0
        go_loopw [5, 7] (fun out i wr => ∃ x : Nat, (x : Int) ≤ v.f.W - 1 ∧ i = .int .i64 x ∧ OwnX 44 3 w1 wr out (whF v.f y ++ whR v.f y x).length (edgs (whF v.f y ++ whR v.f y x))) (fun _ i _ => (v.f.W - 1 - intOf i).toNat)
        case atStart => exact ⟨0, by omega, rfl, by simpa [whR] using hown.out⟩
        case round =>
          clear hown
          obtain ⟨x, hx, rfl, hown0⟩ := hrel
          have b1 := b0.below hown0.bel
          have c0 := b1.at
          have hown := Lib.hid hown0
          clear hown0
          by_cases hltx : (x : Int) + 1 < v.f.W
          · have hs : isS v.f.W v.f.H x y = true := by unfold isS; rw [decide_eq_true_eq]; omega
            have HS := Lib.hid hs
            clear hs
            have HVr := Lib.hid (HVv.out.below (below_trans' hw1.out hown.out.bel))
            go_wp2_with fail
            clear c0
            refine (round_any v x y _ HVr.out ok.out HS.out).mono ?_
            rintro r w3 ⟨rfl, hb3⟩
            have b2 := b1.below hb3
            have hown3 := Lib.hid (hown.out.on hb3)
            clear hb3 hown
            have hlen : (whF v.f y ++ whR v.f y x).length < 1000000000 := by
              have := whF_le v.f y s2
              have := whR_le v.f y x
              simp only [List.length_append]; omega
            have hsu := Lib.hid (whR_succ v.f y x)
            obtain ⟨r0, r1⟩ := rnd_bd v.f x y
            by_cases hn : v.f.rnd x y = 0
            · have g0 : (v.f.rnd x y != 0) = false := by simpa using hn
              have h1 := Lib.hid (show wh1 v.f x y = [] by unfold wh1; rw [if_pos hn])
              clear hn
              go_wp2_with fail
              go_roundw
              case rel => exact ⟨x + 1, by omega, by go_num, by rw [hsu.out, h1.out]; simpa using hown3.out⟩
              case measure => simp [intOf]; omega
            · have g0 : (v.f.rnd x y != 0) = true := by simpa using hn
              have h1 := Lib.hid (show wh1 v.f x y = [((x : Int), (y : Int), (v.f.rnd x y).tdiv 4)] by unfold wh1; rw [if_neg hn])
              clear hn
              go_wp2_with (at_builtin; refine wpList_pushX rfl _ _ 40 44 rfl Try.underlying40 info44 rfl (by omega) (by omega) w1 _ _ _ _ (ecells ((x : Int), (y : Int), (v.f.rnd x y).tdiv 4)) _ rfl (hown3.out.on (belowA _ _)) rfl (Box.new _ _ _) rfl (edgs_one [_]) hlen ?_; intro v' w' hown'; have hown5 := Lib.hid hown'; clear hown')
              go_roundw
              case rel => exact ⟨x + 1, by omega, by go_num, by rw [hsu.out, h1.out, ← List.append_assoc, edgs_append _ [_], List.length_append]; exact hown5.out⟩
              case measure => simp [intOf]; omega
          · obtain hxe : x = (v.f.W - 1).toNat := by omega
            have HX := Lib.hid hxe
            clear hxe
            go_wp2_with fail
            go_roundw
            case rel => exact ⟨y + 1, by omega, by go_num, by rw [whF_succ, ← HX.out]; exact hown.out⟩
            case measure => simp [intOf]; omega
      · obtain hye : y = (v.f.H - 1).toNat := by omega
        have hr2 := Lib.hid (show whorls v.f = whF v.f y by unfold whorls; rw [if_pos HZ.out, hye])
        clear hye
        obtain ⟨A, c, hv, hr⟩ := hown.out.form
        have HR := Lib.hid hr
        clear hr
        subst hv
        go_wp2_with fail
        go_ret2
        rw [hr2.out, HZ.out]
        exact ⟨A, c, rfl, HR.out, below_trans' hw1.out hown.out.bel⟩
  · have hz' : (valid v.f != 0) = true := by simpa using hz
    have HR := Lib.hid (show whorls v.f = [] by unfold whorls; simp [hz])
    clear hz
    go_wp2_with fail
    go_ret2
    rw [HR.out]
    exact ⟨none, 0, rfl, Reads.nil, hw1.out⟩
end Go.Proofs.Ytahmdnboeenfkaa
