/- Fields side by side, parts of a field. -/
import Derived.Test.YtahmdnboeenfkaaGd
import Derived.Test.YtahmdnboeenfkaaL1
import Derived.Test.YtahmdnboeenfkaaRk4
namespace Go.Proofs.Ytahmdnboeenfkaa
open Go.RowKit Go.Sort

set_option maxHeartbeats 4000000 in
set_option maxRecDepth 100000 in
theorem Beside_any (a b : FV) (w : World) (ha : a.In w) (hb : b.In w) (hca : a.n ≤ a.c) (hcb : b.n ≤ b.c) :
    Calls Try.prog 40 #[a.val, b.val] w (RetOwn (besR a.f b.f).1 (besR a.f b.f).2 w) := by
  have HVa := Lib.hid ha
  have HVb := Lib.hid hb
  clear ha hb
  go_enter Try.func40, Try.ntmps40
  dsimp only [FV.val]
  go_wp2_with fail
  with_reducible refine (validate_any a _ (HVa.out.below (belowA3 _ _ _ _))).mono ?_
  rintro r w1 ⟨rfl, hb1⟩
  have hR := (ResB.new3 w #[.int .i64 a.f.W, .int .i64 a.f.H, .slice a.A a.n a.c, .slice a.B a.m a.d] #[.int .i64 b.f.W, .int .i64 b.f.H, .slice b.A b.n b.c, .slice b.B b.m b.d] 25 25).on hb1
  have ba := (((Box.new w #[.int .i64 a.f.W, .int .i64 a.f.H, .slice a.A a.n a.c, .slice a.B a.m a.d] 25).alloc (.cells #[.int .i64 b.f.W, .int .i64 b.f.H, .slice b.A b.n b.c, .slice b.B b.m b.d] 25)).alloc (.cells #[.int .i64 0, .int .i64 0, .slice none 0 0, .slice none 0 0] 25)).below hb1
  have bb := ((Box.new2 w #[.int .i64 a.f.W, .int .i64 a.f.H, .slice a.A a.n a.c, .slice a.B a.m a.d] #[.int .i64 b.f.W, .int .i64 b.f.H, .slice b.A b.n b.c, .slice b.B b.m b.d] 25 25).alloc (.cells #[.int .i64 0, .int .i64 0, .slice none 0 0, .slice none 0 0] 25)).below hb1
  have hw1 := Lib.hid (below_trans' (belowA3 w _ _ _) hb1)
  have HRR := Lib.hid hR
  clear hb1 hR
  by_cases hz : valid a.f = 0
  case neg =>
    have hz' : (valid a.f != 0) = true := by simpa using hz
    have HF := Lib.hid (besR_bad (b := b.f) hz)
    have cr := HRR.out.box.at
    have fr := HRR.out.fz
    clear hz
    go_wp2_with fail
    have cF := (HRR.out.box.four (.int .i64 0) (.int .i64 0) (.slice none 0 0) (.slice none 0 0)).at
    exact bodyPost_ret (v := .tuple #[.agg #[.int .i64 0, .int .i64 0, .slice none 0 0, .slice none 0 0], .int .i64 (valid a.f)]) (by simp [results, Try.results40, go_sem, cF]) rfl
      ⟨⟨zeroF, none, none, 0, 0, 0, 0⟩, by rw [HF.out], by rw [HF.out]; rfl, FOwn.zero _ _, res_bel HRR.out.bel HRR.out.le _ _ _ _⟩
  have oa := Lib.hid (okf_of_valid hz)
  have hz' : (valid a.f != 0) = false := by simpa using hz
  have HZa := Lib.hid hz
  replace HVa := Lib.hid (HVa.out.below hw1.out)
  replace HVb := Lib.hid (HVb.out.below hw1.out)
  clear hz
  have cb := bb.at
  go_wp2_with fail
  clear cb hz'
  with_reducible refine (validate_any b _ HVb.out).mono ?_
  rintro r w2 ⟨rfl, hb2⟩
  replace ba := ba.below hb2
  replace bb := bb.below hb2
  replace HVa := Lib.hid (HVa.out.below hb2)
  replace HVb := Lib.hid (HVb.out.below hb2)
  replace HRR := Lib.hid (HRR.out.on hb2)
  replace hw1 := Lib.hid (below_trans' hw1.out hb2)
  clear hb2
  by_cases hz : valid b.f = 0
  case neg =>
    have hz' : (valid b.f != 0) = true := by simpa using hz
    have HF := Lib.hid (besR_bad2 HZa.out hz)
    have cr := HRR.out.box.at
    have fr := HRR.out.fz
    clear hz
    go_wp2_with fail
    have cF := (HRR.out.box.four (.int .i64 0) (.int .i64 0) (.slice none 0 0) (.slice none 0 0)).at
    exact bodyPost_ret (v := .tuple #[.agg #[.int .i64 0, .int .i64 0, .slice none 0 0, .slice none 0 0], .int .i64 (valid b.f)]) (by simp [results, Try.results40, go_sem, cF]) rfl
      ⟨⟨zeroF, none, none, 0, 0, 0, 0⟩, by rw [HF.out], by rw [HF.out]; rfl, FOwn.zero _ _, res_bel HRR.out.bel HRR.out.le _ _ _ _⟩
  have ob := Lib.hid (okf_of_valid hz)
  have hz' : (valid b.f != 0) = false := by simpa using hz
  have HZb := Lib.hid hz
  clear hz
  by_cases hH : a.f.H = b.f.H
  case neg =>
    have hH' : (a.f.H != b.f.H) = true := by simpa using hH
    have HF := Lib.hid (besR_fit HZa.out HZb.out hH)
    have cr := HRR.out.box.at
    have fr := HRR.out.fz
    have ca := ba.at
    have cb := bb.at
    clear hH
    go_wp2_with fail
    have cF := (HRR.out.box.four (.int .i64 0) (.int .i64 0) (.slice none 0 0) (.slice none 0 0)).at
    exact bodyPost_ret (v := .tuple #[.agg #[.int .i64 0, .int .i64 0, .slice none 0 0, .slice none 0 0], .int .i64 8]) (by simp [results, Try.results40, go_sem, cF]) rfl
      ⟨⟨zeroF, none, none, 0, 0, 0, 0⟩, by rw [HF.out], by rw [HF.out]; rfl, FOwn.zero _ _, res_bel HRR.out.bel HRR.out.le _ _ _ _⟩
  have hH' : (a.f.H != b.f.H) = false := by simpa using hH
  have HHH := Lib.hid hH
  obtain ⟨n0, m0⟩ := okf_lens oa.out
  obtain ⟨n1, m1⟩ := okf_lens ob.out
  have aw1 := oa.out.w1
  have aw2 := oa.out.w2
  have ah1 := oa.out.h1
  have ah2 := oa.out.h2
  have bw1 := ob.out.w1
  have bw2 := ob.out.w2
  have la1 : a.n = a.f.ds.length := HVa.out.len
  have lb1 : b.n = b.f.ds.length := HVb.out.len
  have la2 : a.m = a.f.ps.length := HVa.out.lenp
  have lb2 : b.m = b.f.ps.length := HVb.out.lenp
  have HLA := Lib.hid la2
  have HLB := Lib.hid lb2
  have am : a.m ≤ 60 := by omega
  have bm : b.m ≤ 60 := by omega
  have hc0 : a.m ≤ 1000000 := by omega
  obtain ⟨An, hAn⟩ := Int.eq_ofNat_of_zero_le (show 0 ≤ a.f.W by omega)
  obtain ⟨Bn, hBn⟩ := Int.eq_ofNat_of_zero_le (show 0 ≤ b.f.W by omega)
  obtain ⟨Hn, hHn⟩ := Int.eq_ofNat_of_zero_le (show 0 ≤ a.f.H by omega)
  have la3 : a.n = Hn * An := by
    have h := oa.out.len
    rw [← la1, hAn, hHn, Int.mul_comm] at h
    exact_mod_cast h
  have lb3 : b.n = Hn * Bn := by
    have h := ob.out.len
    rw [← lb1, hBn, ← hH, hHn, Int.mul_comm] at h
    exact_mod_cast h
  have EAn := Lib.hid hAn
  have EBn := Lib.hid hBn
  have EHn := Lib.hid hHn
  have LA3 := Lib.hid la3
  have LB3 := Lib.hid lb3
  have an144 : a.n ≤ 144 := by omega
  have bn144 : b.n ≤ 144 := by omega
  have An0 : 0 < An := by omega
  have Bn0 : 0 < Bn := by omega
  have Hn0 : 0 < Hn := by omega
  have Ane : (An : Int) = a.f.W := hAn.symm
  have hA1 : (An : Int) ≤ a.f.W := by omega
  have hA2 : a.f.W ≤ (An : Int) := by omega
  have hB1 : (Bn : Int) ≤ b.f.W := by omega
  have hB2 : b.f.W ≤ (Bn : Int) := by omega
  have hH1 : (Hn : Int) ≤ a.f.H := by omega
  have hH2 : a.f.H ≤ (Hn : Int) := by omega
  clear hH la1 lb1 la2 lb2 la3 lb3 n0 m0 n1 m1 hAn hBn hHn Ane
  have ca := ba.at
  have cb := bb.at
  go_wp2_with fail
  clear ca cb
  have ca := ba.at
  have cb := bb.at
  have hl1 := ba.1
  have hl2 := bb.1
  have hwr : IntKind.i64.wrap (a.f.W + b.f.W) = a.f.W + b.f.W := IntWalk.i64_in _ (by omega)
  have hq1 : w.heap.size ≠ w2.heap.size := by omega
  have hq2 : w.heap.size + 1 ≠ w2.heap.size := by omega
  go_region_held3 (fun w' => (∀ i, w'.cell? ⟨w.heap.size, i, none⟩ = (#[.int .i64 a.f.W, .int .i64 a.f.H, .slice a.A a.n a.c, .slice a.B a.m a.d] : Array Value)[i]?) ∧ (∀ i, w'.cell? ⟨w.heap.size + 1, i, none⟩ = (#[.int .i64 b.f.W, .int .i64 b.f.H, .slice b.A b.n b.c, .slice b.B b.m b.d] : Array Value)[i]?))
    (with_reducible first | exact ⟨ba.drew.at, bb.drew.at⟩ | exact ⟨(ba.alloc _).drew.at, (bb.alloc _).drew.at⟩ | exact ⟨ka.at, kb.at⟩ | exact ⟨(ka.alloc _).at, (kb.alloc _).at⟩ | exact ⟨((((ka.alloc _).far hp1 _).far hp1 _).far hp1 _ |>.far hp1 _).at, ((((kb.alloc _).far hp2 _).far hp2 _).far hp2 _ |>.far hp2 _).at⟩ | exact ⟨(((ka.far hq1 _).far hq1 _).far hq1 _ |>.far hq1 _).at, (((kb.far hq2 _).far hq2 _).far hq2 _ |>.far hq2 _).at⟩)
    (first
    | (go_at_call 85; refine (cloneE_any a.B a.m a.d a.f.ps _ (HVa.out.ps.on (Below.refl _ _).drew) hc0).mono ?_; rintro r w3 ⟨B', d', rfl, hr3, hb3⟩; have hb3' : Below w2.heap.size w2 w3 := ⟨hb3.os, hb3.tape, hb3.output, hb3.size, hb3.block⟩; have ka := ba.below hb3'; have kb := bb.below hb3'; have HR3 := Lib.hid hr3; have HB3 := Lib.hid hb3'; have hp1 : w.heap.size ≠ w3.heap.size := (by have := hb3'.size; omega); have hp2 : w.heap.size + 1 ≠ w3.heap.size := (by have := hb3'.size; omega); clear hr3 hb3 hb3')
    | (go_at_call 85; refine (cloneE_any a.B a.m a.d a.f.ps _ (HVa.out.ps.on (belowA w2 (.cells #[.int .i64 0, .int .i64 0, .slice none 0 0, .slice none 0 0] 25)).drew) hc0).mono ?_; rintro r w3 ⟨B', d', rfl, hr3, hb3⟩; have hb3' : Below (w2.alloc (.cells #[.int .i64 0, .int .i64 0, .slice none 0 0, .slice none 0 0] 25)).heap.size (w2.alloc (.cells #[.int .i64 0, .int .i64 0, .slice none 0 0, .slice none 0 0] 25)) w3 := ⟨hb3.os, hb3.tape, hb3.output, hb3.size, hb3.block⟩; have ka := (ba.alloc (.cells #[.int .i64 0, .int .i64 0, .slice none 0 0, .slice none 0 0] 25)).below hb3'; have kb := (bb.alloc (.cells #[.int .i64 0, .int .i64 0, .slice none 0 0, .slice none 0 0] 25)).below hb3'; have kz := ((Box.new w2 #[.int .i64 0, .int .i64 0, .slice none 0 0, .slice none 0 0] 25).below hb3').at; have fz := fz_below (Box.new w2 #[.int .i64 0, .int .i64 0, .slice none 0 0, .slice none 0 0] 25).1 (fz_new w2 #[.int .i64 0, .int .i64 0, .slice none 0 0, .slice none 0 0] 25) hb3'; have HR3 := Lib.hid hr3; have HB3 := Lib.hid hb3'; clear hr3 hb3 hb3'))
  · have HG0 := Lib.hid (GF.boxed (w1 := w2) (v := ⟨⟨a.f.W + b.f.W, a.f.H, [], a.f.ps⟩, none, B', 0, 0, a.m, d'⟩) HB3.out ⟨World.ownsRow_nil _ _ _ _, HR3.out, fun p q h => by cases h⟩ 25)
    clear ca cb hwr ka kb HR3
    clear hp1 hp2
    dsimp only [Exit.then]
    refine gen_at (fun W => GF w2 w2.heap.size w2.heap.size W w3.heap.size ⟨⟨a.f.W + b.f.W, a.f.H, [], a.f.ps⟩, none, B', 0, 0, a.m, d'⟩) HG0.out ?_
    intro w5 hg5
    have HG5 := Lib.hid hg5
    clear HG0
    have co := hg5.box.at
    have HRR0 := HRR
    replace HRR := Lib.hid (HRR.out.on hg5.bel)
    clear hg5
    by_cases hL : 12 < a.f.W + b.f.W
    · have HF := Lib.hid (besR_large HZa.out HZb.out HHH.out hL)
      have cr := HRR.out.box.at
      have fr := HRR.out.fz
      go_wp2_with fail
      have cF := (HRR.out.box.four (.int .i64 0) (.int .i64 0) (.slice none 0 0) (.slice none 0 0)).at
      exact bodyPost_ret (v := .tuple #[.agg #[.int .i64 0, .int .i64 0, .slice none 0 0, .slice none 0 0], .int .i64 4]) (by simp [results, Try.results40, go_sem, cF]) rfl
        ⟨⟨zeroF, none, none, 0, 0, 0, 0⟩, by rw [HF.out], by rw [HF.out]; rfl, FOwn.zero _ _, res_bel HRR.out.bel HRR.out.le _ _ _ _⟩
    have HS := Lib.hid (besR_ok HZa.out HZb.out HHH.out hL)
    have hAB : An + Bn ≤ 12 := by omega
    have hHn : Hn ≤ 12 := by omega
    have c0 := (ba.below HG5.out.bel).at
    clear hL
    go_wp2_with fail
    clear c0 co
    go_loopw [47] (fun i wr => ∃ y : Nat, y ≤ Hn ∧ i = .int .i64 y ∧ ∃ A c, GF w2 w2.heap.size w2.heap.size wr w3.heap.size ⟨⟨a.f.W + b.f.W, a.f.H, rngs (besG a.f b.f) (y * (An + Bn)), a.f.ps⟩, A, B', y * (An + Bn), c, a.m, d'⟩) (fun i _ => Hn - (intOf i).toNat)
    case atStart => exact ⟨0, by omega, rfl, none, 0, by simpa [rngs] using HG5.out⟩
    case round =>
      clear HG5
      obtain ⟨y, hy, rfl, A, c, hgy⟩ := hrel
      by_cases hlt : y < Hn
      · have hlt' : (y : Int) < a.f.H := by omega
        have hyA : y * An + An ≤ Hn * An := by have := Nat.mul_le_mul_right An (show y + 1 ≤ Hn by omega); rwa [Nat.add_mul, Nat.one_mul] at this
        have hyB : y * Bn + Bn ≤ Hn * Bn := by have := Nat.mul_le_mul_right Bn (show y + 1 ≤ Hn by omega); rwa [Nat.add_mul, Nat.one_mul] at this
        have yA : y * An + An ≤ a.n := by rw [LA3.out]; exact hyA
        have yB : y * Bn + Bn ≤ b.n := by rw [LB3.out]; exact hyB
        have yAB : y * (An + Bn) ≤ 144 := Nat.le_trans (Nat.mul_le_mul (show y ≤ 12 by omega) hAB) (by omega)
        have R1 := Lib.hid (bes_row1 (b := b.f) (y := y) oa.out EAn.out EBn.out bw1 hlt')
        have R2 := Lib.hid (bes_row2 (a := a.f) (y := y) ob.out EAn.out EBn.out (by rw [← HHH.out]; exact hlt'))
        obtain ⟨pa, hpa, hra⟩ := ints_part (HVa.out.below hgy.bel).ds (k := y * An) (m := An) An0 yA
        have HRa := Lib.hid hra
        have HPa := Lib.hid hpa
        have ba1 := ba.below hgy.bel
        have bb1 := bb.below hgy.bel
        have HGy := Lib.hid hgy
        have hz1 : w2.heap.size ≤ wr.heap.size := hgy.bel.size
        have co := hgy.box.at
        have fo := hgy.fz
        have ca := ba1.at
        have x1 : (y : Int) * a.f.W = (y : Int) * (An : Int) := by rw [EAn.out]
        have x2 : ((y : Int) + 1) * a.f.W = (y : Int) * (An : Int) + (An : Int) := by rw [EAn.out, Int.add_mul, Int.one_mul]
        have yc : (y : Int) * (An : Int) = ((y * An : Nat) : Int) := by push_cast; rfl
        have s0 : (0 : Int) ≤ (y : Int) * (An : Int) := by omega
        have s1 : (y : Int) * (An : Int) ≤ max ((y : Int) * (An : Int) + (An : Int)) 0 := by omega
        have s01 : (0 : Int) ≤ (y : Int) * (An : Int) + (An : Int) := by omega
        have s2 : (y : Int) * (An : Int) + (An : Int) ≤ (a.c : Int) := by omega
        have s4 : ¬ a.c = y * An := by omega
        have s9 : (y : Int) * (An : Int) ≤ (y : Int) * (An : Int) + (An : Int) := by omega
        have s8 : y * An + An - y * An = An := by omega
        have t1 : ((y : Int) * (An : Int)).toNat = y * An := by omega
        have t2 : ((y : Int) * (An : Int) + (An : Int)).toNat = y * An + An := by omega
        have v1 : IntKind.i64.wrap ((y : Int) * (An : Int)) = (y : Int) * (An : Int) := IntWalk.i64_in _ (by omega)
        have v2 : IntKind.i64.wrap ((y : Int) * (An : Int) + (An : Int)) = (y : Int) * (An : Int) + (An : Int) := IntWalk.i64_in _ (by omega)
        have v3 : IntKind.i64.wrap ((y : Int) + 1) = (y : Int) + 1 := IntWalk.i64_in _ (by omega)
        clear yc
        clear hra hpa hgy
        go_wp2_with fail
        have HX6 := Lib.hid (show Option.map (fun x : Addr => x.add (y * An)) a.A = none → An = 0 ∧ a.c - y * An = 0 from fun h => by rw [HPa.out] at h; cases h)
        have HRM6 := Lib.hid (show Reads wr.drew wr.drew.heap.size 1 (Option.map (fun x : Addr => x.add (y * An)) a.A) An (ints ((a.f.ds.drop (y * An)).take An)) by rw [HPa.out]; exact HRa.out.drew)
        have HGD6 := Lib.hid (HGy.out.on (below_drewN' (Below.refl _ _) 1))
        refine wp_region_ht [0, 1, 2, 3, 4, 5, 6, 7, 8, 9, 10, 11, 12, 13, 15] [14, 16] (TwoB w.heap.size #[.int .i64 a.f.W, .int .i64 a.f.H, .slice a.A a.n a.c, .slice a.B a.m a.d] w3.heap.size #[.int .i64 (a.f.W + b.f.W), .int .i64 a.f.H, .slice A (y * (An + Bn)) c, .slice B' a.m d']) mixed (by kernel_rfl) ⟨ba1.drew.at, HGy.out.box.drew.at⟩ ?_
        repeat
          refine canonH_step (v := ?_) rfl (by rfl) ?_ ?_
          rotate_left
          · intro w hSw
            obtain ⟨s1_, s2_⟩ := hSw
            go_simp <;> with_reducible rfl
          simp only [List.getElem_toArray, List.getElem_cons_zero, List.getElem_cons_succ, Act.put, List.setIfInBounds_toArray, List.set_cons_succ, List.set_cons_zero]
        refine canonH_nil ?_
        refine tailW_step rfl ?_
        refine wpList_pushXn rfl _ _ 22 3 rfl Try.underlying22 info3 rfl (Nat.succ_pos _) (by decide) w2.heap.size _ A (y * (An + Bn)) c (ints (rngs (besG a.f b.f) (y * (An + Bn)))) _ An _ (ints ((a.f.ds.drop (y * An)).take An)) rfl HGD6.out.ds hz1 rfl HRM6.out HX6.out (ints_one _) (by omega) ?_
        intro A6 c6 w6 hr6 hg6 hnew
        rw [← ints_append, R1.out] at hr6
        have hg6' : wr.grownBy w6 (Value.slice A (y * (An + Bn)) c).ownBlock := ⟨hg6.os, hg6.tape, hg6.output, hg6.size, hg6.block⟩
        have bx6 := HGy.out.box.grown hg6' (fun k hk => by obtain ⟨p, hp, rfl⟩ := own_blk hk; exact HGy.out.nA p hp)
        have f6 := fz_grown HGy.out.box.1 HGy.out.fz hg6' (fun k hk => by obtain ⟨p, hp, rfl⟩ := own_blk hk; exact HGy.out.nA p hp)
        have HG6 := Lib.hid (HGy.out.putD hr6 hg6' hnew)
        have bp6 := ba1.grown hg6' (fun k hk => by have h1 := (HGy.out.ds.lt k hk).1; have h2 := ba.1; omega)
        have q6 := bx6.at
        clear hr6 hg6 hg6' hnew
        go_wp2_with fail
        refine ⟨⟨bp6.at, bx6.at⟩, ?_⟩
        refine tailW_last rfl ?_
        go_wp2_with fail
        refine NoPanic.normal ?_
        clear q6 f6 bx6 bp6 HX6 HRM6 HGD6
        refine gen_at (fun W => GF w2 w2.heap.size w2.heap.size W w3.heap.size ⟨⟨a.f.W + b.f.W, a.f.H, rngs (besG a.f b.f) (y * (An + Bn) + An), a.f.ps⟩, A6, B', y * (An + Bn) + An, c6, a.m, d'⟩) HG6.out ?_
        intro w7 hg7
        have HGn6 := Lib.hid hg7
        clear co fo ca x1 x2 s0 s1 s01 s2 s4 s9 s8 t1 t2 v1 v2 v3 ba1 bb1 HGy hz1 HRa HPa HG6
        have hz1 : w2.heap.size ≤ w7.heap.size := hg7.bel.size
        have bb1 := bb.below hg7.bel
        have cb := bb1.at
        have co := hg7.box.at
        obtain ⟨pb, hpb, hrb⟩ := ints_part (HVb.out.below hg7.bel).ds (k := y * Bn) (m := Bn) Bn0 yB
        have HRb := Lib.hid hrb
        have HPb := Lib.hid hpb
        have x1 : (y : Int) * b.f.W = (y : Int) * (Bn : Int) := by rw [EBn.out]
        have x2 : ((y : Int) + 1) * b.f.W = (y : Int) * (Bn : Int) + (Bn : Int) := by rw [EBn.out, Int.add_mul, Int.one_mul]
        have yc : (y : Int) * (Bn : Int) = ((y * Bn : Nat) : Int) := by push_cast; rfl
        have s0 : (0 : Int) ≤ (y : Int) * (Bn : Int) := by omega
        have s1 : (y : Int) * (Bn : Int) ≤ max ((y : Int) * (Bn : Int) + (Bn : Int)) 0 := by omega
        have s01 : (0 : Int) ≤ (y : Int) * (Bn : Int) + (Bn : Int) := by omega
        have s2 : (y : Int) * (Bn : Int) + (Bn : Int) ≤ (b.c : Int) := by omega
        have s4 : ¬ b.c = y * Bn := by omega
        have s9 : (y : Int) * (Bn : Int) ≤ (y : Int) * (Bn : Int) + (Bn : Int) := by omega
        have s8 : y * Bn + Bn - y * Bn = Bn := by omega
        have t1 : ((y : Int) * (Bn : Int)).toNat = y * Bn := by omega
        have t2 : ((y : Int) * (Bn : Int) + (Bn : Int)).toNat = y * Bn + Bn := by omega
        have v1 : IntKind.i64.wrap ((y : Int) * (Bn : Int)) = (y : Int) * (Bn : Int) := IntWalk.i64_in _ (by omega)
        have v2 : IntKind.i64.wrap ((y : Int) * (Bn : Int) + (Bn : Int)) = (y : Int) * (Bn : Int) + (Bn : Int) := IntWalk.i64_in _ (by omega)
        have v3 : IntKind.i64.wrap ((y : Int) + 1) = (y : Int) + 1 := IntWalk.i64_in _ (by omega)
        clear yc
        clear hrb hpb hg7
        go_wp2_with fail
        have HX8 := Lib.hid (show Option.map (fun x : Addr => x.add (y * Bn)) b.A = none → Bn = 0 ∧ b.c - y * Bn = 0 from fun h => by rw [HPb.out] at h; cases h)
        have HRM8 := Lib.hid (show Reads w7.drew w7.drew.heap.size 1 (Option.map (fun x : Addr => x.add (y * Bn)) b.A) Bn (ints ((b.f.ds.drop (y * Bn)).take Bn)) by rw [HPb.out]; exact HRb.out.drew)
        have HGD8 := Lib.hid (HGn6.out.on (below_drewN' (Below.refl _ _) 1))
        refine wp_region_ht [0, 1, 2, 3, 4, 5, 6, 7, 8, 9, 10, 11, 12, 13, 15] [14, 16] (TwoB (w.heap.size + 1) #[.int .i64 b.f.W, .int .i64 b.f.H, .slice b.A b.n b.c, .slice b.B b.m b.d] w3.heap.size #[.int .i64 (a.f.W + b.f.W), .int .i64 a.f.H, .slice A6 (y * (An + Bn) + An) c6, .slice B' a.m d']) mixed (by kernel_rfl) ⟨bb1.drew.at, HGn6.out.box.drew.at⟩ ?_
        repeat
          refine canonH_step (v := ?_) rfl (by rfl) ?_ ?_
          rotate_left
          · intro w hSw
            obtain ⟨s1_, s2_⟩ := hSw
            go_simp <;> with_reducible rfl
          simp only [List.getElem_toArray, List.getElem_cons_zero, List.getElem_cons_succ, Act.put, List.setIfInBounds_toArray, List.set_cons_succ, List.set_cons_zero]
        refine canonH_nil ?_
        refine tailW_step rfl ?_
        refine wpList_pushXn rfl _ _ 22 3 rfl Try.underlying22 info3 rfl (Nat.succ_pos _) (by decide) w2.heap.size _ A6 (y * (An + Bn) + An) c6 (ints (rngs (besG a.f b.f) (y * (An + Bn) + An))) _ Bn _ (ints ((b.f.ds.drop (y * Bn)).take Bn)) rfl HGD8.out.ds hz1 rfl HRM8.out HX8.out (ints_one _) (by omega) ?_
        intro A8 c8 w8 hr6 hg6 hnew
        rw [← ints_append, R2.out] at hr6
        have hg6' : w7.grownBy w8 (Value.slice A6 (y * (An + Bn) + An) c6).ownBlock := ⟨hg6.os, hg6.tape, hg6.output, hg6.size, hg6.block⟩
        have bx6 := HGn6.out.box.grown hg6' (fun k hk => by obtain ⟨p, hp, rfl⟩ := own_blk hk; exact HGn6.out.nA p hp)
        have f6 := fz_grown HGn6.out.box.1 HGn6.out.fz hg6' (fun k hk => by obtain ⟨p, hp, rfl⟩ := own_blk hk; exact HGn6.out.nA p hp)
        have HG8 := Lib.hid (HGn6.out.putD hr6 hg6' hnew)
        have bp6 := bb1.grown hg6' (fun k hk => by have h1 := (HGn6.out.ds.lt k hk).1; have h2 := bb.1; omega)
        have q6 := bx6.at
        clear hr6 hg6 hg6' hnew
        go_wp2_with fail
        refine ⟨⟨bp6.at, bx6.at⟩, ?_⟩
        refine tailW_last rfl ?_
        go_wp2_with fail
        refine NoPanic.normal ?_
        clear q6 f6 bx6 bp6 HX8 HRM8 HGD8
        refine gen_at (fun W => GF w2 w2.heap.size w2.heap.size W w3.heap.size ⟨⟨a.f.W + b.f.W, a.f.H, rngs (besG a.f b.f) ((y + 1) * (An + Bn)), a.f.ps⟩, A8, B', y * (An + Bn) + An + Bn, c8, a.m, d'⟩) HG8.out ?_
        intro w9 hg7
        have HGn8 := Lib.hid hg7
        have HNE := Lib.hid (show (y + 1) * (An + Bn) = y * (An + Bn) + An + Bn by rw [Nat.add_mul, Nat.one_mul]; omega)
        have HGn := Lib.hid hg7
        clear co cb x1 x2 s0 s1 s01 s2 s4 s9 s8 t1 t2 v1 v2 v3 hg7
        go_wp2_with fail
        go_roundw
        case rel => exact ⟨y + 1, by omega, by go_num, A8, c8, by rw [HNE.out]; rw [HNE.out] at HGn; exact HGn.out⟩
        case measure => simp [intOf]; omega
      · obtain rfl : y = Hn := by omega
        rw [bes_ds EAn.out EBn.out EHn.out] at hgy
        have HGy := Lib.hid hgy
        have bb1 := bb.below hgy.bel
        have cb := bb1.at
        clear hgy
        go_wp2_with fail
        clear cb
        go_loopw [86] (fun i wr => ∃ k : Nat, k ≤ b.m ∧ i = .int .i64 k ∧ ∃ Bp dp, GF w2 w2.heap.size w2.heap.size wr w3.heap.size ⟨⟨a.f.W + b.f.W, a.f.H, (besF a.f b.f).ds, a.f.ps ++ (b.f.ps.take k).map (shE a.f.W 0)⟩, A, Bp, y * (An + Bn), c, a.m + k, dp⟩) (fun i _ => b.m - (intOf i).toNat)
        case atStart => exact ⟨0, by omega, rfl, B', d', by simpa using HGy.out⟩
        case round =>
          clear HGy bb1
          obtain ⟨k, hk, rfl, Bp, dp, hgk⟩ := hrel
          have ba1 := ba.below hgk.bel
          have HGk := Lib.hid hgk
          have hzk : w2.heap.size ≤ wr.heap.size := hgk.bel.size
          by_cases hltk : k < b.m
          · obtain ⟨ad, e, e1, hbk, he, d0, d1, d2⟩ := psat (HVb.out.below hgk.bel).ps (k := k) (by rw [← HLB.out]; exact hltk)
            have X := fun w => ix23 (c := b.d) e1 hltk w
            have HPS := Lib.hid (take_map_succ (h := shE a.f.W 0) he)
            have hE := isE_x (ob.out.edge e (List.mem_of_getElem? he))
            obtain ⟨x, y', up⟩ := e
            obtain ⟨x0, x1⟩ := hE
            dsimp only at x0 x1
            have co := hgk.box.at
            have coA := fun o => (hgk.box.alloc o).at
            have ca := ba1.at
            have caA := fun o => (ba1.alloc o).at
            clear hgk he e1
            have HLM := Lib.hid (show a.m + k ≤ 200 by omega)
            go_wp2_with (at_builtin; refine wpList_pushGE2 rfl _ _ rfl w2.heap.size _ Bp (a.m + k) dp (a.f.ps ++ (b.f.ps.take k).map (shE a.f.W 0)) (x + a.f.W, y', up) _ rfl (HGk.out.on (belowAA _ _ _)).ps (by simp only [World.size_alloc]; omega) rfl (Box.new2 _ _ _ _ _) (by have := HLM.out; omega) ?_; intro B2 d2' w6 hr6 hg6 hnew; have g5 := HGk.out.on (belowAA wr (Obj.cells #[.int .i64 (x + a.f.W), .int .i64 y', .int .i64 up] 33) (Obj.cells #[.int .i64 (x + a.f.W), .int .i64 y', .int .i64 up] 33)); have bx6 := g5.box.grown hg6 (fun k hk => by obtain ⟨p, hp, rfl⟩ := own_blk hk; exact g5.nB p hp); have f6 := fz_grown g5.box.1 g5.fz hg6 (fun k hk => by obtain ⟨p, hp, rfl⟩ := own_blk hk; exact g5.nB p hp); have q6 := bx6.at; have HG6 := Lib.hid (g5.putR hr6 hg6 hnew); clear hr6 hg6 hnew g5 co coA ca caA d0 d1 d2)
            have HPS2 := Lib.hid (show (a.f.ps ++ (b.f.ps.take k).map (shE a.f.W 0)) ++ [(x + a.f.W, y', up)] = a.f.ps ++ (b.f.ps.take (k + 1)).map (shE a.f.W 0) by
              rw [← HPS.out, List.append_assoc]
              congr 3
              exact Prod.ext rfl (Prod.ext (by show y' = y' + 0; omega) rfl))
            clear bx6 q6 f6 X
            go_roundw
            case rel => exact ⟨k + 1, by omega, by go_num, B2, d2', by rw [← HPS2.out, ← Nat.add_assoc]; exact HG6.out⟩
            case measure => simp [intOf]; omega
          · have hres : Calls Try.prog 84 #[(⟨⟨a.f.W + b.f.W, a.f.H, (besF a.f b.f).ds, a.f.ps ++ (b.f.ps.take k).map (shE a.f.W 0)⟩, A, Bp, y * (An + Bn), c, a.m + k, dp⟩ : FV).val] wr (RetOwn (fin (besF a.f b.f)) (valid (besF a.f b.f)) w2) := by
              have h := result_any ⟨⟨a.f.W + b.f.W, a.f.H, (besF a.f b.f).ds, a.f.ps ++ (b.f.ps.take k).map (shE a.f.W 0)⟩, A, Bp, y * (An + Bn), c, a.m + k, dp⟩ w2 _ hgk.bel hgk.own (by show a.m + k ≤ _; omega)
              have e1 : (⟨a.f.W + b.f.W, a.f.H, (besF a.f b.f).ds, a.f.ps ++ (b.f.ps.take k).map (shE a.f.W 0)⟩ : Fld) = besF a.f b.f := by
                rw [List.take_of_length_le (by rw [← HLB.out]; omega)]; rfl
              dsimp only at h
              rw [e1, srt_of (bes_sorted oa.out ob.out)] at h
              exact h
            have HRES := Lib.hid hres
            have co := hgk.box.at
            have ca := ba1.at
            have HRk := Lib.hid (HRR0.out.on hgk.bel)
            clear hgk hres
            go_wp2_with fail
            with_reducible refine HRES.out.mono ?_
            rintro r w8 ⟨u', hu', rfl, ho5, hb5⟩
            have HU' := Lib.hid hu'
            have HO5 := Lib.hid ho5
            have HR5 := Lib.hid (HRR0.out.on hb5)
            have hlt1 := Lib.hid HRR0.out.box.1
            have cr := HR5.out.box.at
            have fr := HR5.out.fz
            clear hu' ho5 hb5 co ca ba1 HRk
            dsimp only [FV.val]
            go_wp2_with fail
            have cF := (HR5.out.box.four (.int .i64 u'.f.W) (.int .i64 u'.f.H) (.slice u'.A u'.n u'.c) (.slice u'.B u'.m u'.d)).at
            have HE := res_own HO5.out hlt1.out HR5.out.bel HR5.out.le hw1.out.size (.int .i64 u'.f.W) (.int .i64 u'.f.H) (.slice u'.A u'.n u'.c) (.slice u'.B u'.m u'.d)
            exact bodyPost_ret (v := .tuple #[.agg #[.int .i64 u'.f.W, .int .i64 u'.f.H, .slice u'.A u'.n u'.c, .slice u'.B u'.m u'.d], .int .i64 (valid (besF a.f b.f))]) (by simp [results, Try.results40, go_sem, cF]) rfl
              ⟨u', by rw [HU'.out, HS.out], by rw [HS.out], HE.1, HE.2⟩
  · have HG0 := Lib.hid (GF.boxed2 (B' := B') (m := a.m) (d := d') (ps := a.f.ps) HB3.out (row_mono HR3.out (by show w2.heap.size + 1 ≤ (w2.alloc _).heap.size; rw [World.size_alloc]; exact Nat.le_refl _)) (a.f.W + b.f.W) a.f.H)
    clear ca cb hwr ka kb HR3
    clear kz fz
    dsimp only [Exit.then]
    refine gen_at (fun W => GF w2 w2.heap.size w2.heap.size W w2.heap.size ⟨⟨a.f.W + b.f.W, a.f.H, [], a.f.ps⟩, none, B', 0, 0, a.m, d'⟩) HG0.out ?_
    intro w5 hg5
    have HG5 := Lib.hid hg5
    clear HG0
    have co := hg5.box.at
    have HRR0 := HRR
    replace HRR := Lib.hid (HRR.out.on hg5.bel)
    clear hg5
    by_cases hL : 12 < a.f.W + b.f.W
    · have HF := Lib.hid (besR_large HZa.out HZb.out HHH.out hL)
      have cr := HRR.out.box.at
      have fr := HRR.out.fz
      go_wp2_with fail
      have cF := (HRR.out.box.four (.int .i64 0) (.int .i64 0) (.slice none 0 0) (.slice none 0 0)).at
      exact bodyPost_ret (v := .tuple #[.agg #[.int .i64 0, .int .i64 0, .slice none 0 0, .slice none 0 0], .int .i64 4]) (by simp [results, Try.results40, go_sem, cF]) rfl
        ⟨⟨zeroF, none, none, 0, 0, 0, 0⟩, by rw [HF.out], by rw [HF.out]; rfl, FOwn.zero _ _, res_bel HRR.out.bel HRR.out.le _ _ _ _⟩
    have HS := Lib.hid (besR_ok HZa.out HZb.out HHH.out hL)
    have hAB : An + Bn ≤ 12 := by omega
    have hHn : Hn ≤ 12 := by omega
    have c0 := (ba.below HG5.out.bel).at
    clear hL
    go_wp2_with fail
    clear c0 co
    go_loopw [47] (fun i wr => ∃ y : Nat, y ≤ Hn ∧ i = .int .i64 y ∧ ∃ A c, GF w2 w2.heap.size w2.heap.size wr w2.heap.size ⟨⟨a.f.W + b.f.W, a.f.H, rngs (besG a.f b.f) (y * (An + Bn)), a.f.ps⟩, A, B', y * (An + Bn), c, a.m, d'⟩) (fun i _ => Hn - (intOf i).toNat)
    case atStart => exact ⟨0, by omega, rfl, none, 0, by simpa [rngs] using HG5.out⟩
    case round =>
      clear HG5
      obtain ⟨y, hy, rfl, A, c, hgy⟩ := hrel
      by_cases hlt : y < Hn
      · have hlt' : (y : Int) < a.f.H := by omega
        have hyA : y * An + An ≤ Hn * An := by have := Nat.mul_le_mul_right An (show y + 1 ≤ Hn by omega); rwa [Nat.add_mul, Nat.one_mul] at this
        have hyB : y * Bn + Bn ≤ Hn * Bn := by have := Nat.mul_le_mul_right Bn (show y + 1 ≤ Hn by omega); rwa [Nat.add_mul, Nat.one_mul] at this
        have yA : y * An + An ≤ a.n := by rw [LA3.out]; exact hyA
        have yB : y * Bn + Bn ≤ b.n := by rw [LB3.out]; exact hyB
        have yAB : y * (An + Bn) ≤ 144 := Nat.le_trans (Nat.mul_le_mul (show y ≤ 12 by omega) hAB) (by omega)
        have R1 := Lib.hid (bes_row1 (b := b.f) (y := y) oa.out EAn.out EBn.out bw1 hlt')
        have R2 := Lib.hid (bes_row2 (a := a.f) (y := y) ob.out EAn.out EBn.out (by rw [← HHH.out]; exact hlt'))
        obtain ⟨pa, hpa, hra⟩ := ints_part (HVa.out.below hgy.bel).ds (k := y * An) (m := An) An0 yA
        have HRa := Lib.hid hra
        have HPa := Lib.hid hpa
        have ba1 := ba.below hgy.bel
        have bb1 := bb.below hgy.bel
        have HGy := Lib.hid hgy
        have hz1 : w2.heap.size ≤ wr.heap.size := hgy.bel.size
        have co := hgy.box.at
        have fo := hgy.fz
        have ca := ba1.at
        have x1 : (y : Int) * a.f.W = (y : Int) * (An : Int) := by rw [EAn.out]
        have x2 : ((y : Int) + 1) * a.f.W = (y : Int) * (An : Int) + (An : Int) := by rw [EAn.out, Int.add_mul, Int.one_mul]
        have yc : (y : Int) * (An : Int) = ((y * An : Nat) : Int) := by push_cast; rfl
        have s0 : (0 : Int) ≤ (y : Int) * (An : Int) := by omega
        have s1 : (y : Int) * (An : Int) ≤ max ((y : Int) * (An : Int) + (An : Int)) 0 := by omega
        have s01 : (0 : Int) ≤ (y : Int) * (An : Int) + (An : Int) := by omega
        have s2 : (y : Int) * (An : Int) + (An : Int) ≤ (a.c : Int) := by omega
        have s4 : ¬ a.c = y * An := by omega
        have s9 : (y : Int) * (An : Int) ≤ (y : Int) * (An : Int) + (An : Int) := by omega
        have s8 : y * An + An - y * An = An := by omega
        have t1 : ((y : Int) * (An : Int)).toNat = y * An := by omega
        have t2 : ((y : Int) * (An : Int) + (An : Int)).toNat = y * An + An := by omega
        have v1 : IntKind.i64.wrap ((y : Int) * (An : Int)) = (y : Int) * (An : Int) := IntWalk.i64_in _ (by omega)
        have v2 : IntKind.i64.wrap ((y : Int) * (An : Int) + (An : Int)) = (y : Int) * (An : Int) + (An : Int) := IntWalk.i64_in _ (by omega)
        have v3 : IntKind.i64.wrap ((y : Int) + 1) = (y : Int) + 1 := IntWalk.i64_in _ (by omega)
        clear yc
        clear hra hpa hgy
        go_wp2_with fail
        have HX6 := Lib.hid (show Option.map (fun x : Addr => x.add (y * An)) a.A = none → An = 0 ∧ a.c - y * An = 0 from fun h => by rw [HPa.out] at h; cases h)
        have HRM6 := Lib.hid (show Reads wr.drew wr.drew.heap.size 1 (Option.map (fun x : Addr => x.add (y * An)) a.A) An (ints ((a.f.ds.drop (y * An)).take An)) by rw [HPa.out]; exact HRa.out.drew)
        have HGD6 := Lib.hid (HGy.out.on (below_drewN' (Below.refl _ _) 1))
        refine wp_region_ht [0, 1, 2, 3, 4, 5, 6, 7, 8, 9, 10, 11, 12, 13, 15] [14, 16] (TwoB w.heap.size #[.int .i64 a.f.W, .int .i64 a.f.H, .slice a.A a.n a.c, .slice a.B a.m a.d] w2.heap.size #[.int .i64 (a.f.W + b.f.W), .int .i64 a.f.H, .slice A (y * (An + Bn)) c, .slice B' a.m d']) mixed (by kernel_rfl) ⟨ba1.drew.at, HGy.out.box.drew.at⟩ ?_
        repeat
          refine canonH_step (v := ?_) rfl (by rfl) ?_ ?_
          rotate_left
          · intro w hSw
            obtain ⟨s1_, s2_⟩ := hSw
            go_simp <;> with_reducible rfl
          simp only [List.getElem_toArray, List.getElem_cons_zero, List.getElem_cons_succ, Act.put, List.setIfInBounds_toArray, List.set_cons_succ, List.set_cons_zero]
        refine canonH_nil ?_
        refine tailW_step rfl ?_
        refine wpList_pushXn rfl _ _ 22 3 rfl Try.underlying22 info3 rfl (Nat.succ_pos _) (by decide) w2.heap.size _ A (y * (An + Bn)) c (ints (rngs (besG a.f b.f) (y * (An + Bn)))) _ An _ (ints ((a.f.ds.drop (y * An)).take An)) rfl HGD6.out.ds hz1 rfl HRM6.out HX6.out (ints_one _) (by omega) ?_
        intro A6 c6 w6 hr6 hg6 hnew
        rw [← ints_append, R1.out] at hr6
        have hg6' : wr.grownBy w6 (Value.slice A (y * (An + Bn)) c).ownBlock := ⟨hg6.os, hg6.tape, hg6.output, hg6.size, hg6.block⟩
        have bx6 := HGy.out.box.grown hg6' (fun k hk => by obtain ⟨p, hp, rfl⟩ := own_blk hk; exact HGy.out.nA p hp)
        have f6 := fz_grown HGy.out.box.1 HGy.out.fz hg6' (fun k hk => by obtain ⟨p, hp, rfl⟩ := own_blk hk; exact HGy.out.nA p hp)
        have HG6 := Lib.hid (HGy.out.putD hr6 hg6' hnew)
        have bp6 := ba1.grown hg6' (fun k hk => by have h1 := (HGy.out.ds.lt k hk).1; have h2 := ba.1; omega)
        have q6 := bx6.at
        clear hr6 hg6 hg6' hnew
        go_wp2_with fail
        refine ⟨⟨bp6.at, bx6.at⟩, ?_⟩
        refine tailW_last rfl ?_
        go_wp2_with fail
        refine NoPanic.normal ?_
        clear q6 f6 bx6 bp6 HX6 HRM6 HGD6
        refine gen_at (fun W => GF w2 w2.heap.size w2.heap.size W w2.heap.size ⟨⟨a.f.W + b.f.W, a.f.H, rngs (besG a.f b.f) (y * (An + Bn) + An), a.f.ps⟩, A6, B', y * (An + Bn) + An, c6, a.m, d'⟩) HG6.out ?_
        intro w7 hg7
        have HGn6 := Lib.hid hg7
        clear co fo ca x1 x2 s0 s1 s01 s2 s4 s9 s8 t1 t2 v1 v2 v3 ba1 bb1 HGy hz1 HRa HPa HG6
        have hz1 : w2.heap.size ≤ w7.heap.size := hg7.bel.size
        have bb1 := bb.below hg7.bel
        have cb := bb1.at
        have co := hg7.box.at
        obtain ⟨pb, hpb, hrb⟩ := ints_part (HVb.out.below hg7.bel).ds (k := y * Bn) (m := Bn) Bn0 yB
        have HRb := Lib.hid hrb
        have HPb := Lib.hid hpb
        have x1 : (y : Int) * b.f.W = (y : Int) * (Bn : Int) := by rw [EBn.out]
        have x2 : ((y : Int) + 1) * b.f.W = (y : Int) * (Bn : Int) + (Bn : Int) := by rw [EBn.out, Int.add_mul, Int.one_mul]
        have yc : (y : Int) * (Bn : Int) = ((y * Bn : Nat) : Int) := by push_cast; rfl
        have s0 : (0 : Int) ≤ (y : Int) * (Bn : Int) := by omega
        have s1 : (y : Int) * (Bn : Int) ≤ max ((y : Int) * (Bn : Int) + (Bn : Int)) 0 := by omega
        have s01 : (0 : Int) ≤ (y : Int) * (Bn : Int) + (Bn : Int) := by omega
        have s2 : (y : Int) * (Bn : Int) + (Bn : Int) ≤ (b.c : Int) := by omega
        have s4 : ¬ b.c = y * Bn := by omega
        have s9 : (y : Int) * (Bn : Int) ≤ (y : Int) * (Bn : Int) + (Bn : Int) := by omega
        have s8 : y * Bn + Bn - y * Bn = Bn := by omega
        have t1 : ((y : Int) * (Bn : Int)).toNat = y * Bn := by omega
        have t2 : ((y : Int) * (Bn : Int) + (Bn : Int)).toNat = y * Bn + Bn := by omega
        have v1 : IntKind.i64.wrap ((y : Int) * (Bn : Int)) = (y : Int) * (Bn : Int) := IntWalk.i64_in _ (by omega)
        have v2 : IntKind.i64.wrap ((y : Int) * (Bn : Int) + (Bn : Int)) = (y : Int) * (Bn : Int) + (Bn : Int) := IntWalk.i64_in _ (by omega)
        have v3 : IntKind.i64.wrap ((y : Int) + 1) = (y : Int) + 1 := IntWalk.i64_in _ (by omega)
        clear yc
        clear hrb hpb hg7
        go_wp2_with fail
        have HX8 := Lib.hid (show Option.map (fun x : Addr => x.add (y * Bn)) b.A = none → Bn = 0 ∧ b.c - y * Bn = 0 from fun h => by rw [HPb.out] at h; cases h)
        have HRM8 := Lib.hid (show Reads w7.drew w7.drew.heap.size 1 (Option.map (fun x : Addr => x.add (y * Bn)) b.A) Bn (ints ((b.f.ds.drop (y * Bn)).take Bn)) by rw [HPb.out]; exact HRb.out.drew)
        have HGD8 := Lib.hid (HGn6.out.on (below_drewN' (Below.refl _ _) 1))
        refine wp_region_ht [0, 1, 2, 3, 4, 5, 6, 7, 8, 9, 10, 11, 12, 13, 15] [14, 16] (TwoB (w.heap.size + 1) #[.int .i64 b.f.W, .int .i64 b.f.H, .slice b.A b.n b.c, .slice b.B b.m b.d] w2.heap.size #[.int .i64 (a.f.W + b.f.W), .int .i64 a.f.H, .slice A6 (y * (An + Bn) + An) c6, .slice B' a.m d']) mixed (by kernel_rfl) ⟨bb1.drew.at, HGn6.out.box.drew.at⟩ ?_
        repeat
          refine canonH_step (v := ?_) rfl (by rfl) ?_ ?_
          rotate_left
          · intro w hSw
            obtain ⟨s1_, s2_⟩ := hSw
            go_simp <;> with_reducible rfl
          simp only [List.getElem_toArray, List.getElem_cons_zero, List.getElem_cons_succ, Act.put, List.setIfInBounds_toArray, List.set_cons_succ, List.set_cons_zero]
        refine canonH_nil ?_
        refine tailW_step rfl ?_
        refine wpList_pushXn rfl _ _ 22 3 rfl Try.underlying22 info3 rfl (Nat.succ_pos _) (by decide) w2.heap.size _ A6 (y * (An + Bn) + An) c6 (ints (rngs (besG a.f b.f) (y * (An + Bn) + An))) _ Bn _ (ints ((b.f.ds.drop (y * Bn)).take Bn)) rfl HGD8.out.ds hz1 rfl HRM8.out HX8.out (ints_one _) (by omega) ?_
        intro A8 c8 w8 hr6 hg6 hnew
        rw [← ints_append, R2.out] at hr6
        have hg6' : w7.grownBy w8 (Value.slice A6 (y * (An + Bn) + An) c6).ownBlock := ⟨hg6.os, hg6.tape, hg6.output, hg6.size, hg6.block⟩
        have bx6 := HGn6.out.box.grown hg6' (fun k hk => by obtain ⟨p, hp, rfl⟩ := own_blk hk; exact HGn6.out.nA p hp)
        have f6 := fz_grown HGn6.out.box.1 HGn6.out.fz hg6' (fun k hk => by obtain ⟨p, hp, rfl⟩ := own_blk hk; exact HGn6.out.nA p hp)
        have HG8 := Lib.hid (HGn6.out.putD hr6 hg6' hnew)
        have bp6 := bb1.grown hg6' (fun k hk => by have h1 := (HGn6.out.ds.lt k hk).1; have h2 := bb.1; omega)
        have q6 := bx6.at
        clear hr6 hg6 hg6' hnew
        go_wp2_with fail
        refine ⟨⟨bp6.at, bx6.at⟩, ?_⟩
        refine tailW_last rfl ?_
        go_wp2_with fail
        refine NoPanic.normal ?_
        clear q6 f6 bx6 bp6 HX8 HRM8 HGD8
        refine gen_at (fun W => GF w2 w2.heap.size w2.heap.size W w2.heap.size ⟨⟨a.f.W + b.f.W, a.f.H, rngs (besG a.f b.f) ((y + 1) * (An + Bn)), a.f.ps⟩, A8, B', y * (An + Bn) + An + Bn, c8, a.m, d'⟩) HG8.out ?_
        intro w9 hg7
        have HGn8 := Lib.hid hg7
        have HNE := Lib.hid (show (y + 1) * (An + Bn) = y * (An + Bn) + An + Bn by rw [Nat.add_mul, Nat.one_mul]; omega)
        have HGn := Lib.hid hg7
        clear co cb x1 x2 s0 s1 s01 s2 s4 s9 s8 t1 t2 v1 v2 v3 hg7
        go_wp2_with fail
        go_roundw
        case rel => exact ⟨y + 1, by omega, by go_num, A8, c8, by rw [HNE.out]; rw [HNE.out] at HGn; exact HGn.out⟩
        case measure => simp [intOf]; omega
      · obtain rfl : y = Hn := by omega
        rw [bes_ds EAn.out EBn.out EHn.out] at hgy
        have HGy := Lib.hid hgy
        have bb1 := bb.below hgy.bel
        have cb := bb1.at
        clear hgy
        go_wp2_with fail
        clear cb
        go_loopw [86] (fun i wr => ∃ k : Nat, k ≤ b.m ∧ i = .int .i64 k ∧ ∃ Bp dp, GF w2 w2.heap.size w2.heap.size wr w2.heap.size ⟨⟨a.f.W + b.f.W, a.f.H, (besF a.f b.f).ds, a.f.ps ++ (b.f.ps.take k).map (shE a.f.W 0)⟩, A, Bp, y * (An + Bn), c, a.m + k, dp⟩) (fun i _ => b.m - (intOf i).toNat)
        case atStart => exact ⟨0, by omega, rfl, B', d', by simpa using HGy.out⟩
        case round =>
          clear HGy bb1
          obtain ⟨k, hk, rfl, Bp, dp, hgk⟩ := hrel
          have ba1 := ba.below hgk.bel
          have HGk := Lib.hid hgk
          have hzk : w2.heap.size ≤ wr.heap.size := hgk.bel.size
          by_cases hltk : k < b.m
          · obtain ⟨ad, e, e1, hbk, he, d0, d1, d2⟩ := psat (HVb.out.below hgk.bel).ps (k := k) (by rw [← HLB.out]; exact hltk)
            have X := fun w => ix23 (c := b.d) e1 hltk w
            have HPS := Lib.hid (take_map_succ (h := shE a.f.W 0) he)
            have hE := isE_x (ob.out.edge e (List.mem_of_getElem? he))
            obtain ⟨x, y', up⟩ := e
            obtain ⟨x0, x1⟩ := hE
            dsimp only at x0 x1
            have co := hgk.box.at
            have coA := fun o => (hgk.box.alloc o).at
            have ca := ba1.at
            have caA := fun o => (ba1.alloc o).at
            clear hgk he e1
            have HLM := Lib.hid (show a.m + k ≤ 200 by omega)
            go_wp2_with (at_builtin; refine wpList_pushGE2 rfl _ _ rfl w2.heap.size _ Bp (a.m + k) dp (a.f.ps ++ (b.f.ps.take k).map (shE a.f.W 0)) (x + a.f.W, y', up) _ rfl (HGk.out.on (belowAA _ _ _)).ps (by simp only [World.size_alloc]; omega) rfl (Box.new2 _ _ _ _ _) (by have := HLM.out; omega) ?_; intro B2 d2' w6 hr6 hg6 hnew; have g5 := HGk.out.on (belowAA wr (Obj.cells #[.int .i64 (x + a.f.W), .int .i64 y', .int .i64 up] 33) (Obj.cells #[.int .i64 (x + a.f.W), .int .i64 y', .int .i64 up] 33)); have bx6 := g5.box.grown hg6 (fun k hk => by obtain ⟨p, hp, rfl⟩ := own_blk hk; exact g5.nB p hp); have f6 := fz_grown g5.box.1 g5.fz hg6 (fun k hk => by obtain ⟨p, hp, rfl⟩ := own_blk hk; exact g5.nB p hp); have q6 := bx6.at; have HG6 := Lib.hid (g5.putR hr6 hg6 hnew); clear hr6 hg6 hnew g5 co coA ca caA d0 d1 d2)
            have HPS2 := Lib.hid (show (a.f.ps ++ (b.f.ps.take k).map (shE a.f.W 0)) ++ [(x + a.f.W, y', up)] = a.f.ps ++ (b.f.ps.take (k + 1)).map (shE a.f.W 0) by
              rw [← HPS.out, List.append_assoc]
              congr 3
              exact Prod.ext rfl (Prod.ext (by show y' = y' + 0; omega) rfl))
            clear bx6 q6 f6 X
            go_roundw
            case rel => exact ⟨k + 1, by omega, by go_num, B2, d2', by rw [← HPS2.out, ← Nat.add_assoc]; exact HG6.out⟩
            case measure => simp [intOf]; omega
          · have hres : Calls Try.prog 84 #[(⟨⟨a.f.W + b.f.W, a.f.H, (besF a.f b.f).ds, a.f.ps ++ (b.f.ps.take k).map (shE a.f.W 0)⟩, A, Bp, y * (An + Bn), c, a.m + k, dp⟩ : FV).val] wr (RetOwn (fin (besF a.f b.f)) (valid (besF a.f b.f)) w2) := by
              have h := result_any ⟨⟨a.f.W + b.f.W, a.f.H, (besF a.f b.f).ds, a.f.ps ++ (b.f.ps.take k).map (shE a.f.W 0)⟩, A, Bp, y * (An + Bn), c, a.m + k, dp⟩ w2 _ hgk.bel hgk.own (by show a.m + k ≤ _; omega)
              have e1 : (⟨a.f.W + b.f.W, a.f.H, (besF a.f b.f).ds, a.f.ps ++ (b.f.ps.take k).map (shE a.f.W 0)⟩ : Fld) = besF a.f b.f := by
                rw [List.take_of_length_le (by rw [← HLB.out]; omega)]; rfl
              dsimp only at h
              rw [e1, srt_of (bes_sorted oa.out ob.out)] at h
              exact h
            have HRES := Lib.hid hres
            have co := hgk.box.at
            have ca := ba1.at
            have HRk := Lib.hid (HRR0.out.on hgk.bel)
            clear hgk hres
            go_wp2_with fail
            with_reducible refine HRES.out.mono ?_
            rintro r w8 ⟨u', hu', rfl, ho5, hb5⟩
            have HU' := Lib.hid hu'
            have HO5 := Lib.hid ho5
            have HR5 := Lib.hid (HRR0.out.on hb5)
            have hlt1 := Lib.hid HRR0.out.box.1
            have cr := HR5.out.box.at
            have fr := HR5.out.fz
            clear hu' ho5 hb5 co ca ba1 HRk
            dsimp only [FV.val]
            go_wp2_with fail
            have cF := (HR5.out.box.four (.int .i64 u'.f.W) (.int .i64 u'.f.H) (.slice u'.A u'.n u'.c) (.slice u'.B u'.m u'.d)).at
            have HE := res_own HO5.out hlt1.out HR5.out.bel HR5.out.le hw1.out.size (.int .i64 u'.f.W) (.int .i64 u'.f.H) (.slice u'.A u'.n u'.c) (.slice u'.B u'.m u'.d)
            exact bodyPost_ret (v := .tuple #[.agg #[.int .i64 u'.f.W, .int .i64 u'.f.H, .slice u'.A u'.n u'.c, .slice u'.B u'.m u'.d], .int .i64 (valid (besF a.f b.f))]) (by simp [results, Try.results40, go_sem, cF]) rfl
              ⟨u', by rw [HU'.out, HS.out], by rw [HS.out], HE.1, HE.2⟩
end Go.Proofs.Ytahmdnboeenfkaa

namespace Go.Proofs.Ytahmdnboeenfkaa
open Go.RowKit Go.Sort

set_option maxHeartbeats 4000000 in
set_option maxRecDepth 100000 in
theorem refBeside_any (a b : FV) (w : World) (ha : a.In w) (hb : b.In w) (hca : a.n ≤ a.c) (hcb : b.n ≤ b.c) :
    Calls Try.prog 41 #[a.val, b.val] w (RetOwn (besR a.f b.f).1 (besR a.f b.f).2 w) := by
  have HVa := Lib.hid ha
  have HVb := Lib.hid hb
  clear ha hb
  go_enter Try.func41, Try.ntmps41
  dsimp only [FV.val]
  go_wp2_with fail
  with_reducible refine (refValidate_any a _ (HVa.out.below (belowA3 _ _ _ _))).mono ?_
  rintro r w1 ⟨rfl, hb1⟩
  have hR := (ResB.new3 w #[.int .i64 a.f.W, .int .i64 a.f.H, .slice a.A a.n a.c, .slice a.B a.m a.d] #[.int .i64 b.f.W, .int .i64 b.f.H, .slice b.A b.n b.c, .slice b.B b.m b.d] 25 25).on hb1
  have ba := (((Box.new w #[.int .i64 a.f.W, .int .i64 a.f.H, .slice a.A a.n a.c, .slice a.B a.m a.d] 25).alloc (.cells #[.int .i64 b.f.W, .int .i64 b.f.H, .slice b.A b.n b.c, .slice b.B b.m b.d] 25)).alloc (.cells #[.int .i64 0, .int .i64 0, .slice none 0 0, .slice none 0 0] 25)).below hb1
  have bb := ((Box.new2 w #[.int .i64 a.f.W, .int .i64 a.f.H, .slice a.A a.n a.c, .slice a.B a.m a.d] #[.int .i64 b.f.W, .int .i64 b.f.H, .slice b.A b.n b.c, .slice b.B b.m b.d] 25 25).alloc (.cells #[.int .i64 0, .int .i64 0, .slice none 0 0, .slice none 0 0] 25)).below hb1
  have hw1 := Lib.hid (below_trans' (belowA3 w _ _ _) hb1)
  have HRR := Lib.hid hR
  clear hb1 hR
  by_cases hz : valid a.f = 0
  case neg =>
    have hz' : (valid a.f != 0) = true := by simpa using hz
    have HF := Lib.hid (besR_bad (b := b.f) hz)
    have cr := HRR.out.box.at
    have fr := HRR.out.fz
    clear hz
    go_wp2_with fail
    have cF := (HRR.out.box.four (.int .i64 0) (.int .i64 0) (.slice none 0 0) (.slice none 0 0)).at
    exact bodyPost_ret (v := .tuple #[.agg #[.int .i64 0, .int .i64 0, .slice none 0 0, .slice none 0 0], .int .i64 (valid a.f)]) (by simp [results, Try.results41, go_sem, cF]) rfl
      ⟨⟨zeroF, none, none, 0, 0, 0, 0⟩, by rw [HF.out], by rw [HF.out]; rfl, FOwn.zero _ _, res_bel HRR.out.bel HRR.out.le _ _ _ _⟩
  have oa := Lib.hid (okf_of_valid hz)
  have hz' : (valid a.f != 0) = false := by simpa using hz
  have HZa := Lib.hid hz
  replace HVa := Lib.hid (HVa.out.below hw1.out)
  replace HVb := Lib.hid (HVb.out.below hw1.out)
  clear hz
  have cb := bb.at
  go_wp2_with fail
  clear cb hz'
  with_reducible refine (refValidate_any b _ HVb.out).mono ?_
  rintro r w2 ⟨rfl, hb2⟩
  replace ba := ba.below hb2
  replace bb := bb.below hb2
  replace HVa := Lib.hid (HVa.out.below hb2)
  replace HVb := Lib.hid (HVb.out.below hb2)
  replace HRR := Lib.hid (HRR.out.on hb2)
  replace hw1 := Lib.hid (below_trans' hw1.out hb2)
  clear hb2
  by_cases hz : valid b.f = 0
  case neg =>
    have hz' : (valid b.f != 0) = true := by simpa using hz
    have HF := Lib.hid (besR_bad2 HZa.out hz)
    have cr := HRR.out.box.at
    have fr := HRR.out.fz
    clear hz
    go_wp2_with fail
    have cF := (HRR.out.box.four (.int .i64 0) (.int .i64 0) (.slice none 0 0) (.slice none 0 0)).at
    exact bodyPost_ret (v := .tuple #[.agg #[.int .i64 0, .int .i64 0, .slice none 0 0, .slice none 0 0], .int .i64 (valid b.f)]) (by simp [results, Try.results41, go_sem, cF]) rfl
      ⟨⟨zeroF, none, none, 0, 0, 0, 0⟩, by rw [HF.out], by rw [HF.out]; rfl, FOwn.zero _ _, res_bel HRR.out.bel HRR.out.le _ _ _ _⟩
  have ob := Lib.hid (okf_of_valid hz)
  have hz' : (valid b.f != 0) = false := by simpa using hz
  have HZb := Lib.hid hz
  clear hz
  by_cases hH : a.f.H = b.f.H
  case neg =>
    have hH' : (a.f.H != b.f.H) = true := by simpa using hH
    have HF := Lib.hid (besR_fit HZa.out HZb.out hH)
    have cr := HRR.out.box.at
    have fr := HRR.out.fz
    have ca := ba.at
    have cb := bb.at
    clear hH
    go_wp2_with fail
    have cF := (HRR.out.box.four (.int .i64 0) (.int .i64 0) (.slice none 0 0) (.slice none 0 0)).at
    exact bodyPost_ret (v := .tuple #[.agg #[.int .i64 0, .int .i64 0, .slice none 0 0, .slice none 0 0], .int .i64 8]) (by simp [results, Try.results41, go_sem, cF]) rfl
      ⟨⟨zeroF, none, none, 0, 0, 0, 0⟩, by rw [HF.out], by rw [HF.out]; rfl, FOwn.zero _ _, res_bel HRR.out.bel HRR.out.le _ _ _ _⟩
  have hH' : (a.f.H != b.f.H) = false := by simpa using hH
  have HHH := Lib.hid hH
  obtain ⟨n0, m0⟩ := okf_lens oa.out
  obtain ⟨n1, m1⟩ := okf_lens ob.out
  have aw1 := oa.out.w1
  have aw2 := oa.out.w2
  have ah1 := oa.out.h1
  have ah2 := oa.out.h2
  have bw1 := ob.out.w1
  have bw2 := ob.out.w2
  have la1 : a.n = a.f.ds.length := HVa.out.len
  have lb1 : b.n = b.f.ds.length := HVb.out.len
  have la2 : a.m = a.f.ps.length := HVa.out.lenp
  have lb2 : b.m = b.f.ps.length := HVb.out.lenp
  have HLA := Lib.hid la2
  have HLB := Lib.hid lb2
  have am : a.m ≤ 60 := by omega
  have bm : b.m ≤ 60 := by omega
  have hc0 : a.m ≤ 1000000 := by omega
  obtain ⟨An, hAn⟩ := Int.eq_ofNat_of_zero_le (show 0 ≤ a.f.W by omega)
  obtain ⟨Bn, hBn⟩ := Int.eq_ofNat_of_zero_le (show 0 ≤ b.f.W by omega)
  obtain ⟨Hn, hHn⟩ := Int.eq_ofNat_of_zero_le (show 0 ≤ a.f.H by omega)
  have la3 : a.n = Hn * An := by
    have h := oa.out.len
    rw [← la1, hAn, hHn, Int.mul_comm] at h
    exact_mod_cast h
  have lb3 : b.n = Hn * Bn := by
    have h := ob.out.len
    rw [← lb1, hBn, ← hH, hHn, Int.mul_comm] at h
    exact_mod_cast h
  have EAn := Lib.hid hAn
  have EBn := Lib.hid hBn
  have EHn := Lib.hid hHn
  have LA3 := Lib.hid la3
  have LB3 := Lib.hid lb3
  have an144 : a.n ≤ 144 := by omega
  have bn144 : b.n ≤ 144 := by omega
  have An0 : 0 < An := by omega
  have Bn0 : 0 < Bn := by omega
  have Hn0 : 0 < Hn := by omega
  have Ane : (An : Int) = a.f.W := hAn.symm
  have hA1 : (An : Int) ≤ a.f.W := by omega
  have hA2 : a.f.W ≤ (An : Int) := by omega
  have hB1 : (Bn : Int) ≤ b.f.W := by omega
  have hB2 : b.f.W ≤ (Bn : Int) := by omega
  have hH1 : (Hn : Int) ≤ a.f.H := by omega
  have hH2 : a.f.H ≤ (Hn : Int) := by omega
  clear hH la1 lb1 la2 lb2 la3 lb3 n0 m0 n1 m1 hAn hBn hHn Ane
  by_cases hL : 12 < a.f.W + b.f.W
  · have HF := Lib.hid (besR_large HZa.out HZb.out HHH.out hL)
    have cr := HRR.out.box.at
    have fr := HRR.out.fz
    have ca := ba.at
    have cb := bb.at
    go_wp2_with fail
    have cF := (HRR.out.box.four (.int .i64 0) (.int .i64 0) (.slice none 0 0) (.slice none 0 0)).at
    exact bodyPost_ret (v := .tuple #[.agg #[.int .i64 0, .int .i64 0, .slice none 0 0, .slice none 0 0], .int .i64 4]) (by simp [results, Try.results41, go_sem, cF]) rfl
      ⟨⟨zeroF, none, none, 0, 0, 0, 0⟩, by rw [HF.out], by rw [HF.out]; rfl, FOwn.zero _ _, res_bel HRR.out.bel HRR.out.le _ _ _ _⟩
  have HS := Lib.hid (besR_ok HZa.out HZb.out HHH.out hL)
  have hAB : An + Bn ≤ 12 := by omega
  have hHn : Hn ≤ 12 := by omega
  have ca := ba.at
  have cb := bb.at
  have caA := fun o => (ba.alloc o).at
  clear hL
  go_wp2_with fail
  have HRR0 := HRR
  have HG5 := Lib.hid (GF.new (a := w2.heap.size) (b := w2.heap.size) w2 w2 (Below.refl _ _) (a.f.W + b.f.W) a.f.H 25 (Nat.le_refl _) (Nat.le_refl _))
  refine gen_at (fun W => GF w2 w2.heap.size w2.heap.size W w2.heap.size ⟨⟨a.f.W + b.f.W, a.f.H, [], []⟩, none, none, 0, 0, 0, 0⟩) HG5.out ?_
  clear HG5 ca cb caA
  intro w5 hg5
  have HG5 := Lib.hid hg5
  clear hg5
  go_loopw [9] (fun i wr => ∃ y : Nat, y ≤ Hn ∧ i = .int .i64 y ∧ ∃ A c, GF w2 w2.heap.size w2.heap.size wr w2.heap.size ⟨⟨a.f.W + b.f.W, a.f.H, rngs (besG a.f b.f) (y * (An + Bn)), []⟩, A, none, y * (An + Bn), c, 0, 0⟩) (fun i _ => Hn - (intOf i).toNat)
  case atStart => exact ⟨0, by omega, rfl, none, 0, by simpa [rngs] using HG5.out⟩
  case round =>
    clear HG5
    obtain ⟨y, hy, rfl, A, c, hgy⟩ := hrel
    by_cases hlt : y < Hn
    · have hlt' : (y : Int) < a.f.H := by omega
      have hyA : y * An + An ≤ Hn * An := by have := Nat.mul_le_mul_right An (show y + 1 ≤ Hn by omega); rwa [Nat.add_mul, Nat.one_mul] at this
      have hyB : y * Bn + Bn ≤ Hn * Bn := by have := Nat.mul_le_mul_right Bn (show y + 1 ≤ Hn by omega); rwa [Nat.add_mul, Nat.one_mul] at this
      have yA : y * An + An ≤ a.n := by rw [LA3.out]; exact hyA
      have yB : y * Bn + Bn ≤ b.n := by rw [LB3.out]; exact hyB
      have yAB : y * (An + Bn) ≤ 144 := Nat.le_trans (Nat.mul_le_mul (show y ≤ 12 by omega) hAB) (by omega)
      have R1 := Lib.hid (bes_row1 (b := b.f) (y := y) oa.out EAn.out EBn.out bw1 hlt')
      have R2 := Lib.hid (bes_row2 (a := a.f) (y := y) ob.out EAn.out EBn.out (by rw [← HHH.out]; exact hlt'))
      obtain ⟨pa, hpa, hra⟩ := ints_part (HVa.out.below hgy.bel).ds (k := y * An) (m := An) An0 yA
      have HRa := Lib.hid hra
      have HPa := Lib.hid hpa
      have ba1 := ba.below hgy.bel
      have bb1 := bb.below hgy.bel
      have HGy := Lib.hid hgy
      have hz1 : w2.heap.size ≤ wr.heap.size := hgy.bel.size
      have co := hgy.box.at
      have fo := hgy.fz
      have ca := ba1.at
      have x1 : (y : Int) * a.f.W = (y : Int) * (An : Int) := by rw [EAn.out]
      have x2 : ((y : Int) + 1) * a.f.W = (y : Int) * (An : Int) + (An : Int) := by rw [EAn.out, Int.add_mul, Int.one_mul]
      have yc : (y : Int) * (An : Int) = ((y * An : Nat) : Int) := by push_cast; rfl
      have s0 : (0 : Int) ≤ (y : Int) * (An : Int) := by omega
      have s1 : (y : Int) * (An : Int) ≤ max ((y : Int) * (An : Int) + (An : Int)) 0 := by omega
      have s01 : (0 : Int) ≤ (y : Int) * (An : Int) + (An : Int) := by omega
      have s2 : (y : Int) * (An : Int) + (An : Int) ≤ (a.c : Int) := by omega
      have s4 : ¬ a.c = y * An := by omega
      have s9 : (y : Int) * (An : Int) ≤ (y : Int) * (An : Int) + (An : Int) := by omega
      have s8 : y * An + An - y * An = An := by omega
      have t1 : ((y : Int) * (An : Int)).toNat = y * An := by omega
      have t2 : ((y : Int) * (An : Int) + (An : Int)).toNat = y * An + An := by omega
      have v1 : IntKind.i64.wrap ((y : Int) * (An : Int)) = (y : Int) * (An : Int) := IntWalk.i64_in _ (by omega)
      have v2 : IntKind.i64.wrap ((y : Int) * (An : Int) + (An : Int)) = (y : Int) * (An : Int) + (An : Int) := IntWalk.i64_in _ (by omega)
      have v3 : IntKind.i64.wrap ((y : Int) + 1) = (y : Int) + 1 := IntWalk.i64_in _ (by omega)
      clear yc
      clear hra hpa hgy
      go_wp2_with fail
      have HX6 := Lib.hid (show Option.map (fun x : Addr => x.add (y * An)) a.A = none → An = 0 ∧ a.c - y * An = 0 from fun h => by rw [HPa.out] at h; cases h)
      have HRM6 := Lib.hid (show Reads wr.drew wr.drew.heap.size 1 (Option.map (fun x : Addr => x.add (y * An)) a.A) An (ints ((a.f.ds.drop (y * An)).take An)) by rw [HPa.out]; exact HRa.out.drew)
      have HGD6 := Lib.hid (HGy.out.on (below_drewN' (Below.refl _ _) 1))
      refine wp_region_ht [0, 1, 2, 3, 4, 5, 6, 7, 8, 9, 10, 11, 12, 13, 15] [14, 16] (TwoB w.heap.size #[.int .i64 a.f.W, .int .i64 a.f.H, .slice a.A a.n a.c, .slice a.B a.m a.d] w2.heap.size #[.int .i64 (a.f.W + b.f.W), .int .i64 a.f.H, .slice A (y * (An + Bn)) c, .slice none 0 0]) mixed (by kernel_rfl) ⟨ba1.drew.at, HGy.out.box.drew.at⟩ ?_
      repeat
        refine canonH_step (v := ?_) rfl (by rfl) ?_ ?_
        rotate_left
        · intro w hSw
          obtain ⟨s1_, s2_⟩ := hSw
          go_simp <;> with_reducible rfl
        simp only [List.getElem_toArray, List.getElem_cons_zero, List.getElem_cons_succ, Act.put, List.setIfInBounds_toArray, List.set_cons_succ, List.set_cons_zero]
      refine canonH_nil ?_
      refine tailW_step rfl ?_
      refine wpList_pushXn rfl _ _ 22 3 rfl Try.underlying22 info3 rfl (Nat.succ_pos _) (by decide) w2.heap.size _ A (y * (An + Bn)) c (ints (rngs (besG a.f b.f) (y * (An + Bn)))) _ An _ (ints ((a.f.ds.drop (y * An)).take An)) rfl HGD6.out.ds hz1 rfl HRM6.out HX6.out (ints_one _) (by omega) ?_
      intro A6 c6 w6 hr6 hg6 hnew
      rw [← ints_append, R1.out] at hr6
      have hg6' : wr.grownBy w6 (Value.slice A (y * (An + Bn)) c).ownBlock := ⟨hg6.os, hg6.tape, hg6.output, hg6.size, hg6.block⟩
      have bx6 := HGy.out.box.grown hg6' (fun k hk => by obtain ⟨p, hp, rfl⟩ := own_blk hk; exact HGy.out.nA p hp)
      have f6 := fz_grown HGy.out.box.1 HGy.out.fz hg6' (fun k hk => by obtain ⟨p, hp, rfl⟩ := own_blk hk; exact HGy.out.nA p hp)
      have HG6 := Lib.hid (HGy.out.putD hr6 hg6' hnew)
      have bp6 := ba1.grown hg6' (fun k hk => by have h1 := (HGy.out.ds.lt k hk).1; have h2 := ba.1; omega)
      have q6 := bx6.at
      clear hr6 hg6 hg6' hnew
      go_wp2_with fail
      refine ⟨⟨bp6.at, bx6.at⟩, ?_⟩
      refine tailW_last rfl ?_
      go_wp2_with fail
      refine NoPanic.normal ?_
      clear q6 f6 bx6 bp6 HX6 HRM6 HGD6
      refine gen_at (fun W => GF w2 w2.heap.size w2.heap.size W w2.heap.size ⟨⟨a.f.W + b.f.W, a.f.H, rngs (besG a.f b.f) (y * (An + Bn) + An), []⟩, A6, none, y * (An + Bn) + An, c6, 0, 0⟩) HG6.out ?_
      intro w7 hg7
      have HGn6 := Lib.hid hg7
      clear co fo ca x1 x2 s0 s1 s01 s2 s4 s9 s8 t1 t2 v1 v2 v3 ba1 bb1 HGy hz1 HRa HPa HG6
      have hz1 : w2.heap.size ≤ w7.heap.size := hg7.bel.size
      have bb1 := bb.below hg7.bel
      have cb := bb1.at
      have co := hg7.box.at
      obtain ⟨pb, hpb, hrb⟩ := ints_part (HVb.out.below hg7.bel).ds (k := y * Bn) (m := Bn) Bn0 yB
      have HRb := Lib.hid hrb
      have HPb := Lib.hid hpb
      have x1 : (y : Int) * b.f.W = (y : Int) * (Bn : Int) := by rw [EBn.out]
      have x2 : ((y : Int) + 1) * b.f.W = (y : Int) * (Bn : Int) + (Bn : Int) := by rw [EBn.out, Int.add_mul, Int.one_mul]
      have yc : (y : Int) * (Bn : Int) = ((y * Bn : Nat) : Int) := by push_cast; rfl
      have s0 : (0 : Int) ≤ (y : Int) * (Bn : Int) := by omega
      have s1 : (y : Int) * (Bn : Int) ≤ max ((y : Int) * (Bn : Int) + (Bn : Int)) 0 := by omega
      have s01 : (0 : Int) ≤ (y : Int) * (Bn : Int) + (Bn : Int) := by omega
      have s2 : (y : Int) * (Bn : Int) + (Bn : Int) ≤ (b.c : Int) := by omega
      have s4 : ¬ b.c = y * Bn := by omega
      have s9 : (y : Int) * (Bn : Int) ≤ (y : Int) * (Bn : Int) + (Bn : Int) := by omega
      have s8 : y * Bn + Bn - y * Bn = Bn := by omega
      have t1 : ((y : Int) * (Bn : Int)).toNat = y * Bn := by omega
      have t2 : ((y : Int) * (Bn : Int) + (Bn : Int)).toNat = y * Bn + Bn := by omega
      have v1 : IntKind.i64.wrap ((y : Int) * (Bn : Int)) = (y : Int) * (Bn : Int) := IntWalk.i64_in _ (by omega)
      have v2 : IntKind.i64.wrap ((y : Int) * (Bn : Int) + (Bn : Int)) = (y : Int) * (Bn : Int) + (Bn : Int) := IntWalk.i64_in _ (by omega)
      have v3 : IntKind.i64.wrap ((y : Int) + 1) = (y : Int) + 1 := IntWalk.i64_in _ (by omega)
      clear yc
      clear hrb hpb hg7
      go_wp2_with fail
      have HX8 := Lib.hid (show Option.map (fun x : Addr => x.add (y * Bn)) b.A = none → Bn = 0 ∧ b.c - y * Bn = 0 from fun h => by rw [HPb.out] at h; cases h)
      have HRM8 := Lib.hid (show Reads w7.drew w7.drew.heap.size 1 (Option.map (fun x : Addr => x.add (y * Bn)) b.A) Bn (ints ((b.f.ds.drop (y * Bn)).take Bn)) by rw [HPb.out]; exact HRb.out.drew)
      have HGD8 := Lib.hid (HGn6.out.on (below_drewN' (Below.refl _ _) 1))
      refine wp_region_ht [0, 1, 2, 3, 4, 5, 6, 7, 8, 9, 10, 11, 12, 13, 15] [14, 16] (TwoB (w.heap.size + 1) #[.int .i64 b.f.W, .int .i64 b.f.H, .slice b.A b.n b.c, .slice b.B b.m b.d] w2.heap.size #[.int .i64 (a.f.W + b.f.W), .int .i64 a.f.H, .slice A6 (y * (An + Bn) + An) c6, .slice none 0 0]) mixed (by kernel_rfl) ⟨bb1.drew.at, HGn6.out.box.drew.at⟩ ?_
      repeat
        refine canonH_step (v := ?_) rfl (by rfl) ?_ ?_
        rotate_left
        · intro w hSw
          obtain ⟨s1_, s2_⟩ := hSw
          go_simp <;> with_reducible rfl
        simp only [List.getElem_toArray, List.getElem_cons_zero, List.getElem_cons_succ, Act.put, List.setIfInBounds_toArray, List.set_cons_succ, List.set_cons_zero]
      refine canonH_nil ?_
      refine tailW_step rfl ?_
      refine wpList_pushXn rfl _ _ 22 3 rfl Try.underlying22 info3 rfl (Nat.succ_pos _) (by decide) w2.heap.size _ A6 (y * (An + Bn) + An) c6 (ints (rngs (besG a.f b.f) (y * (An + Bn) + An))) _ Bn _ (ints ((b.f.ds.drop (y * Bn)).take Bn)) rfl HGD8.out.ds hz1 rfl HRM8.out HX8.out (ints_one _) (by omega) ?_
      intro A8 c8 w8 hr6 hg6 hnew
      rw [← ints_append, R2.out] at hr6
      have hg6' : w7.grownBy w8 (Value.slice A6 (y * (An + Bn) + An) c6).ownBlock := ⟨hg6.os, hg6.tape, hg6.output, hg6.size, hg6.block⟩
      have bx6 := HGn6.out.box.grown hg6' (fun k hk => by obtain ⟨p, hp, rfl⟩ := own_blk hk; exact HGn6.out.nA p hp)
      have f6 := fz_grown HGn6.out.box.1 HGn6.out.fz hg6' (fun k hk => by obtain ⟨p, hp, rfl⟩ := own_blk hk; exact HGn6.out.nA p hp)
      have HG8 := Lib.hid (HGn6.out.putD hr6 hg6' hnew)
      have bp6 := bb1.grown hg6' (fun k hk => by have h1 := (HGn6.out.ds.lt k hk).1; have h2 := bb.1; omega)
      have q6 := bx6.at
      clear hr6 hg6 hg6' hnew
      go_wp2_with fail
      refine ⟨⟨bp6.at, bx6.at⟩, ?_⟩
      refine tailW_last rfl ?_
      go_wp2_with fail
      refine NoPanic.normal ?_
      clear q6 f6 bx6 bp6 HX8 HRM8 HGD8
      refine gen_at (fun W => GF w2 w2.heap.size w2.heap.size W w2.heap.size ⟨⟨a.f.W + b.f.W, a.f.H, rngs (besG a.f b.f) ((y + 1) * (An + Bn)), []⟩, A8, none, y * (An + Bn) + An + Bn, c8, 0, 0⟩) HG8.out ?_
      intro w9 hg7
      have HGn8 := Lib.hid hg7
      have HNE := Lib.hid (show (y + 1) * (An + Bn) = y * (An + Bn) + An + Bn by rw [Nat.add_mul, Nat.one_mul]; omega)
      have HGn := Lib.hid hg7
      clear co cb x1 x2 s0 s1 s01 s2 s4 s9 s8 t1 t2 v1 v2 v3 hg7
      go_wp2_with fail
      go_roundw
      case rel => exact ⟨y + 1, by omega, by go_num, A8, c8, by rw [HNE.out]; rw [HNE.out] at HGn; exact HGn.out⟩
      case measure => simp [intOf]; omega
    · obtain rfl : y = Hn := by omega
      rw [bes_ds EAn.out EBn.out EHn.out] at hgy
      have HGy := Lib.hid hgy
      have bb1 := bb.below hgy.bel
      have ba1 := ba.below hgy.bel
      have ca := ba1.at
      have co := hgy.box.at
      have fo := hgy.fz
      have hzy : w2.heap.size ≤ wr.heap.size := hgy.bel.size
      have HRP := Lib.hid (HVa.out.below hgy.bel).ps
      clear hgy
      go_wp2_with (at_builtin; refine wpList_pushXm rfl _ _ 23 33 rfl Try.underlying23 info33 rfl (Nat.succ_pos _) (by decide) w2.heap.size _ none 0 0 (edgs []) a.B a.m a.d (edgs a.f.ps) rfl HGy.out.ps hzy rfl HRP.out (edgs_one _) (by omega) ?_; intro B' d' w6 hr6 hg6 hnew; rw [← edgs_append, List.nil_append, Nat.zero_add] at hr6; rw [Nat.zero_add]; have bx6 := HGy.out.box.grown hg6 (fun k hk => by cases hk); have f6 := fz_grown HGy.out.box.1 HGy.out.fz hg6 (fun k hk => by cases hk); have q6 := bx6.at; have HG6 := Lib.hid (HGy.out.putR hr6 hg6 hnew); clear hr6 hg6 hnew)
      clear q6 f6 bx6 co fo ca ba1 bb1 HGy
      refine gen_at (fun W => GF w2 w2.heap.size w2.heap.size W w2.heap.size ⟨⟨a.f.W + b.f.W, a.f.H, (besF a.f b.f).ds, a.f.ps⟩, A, B', y * (An + Bn), c, a.m, d'⟩) HG6.out ?_
      clear HG6
      intro w7 hgy
      have HGy := Lib.hid hgy
      have bb1 := bb.below hgy.bel
      clear hgy
      go_loopw [10] (fun i wr => ∃ k : Nat, k ≤ b.m ∧ i = .int .i64 k ∧ ∃ Bp dp, GF w2 w2.heap.size w2.heap.size wr w2.heap.size ⟨⟨a.f.W + b.f.W, a.f.H, (besF a.f b.f).ds, a.f.ps ++ (b.f.ps.take k).map (shE a.f.W 0)⟩, A, Bp, y * (An + Bn), c, a.m + k, dp⟩) (fun i _ => b.m - (intOf i).toNat)
      case atStart => exact ⟨0, by omega, rfl, B', d', by simpa using HGy.out⟩
      case round =>
        clear HGy bb1
        obtain ⟨k, hk, rfl, Bp, dp, hgk⟩ := hrel
        have ba1 := ba.below hgk.bel
        have bb1 := bb.below hgk.bel
        have cb := bb1.at
        have cbA := fun o => (bb1.alloc o).at
        have HGk := Lib.hid hgk
        have hzk : w2.heap.size ≤ wr.heap.size := hgk.bel.size
        by_cases hltk : k < b.m
        · obtain ⟨ad, e, e1, hbk, he, d0, d1, d2⟩ := psat (HVb.out.below hgk.bel).ps (k := k) (by rw [← HLB.out]; exact hltk)
          have X := fun w => ix23 (c := b.d) e1 hltk w
          have HPS := Lib.hid (take_map_succ (h := shE a.f.W 0) he)
          have hE := isE_x (ob.out.edge e (List.mem_of_getElem? he))
          obtain ⟨x, y', up⟩ := e
          obtain ⟨x0, x1⟩ := hE
          dsimp only at x0 x1
          have co := hgk.box.at
          have coA := fun o => (hgk.box.alloc o).at
          have ca := ba1.at
          have caA := fun o => (ba1.alloc o).at
          clear hgk he e1
          have HLM := Lib.hid (show a.m + k ≤ 200 by omega)
          go_wp2_with (at_builtin; refine wpList_pushGE2 rfl _ _ rfl w2.heap.size _ Bp (a.m + k) dp (a.f.ps ++ (b.f.ps.take k).map (shE a.f.W 0)) (x + a.f.W, y', up) _ rfl (HGk.out.on (belowAA _ _ _)).ps (by simp only [World.size_alloc]; omega) rfl (Box.new2 _ _ _ _ _) (by have := HLM.out; omega) ?_; intro B2 d2' w6 hr6 hg6 hnew; have g5 := HGk.out.on (belowAA wr (Obj.cells #[.int .i64 x, .int .i64 y', .int .i64 up] 33) (Obj.cells #[.int .i64 (x + a.f.W), .int .i64 y', .int .i64 up] 33)); have bx6 := g5.box.grown hg6 (fun k hk => by obtain ⟨p, hp, rfl⟩ := own_blk hk; exact g5.nB p hp); have f6 := fz_grown g5.box.1 g5.fz hg6 (fun k hk => by obtain ⟨p, hp, rfl⟩ := own_blk hk; exact g5.nB p hp); have q6 := bx6.at; have HG6 := Lib.hid (g5.putR hr6 hg6 hnew); clear hr6 hg6 hnew g5 co coA ca caA d0 d1 d2)
          have HPS2 := Lib.hid (show (a.f.ps ++ (b.f.ps.take k).map (shE a.f.W 0)) ++ [(x + a.f.W, y', up)] = a.f.ps ++ (b.f.ps.take (k + 1)).map (shE a.f.W 0) by
            rw [← HPS.out, List.append_assoc]
            congr 3
            exact Prod.ext rfl (Prod.ext (by show y' = y' + 0; omega) rfl))
          clear bx6 q6 f6 X cb cbA
          go_roundw
          case rel => exact ⟨k + 1, by omega, by go_num, B2, d2', by rw [← HPS2.out, ← Nat.add_assoc]; exact HG6.out⟩
          case measure => simp [intOf]; omega
        · have hres : Calls Try.prog 86 #[(⟨⟨a.f.W + b.f.W, a.f.H, (besF a.f b.f).ds, a.f.ps ++ (b.f.ps.take k).map (shE a.f.W 0)⟩, A, Bp, y * (An + Bn), c, a.m + k, dp⟩ : FV).val] wr (RetOwn (fin (besF a.f b.f)) (valid (besF a.f b.f)) w2) := by
            have h := refResult_any ⟨⟨a.f.W + b.f.W, a.f.H, (besF a.f b.f).ds, a.f.ps ++ (b.f.ps.take k).map (shE a.f.W 0)⟩, A, Bp, y * (An + Bn), c, a.m + k, dp⟩ w2 _ hgk.bel hgk.own
            have e1 : (⟨a.f.W + b.f.W, a.f.H, (besF a.f b.f).ds, a.f.ps ++ (b.f.ps.take k).map (shE a.f.W 0)⟩ : Fld) = besF a.f b.f := by
              rw [List.take_of_length_le (by rw [← HLB.out]; omega)]; rfl
            dsimp only at h
            rw [e1] at h
            exact h
          have HRES := Lib.hid hres
          have co := hgk.box.at
          have ca := ba1.at
          have HRk := Lib.hid (HRR0.out.on hgk.bel)
          clear hgk hres
          go_wp2_with fail
          with_reducible refine HRES.out.mono ?_
          rintro r w8 ⟨u', hu', rfl, ho5, hb5⟩
          have HU' := Lib.hid hu'
          have HO5 := Lib.hid ho5
          have HR5 := Lib.hid (HRR0.out.on hb5)
          have hlt1 := Lib.hid HRR0.out.box.1
          have cr := HR5.out.box.at
          have fr := HR5.out.fz
          clear hu' ho5 hb5 co ca ba1 HRk cb cbA bb1
          dsimp only [FV.val]
          go_wp2_with fail
          have cF := (HR5.out.box.four (.int .i64 u'.f.W) (.int .i64 u'.f.H) (.slice u'.A u'.n u'.c) (.slice u'.B u'.m u'.d)).at
          have HE := res_own HO5.out hlt1.out HR5.out.bel HR5.out.le hw1.out.size (.int .i64 u'.f.W) (.int .i64 u'.f.H) (.slice u'.A u'.n u'.c) (.slice u'.B u'.m u'.d)
          exact bodyPost_ret (v := .tuple #[.agg #[.int .i64 u'.f.W, .int .i64 u'.f.H, .slice u'.A u'.n u'.c, .slice u'.B u'.m u'.d], .int .i64 (valid (besF a.f b.f))]) (by simp [results, Try.results41, go_sem, cF]) rfl
            ⟨u', by rw [HU'.out, HS.out], by rw [HS.out], HE.1, HE.2⟩
end Go.Proofs.Ytahmdnboeenfkaa

namespace Go.Proofs.Ytahmdnboeenfkaa
open Go.RowKit Go.Sort

theorem isE_xy {W H : Int} {e : Edg} (h : isE W H e = true) : 0 ≤ e.1 ∧ e.1 < W ∧ 0 ≤ e.2.1 ∧ e.2.1 < H := by
  unfold isE at h
  rw [decide_eq_true_eq] at h
  omega
set_option maxHeartbeats 4000000 in
set_option maxRecDepth 100000 in
theorem Crop_any (v : FV) (x y wd ht : Int) (w : World) (hv : v.In w) (hcc : v.n ≤ v.c) :
    Calls Try.prog 42 #[v.val, .int .i64 x, .int .i64 y, .int .i64 wd, .int .i64 ht] w (RetOwn (cropR v.f x y wd ht).1 (cropR v.f x y wd ht).2 w) := by
  have HV := Lib.hid hv
  clear hv
  go_enter Try.func42, Try.ntmps42
  dsimp only [FV.val]
  go_wp2_with fail
  with_reducible refine (validate_any v _ (HV.out.below (belowAA _ _ _))).mono ?_
  rintro r w1 ⟨rfl, hb1⟩
  have hR := (ResB.new w #[.int .i64 v.f.W, .int .i64 v.f.H, .slice v.A v.n v.c, .slice v.B v.m v.d] 25).on hb1
  have b0 := ((Box.new w #[.int .i64 v.f.W, .int .i64 v.f.H, .slice v.A v.n v.c, .slice v.B v.m v.d] 25).alloc (.cells #[.int .i64 0, .int .i64 0, .slice none 0 0, .slice none 0 0] 25)).below hb1
  have hw1 := Lib.hid (below2 _ _ hb1)
  have HRR := Lib.hid hR
  clear hb1 hR
  by_cases hz : valid v.f = 0
  case neg =>
    have hz' : (valid v.f != 0) = true := by simpa using hz
    have HF := Lib.hid (cropR_bad (x := x) (y := y) (w := wd) (h := ht) hz)
    have cr := HRR.out.box.at
    have fr := HRR.out.fz
    clear hz
    go_wp2_with fail
    have cF := (HRR.out.box.four (.int .i64 0) (.int .i64 0) (.slice none 0 0) (.slice none 0 0)).at
    exact bodyPost_ret (v := .tuple #[.agg #[.int .i64 0, .int .i64 0, .slice none 0 0, .slice none 0 0], .int .i64 (valid v.f)]) (by simp [results, Try.results42, go_sem, cF]) rfl
      ⟨⟨zeroF, none, none, 0, 0, 0, 0⟩, by rw [HF.out], by rw [HF.out]; rfl, FOwn.zero _ _, res_bel HRR.out.bel HRR.out.le _ _ _ _⟩
  have ok := Lib.hid (okf_of_valid hz)
  have hz' : (valid v.f != 0) = false := by simpa using hz
  have HZ := Lib.hid hz
  replace HV := Lib.hid (HV.out.below hw1.out)
  have okw1 := ok.out.w1
  have okw2 := ok.out.w2
  have okh1 := ok.out.h1
  have okh2 := ok.out.h2
  obtain ⟨n0, m0⟩ := okf_lens (okf_of_valid hz)
  have HLP := Lib.hid (show v.m = v.f.ps.length from HV.out.lenp)
  have HLD := Lib.hid (show v.n = v.f.ds.length from HV.out.len)
  have hm60 : v.m ≤ 60 := by have := HV.out.lenp; omega
  have hn144 : v.n ≤ 144 := by have := HV.out.len; omega
  clear hz n0 m0
  by_cases ho : cropOk v.f x y wd ht
  case neg =>
    have HF := Lib.hid (cropR_arg HZ.out ho)
    have hs : wd < 1 ∨ (1 ≤ wd ∧ (ht < 1 ∨ (1 ≤ ht ∧ (x < 0 ∨ (0 ≤ x ∧ (y < 0 ∨ (0 ≤ y ∧ (v.f.W < wd ∨ (wd ≤ v.f.W ∧ (v.f.H < ht ∨ (ht ≤ v.f.H ∧ (v.f.W - wd < x ∨ (x ≤ v.f.W - wd ∧ v.f.H - ht < y))))))))))))) := by
      unfold cropOk at ho
      omega
    clear ho
    have c0 := b0.at
    rcases hs with h1 | ⟨h1, h2 | ⟨h2, h3 | ⟨h3, h4 | ⟨h4, h5 | ⟨h5, h6 | ⟨h6, h7 | ⟨h7, h8⟩⟩⟩⟩⟩⟩⟩
    all_goals
      have cr := HRR.out.box.at
      have fr := HRR.out.fz
      go_wp2_with fail
      have cF := (HRR.out.box.four (.int .i64 0) (.int .i64 0) (.slice none 0 0) (.slice none 0 0)).at
      exact bodyPost_ret (v := .tuple #[.agg #[.int .i64 0, .int .i64 0, .slice none 0 0, .slice none 0 0], .int .i64 1]) (by simp [results, Try.results42, go_sem, cF]) rfl
        ⟨⟨zeroF, none, none, 0, 0, 0, 0⟩, by rw [HF.out], by rw [HF.out]; rfl, FOwn.zero _ _, res_bel HRR.out.bel HRR.out.le _ _ _ _⟩
  have HS := Lib.hid (cropR_ok HZ.out ho)
  have HOK := Lib.hid ho
  obtain ⟨c1, c2, c3, c4, c5, c6⟩ := ho
  obtain ⟨xn, rfl⟩ := Int.eq_ofNat_of_zero_le c3
  obtain ⟨yn, rfl⟩ := Int.eq_ofNat_of_zero_le c4
  obtain ⟨wn, rfl⟩ := Int.eq_ofNat_of_zero_le (show 0 ≤ wd by omega)
  obtain ⟨hn, rfl⟩ := Int.eq_ofNat_of_zero_le (show 0 ≤ ht by omega)
  obtain ⟨Fn, hFn⟩ := Int.eq_ofNat_of_zero_le (show 0 ≤ v.f.W by omega)
  obtain ⟨Hn, hHn⟩ := Int.eq_ofNat_of_zero_le (show 0 ≤ v.f.H by omega)
  have hds : v.n = Hn * Fn := by
    have h := ok.out.len
    rw [← HLD.out, hFn, hHn, Int.mul_comm] at h
    exact_mod_cast h
  have EF := Lib.hid hFn
  have HDS := Lib.hid hds
  have d1 : 1 ≤ wn := by omega
  have d2 : 1 ≤ hn := by omega
  have d3 : xn + wn ≤ Fn := by omega
  have d4 : yn + hn ≤ Hn := by omega
  have d5 : Fn ≤ 12 := by omega
  have d6 : Hn ≤ 12 := by omega
  have dH : (Hn : Int) = v.f.H := hHn.symm
  have EH := Lib.hid dH
  clear hFn hHn hds dH
  have c0 := b0.at
  have c0A := fun o => (b0.alloc o).at
  have g1 : (xn : Int) ≤ v.f.W - (wn : Int) := by omega
  have g2 : (yn : Int) ≤ v.f.H - (hn : Int) := by omega
  have g3 : (wn : Int) ≤ v.f.W := by omega
  have g4 : (hn : Int) ≤ v.f.H := by omega
  go_wp2_with fail
  clear c0 c0A
  have HG0 := Lib.hid (GF.new (a := w1.heap.size) (b := w1.heap.size) w1 w1 (Below.refl _ _) (wn : Int) (hn : Int) 25 (Nat.le_refl _) (Nat.le_refl _))
  refine gen_at (fun W => GF w1 w1.heap.size w1.heap.size W w1.heap.size ⟨⟨(wn : Int), (hn : Int), [], []⟩, none, none, 0, 0, 0, 0⟩) HG0.out ?_
  clear HG0
  intro w5 hg5
  have HG5 := Lib.hid hg5
  clear hg5
  go_loopw [71] (fun i wr => ∃ j : Nat, j ≤ hn ∧ i = .int .i64 j ∧ ∃ A c, GF w1 w1.heap.size w1.heap.size wr w1.heap.size ⟨⟨(wn : Int), (hn : Int), rngs (cropG v.f (xn : Int) (yn : Int) (wn : Int)) (j * wn), []⟩, A, none, j * wn, c, 0, 0⟩) (fun i _ => hn - (intOf i).toNat)
  case atStart => exact ⟨0, by omega, rfl, none, 0, by simpa [rngs] using HG5.out⟩
  case round =>
    clear HG5
    obtain ⟨j, hj, rfl, A, c, hgy⟩ := hrel
    by_cases hlt : j < hn
    · obtain ⟨P, hP⟩ : ∃ P : Nat, P = (yn + j) * Fn := ⟨_, rfl⟩
      obtain ⟨K, hK⟩ : ∃ K : Nat, K = P + xn := ⟨_, rfl⟩
      have hP1 : P + Fn ≤ Hn * Fn := by rw [hP]; have := Nat.mul_le_mul_right Fn (show yn + j + 1 ≤ Hn by omega); rwa [Nat.add_mul _ 1, Nat.one_mul] at this
      have hKn : K + wn ≤ v.n := by rw [HDS.out]; omega
      have hjw : j * wn ≤ 144 := Nat.le_trans (Nat.mul_le_mul (show j ≤ 12 by omega) (show wn ≤ 12 by omega)) (by omega)
      have R1 := Lib.hid (show rngs (cropG v.f (xn : Int) (yn : Int) (wn : Int)) (j * wn) ++ (v.f.ds.drop K).take wn = rngs (cropG v.f (xn : Int) (yn : Int) (wn : Int)) ((j + 1) * wn) by
        rw [hK, hP]
        exact crop_row ok.out EF.out rfl rfl rfl d3 (by rw [← EH.out]; omega))
      obtain ⟨pa, hpa, hra⟩ := ints_part (HV.out.below hgy.bel).ds (k := K) (m := wn) (by omega) hKn
      have HPa := Lib.hid hpa
      have HRa := Lib.hid hra
      have b1 := b0.below hgy.bel
      have HGy := Lib.hid hgy
      have hz1 : w1.heap.size ≤ wr.heap.size := hgy.bel.size
      have co := hgy.box.at
      have c0 := b1.at
      have e1 : ((yn : Int) + (j : Int)) * v.f.W = (P : Int) := by rw [EF.out, hP]; push_cast; rfl
      have e2 : (P : Int) + (xn : Int) = (K : Int) := by omega
      have hP2 : P ≤ 144 := by omega
      have hK2 : K + wn ≤ 144 := by omega
      have v1 : IntKind.i64.wrap (((yn : Int) + (j : Int)) * v.f.W) = (P : Int) := by rw [e1]; exact IntWalk.i64_in _ (by omega)
      clear hgy hpa hra hP hK
      go_wp2_with fail
      clear e1 e2 v1
      have s1 : (K : Int) ≤ max ((K : Int) + (wn : Int)) 0 := by omega
      have s01 : (0 : Int) ≤ (K : Int) + (wn : Int) := by omega
      have s2 : (K : Int) + (wn : Int) ≤ (v.c : Int) := by omega
      have s4 : ¬ v.c = K := by omega
      have s9 : (K : Int) ≤ (K : Int) + (wn : Int) := by omega
      have s8 : K + wn - K = wn := by omega
      have t2 : ((K : Int) + (wn : Int)).toNat = K + wn := by omega
      have v2 : IntKind.i64.wrap ((K : Int) + (wn : Int)) = (K : Int) + (wn : Int) := IntWalk.i64_in _ (by omega)
      have HX := Lib.hid (show Option.map (fun x : Addr => x.add K) v.A = none → wn = 0 ∧ v.c - K = 0 from fun h => by rw [HPa.out] at h; cases h)
      have HRM := Lib.hid (show Reads wr.drew wr.drew.heap.size 1 (Option.map (fun x : Addr => x.add K) v.A) wn (ints ((v.f.ds.drop K).take wn)) by rw [HPa.out]; exact HRa.out.drew)
      have HGD := Lib.hid (HGy.out.on (below_drewN' (Below.refl _ _) 1))
      refine wp_region_ht [0, 1, 2, 3, 4, 5, 6, 7, 8, 10] [9, 11] (TwoB w.heap.size #[.int .i64 v.f.W, .int .i64 v.f.H, .slice v.A v.n v.c, .slice v.B v.m v.d] w1.heap.size #[.int .i64 (wn : Int), .int .i64 (hn : Int), .slice A (j * wn) c, .slice none 0 0]) mixed (by kernel_rfl) ⟨b1.drew.at, HGy.out.box.drew.at⟩ ?_
      repeat
        refine canonH_step (v := ?_) rfl (by rfl) ?_ ?_
        rotate_left
        · intro w hSw
          obtain ⟨s1_, s2_⟩ := hSw
          go_simp <;> with_reducible rfl
        simp only [List.getElem_toArray, List.getElem_cons_zero, List.getElem_cons_succ, Act.put, List.setIfInBounds_toArray, List.set_cons_succ, List.set_cons_zero]
      refine canonH_nil ?_
      refine tailW_step rfl ?_
      refine wpList_pushXn rfl _ _ 22 3 rfl Try.underlying22 info3 rfl (Nat.succ_pos _) (by decide) w1.heap.size _ A (j * wn) c (ints (rngs (cropG v.f (xn : Int) (yn : Int) (wn : Int)) (j * wn))) _ wn _ (ints ((v.f.ds.drop K).take wn)) rfl HGD.out.ds hz1 rfl HRM.out HX.out (ints_one _) (by omega) ?_
      intro A6 c6' w6 hr6 hg6 hnew
      rw [← ints_append, R1.out] at hr6
      have hg6' : wr.grownBy w6 (Value.slice A (j * wn) c).ownBlock := ⟨hg6.os, hg6.tape, hg6.output, hg6.size, hg6.block⟩
      have bx6 := HGy.out.box.grown hg6' (fun k hk => by obtain ⟨p, hp, rfl⟩ := own_blk hk; exact HGy.out.nA p hp)
      have f6 := fz_grown HGy.out.box.1 HGy.out.fz hg6' (fun k hk => by obtain ⟨p, hp, rfl⟩ := own_blk hk; exact HGy.out.nA p hp)
      have HG6 := Lib.hid (HGy.out.putD hr6 hg6' hnew)
      have bp6 := b1.grown hg6' (fun k hk => by have h1 := (HGy.out.ds.lt k hk).1; have h2 := b0.1; omega)
      have q6 := bx6.at
      clear hr6 hg6 hg6' hnew
      go_wp2_with fail
      refine ⟨⟨bp6.at, bx6.at⟩, ?_⟩
      refine tailW_last rfl ?_
      go_wp2_with fail
      refine NoPanic.normal ?_
      have HNE := Lib.hid (show (j + 1) * wn = j * wn + wn by rw [Nat.add_mul, Nat.one_mul])
      clear q6 f6 bx6 bp6 HX HRM HGD co c0 s1 s01 s2 s4 s9 s8 t2 v2
      go_wp2_with fail
      go_roundw
      case rel => exact ⟨j + 1, by omega, by go_num, A6, c6', by rw [HNE.out]; rw [HNE.out] at HG6; exact HG6.out⟩
      case measure => simp [intOf]; omega
    · have hjn : hn = j := by omega
      subst hjn
      rw [crop_ds rfl rfl] at hgy
      have HGy := Lib.hid hgy
      have c0 := (b0.below hgy.bel).at
      clear hgy
      go_wp2_with fail
      clear c0
      go_loopw [97] (fun i wr => ∃ k : Nat, k ≤ v.m ∧ i = .int .i64 k ∧ ∃ Bp dp, GF w1 w1.heap.size w1.heap.size wr w1.heap.size ⟨⟨(wn : Int), (hn : Int), (cropF v.f xn yn wn hn).ds, ((v.f.ps.map (shE (-(xn : Int)) (-(yn : Int)))).take k).filter (fun e => isE (wn : Int) (hn : Int) e)⟩, A, Bp, hn * wn, c, (((v.f.ps.map (shE (-(xn : Int)) (-(yn : Int)))).take k).filter (fun e => isE (wn : Int) (hn : Int) e)).length, dp⟩) (fun i _ => v.m - (intOf i).toNat)
      case atStart => exact ⟨0, by omega, rfl, none, 0, by simpa using HGy.out⟩
      case round =>
        clear HGy
        obtain ⟨k, hk, rfl, Bp, dp, hgk⟩ := hrel
        have b1 := b0.below hgk.bel
        have HGk := Lib.hid hgk
        have hzk : w1.heap.size ≤ wr.heap.size := hgk.bel.size
        have hfl : (((v.f.ps.map (shE (-(xn : Int)) (-(yn : Int)))).take k).filter (fun e => isE (wn : Int) (hn : Int) e)).length ≤ 60 := by
          have h1 := List.length_filter_le (fun e => isE (wn : Int) (hn : Int) e) ((v.f.ps.map (shE (-(xn : Int)) (-(yn : Int)))).take k)
          have h2 := List.length_take_le k (v.f.ps.map (shE (-(xn : Int)) (-(yn : Int))))
          omega
        have c0 := b1.at
        by_cases hltk : k < v.m
        · obtain ⟨ad, e, e1, hbk, he, d0, d1', d2'⟩ := psat (HV.out.below hgk.bel).ps (k := k) (by rw [← HLP.out]; exact hltk)
          have X := fun w => ix23 (c := v.d) e1 hltk w
          have HTK := Lib.hid (take_succ_of (l := v.f.ps.map (shE (-(xn : Int)) (-(yn : Int)))) (k := k) (by rw [List.getElem?_map, he]; rfl))
          have hE := isE_xy (ok.out.edge e (List.mem_of_getElem? he))
          obtain ⟨ex, ey, up⟩ := e
          obtain ⟨x0, x1, y0, y1⟩ := hE
          dsimp only at x0 x1 y0 y1
          have co := hgk.box.at
          have coA := fun o => (hgk.box.alloc o).at
          have c0A := fun o => (b1.alloc o).at
          clear hgk he e1
          go_wp2_with fail
          clear co coA c0 c0A d0 d1' d2' X
          have HG1 := Lib.hid (HGk.out.on (belowA wr (.cells #[.int .i64 (ex - (xn : Int)), .int .i64 (ey - (yn : Int)), .int .i64 up] 33)))
          with_reducible refine (hasEdge_any ⟨⟨(wn : Int), (hn : Int), (cropF v.f xn yn wn hn).ds, ((v.f.ps.map (shE (-(xn : Int)) (-(yn : Int)))).take k).filter (fun e => isE (wn : Int) (hn : Int) e)⟩, A, Bp, hn * wn, c, (((v.f.ps.map (shE (-(xn : Int)) (-(yn : Int)))).take k).filter (fun e => isE (wn : Int) (hn : Int) e)).length, dp⟩ (ex - (xn : Int), ey - (yn : Int), up) _ (by show (1 : Int) ≤ (wn : Int); omega) (by show (wn : Int) ≤ 24; omega) (by show (1 : Int) ≤ (hn : Int); omega) (by show (hn : Int) ≤ 24; omega)).mono ?_
          rintro r w6 ⟨rfl, hb6⟩
          have HG2 := Lib.hid (HG1.out.on hb6)
          have be := (Box.new wr #[.int .i64 (ex - (xn : Int)), .int .i64 (ey - (yn : Int)), .int .i64 up] 33).below hb6
          have b2 := (b1.alloc (.cells #[.int .i64 (ex - (xn : Int)), .int .i64 (ey - (yn : Int)), .int .i64 up] 33)).below hb6
          have hz6 : w1.heap.size ≤ w6.heap.size := HG2.out.bel.size
          dsimp only
          cases hie : isE (wn : Int) (hn : Int) (ex - (xn : Int), ey - (yn : Int), up)
          · have HF := Lib.hid (show ((v.f.ps.map (shE (-(xn : Int)) (-(yn : Int)))).take (k + 1)).filter (fun e => isE (wn : Int) (hn : Int) e) = ((v.f.ps.map (shE (-(xn : Int)) (-(yn : Int)))).take k).filter (fun e => isE (wn : Int) (hn : Int) e) by
              rw [HTK.out, List.filter_append, List.filter_cons_of_neg (by simpa [shE, Int.sub_eq_add_neg] using hie)]; simp)
            clear hie hb6
            go_wp2_with fail
            go_roundw
            case rel => exact ⟨k + 1, by omega, by go_num, Bp, dp, by rw [HF.out]; exact HG2.out⟩
            case measure => simp [intOf]; omega
          · have HF := Lib.hid (show ((v.f.ps.map (shE (-(xn : Int)) (-(yn : Int)))).take (k + 1)).filter (fun e => isE (wn : Int) (hn : Int) e) = ((v.f.ps.map (shE (-(xn : Int)) (-(yn : Int)))).take k).filter (fun e => isE (wn : Int) (hn : Int) e) ++ [(ex - (xn : Int), ey - (yn : Int), up)] by
              rw [HTK.out, List.filter_append, List.filter_cons_of_pos (by simpa [shE, Int.sub_eq_add_neg] using hie)]; simp [shE, Int.sub_eq_add_neg])
            have co := HG2.out.box.at
            have coA := fun o => (HG2.out.box.alloc o).at
            have ce := be.at
            clear hie hb6
            go_wp2_with (at_builtin; refine wpList_pushGE2 rfl _ _ rfl w1.heap.size _ Bp (((v.f.ps.map (shE (-(xn : Int)) (-(yn : Int)))).take k).filter (fun e => isE (wn : Int) (hn : Int) e)).length dp (((v.f.ps.map (shE (-(xn : Int)) (-(yn : Int)))).take k).filter (fun e => isE (wn : Int) (hn : Int) e)) (ex - (xn : Int), ey - (yn : Int), up) _ rfl (HG2.out.on (belowA _ _)).ps (by rw [World.size_alloc]; omega) rfl (Box.new _ _ _) (by omega) ?_; intro B2 d2' w7 hr7 hg7 hnew; have g5 := HG2.out.on (belowA w6 (Obj.cells #[.int .i64 (ex - (xn : Int)), .int .i64 (ey - (yn : Int)), .int .i64 up] 33)); have bx6 := g5.box.grown hg7 (fun k hk => by obtain ⟨p, hp, rfl⟩ := own_blk hk; exact g5.nB p hp); have f6 := fz_grown g5.box.1 g5.fz hg7 (fun k hk => by obtain ⟨p, hp, rfl⟩ := own_blk hk; exact g5.nB p hp); have q6 := bx6.at; have HG7 := Lib.hid (g5.putR hr7 hg7 hnew); clear hr7 hg7 hnew g5 co coA ce)
            clear bx6 q6 f6
            go_roundw
            case rel => exact ⟨k + 1, by omega, by go_num, B2, d2', by rw [HF.out, List.length_append]; exact HG7.out⟩
            case measure => simp [intOf]; omega
        · have hres : Calls Try.prog 84 #[(⟨⟨(wn : Int), (hn : Int), (cropF v.f xn yn wn hn).ds, ((v.f.ps.map (shE (-(xn : Int)) (-(yn : Int)))).take k).filter (fun e => isE (wn : Int) (hn : Int) e)⟩, A, Bp, hn * wn, c, (((v.f.ps.map (shE (-(xn : Int)) (-(yn : Int)))).take k).filter (fun e => isE (wn : Int) (hn : Int) e)).length, dp⟩ : FV).val] wr (RetOwn (fin (cropF v.f xn yn wn hn)) (valid (cropF v.f xn yn wn hn)) w1) := by
            have h := result_any ⟨⟨(wn : Int), (hn : Int), (cropF v.f xn yn wn hn).ds, ((v.f.ps.map (shE (-(xn : Int)) (-(yn : Int)))).take k).filter (fun e => isE (wn : Int) (hn : Int) e)⟩, A, Bp, hn * wn, c, (((v.f.ps.map (shE (-(xn : Int)) (-(yn : Int)))).take k).filter (fun e => isE (wn : Int) (hn : Int) e)).length, dp⟩ w1 _ hgk.bel hgk.own (Nat.le_trans hfl (by decide))
            have e1 : (⟨(wn : Int), (hn : Int), (cropF v.f xn yn wn hn).ds, ((v.f.ps.map (shE (-(xn : Int)) (-(yn : Int)))).take k).filter (fun e => isE (wn : Int) (hn : Int) e)⟩ : Fld) = cropF v.f xn yn wn hn := by
              rw [List.take_of_length_le (by rw [List.length_map, ← HLP.out]; omega)]; rfl
            dsimp only at h
            rw [e1, srt_of (crop_sorted ok.out)] at h
            exact h
          have HRES := Lib.hid hres
          have co := hgk.box.at
          clear hgk hres HGk hfl
          go_wp2_with fail
          with_reducible refine HRES.out.mono ?_
          rintro r w8 ⟨u', hu', rfl, ho5, hb5⟩
          have HU' := Lib.hid hu'
          have HO5 := Lib.hid ho5
          have HR5 := Lib.hid (HRR.out.on hb5)
          have hlt1 := Lib.hid HRR.out.box.1
          have cr := HR5.out.box.at
          have fr := HR5.out.fz
          clear hu' ho5 hb5 co c0 b1
          dsimp only [FV.val]
          go_wp2_with fail
          have cF := (HR5.out.box.four (.int .i64 u'.f.W) (.int .i64 u'.f.H) (.slice u'.A u'.n u'.c) (.slice u'.B u'.m u'.d)).at
          have HE := res_own HO5.out hlt1.out HR5.out.bel HR5.out.le hw1.out.size (.int .i64 u'.f.W) (.int .i64 u'.f.H) (.slice u'.A u'.n u'.c) (.slice u'.B u'.m u'.d)
          exact bodyPost_ret (v := .tuple #[.agg #[.int .i64 u'.f.W, .int .i64 u'.f.H, .slice u'.A u'.n u'.c, .slice u'.B u'.m u'.d], .int .i64 (valid (cropF v.f xn yn wn hn))]) (by simp [results, Try.results42, go_sem, cF]) rfl
            ⟨u', by rw [HU'.out, HS.out], by rw [HS.out], HE.1, HE.2⟩
end Go.Proofs.Ytahmdnboeenfkaa

namespace Go.Proofs.Ytahmdnboeenfkaa
open Go.RowKit Go.Sort

theorem cropG_succ {f : Fld} {x y : Int} {wn j i : Nat} (hi : i < wn) : rngs (cropG f x y (wn : Int)) (j * wn + i) ++ [f.dir (x + (i : Int)) (y + (j : Int))] = rngs (cropG f x y (wn : Int)) (j * wn + i + 1) := by
  rw [← rngs_succ, cropG_at rfl hi]
set_option maxHeartbeats 4000000 in
set_option maxRecDepth 100000 in
theorem refCrop_any (v : FV) (x y wd ht : Int) (w : World) (hv : v.In w) :
    Calls Try.prog 43 #[v.val, .int .i64 x, .int .i64 y, .int .i64 wd, .int .i64 ht] w (RetOwn (cropR v.f x y wd ht).1 (cropR v.f x y wd ht).2 w) := by
  have HV := Lib.hid hv
  clear hv
  go_enter Try.func43, Try.ntmps43
  dsimp only [FV.val]
  go_wp2_with fail
  with_reducible refine (refValidate_any v _ (HV.out.below (belowAA _ _ _))).mono ?_
  rintro r w1 ⟨rfl, hb1⟩
  have hR := (ResB.new w #[.int .i64 v.f.W, .int .i64 v.f.H, .slice v.A v.n v.c, .slice v.B v.m v.d] 25).on hb1
  have b0 := ((Box.new w #[.int .i64 v.f.W, .int .i64 v.f.H, .slice v.A v.n v.c, .slice v.B v.m v.d] 25).alloc (.cells #[.int .i64 0, .int .i64 0, .slice none 0 0, .slice none 0 0] 25)).below hb1
  have hw1 := Lib.hid (below2 _ _ hb1)
  have HRR := Lib.hid hR
  clear hb1 hR
  by_cases hz : valid v.f = 0
  case neg =>
    have hz' : (valid v.f != 0) = true := by simpa using hz
    have HF := Lib.hid (cropR_bad (x := x) (y := y) (w := wd) (h := ht) hz)
    have cr := HRR.out.box.at
    have fr := HRR.out.fz
    clear hz
    go_wp2_with fail
    have cF := (HRR.out.box.four (.int .i64 0) (.int .i64 0) (.slice none 0 0) (.slice none 0 0)).at
    exact bodyPost_ret (v := .tuple #[.agg #[.int .i64 0, .int .i64 0, .slice none 0 0, .slice none 0 0], .int .i64 (valid v.f)]) (by simp [results, Try.results43, go_sem, cF]) rfl
      ⟨⟨zeroF, none, none, 0, 0, 0, 0⟩, by rw [HF.out], by rw [HF.out]; rfl, FOwn.zero _ _, res_bel HRR.out.bel HRR.out.le _ _ _ _⟩
  have ok := Lib.hid (okf_of_valid hz)
  have hz' : (valid v.f != 0) = false := by simpa using hz
  have HZ := Lib.hid hz
  replace HV := Lib.hid (HV.out.below hw1.out)
  have okw1 := ok.out.w1
  have okw2 := ok.out.w2
  have okh1 := ok.out.h1
  have okh2 := ok.out.h2
  obtain ⟨n0, m0⟩ := okf_lens (okf_of_valid hz)
  have HLP := Lib.hid (show v.m = v.f.ps.length from HV.out.lenp)
  have HLD := Lib.hid (show v.n = v.f.ds.length from HV.out.len)
  have hm60 : v.m ≤ 60 := by have := HV.out.lenp; omega
  have hn144 : v.n ≤ 144 := by have := HV.out.len; omega
  clear hz n0 m0
  have c0 := b0.at
  go_wp2_with fail
  clear c0
  with_reducible refine (isPlace_any v x y _ okw1 okw2 okh1 okh2).mono ?_
  rintro r w2 ⟨rfl, hb2⟩
  replace b0 := b0.below hb2
  replace HV := Lib.hid (HV.out.below hb2)
  replace HRR := Lib.hid (HRR.out.on hb2)
  replace hw1 := Lib.hid (below_trans' hw1.out hb2)
  clear hb2
  by_cases ho : cropOk v.f x y wd ht
  case neg =>
    have HF := Lib.hid (cropR_arg HZ.out ho)
    cases hp : isP v.f.W v.f.H x y
    · clear ho hp
      have cr := HRR.out.box.at
      have fr := HRR.out.fz
      go_wp2_with fail
      have cF := (HRR.out.box.four (.int .i64 0) (.int .i64 0) (.slice none 0 0) (.slice none 0 0)).at
      exact bodyPost_ret (v := .tuple #[.agg #[.int .i64 0, .int .i64 0, .slice none 0 0, .slice none 0 0], .int .i64 1]) (by simp [results, Try.results43, go_sem, cF]) rfl
        ⟨⟨zeroF, none, none, 0, 0, 0, 0⟩, by rw [HF.out], by rw [HF.out]; rfl, FOwn.zero _ _, res_bel HRR.out.bel HRR.out.le _ _ _ _⟩
    have hp' := hp
    unfold isP at hp'
    rw [decide_eq_true_eq] at hp'
    obtain ⟨p0, p1, p2, p3⟩ := hp'
    have c0 := b0.at
    by_cases h1 : 1 ≤ wd ∧ wd ≤ v.f.W - x
    · have h2 : ¬ (1 ≤ ht ∧ ht ≤ v.f.H - y) := by unfold cropOk at ho; omega
      clear ho hp
      go_wp2_with fail
      with_reducible refine (within_t wd 1 (v.f.W - x) _ h1).mono ?_
      rintro r w' ⟨rfl, rfl⟩
      go_wp2_with fail
      with_reducible refine (within_f ht 1 (v.f.H - y) _ h2).mono ?_
      rintro r w' ⟨rfl, rfl⟩
      have cr := HRR.out.box.at
      have fr := HRR.out.fz
      go_wp2_with fail
      have cF := (HRR.out.box.four (.int .i64 0) (.int .i64 0) (.slice none 0 0) (.slice none 0 0)).at
      exact bodyPost_ret (v := .tuple #[.agg #[.int .i64 0, .int .i64 0, .slice none 0 0, .slice none 0 0], .int .i64 1]) (by simp [results, Try.results43, go_sem, cF]) rfl
        ⟨⟨zeroF, none, none, 0, 0, 0, 0⟩, by rw [HF.out], by rw [HF.out]; rfl, FOwn.zero _ _, res_bel HRR.out.bel HRR.out.le _ _ _ _⟩
    · clear ho hp
      go_wp2_with fail
      with_reducible refine (within_f wd 1 (v.f.W - x) _ h1).mono ?_
      rintro r w' ⟨rfl, rfl⟩
      have cr := HRR.out.box.at
      have fr := HRR.out.fz
      go_wp2_with fail
      have cF := (HRR.out.box.four (.int .i64 0) (.int .i64 0) (.slice none 0 0) (.slice none 0 0)).at
      exact bodyPost_ret (v := .tuple #[.agg #[.int .i64 0, .int .i64 0, .slice none 0 0, .slice none 0 0], .int .i64 1]) (by simp [results, Try.results43, go_sem, cF]) rfl
        ⟨⟨zeroF, none, none, 0, 0, 0, 0⟩, by rw [HF.out], by rw [HF.out]; rfl, FOwn.zero _ _, res_bel HRR.out.bel HRR.out.le _ _ _ _⟩
  have HS := Lib.hid (cropR_ok HZ.out ho)
  have HOK := Lib.hid ho
  obtain ⟨c1, c2, c3, c4, c5, c6⟩ := ho
  have hp : isP v.f.W v.f.H x y = true := by unfold isP; rw [decide_eq_true_eq]; omega
  have h1 : 1 ≤ wd ∧ wd ≤ v.f.W - x := by omega
  have h2 : 1 ≤ ht ∧ ht ≤ v.f.H - y := by omega
  rw [hp]
  have H1 := Lib.hid h1
  have H2 := Lib.hid h2
  clear hp h1 h2
  obtain ⟨xn, rfl⟩ := Int.eq_ofNat_of_zero_le c3
  obtain ⟨yn, rfl⟩ := Int.eq_ofNat_of_zero_le c4
  obtain ⟨wn, rfl⟩ := Int.eq_ofNat_of_zero_le (show 0 ≤ wd by omega)
  obtain ⟨hn, rfl⟩ := Int.eq_ofNat_of_zero_le (show 0 ≤ ht by omega)
  obtain ⟨Fn, hFn⟩ := Int.eq_ofNat_of_zero_le (show 0 ≤ v.f.W by omega)
  obtain ⟨Hn, hHn⟩ := Int.eq_ofNat_of_zero_le (show 0 ≤ v.f.H by omega)
  have hds : v.n = Hn * Fn := by
    have h := ok.out.len
    rw [← HLD.out, hFn, hHn, Int.mul_comm] at h
    exact_mod_cast h
  have EF := Lib.hid hFn
  have HDS := Lib.hid hds
  have d1 : 1 ≤ wn := by omega
  have d2 : 1 ≤ hn := by omega
  have d3 : xn + wn ≤ Fn := by omega
  have d4 : yn + hn ≤ Hn := by omega
  have d5 : Fn ≤ 12 := by omega
  have d6 : Hn ≤ 12 := by omega
  have dH : (Hn : Int) = v.f.H := hHn.symm
  have EH := Lib.hid dH
  clear hFn hHn hds dH
  have c0 := b0.at
  have c0A := fun o => (b0.alloc o).at
  go_wp2_with fail
  with_reducible refine (within_t (wn : Int) 1 (v.f.W - (xn : Int)) _ H1.out).mono ?_
  rintro r w' ⟨rfl, rfl⟩
  go_wp2_with fail
  with_reducible refine (within_t (hn : Int) 1 (v.f.H - (yn : Int)) _ H2.out).mono ?_
  rintro r w' ⟨rfl, rfl⟩
  go_wp2_with fail
  clear c0 c0A
  have HG0 := Lib.hid (GF.new (a := w2.heap.size) (b := w2.heap.size) w2 w2 (Below.refl _ _) (wn : Int) (hn : Int) 25 (Nat.le_refl _) (Nat.le_refl _))
  refine gen_at (fun W => GF w2 w2.heap.size w2.heap.size W w2.heap.size ⟨⟨(wn : Int), (hn : Int), [], []⟩, none, none, 0, 0, 0, 0⟩) HG0.out ?_
  clear HG0
  intro w5 hg5
  have HG5 := Lib.hid hg5
  clear hg5
  go_loopw [14] (fun i wr => ∃ j : Nat, j ≤ hn ∧ i = .int .i64 ((yn : Int) + (j : Int)) ∧ ∃ A c, GF w2 w2.heap.size w2.heap.size wr w2.heap.size ⟨⟨(wn : Int), (hn : Int), rngs (cropG v.f (xn : Int) (yn : Int) (wn : Int)) (j * wn), []⟩, A, none, j * wn, c, 0, 0⟩) (fun i _ => ((yn : Int) + (hn : Int) - intOf i).toNat)
  case atStart => exact ⟨0, by omega, by simp, none, 0, by simpa [rngs] using HG5.out⟩
  case round =>
    clear HG5
    obtain ⟨j, hj, rfl, A, c, hgy⟩ := hrel
    have hjw : j * wn ≤ 144 := Nat.le_trans (Nat.mul_le_mul (show j ≤ 12 by omega) (show wn ≤ 12 by omega)) (by omega)
    by_cases hlt : j < hn
    · have HGy := Lib.hid hgy
      clear hgy
      go_wp2_with fail
      go_loopw [15] (fun i wr => ∃ i' : Nat, i' ≤ wn ∧ i = .int .i64 ((xn : Int) + (i' : Int)) ∧ ∃ A c, GF w2 w2.heap.size w2.heap.size wr w2.heap.size ⟨⟨(wn : Int), (hn : Int), rngs (cropG v.f (xn : Int) (yn : Int) (wn : Int)) (j * wn + i'), []⟩, A, none, j * wn + i', c, 0, 0⟩) (fun i _ => ((xn : Int) + (wn : Int) - intOf i).toNat)
      case atStart => exact ⟨0, by omega, by simp, A, c, HGy.out⟩
      case round =>
        clear HGy
        obtain ⟨i, hi, rfl, A2, c2, hgx⟩ := hrel
        by_cases hlti : i < wn
        · have HGx := Lib.hid hgx
          have hzx : w2.heap.size ≤ wr.heap.size := hgx.bel.size
          have b3 := b0.below hgx.bel
          have HV3 := Lib.hid (HV.out.below hgx.bel)
          have Q0 := Lib.hid (fun w5 (hb : Below wr.heap.size wr w5) => refAt_any v ((xn : Int) + (i : Int)) ((yn : Int) + (j : Int)) w5 (HV3.out.below hb) ok.out.size (by omega) (by omega) (by omega) (by omega))
          have HGS := Lib.hid (cropG_succ (f := v.f) (x := (xn : Int)) (y := (yn : Int)) (j := j) hlti)
          generalize v.f.dir ((xn : Int) + (i : Int)) ((yn : Int) + (j : Int)) = dd at Q0 HGS
          have co := hgx.box.at
          have c3 := b3.at
          have z3 := hgx.fz
          clear hgx
          go_wp2_with fail
          refine wp_region_ht [0, 1, 2, 3, 4, 8] [5, 6, 7, 9] (TwoB w.heap.size #[.int .i64 v.f.W, .int .i64 v.f.H, .slice v.A v.n v.c, .slice v.B v.m v.d] w2.heap.size #[.int .i64 (wn : Int), .int .i64 (hn : Int), .slice A2 (j * wn + i) c2, .slice none 0 0]) mixed (by kernel_rfl) ⟨b3.drew.at, HGx.out.box.drew.at⟩ ?_
          repeat
            refine canonH_step (v := ?_) rfl (by rfl) ?_ ?_
            rotate_left
            · intro w hSw
              obtain ⟨s1_, s2_⟩ := hSw
              go_simp <;> with_reducible rfl
            simp only [List.getElem_toArray, List.getElem_cons_zero, List.getElem_cons_succ, Act.put, List.setIfInBounds_toArray, List.set_cons_succ, List.set_cons_zero]
          refine canonH_nil ?_
          clear co c3 z3
          refine tailW_step rfl ?_
          go_wp2_with fail
          with_reducible refine (Q0.out _ (Below.refl _ _).drew).mono ?_
          rintro e w4 ⟨rfl, hb4⟩
          have b4 := b3.drew.below hb4
          have g4 := Lib.hid ((HGx.out.on (Below.refl _ _).drew).on hb4)
          have hz4 : w2.heap.size ≤ w4.heap.size := Nat.le_trans hzx hb4.size
          clear hb4 Q0 b3
          go_wp2_with fail
          refine ⟨⟨b4.at, g4.out.box.at⟩, ?_⟩
          refine tailW_step rfl ?_
          go_wp2_with fail
          refine ⟨⟨(b4.alloc _).at, (g4.out.box.alloc _).at⟩, ?_⟩
          refine tailW_step rfl ?_
          have HRD := Lib.hid (reads_new w4 (ints [dd]) 3 1 1 rfl)
          refine wpList_pushXn rfl _ _ 22 3 rfl Try.underlying22 info3 rfl (Nat.succ_pos _) (by decide) w2.heap.size _ A2 (j * wn + i) c2 (ints (rngs (cropG v.f (xn : Int) (yn : Int) (wn : Int)) (j * wn + i))) _ 1 _ (ints [dd]) rfl (g4.out.on (belowA _ _)).ds (by rw [World.size_alloc]; omega) rfl HRD.out (fun h => by cases h) (ints_one _) (by omega) ?_
          intro A' c' w6 hr6 hg6 hnew
          rw [← ints_append, HGS.out] at hr6
          have g5 := Lib.hid (g4.out.on (belowA w4 (Obj.cells (ints [dd]).toArray 3)))
          have bx6 := g5.out.box.grown hg6 (fun k hk => by obtain ⟨p, hp, rfl⟩ := own_blk hk; exact g5.out.nA p hp)
          have f6 := fz_grown g5.out.box.1 g5.out.fz hg6 (fun k hk => by obtain ⟨p, hp, rfl⟩ := own_blk hk; exact g5.out.nA p hp)
          have HG6 := Lib.hid (g5.out.putD hr6 hg6 hnew)
          have b6 := (b4.alloc (Obj.cells (ints [dd]).toArray 3)).grown hg6 (fun k hk => by have h1 := (g5.out.ds.lt k hk).1; have h2 := b0.1; omega)
          have q6 := bx6.at
          clear hr6 hg6 hnew
          go_wp2_with fail
          refine ⟨⟨b6.at, bx6.at⟩, ?_⟩
          refine tailW_last rfl ?_
          go_wp2_with fail
          refine NoPanic.normal ?_
          clear b4 q6 f6 bx6 b6
          go_wp2_with fail
          go_roundw
          case rel => exact ⟨i + 1, by omega, by go_num, A', c', HG6.out⟩
          case measure => simp [intOf]; omega
        · have HXX := Lib.hid (show j * wn + i = (j + 1) * wn by rw [show i = wn by omega, Nat.add_mul, Nat.one_mul])
          have HGx := Lib.hid hgx
          clear hgx
          go_wp2_with fail
          go_roundw
          case rel => exact ⟨j + 1, by omega, by go_num, A2, c2, by rw [← HXX.out]; exact HGx.out⟩
          case measure => simp [intOf]; omega
    · have hjn : hn = j := by omega
      subst hjn
      rw [crop_ds rfl rfl] at hgy
      have HGy := Lib.hid hgy
      clear hgy
      go_wp2_with fail
      go_loopw [16] (fun i wr => ∃ k : Nat, k ≤ v.m ∧ i = .int .i64 k ∧ ∃ Bp dp, GF w2 w2.heap.size w2.heap.size wr w2.heap.size ⟨⟨(wn : Int), (hn : Int), (cropF v.f xn yn wn hn).ds, ((v.f.ps.map (shE (-(xn : Int)) (-(yn : Int)))).take k).filter (fun e => isE (wn : Int) (hn : Int) e)⟩, A, Bp, hn * wn, c, (((v.f.ps.map (shE (-(xn : Int)) (-(yn : Int)))).take k).filter (fun e => isE (wn : Int) (hn : Int) e)).length, dp⟩) (fun i _ => v.m - (intOf i).toNat)
      case atStart => exact ⟨0, by omega, rfl, none, 0, by simpa using HGy.out⟩
      case round =>
        clear HGy
        obtain ⟨k, hk, rfl, Bp, dp, hgk⟩ := hrel
        have b1 := b0.below hgk.bel
        have HGk := Lib.hid hgk
        have hzk : w2.heap.size ≤ wr.heap.size := hgk.bel.size
        have hfl : (((v.f.ps.map (shE (-(xn : Int)) (-(yn : Int)))).take k).filter (fun e => isE (wn : Int) (hn : Int) e)).length ≤ 60 := by
          have h1 := List.length_filter_le (fun e => isE (wn : Int) (hn : Int) e) ((v.f.ps.map (shE (-(xn : Int)) (-(yn : Int)))).take k)
          have h2 := List.length_take_le k (v.f.ps.map (shE (-(xn : Int)) (-(yn : Int))))
          omega
        have c0 := b1.at
        by_cases hltk : k < v.m
        · obtain ⟨ad, e, e1, hbk, he, d0, d1', d2'⟩ := psat (HV.out.below hgk.bel).ps (k := k) (by rw [← HLP.out]; exact hltk)
          have X := fun w => ix23 (c := v.d) e1 hltk w
          have HTK := Lib.hid (take_succ_of (l := v.f.ps.map (shE (-(xn : Int)) (-(yn : Int)))) (k := k) (by rw [List.getElem?_map, he]; rfl))
          have hE := isE_xy (ok.out.edge e (List.mem_of_getElem? he))
          obtain ⟨ex, ey, up⟩ := e
          obtain ⟨x0, x1, y0, y1⟩ := hE
          dsimp only at x0 x1 y0 y1
          have co := hgk.box.at
          have coA := fun o => (hgk.box.alloc o).at
          have c0A := fun o => (b1.alloc o).at
          clear hgk he e1
          go_wp2_with fail
          clear co coA c0 c0A d0 d1' d2' X
          have HG1 := Lib.hid (HGk.out.on (belowA wr (.cells #[.int .i64 (ex - (xn : Int)), .int .i64 (ey - (yn : Int)), .int .i64 up] 33)))
          with_reducible refine (isEdge_any ⟨⟨(wn : Int), (hn : Int), (cropF v.f xn yn wn hn).ds, ((v.f.ps.map (shE (-(xn : Int)) (-(yn : Int)))).take k).filter (fun e => isE (wn : Int) (hn : Int) e)⟩, A, Bp, hn * wn, c, (((v.f.ps.map (shE (-(xn : Int)) (-(yn : Int)))).take k).filter (fun e => isE (wn : Int) (hn : Int) e)).length, dp⟩ (ex - (xn : Int), ey - (yn : Int), up) _ (by show (1 : Int) ≤ (wn : Int); omega) (by show (wn : Int) ≤ 24; omega) (by show (1 : Int) ≤ (hn : Int); omega) (by show (hn : Int) ≤ 24; omega)).mono ?_
          rintro r w6 ⟨rfl, hb6⟩
          have HG2 := Lib.hid (HG1.out.on hb6)
          have be := (Box.new wr #[.int .i64 (ex - (xn : Int)), .int .i64 (ey - (yn : Int)), .int .i64 up] 33).below hb6
          have b2 := (b1.alloc (.cells #[.int .i64 (ex - (xn : Int)), .int .i64 (ey - (yn : Int)), .int .i64 up] 33)).below hb6
          have hz6 : w2.heap.size ≤ w6.heap.size := HG2.out.bel.size
          dsimp only
          cases hie : isE (wn : Int) (hn : Int) (ex - (xn : Int), ey - (yn : Int), up)
          · have HF := Lib.hid (show ((v.f.ps.map (shE (-(xn : Int)) (-(yn : Int)))).take (k + 1)).filter (fun e => isE (wn : Int) (hn : Int) e) = ((v.f.ps.map (shE (-(xn : Int)) (-(yn : Int)))).take k).filter (fun e => isE (wn : Int) (hn : Int) e) by
              rw [HTK.out, List.filter_append, List.filter_cons_of_neg (by simpa [shE, Int.sub_eq_add_neg] using hie)]; simp)
            clear hie hb6
            go_wp2_with fail
            go_roundw
            case rel => exact ⟨k + 1, by omega, by go_num, Bp, dp, by rw [HF.out]; exact HG2.out⟩
            case measure => simp [intOf]; omega
          · have HF := Lib.hid (show ((v.f.ps.map (shE (-(xn : Int)) (-(yn : Int)))).take (k + 1)).filter (fun e => isE (wn : Int) (hn : Int) e) = ((v.f.ps.map (shE (-(xn : Int)) (-(yn : Int)))).take k).filter (fun e => isE (wn : Int) (hn : Int) e) ++ [(ex - (xn : Int), ey - (yn : Int), up)] by
              rw [HTK.out, List.filter_append, List.filter_cons_of_pos (by simpa [shE, Int.sub_eq_add_neg] using hie)]; simp [shE, Int.sub_eq_add_neg])
            have co := HG2.out.box.at
            have coA := fun o => (HG2.out.box.alloc o).at
            have ce := be.at
            clear hie hb6
            go_wp2_with (at_builtin; refine wpList_pushGE2 rfl _ _ rfl w2.heap.size _ Bp (((v.f.ps.map (shE (-(xn : Int)) (-(yn : Int)))).take k).filter (fun e => isE (wn : Int) (hn : Int) e)).length dp (((v.f.ps.map (shE (-(xn : Int)) (-(yn : Int)))).take k).filter (fun e => isE (wn : Int) (hn : Int) e)) (ex - (xn : Int), ey - (yn : Int), up) _ rfl (HG2.out.on (belowA _ _)).ps (by rw [World.size_alloc]; omega) rfl (Box.new _ _ _) (by omega) ?_; intro B2 d2' w7 hr7 hg7 hnew; have g5 := HG2.out.on (belowA w6 (Obj.cells #[.int .i64 (ex - (xn : Int)), .int .i64 (ey - (yn : Int)), .int .i64 up] 33)); have bx6 := g5.box.grown hg7 (fun k hk => by obtain ⟨p, hp, rfl⟩ := own_blk hk; exact g5.nB p hp); have f6 := fz_grown g5.box.1 g5.fz hg7 (fun k hk => by obtain ⟨p, hp, rfl⟩ := own_blk hk; exact g5.nB p hp); have q6 := bx6.at; have HG7 := Lib.hid (g5.putR hr7 hg7 hnew); clear hr7 hg7 hnew g5 co coA ce)
            clear bx6 q6 f6
            go_roundw
            case rel => exact ⟨k + 1, by omega, by go_num, B2, d2', by rw [HF.out, List.length_append]; exact HG7.out⟩
            case measure => simp [intOf]; omega
        · have hres : Calls Try.prog 86 #[(⟨⟨(wn : Int), (hn : Int), (cropF v.f xn yn wn hn).ds, ((v.f.ps.map (shE (-(xn : Int)) (-(yn : Int)))).take k).filter (fun e => isE (wn : Int) (hn : Int) e)⟩, A, Bp, hn * wn, c, (((v.f.ps.map (shE (-(xn : Int)) (-(yn : Int)))).take k).filter (fun e => isE (wn : Int) (hn : Int) e)).length, dp⟩ : FV).val] wr (RetOwn (fin (cropF v.f xn yn wn hn)) (valid (cropF v.f xn yn wn hn)) w2) := by
            have h := refResult_any ⟨⟨(wn : Int), (hn : Int), (cropF v.f xn yn wn hn).ds, ((v.f.ps.map (shE (-(xn : Int)) (-(yn : Int)))).take k).filter (fun e => isE (wn : Int) (hn : Int) e)⟩, A, Bp, hn * wn, c, (((v.f.ps.map (shE (-(xn : Int)) (-(yn : Int)))).take k).filter (fun e => isE (wn : Int) (hn : Int) e)).length, dp⟩ w2 _ hgk.bel hgk.own
            have e1 : (⟨(wn : Int), (hn : Int), (cropF v.f xn yn wn hn).ds, ((v.f.ps.map (shE (-(xn : Int)) (-(yn : Int)))).take k).filter (fun e => isE (wn : Int) (hn : Int) e)⟩ : Fld) = cropF v.f xn yn wn hn := by
              rw [List.take_of_length_le (by rw [List.length_map, ← HLP.out]; omega)]; rfl
            dsimp only at h
            rw [e1] at h
            exact h
          have HRES := Lib.hid hres
          have co := hgk.box.at
          clear hgk hres HGk hfl
          go_wp2_with fail
          with_reducible refine HRES.out.mono ?_
          rintro r w8 ⟨u', hu', rfl, ho5, hb5⟩
          have HU' := Lib.hid hu'
          have HO5 := Lib.hid ho5
          have HR5 := Lib.hid (HRR.out.on hb5)
          have hlt1 := Lib.hid HRR.out.box.1
          have cr := HR5.out.box.at
          have fr := HR5.out.fz
          clear hu' ho5 hb5 co c0 b1
          dsimp only [FV.val]
          go_wp2_with fail
          have cF := (HR5.out.box.four (.int .i64 u'.f.W) (.int .i64 u'.f.H) (.slice u'.A u'.n u'.c) (.slice u'.B u'.m u'.d)).at
          have HE := res_own HO5.out hlt1.out HR5.out.bel HR5.out.le hw1.out.size (.int .i64 u'.f.W) (.int .i64 u'.f.H) (.slice u'.A u'.n u'.c) (.slice u'.B u'.m u'.d)
          exact bodyPost_ret (v := .tuple #[.agg #[.int .i64 u'.f.W, .int .i64 u'.f.H, .slice u'.A u'.n u'.c, .slice u'.B u'.m u'.d], .int .i64 (valid (cropF v.f xn yn wn hn))]) (by simp [results, Try.results43, go_sem, cF]) rfl
            ⟨u', by rw [HU'.out, HS.out], by rw [HS.out], HE.1, HE.2⟩
end Go.Proofs.Ytahmdnboeenfkaa

namespace Go.Proofs.Ytahmdnboeenfkaa
open Go.RowKit Go.Sort

set_option maxHeartbeats 4000000 in
set_option maxRecDepth 100000 in
theorem lawBesides (a b : FV) (x : Frm) (w : World) (ha : a.In w) (hb : b.In w) (hca : a.n ≤ a.c) (hcb : b.n ≤ b.c) :
    Calls Try.prog 12 #[a.val, b.val, frval x] w fun r w' => r = .returned (.bool true) ∧ Below w.heap.size w w' := by
  have Ia := Lib.hid ha
  have Ib := Lib.hid hb
  clear ha hb
  go_enter Try.func12, Try.ntmps12
  dsimp only [FV.val]
  go_wp2_with fail
  with_reducible refine (long_any a _ (Ia.out.below (belowA3 _ _ _ _))).mono ?_
  rintro r w1 ⟨rfl, hb1⟩
  have ba := (((Box.new w #[.int .i64 a.f.W, .int .i64 a.f.H, .slice a.A a.n a.c, .slice a.B a.m a.d] 25).alloc (.cells #[.int .i64 b.f.W, .int .i64 b.f.H, .slice b.A b.n b.c, .slice b.B b.m b.d] 25)).alloc (.cells #[.int .i64 x.1, .int .i64 x.2.1, .int .i64 x.2.2.1, .int .i64 x.2.2.2] 59)).below hb1
  have bb := ((Box.new2 w #[.int .i64 a.f.W, .int .i64 a.f.H, .slice a.A a.n a.c, .slice a.B a.m a.d] #[.int .i64 b.f.W, .int .i64 b.f.H, .slice b.A b.n b.c, .slice b.B b.m b.d] 25 25).alloc (.cells #[.int .i64 x.1, .int .i64 x.2.1, .int .i64 x.2.2.1, .int .i64 x.2.2.2] 59)).below hb1
  have bx := (Box.new ((w.alloc (.cells #[.int .i64 a.f.W, .int .i64 a.f.H, .slice a.A a.n a.c, .slice a.B a.m a.d] 25)).alloc (.cells #[.int .i64 b.f.W, .int .i64 b.f.H, .slice b.A b.n b.c, .slice b.B b.m b.d] 25)) #[.int .i64 x.1, .int .i64 x.2.1, .int .i64 x.2.2.1, .int .i64 x.2.2.2] 59).below hb1
  have hw := Lib.hid (below_trans' (belowA3 w _ _ _) hb1)
  rw [World.size_alloc, World.size_alloc] at bx
  clear hb1
  replace Ia := Lib.hid (Ia.out.below hw.out)
  replace Ib := Lib.hid (Ib.out.below hw.out)
  cases hlong : longF a.f
  case true =>
    go_wp2_with fail
    with_reducible refine (known_any _).mono ?_
    rintro r w2 ⟨rfl, hb2⟩
    go_wp2_with fail
    go_ret
    exact ⟨rfl, below_trans' hw.out hb2⟩
  clear hlong
  have c0 := bb.at
  go_wp2_with fail
  clear c0
  with_reducible refine (long_any b _ Ib.out).mono ?_
  rintro r w2 ⟨rfl, hb⟩
  replace ba := ba.below hb
  replace bb := bb.below hb
  replace bx := bx.below hb
  replace hw := Lib.hid (below_trans' hw.out hb)
  replace Ia := Lib.hid (Ia.out.below hb)
  replace Ib := Lib.hid (Ib.out.below hb)
  clear hb
  cases hlong : longF b.f
  case true =>
    go_wp2_with fail
    with_reducible refine (known_any _).mono ?_
    rintro r w2 ⟨rfl, hb2⟩
    have HB := Lib.hid hb2
    clear hb2
    go_wp2_with fail
    go_ret
    exact ⟨rfl, below_trans' hw.out HB.out⟩
  clear hlong
  have f0 := ba.at
  have f1 := bb.at
  try dsimp only [FV.val]
  go_wp2_with fail
  clear f0 f1
  with_reducible refine (Beside_any a b _ Ia.out Ib.out hca hcb).mono ?_
  rintro r w3 ⟨c, haf, rfl, ho, hb⟩
  replace ba := ba.below hb
  replace bb := bb.below hb
  replace bx := bx.below hb
  replace hw := Lib.hid (below_trans' hw.out hb)
  replace Ia := Lib.hid (Ia.out.below hb)
  replace Ib := Lib.hid (Ib.out.below hb)
  have Hc := Lib.hid (show c.f = (besR a.f b.f).1 from haf)
  have Kc := ho.caps.1
  have Ic := Lib.hid ho.In
  clear hb haf ho
  have f0 := fun o => (ba.alloc o).at
  have f1 := fun o => (bb.alloc o).at
  try dsimp only [FV.val]
  go_wp2_with fail
  clear f0 f1
  with_reducible refine (refBeside_any a b _ (Ia.out.below (belowA _ _)) (Ib.out.below (belowA _ _)) hca hcb).mono ?_
  rintro r w4 ⟨d, haf, rfl, ho, hb⟩
  have bc := (Box.new w3 #[.int .i64 c.f.W, .int .i64 c.f.H, .slice c.A c.n c.c, .slice c.B c.m c.d] 25).below hb
  replace ba := (ba.alloc (.cells #[.int .i64 c.f.W, .int .i64 c.f.H, .slice c.A c.n c.c, .slice c.B c.m c.d] 25)).below hb
  replace bb := (bb.alloc (.cells #[.int .i64 c.f.W, .int .i64 c.f.H, .slice c.A c.n c.c, .slice c.B c.m c.d] 25)).below hb
  replace bx := (bx.alloc (.cells #[.int .i64 c.f.W, .int .i64 c.f.H, .slice c.A c.n c.c, .slice c.B c.m c.d] 25)).below hb
  replace hb := below1 _ hb
  replace hw := Lib.hid (below_trans' hw.out hb)
  replace Ia := Lib.hid (Ia.out.below hb)
  replace Ib := Lib.hid (Ib.out.below hb)
  replace Ic := Lib.hid (Ic.out.below hb)
  have Hd := Lib.hid (show d.f = (besR a.f b.f).1 from haf)
  have Kd := ho.caps.1
  have Id := Lib.hid ho.In
  clear hb haf ho
  have f0 := fun o => (ba.alloc o).at
  have f1 := fun o => (bx.alloc o).at
  try dsimp only [FV.val]
  go_wp2_with fail
  clear f0 f1
  with_reducible refine (Crop_any a x.1 x.2.1 x.2.2.1 x.2.2.2 _ (Ia.out.below (belowA _ _)) hca).mono ?_
  rintro r w5 ⟨u, haf, rfl, ho, hb⟩
  have bd := (Box.new w4 #[.int .i64 d.f.W, .int .i64 d.f.H, .slice d.A d.n d.c, .slice d.B d.m d.d] 25).below hb
  replace ba := (ba.alloc (.cells #[.int .i64 d.f.W, .int .i64 d.f.H, .slice d.A d.n d.c, .slice d.B d.m d.d] 25)).below hb
  replace bb := (bb.alloc (.cells #[.int .i64 d.f.W, .int .i64 d.f.H, .slice d.A d.n d.c, .slice d.B d.m d.d] 25)).below hb
  replace bx := (bx.alloc (.cells #[.int .i64 d.f.W, .int .i64 d.f.H, .slice d.A d.n d.c, .slice d.B d.m d.d] 25)).below hb
  replace bc := (bc.alloc (.cells #[.int .i64 d.f.W, .int .i64 d.f.H, .slice d.A d.n d.c, .slice d.B d.m d.d] 25)).below hb
  replace hb := below1 _ hb
  replace hw := Lib.hid (below_trans' hw.out hb)
  replace Ia := Lib.hid (Ia.out.below hb)
  replace Ib := Lib.hid (Ib.out.below hb)
  replace Ic := Lib.hid (Ic.out.below hb)
  replace Id := Lib.hid (Id.out.below hb)
  have Hu := Lib.hid (show u.f = (cropR a.f x.1 x.2.1 x.2.2.1 x.2.2.2).1 from haf)
  have Ku := ho.caps.1
  have Iu := Lib.hid ho.In
  clear hb haf ho
  have f0 := fun o => (ba.alloc o).at
  have f1 := fun o => (bx.alloc o).at
  try dsimp only [FV.val]
  go_wp2_with fail
  clear f0 f1
  with_reducible refine (refCrop_any a x.1 x.2.1 x.2.2.1 x.2.2.2 _ (Ia.out.below (belowA _ _)) ).mono ?_
  rintro r w6 ⟨v, haf, rfl, ho, hb⟩
  have bu := (Box.new w5 #[.int .i64 u.f.W, .int .i64 u.f.H, .slice u.A u.n u.c, .slice u.B u.m u.d] 25).below hb
  replace ba := (ba.alloc (.cells #[.int .i64 u.f.W, .int .i64 u.f.H, .slice u.A u.n u.c, .slice u.B u.m u.d] 25)).below hb
  replace bb := (bb.alloc (.cells #[.int .i64 u.f.W, .int .i64 u.f.H, .slice u.A u.n u.c, .slice u.B u.m u.d] 25)).below hb
  replace bx := (bx.alloc (.cells #[.int .i64 u.f.W, .int .i64 u.f.H, .slice u.A u.n u.c, .slice u.B u.m u.d] 25)).below hb
  replace bc := (bc.alloc (.cells #[.int .i64 u.f.W, .int .i64 u.f.H, .slice u.A u.n u.c, .slice u.B u.m u.d] 25)).below hb
  replace bd := (bd.alloc (.cells #[.int .i64 u.f.W, .int .i64 u.f.H, .slice u.A u.n u.c, .slice u.B u.m u.d] 25)).below hb
  replace hb := below1 _ hb
  replace hw := Lib.hid (below_trans' hw.out hb)
  replace Ia := Lib.hid (Ia.out.below hb)
  replace Ib := Lib.hid (Ib.out.below hb)
  replace Ic := Lib.hid (Ic.out.below hb)
  replace Id := Lib.hid (Id.out.below hb)
  replace Iu := Lib.hid (Iu.out.below hb)
  have Hv := Lib.hid (show v.f = (cropR a.f x.1 x.2.1 x.2.2.1 x.2.2.2).1 from haf)
  have Kv := ho.caps.1
  have Iv := Lib.hid ho.In
  clear hb haf ho
  generalize hz1 : (besR a.f b.f).2 = z1
  generalize hz2 : (cropR a.f x.1 x.2.1 x.2.2.1 x.2.2.2).2 = z2
  have HZ1 := Lib.hid hz1
  clear hz1 hz2
  have f0 := fun o => (bc.alloc o).at
  have f1 := fun o => (bd.alloc o).at
  try dsimp only [FV.val]
  go_wp2_with fail
  clear f0 f1
  with_reducible refine (same_any c d _ (Ic.out.below (belowA _ _)) (Id.out.below (belowA _ _))).mono ?_
  rintro r w7 ⟨rfl, hb⟩
  rw [show sameF c.f d.f = true by rw [Hc.out, Hd.out]; exact sameF_refl _]
  have bv := (Box.new w6 #[.int .i64 v.f.W, .int .i64 v.f.H, .slice v.A v.n v.c, .slice v.B v.m v.d] 25).below hb
  replace ba := (ba.alloc (.cells #[.int .i64 v.f.W, .int .i64 v.f.H, .slice v.A v.n v.c, .slice v.B v.m v.d] 25)).below hb
  replace bb := (bb.alloc (.cells #[.int .i64 v.f.W, .int .i64 v.f.H, .slice v.A v.n v.c, .slice v.B v.m v.d] 25)).below hb
  replace bx := (bx.alloc (.cells #[.int .i64 v.f.W, .int .i64 v.f.H, .slice v.A v.n v.c, .slice v.B v.m v.d] 25)).below hb
  replace bc := (bc.alloc (.cells #[.int .i64 v.f.W, .int .i64 v.f.H, .slice v.A v.n v.c, .slice v.B v.m v.d] 25)).below hb
  replace bd := (bd.alloc (.cells #[.int .i64 v.f.W, .int .i64 v.f.H, .slice v.A v.n v.c, .slice v.B v.m v.d] 25)).below hb
  replace bu := (bu.alloc (.cells #[.int .i64 v.f.W, .int .i64 v.f.H, .slice v.A v.n v.c, .slice v.B v.m v.d] 25)).below hb
  replace hb := below1 _ hb
  replace hw := Lib.hid (below_trans' hw.out hb)
  replace Ia := Lib.hid (Ia.out.below hb)
  replace Ib := Lib.hid (Ib.out.below hb)
  replace Ic := Lib.hid (Ic.out.below hb)
  replace Id := Lib.hid (Id.out.below hb)
  replace Iu := Lib.hid (Iu.out.below hb)
  replace Iv := Lib.hid (Iv.out.below hb)
  clear hb
  have f0 := bu.at
  have f1 := bv.at
  try dsimp only [FV.val]
  go_wp2_with fail
  clear f0 f1
  with_reducible refine (same_any u v _ Iu.out Iv.out).mono ?_
  rintro r w8 ⟨rfl, hb⟩
  rw [show sameF u.f v.f = true by rw [Hu.out, Hv.out]; exact sameF_refl _]
  replace ba := ba.below hb
  replace bb := bb.below hb
  replace bx := bx.below hb
  replace bc := bc.below hb
  replace bd := bd.below hb
  replace bu := bu.below hb
  replace bv := bv.below hb
  replace hw := Lib.hid (below_trans' hw.out hb)
  replace Ia := Lib.hid (Ia.out.below hb)
  replace Ib := Lib.hid (Ib.out.below hb)
  replace Ic := Lib.hid (Ic.out.below hb)
  replace Id := Lib.hid (Id.out.below hb)
  replace Iu := Lib.hid (Iu.out.below hb)
  replace Iv := Lib.hid (Iv.out.below hb)
  clear hb
  by_cases hz : z1 = 0
  case neg =>
    have hz' : (z1 != 0) = true := by simpa using hz
    clear hz
    go_wp2_with fail
    with_reducible refine (known_any _).mono ?_
    rintro r wz ⟨rfl, hb⟩
    have HB := Lib.hid hb
    clear hb
    go_wp2_with fail
    go_ret
    exact ⟨rfl, below_trans' hw.out HB.out⟩
  have HP := Lib.hid (besR_parts (a := a.f) (b := b.f) (by rw [HZ1.out]; exact hz))
  rw [hz]
  clear hz
  have f0 := bc.at
  have f1 := ba.at
  try dsimp only [FV.val]
  go_wp2_with fail
  clear f0 f1
  with_reducible refine (Crop_any c 0 0 a.f.W a.f.H _ Ic.out Kc).mono ?_
  rintro r w9 ⟨p, haf, rfl, ho, hb⟩
  have E := HP.out.1
  rw [← Hc.out] at E
  rw [E] at haf ⊢
  clear E
  dsimp only at haf ⊢
  replace ba := ba.below hb
  replace bb := bb.below hb
  replace bx := bx.below hb
  replace bc := bc.below hb
  replace bd := bd.below hb
  replace bu := bu.below hb
  replace bv := bv.below hb
  replace hw := Lib.hid (below_trans' hw.out hb)
  replace Ia := Lib.hid (Ia.out.below hb)
  replace Ib := Lib.hid (Ib.out.below hb)
  replace Ic := Lib.hid (Ic.out.below hb)
  replace Id := Lib.hid (Id.out.below hb)
  replace Iu := Lib.hid (Iu.out.below hb)
  replace Iv := Lib.hid (Iv.out.below hb)
  have Hp := Lib.hid haf
  have Ip := Lib.hid ho.In
  clear hb haf ho
  have f0 := fun o => (bc.alloc o).at
  have f1 := fun o => (ba.alloc o).at
  have f2 := fun o => (bb.alloc o).at
  try dsimp only [FV.val]
  go_wp2_with fail
  clear f0 f1 f2
  with_reducible refine (Crop_any c a.f.W 0 b.f.W b.f.H _ (Ic.out.below (belowA _ _)) Kc).mono ?_
  rintro r w10 ⟨q, haf, rfl, ho, hb⟩
  have E := HP.out.2
  rw [← Hc.out] at E
  rw [E] at haf ⊢
  clear E
  dsimp only at haf ⊢
  have bp := (Box.new w9 #[.int .i64 p.f.W, .int .i64 p.f.H, .slice p.A p.n p.c, .slice p.B p.m p.d] 25).below hb
  replace ba := (ba.alloc (.cells #[.int .i64 p.f.W, .int .i64 p.f.H, .slice p.A p.n p.c, .slice p.B p.m p.d] 25)).below hb
  replace bb := (bb.alloc (.cells #[.int .i64 p.f.W, .int .i64 p.f.H, .slice p.A p.n p.c, .slice p.B p.m p.d] 25)).below hb
  replace bx := (bx.alloc (.cells #[.int .i64 p.f.W, .int .i64 p.f.H, .slice p.A p.n p.c, .slice p.B p.m p.d] 25)).below hb
  replace bc := (bc.alloc (.cells #[.int .i64 p.f.W, .int .i64 p.f.H, .slice p.A p.n p.c, .slice p.B p.m p.d] 25)).below hb
  replace bd := (bd.alloc (.cells #[.int .i64 p.f.W, .int .i64 p.f.H, .slice p.A p.n p.c, .slice p.B p.m p.d] 25)).below hb
  replace bu := (bu.alloc (.cells #[.int .i64 p.f.W, .int .i64 p.f.H, .slice p.A p.n p.c, .slice p.B p.m p.d] 25)).below hb
  replace bv := (bv.alloc (.cells #[.int .i64 p.f.W, .int .i64 p.f.H, .slice p.A p.n p.c, .slice p.B p.m p.d] 25)).below hb
  replace hb := below1 _ hb
  replace hw := Lib.hid (below_trans' hw.out hb)
  replace Ia := Lib.hid (Ia.out.below hb)
  replace Ib := Lib.hid (Ib.out.below hb)
  replace Ic := Lib.hid (Ic.out.below hb)
  replace Id := Lib.hid (Id.out.below hb)
  replace Iu := Lib.hid (Iu.out.below hb)
  replace Iv := Lib.hid (Iv.out.below hb)
  replace Ip := Lib.hid (Ip.out.below hb)
  have Hq := Lib.hid haf
  have Iq := Lib.hid ho.In
  clear hb haf ho
  have f0 := fun o => (bp.alloc o).at
  have f1 := fun o => (ba.alloc o).at
  try dsimp only [FV.val]
  go_wp2_with fail
  clear f0 f1
  with_reducible refine (same_any p a _ (Ip.out.below (belowA _ _)) (Ia.out.below (belowA _ _))).mono ?_
  rintro r w11 ⟨rfl, hb⟩
  rw [show sameF p.f a.f = true by rw [Hp.out]; exact sameF_refl _]
  have bq := (Box.new w10 #[.int .i64 q.f.W, .int .i64 q.f.H, .slice q.A q.n q.c, .slice q.B q.m q.d] 25).below hb
  replace ba := (ba.alloc (.cells #[.int .i64 q.f.W, .int .i64 q.f.H, .slice q.A q.n q.c, .slice q.B q.m q.d] 25)).below hb
  replace bb := (bb.alloc (.cells #[.int .i64 q.f.W, .int .i64 q.f.H, .slice q.A q.n q.c, .slice q.B q.m q.d] 25)).below hb
  replace bx := (bx.alloc (.cells #[.int .i64 q.f.W, .int .i64 q.f.H, .slice q.A q.n q.c, .slice q.B q.m q.d] 25)).below hb
  replace bc := (bc.alloc (.cells #[.int .i64 q.f.W, .int .i64 q.f.H, .slice q.A q.n q.c, .slice q.B q.m q.d] 25)).below hb
  replace bd := (bd.alloc (.cells #[.int .i64 q.f.W, .int .i64 q.f.H, .slice q.A q.n q.c, .slice q.B q.m q.d] 25)).below hb
  replace bu := (bu.alloc (.cells #[.int .i64 q.f.W, .int .i64 q.f.H, .slice q.A q.n q.c, .slice q.B q.m q.d] 25)).below hb
  replace bv := (bv.alloc (.cells #[.int .i64 q.f.W, .int .i64 q.f.H, .slice q.A q.n q.c, .slice q.B q.m q.d] 25)).below hb
  replace bp := (bp.alloc (.cells #[.int .i64 q.f.W, .int .i64 q.f.H, .slice q.A q.n q.c, .slice q.B q.m q.d] 25)).below hb
  replace hb := below1 _ hb
  replace hw := Lib.hid (below_trans' hw.out hb)
  replace Ia := Lib.hid (Ia.out.below hb)
  replace Ib := Lib.hid (Ib.out.below hb)
  replace Ic := Lib.hid (Ic.out.below hb)
  replace Id := Lib.hid (Id.out.below hb)
  replace Iu := Lib.hid (Iu.out.below hb)
  replace Iv := Lib.hid (Iv.out.below hb)
  replace Ip := Lib.hid (Ip.out.below hb)
  replace Iq := Lib.hid (Iq.out.below hb)
  clear hb
  have f0 := bq.at
  have f1 := bb.at
  try dsimp only [FV.val]
  go_wp2_with fail
  clear f0 f1
  with_reducible refine (same_any q b _ Iq.out Ib.out).mono ?_
  rintro r w12 ⟨rfl, hb⟩
  rw [show sameF q.f b.f = true by rw [Hq.out]; exact sameF_refl _]
  replace ba := ba.below hb
  replace bb := bb.below hb
  replace bx := bx.below hb
  replace bc := bc.below hb
  replace bd := bd.below hb
  replace bu := bu.below hb
  replace bv := bv.below hb
  replace bp := bp.below hb
  replace bq := bq.below hb
  replace hw := Lib.hid (below_trans' hw.out hb)
  replace Ia := Lib.hid (Ia.out.below hb)
  replace Ib := Lib.hid (Ib.out.below hb)
  replace Ic := Lib.hid (Ic.out.below hb)
  replace Id := Lib.hid (Id.out.below hb)
  replace Iu := Lib.hid (Iu.out.below hb)
  replace Iv := Lib.hid (Iv.out.below hb)
  replace Ip := Lib.hid (Ip.out.below hb)
  replace Iq := Lib.hid (Iq.out.below hb)
  clear hb
  go_wp2_with fail
  with_reducible refine (known_any _).mono ?_
  rintro r wz ⟨rfl, hb⟩
  have HB := Lib.hid hb
  clear hb
  go_wp2_with fail
  go_ret
  exact ⟨rfl, below_trans' hw.out HB.out⟩
theorem lawBesidesR (a b : FV) (x : Frm) (w : World) (ha : a.In w ∧ a.n ≤ a.c ∧ a.m ≤ a.d) (hb : b.In w ∧ b.n ≤ b.c ∧ b.m ≤ b.d) {p1 : Prop} (_ : p1) :
    Calls Try.prog 12 #[a.val, b.val, frval x] w fun r w' => r = .returned (.bool true) ∧ Below w.heap.size w w' := lawBesides a b x w ha.1 hb.1 ha.2.1 hb.2.1
end Go.Proofs.Ytahmdnboeenfkaa
