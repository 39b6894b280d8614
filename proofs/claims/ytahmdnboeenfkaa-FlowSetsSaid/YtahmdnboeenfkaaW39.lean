/- Walks: a parting more or less, the reference's. -/
import Derived.Test.YtahmdnboeenfkaaW38
namespace Go.Proofs.Ytahmdnboeenfkaa
open Go.RowKit Go.Sort

set_option maxHeartbeats 4000000 in
set_option maxRecDepth 10000 in
theorem refPart_any (v : FV) (e : Edg) (w : World) (hv : v.In w) :
    Calls Try.prog 47 #[v.val, eval_ e] w (RetOwn (partR v.f e).1 (partR v.f e).2 w) := by
  have HVv := Lib.hid hv
  clear hv
  go_enter Try.func47, Try.ntmps47
  dsimp only [FV.val, eval_]
  go_wp2_with fail
  with_reducible refine (refValidate_any v _ (HVv.out.below (belowA3 _ _ _ _))).mono ?_
  rintro r w1 ⟨rfl, hb1⟩
  have hR := (ResB.new3 w #[.int .i64 v.f.W, .int .i64 v.f.H, .slice v.A v.n v.c, .slice v.B v.m v.d] #[.int .i64 e.1, .int .i64 e.2.1, .int .i64 e.2.2] 25 33).on hb1
  have b0 := (((Box.new w #[.int .i64 v.f.W, .int .i64 v.f.H, .slice v.A v.n v.c, .slice v.B v.m v.d] 25).alloc (.cells #[.int .i64 e.1, .int .i64 e.2.1, .int .i64 e.2.2] 33)).alloc (.cells #[.int .i64 0, .int .i64 0, .slice none 0 0, .slice none 0 0] 25)).below hb1
  have be := ((Box.new2 w #[.int .i64 v.f.W, .int .i64 v.f.H, .slice v.A v.n v.c, .slice v.B v.m v.d] #[.int .i64 e.1, .int .i64 e.2.1, .int .i64 e.2.2] 25 33).alloc (.cells #[.int .i64 0, .int .i64 0, .slice none 0 0, .slice none 0 0] 25)).below hb1
  have hw1 := Lib.hid (below_trans' (belowA3 w _ _ _) hb1)
  clear hb1
  by_cases hz : valid v.f = 0
  case neg =>
    have hz' : (valid v.f != 0) = true := by simpa using hz
    have HF := Lib.hid (partR_bad (e := e) hz)
    have HR := Lib.hid hR
    have cr := hR.box.at
    have fr := hR.fz
    clear hz hR
    go_wp2_with fail
    have cF := (HR.out.box.four (.int .i64 0) (.int .i64 0) (.slice none 0 0) (.slice none 0 0)).at
    exact bodyPost_ret (v := .tuple #[.agg #[.int .i64 0, .int .i64 0, .slice none 0 0, .slice none 0 0], .int .i64 (valid v.f)]) (by simp [results, Try.results47, go_sem, cF]) rfl
      ⟨⟨zeroF, none, none, 0, 0, 0, 0⟩, by rw [HF.out], by rw [HF.out]; rfl, FOwn.zero _ _, res_bel HR.out.bel HR.out.le _ _ _ _⟩
  have ok := Lib.hid (okf_of_valid hz)
  have hz' : (valid v.f != 0) = false := by simpa using hz
  have HZ := Lib.hid hz
  have HV1 := Lib.hid (HVv.out.below hw1.out)
  have HRR := Lib.hid hR
  obtain ⟨n0, m0⟩ := okf_lens (okf_of_valid hz)
  have okw := ok.out.w2
  have okw1 := ok.out.w1
  have okh := ok.out.h2
  have okh1 := ok.out.h1
  clear hz hR
  have c0 := b0.at
  have ce := be.at
  go_wp2_with fail
  clear c0 ce
  with_reducible refine (isEdge_any v e _ okw1 (by omega) okh1 (by omega)).mono ?_
  rintro r w2 ⟨rfl, hb2⟩
  replace b0 := b0.below hb2
  replace be := be.below hb2
  replace HV1 := Lib.hid (HV1.out.below hb2)
  replace HRR := Lib.hid (HRR.out.on hb2)
  replace hw1 := Lib.hid (below_trans' hw1.out hb2)
  clear hb2
  cases hp : isE v.f.W v.f.H e
  case false =>
    have HF := Lib.hid (partR_off HZ.out hp)
    have cr := HRR.out.box.at
    have fr := HRR.out.fz
    clear hp
    go_wp2_with fail
    have cF := (HRR.out.box.four (.int .i64 0) (.int .i64 0) (.slice none 0 0) (.slice none 0 0)).at
    exact bodyPost_ret (v := .tuple #[.agg #[.int .i64 0, .int .i64 0, .slice none 0 0, .slice none 0 0], .int .i64 5]) (by simp [results, Try.results47, go_sem, cF]) rfl
      ⟨⟨zeroF, none, none, 0, 0, 0, 0⟩, by rw [HF.out], by rw [HF.out]; rfl, FOwn.zero _ _, res_bel HRR.out.bel HRR.out.le _ _ _ _⟩
  have HS := Lib.hid (partR_ok HZ.out hp)
  have q1 : v.f.ds.length ≤ 1000000 := by omega
  have q2 : v.f.ps.length ≤ 1000000 := by omega
  have HMM := Lib.hid m0
  clear n0 m0 hp
  have c0 := b0.at
  go_wp2_with fail
  clear c0
  with_reducible refine (copyO_any v _ HV1.out q1 q2).mono ?_
  rintro r w3 ⟨u, huf, rfl, ho0, hb2⟩
  obtain ⟨f', A, B, n, c, m, d⟩ := u
  dsimp only at huf
  subst huf
  have hg3 := GF.boxed hb2 ho0 25
  have hml : v.m ≤ 60 := by have h := HVv.out.lenp; have := HMM.out; omega
  have HML := Lib.hid (show v.m = v.f.ps.length from HVv.out.lenp)
  have HSO := Lib.hid ok.out.sorted
  have HV2 := HV1
  have be2 := be
  have b02 := b0
  replace HV1 := Lib.hid (HV1.out.below (below_trans' hb2 (belowA w3 (.cells #[.int .i64 v.f.W, .int .i64 v.f.H, .slice A n c, .slice B m d] 25))))
  replace be := (be.below hb2).alloc (.cells #[.int .i64 v.f.W, .int .i64 v.f.H, .slice A n c, .slice B m d] 25)
  replace b0 := (b0.below hb2).alloc (.cells #[.int .i64 v.f.W, .int .i64 v.f.H, .slice A n c, .slice B m d] 25)
  have HG3 := Lib.hid hg3
  have hs3 : w2.heap.size ≤ w3.heap.size := hb2.size
  have hlt1 := Lib.hid HRR.out.box.1
  clear ho0 hb2 q1 q2
  dsimp only [FV.val]
  have ce := be.at
  have c0 := b0.at
  go_wp2_with fail
  clear ce c0
  with_reducible refine (parted_any v e _ HV1.out).mono ?_
  rintro r w4 ⟨rfl, hb4⟩
  replace be := be.below hb4
  replace b0 := b0.below hb4
  replace HV1 := Lib.hid (HV1.out.below hb4)
  have hg4 := hg3.on hb4
  have HG4 := Lib.hid hg4
  have hs4 : w2.heap.size + 1 ≤ w4.heap.size := by have := hb4.size; rw [World.size_alloc] at this; omega
  clear hb4 hg3 HG3
  by_cases hm : e ∈ v.f.ps
  case neg =>
    have hd : decide (e ∈ v.f.ps) = false := by simpa using hm
    rw [hd]
    have HE := Lib.hid (partE_out hm)
    have HLE := Lib.hid (part_len v.f.ps e)
    have ce := be.at
    have c0 := b0.at
    clear hd hm
    go_wp2_with fail
    clear ce c0
    with_reducible refine (put_any v.B v.m v.d v.f.ps e _ HV1.out.ps (by omega)).mono ?_
    rintro r w5 ⟨B', d', rfl, hr5, hb5⟩
    have g5 := hg4.on hb5
    have c5 := g5.box.at
    have f5 := g5.fz
    have hg6 := HG4.out.putN (by omega) hr5 hb5
    have HG6 := Lib.hid hg6
    have c6 := hg6.box.at
    have hres : Calls Try.prog 86 #[(⟨{ v.f with ps := putE v.f.ps e }, A, B', n, c, (putE v.f.ps e).length, d'⟩ : FV).val] (w5.setCell ⟨w3.heap.size, 3, none⟩ (.slice B' (putE v.f.ps e).length d')) (RetOwn (fin (partF v.f e)) (valid (partF v.f e)) w2) := by
      have h := refResult_any ⟨{ v.f with ps := putE v.f.ps e }, A, B', n, c, (putE v.f.ps e).length, d'⟩ w2 _ hg6.bel hg6.own
      have e1 : ({ v.f with ps := putE v.f.ps e } : Fld) = partF v.f e := by
        unfold partF
        rw [HE.out]
      dsimp only at h
      rw [e1] at h
      exact h
    have HRES := Lib.hid hres
    clear hres hr5 hb5 hg6 hg4 g5
    go_wp2_with fail
    clear c5 c6 f5
    with_reducible refine HRES.out.mono ?_
    rintro r w7 ⟨u', hu', rfl, ho5, hb5⟩
    have HU' := Lib.hid hu'
    have HO6 := Lib.hid ho5
    have HR5 := Lib.hid (HRR.out.on hb5)
    have cr := HR5.out.box.at
    have fr := HR5.out.fz
    clear hu' ho5 hb5
    dsimp only [FV.val]
    go_wp2_with fail
    have cF := (HR5.out.box.four (.int .i64 u'.f.W) (.int .i64 u'.f.H) (.slice u'.A u'.n u'.c) (.slice u'.B u'.m u'.d)).at
    have HE := res_own HO6.out hlt1.out HR5.out.bel HR5.out.le hw1.out.size (.int .i64 u'.f.W) (.int .i64 u'.f.H) (.slice u'.A u'.n u'.c) (.slice u'.B u'.m u'.d)
    exact bodyPost_ret (v := .tuple #[.agg #[.int .i64 u'.f.W, .int .i64 u'.f.H, .slice u'.A u'.n u'.c, .slice u'.B u'.m u'.d], .int .i64 (valid (partF v.f e))]) (by simp [results, Try.results47, go_sem, cF]) rfl
      ⟨u', by rw [HU'.out, HS.out], by rw [HS.out], HE.1, HE.2⟩

  have hd : decide (e ∈ v.f.ps) = true := by simpa using hm
  rw [hd]
  have HE := Lib.hid (partE_in hm)
  have c4 := hg4.box.at
  have f4 := hg4.fz
  have c0 := b0.at
  clear hd hm
  go_wp2_with fail
  have hg5 := HG4.out.putR (m' := 0) (d' := 0) (ps' := []) (World.ownsRow_nil _ _ _ _) (World.grownBy.refl w4 _) (B' := none) (.inr fun p hp => by cases hp)
  have hs5 : w2.heap.size + 1 ≤ (w4.setCell ⟨w3.heap.size, 3, none⟩ (.slice none 0 0)).heap.size := by rw [size_set]; exact hs4
  refine wp_gen (fun W => GF w2 w2.heap.size w2.heap.size W w3.heap.size ⟨{ v.f with ps := [] }, A, none, n, c, 0, 0⟩ ∧ w2.heap.size + 1 ≤ W.heap.size) ⟨hg5, hs5⟩ ?_
  rintro w6 ⟨hg6, hs6⟩
  have HG6 := Lib.hid hg6
  clear hg5 hs5 hg6 hg4 HG4 c4 f4 c0 b0 be HV1 hs4
  go_loopw [8] (fun i wr => ∃ k : Nat, k ≤ v.m ∧ i = .int .i64 k ∧ (∃ Bp dp, GF w2 w2.heap.size w2.heap.size wr w3.heap.size ⟨{ v.f with ps := (v.f.ps.take k).filter (fun x => decide (x ≠ e)) }, A, Bp, n, c, ((v.f.ps.take k).filter (fun x => decide (x ≠ e))).length, dp⟩) ∧ w2.heap.size + 1 ≤ wr.heap.size) (fun i _ => v.m - (intOf i).toNat)
  case atStart => exact ⟨0, by omega, rfl, ⟨none, 0, by simpa using HG6.out⟩, hs6⟩
  case round =>
    clear HG6 hs6
    obtain ⟨k, hk, rfl, ⟨Bp, dp, hgk⟩, hzk⟩ := hrel
    have HGk := Lib.hid hgk
    have b0 := b02.below hgk.bel
    have be := be2.below hgk.bel
    have hfl : ((v.f.ps.take k).filter (fun x => decide (x ≠ e))).length ≤ 60 := by
      have h1 := List.length_filter_le (fun x => decide (x ≠ e)) (v.f.ps.take k)
      have h2 := List.length_take_le k v.f.ps
      omega
    by_cases hlt : k < v.m
    · obtain ⟨ad, x, e1, hbk, hx0, d0, d1, d2⟩ := psat (HV2.out.below hgk.bel).ps (k := k) (by rw [← HML.out]; exact hlt)
      have X := fun w => ix23 (c := v.d) e1 hlt w
      have HTK := Lib.hid (take_succ_of hx0)
      have q1 := eqg33 .neq
      have c0 := b0.at
      have ce := be.at
      generalize hes : (v.f.ps.take k).filter (fun x => decide (x ≠ e)) = es at HGk hfl hgk
      have HES := Lib.hid hes
      clear hx0 e1 hes
      by_cases hxe : x = e
      · have q2 : ∀ w, (binOp .neq 33 (eval_ x) (eval_ e)).run Try.prog w = .ok (.bool false) w := fun w => by rw [neq33, eqE_iff.2 hxe]; rfl
        have HF := Lib.hid (show (v.f.ps.take (k + 1)).filter (fun x => decide (x ≠ e)) = es by rw [HTK.out, List.filter_append, HES.out]; simp [hxe])
        clear hxe hgk
        go_wp2_with fail
        go_quiet (fail)
        go_wp2_with fail
        go_roundw
        case rel => exact ⟨k + 1, by omega, by go_num, ⟨Bp, dp, by rw [HF.out]; exact HGk.out.on (below_drewN' (Below.refl _ _) _)⟩, hzk⟩
        case measure => simp [intOf]; omega
      · have q2 : ∀ w, (binOp .neq 33 (eval_ x) (eval_ e)).run Try.prog w = .ok (.bool true) w := fun w => by rw [neq33, eqE_not.2 hxe]; rfl
        have HF := Lib.hid (show (v.f.ps.take (k + 1)).filter (fun x => decide (x ≠ e)) = es ++ [x] by rw [HTK.out, List.filter_append, HES.out]; simp [hxe])
        clear hxe hgk
        go_wp2_with fail
        go_quiet (fail)
        go_wp2_with fail
        refine wp_gen (fun W => GF w2 w2.heap.size w2.heap.size W w3.heap.size ⟨{ v.f with ps := es }, A, Bp, n, c, es.length, dp⟩ ∧ w2.heap.size + 1 ≤ W.heap.size ∧ Below wr.heap.size wr W) ⟨HGk.out.on (below_drewN' (Below.refl _ _) _), hzk, below_drewN' (Below.refl _ _) _⟩ ?_
        rintro w7 ⟨hg7, hz7, hb7⟩
        have HG7 := Lib.hid hg7
        replace b0 := b0.below hb7
        have h1 := hb7.cell (p := ad.add (k * 3)) (by rw [blockAdd]; exact hbk)
        have h2 := hb7.cell (p := ⟨(ad.add (k * 3)).block, (ad.add (k * 3)).off + 1, none⟩) (by show (ad.add (k * 3)).block < _; rw [blockAdd]; exact hbk)
        have h3 := hb7.cell (p := ⟨(ad.add (k * 3)).block, (ad.add (k * 3)).off + 2, none⟩) (by show (ad.add (k * 3)).block < _; rw [blockAdd]; exact hbk)
        rw [← h1] at d0
        rw [← h2] at d1
        rw [← h3] at d2
        have hbk7 : ad.block < w7.heap.size := Nat.lt_of_lt_of_le hbk hb7.size
        clear hbk
        clear c0 ce
        have c0 := b0.at
        have c7 := hg7.box.at
        have c7A := fun o => (hg7.box.alloc o).at
        have f7 := hg7.fz
        clear h1 h2 h3 hg7 HGk hb7
        go_region_law (first | (refine step_pushGE2 rfl _ _ rfl w2.heap.size _ Bp es.length dp es x w7.heap.size rfl (HG7.out.on (belowA _ _).drew).ps (by show w2.heap.size ≤ (w7.alloc _).heap.size; rw [World.size_alloc]; omega) rfl (Box.new _ _ _).drew (by omega) ?_; intro B2 d2' w8 hr8 hg8 hnew; have g5 := HG7.out.on ((belowA w7 (Obj.cells #[.int .i64 x.1, .int .i64 x.2.1, .int .i64 x.2.2] 33)).drew); have bx6 := g5.box.grown hg8 (fun k hk => by obtain ⟨p, hp, rfl⟩ := own_blk hk; exact g5.nB p hp); have f6 := fz_grown g5.box.1 g5.fz hg8 (fun k hk => by obtain ⟨p, hp, rfl⟩ := own_blk hk; exact g5.nB p hp); have c6 := bx6.at; have HG8 := Lib.hid (g5.putR hr8 hg8 hnew); have hz8 : w2.heap.size + 1 ≤ w8.heap.size := (by have h := hg8.size; have h2 : (w7.alloc (Obj.cells #[.int .i64 x.1, .int .i64 x.2.1, .int .i64 x.2.2] 33)).drew.heap.size = w7.heap.size + 1 := World.size_alloc _ _; omega); clear hr8 hg8 hnew g5))
        all_goals
          go_wp2_with fail
          go_roundw
          case rel => exact ⟨k + 1, by omega, by go_num, ⟨_, _, by rw [HF.out, List.length_append]; exact HG8.out⟩, by rw [size_set]; exact hz8⟩
          case measure => simp [intOf]; omega
    · rw [show v.f.ps.take k = v.f.ps from List.take_of_length_le (by rw [← HML.out]; omega), ← HE.out] at hgk
      have hres : Calls Try.prog 86 #[(⟨{ v.f with ps := partE v.f.ps e }, A, Bp, n, c, (partE v.f.ps e).length, dp⟩ : FV).val] wr (RetOwn (fin (partF v.f e)) (valid (partF v.f e)) w2) := 
        refResult_any ⟨partF v.f e, A, Bp, n, c, (partE v.f.ps e).length, dp⟩ w2 _ hgk.bel hgk.own
      have HRES := Lib.hid hres
      have c0 := b0.at
      have c7 := hgk.box.at
      clear hres HGk hfl hgk
      go_wp2_with fail
      with_reducible refine HRES.out.mono ?_
      rintro r w7 ⟨u', hu', rfl, ho5, hb5⟩
      have HU' := Lib.hid hu'
      have HO6 := Lib.hid ho5
      have HR5 := Lib.hid (HRR.out.on hb5)
      have cr := HR5.out.box.at
      have fr := HR5.out.fz
      clear hu' ho5 hb5 c0 c7 b0 be
      dsimp only [FV.val]
      go_wp2_with fail
      have cF := (HR5.out.box.four (.int .i64 u'.f.W) (.int .i64 u'.f.H) (.slice u'.A u'.n u'.c) (.slice u'.B u'.m u'.d)).at
      have HE := res_own HO6.out hlt1.out HR5.out.bel HR5.out.le hw1.out.size (.int .i64 u'.f.W) (.int .i64 u'.f.H) (.slice u'.A u'.n u'.c) (.slice u'.B u'.m u'.d)
      exact bodyPost_ret (v := .tuple #[.agg #[.int .i64 u'.f.W, .int .i64 u'.f.H, .slice u'.A u'.n u'.c, .slice u'.B u'.m u'.d], .int .i64 (valid (partF v.f e))]) (by simp [results, Try.results47, go_sem, cF]) rfl
        ⟨u', by rw [HU'.out, HS.out], by rw [HS.out], HE.1, HE.2⟩
end Go.Proofs.Ytahmdnboeenfkaa
