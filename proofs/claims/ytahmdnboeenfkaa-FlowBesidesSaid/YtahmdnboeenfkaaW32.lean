/- Walks: another direction at a place, on both sides. -/
import Derived.Test.YtahmdnboeenfkaaW31
namespace Go.Proofs.Ytahmdnboeenfkaa
open Go.RowKit Go.Sort

def setD (f : Fld) (x y k : Int) : Fld := withD f (f.ds.set (y * f.W + x).toNat k)
/-- Set's two results. -/
def setR (f : Fld) (x y k : Int) : Fld × Int :=
  if valid f ≠ 0 then (zeroF, valid f) else if isP f.W f.H x y = false then (zeroF, 5) else if ¬ (0 ≤ k ∧ k ≤ 7) then (zeroF, 1) else (fin (setD f x y k), valid (setD f x y k))
section
variable {f : Fld} {x y k : Int}
theorem setR_bad (h : valid f ≠ 0) : setR f x y k = (zeroF, valid f) := by unfold setR; rw [if_pos h]
theorem setR_off (h : valid f = 0) (h1 : isP f.W f.H x y = false) : setR f x y k = (zeroF, 5) := by unfold setR; rw [if_neg (by simpa using h), if_pos h1]
theorem setR_dir (h : valid f = 0) (h1 : isP f.W f.H x y = true) (h2 : ¬ (0 ≤ k ∧ k ≤ 7)) : setR f x y k = (zeroF, 1) := by unfold setR; rw [if_neg (by simpa using h), if_neg (by rw [h1]; decide), if_pos h2]
theorem setR_ok (h : valid f = 0) (h1 : isP f.W f.H x y = true) (h2 : 0 ≤ k ∧ k ≤ 7) : setR f x y k = (fin (setD f x y k), valid (setD f x y k)) := by unfold setR; rw [if_neg (by simpa using h), if_neg (by rw [h1]; decide), if_neg (by simpa using h2)]
end

set_option maxHeartbeats 4000000 in
set_option maxRecDepth 4000 in
theorem Set_any (v : FV) (x y k : Int) (w : World) (hv : v.In w) :
    Calls Try.prog 44 #[v.val, .int .i64 x, .int .i64 y, .int .i64 k] w (RetOwn (setR v.f x y k).1 (setR v.f x y k).2 w) := by
  have HVv := Lib.hid hv
  clear hv
  go_enter Try.func44, Try.ntmps44
  dsimp only [FV.val]
  go_wp2_with fail
  with_reducible refine (validate_any v _ (HVv.out.below (belowAA _ _ _))).mono ?_
  rintro r w1 ⟨rfl, hb1⟩
  have hR := (ResB.new w #[.int .i64 v.f.W, .int .i64 v.f.H, .slice v.A v.n v.c, .slice v.B v.m v.d] 25).on hb1
  have b0 := ((Box.new w #[.int .i64 v.f.W, .int .i64 v.f.H, .slice v.A v.n v.c, .slice v.B v.m v.d] 25).alloc (.cells #[.int .i64 0, .int .i64 0, .slice none 0 0, .slice none 0 0] 25)).below hb1
  have hw1 := Lib.hid (below2 _ _ hb1)
  clear hb1
  by_cases hz : valid v.f = 0
  case neg =>
    have hz' : (valid v.f != 0) = true := by simpa using hz
    have HF := Lib.hid (setR_bad (x := x) (y := y) (k := k) hz)
    have HR := Lib.hid hR
    have cr := hR.box.at
    have fr := hR.fz
    clear hz hR
    go_wp2_with fail
    have cF := (HR.out.box.four (.int .i64 0) (.int .i64 0) (.slice none 0 0) (.slice none 0 0)).at
    exact bodyPost_ret (v := .tuple #[.agg #[.int .i64 0, .int .i64 0, .slice none 0 0, .slice none 0 0], .int .i64 (valid v.f)]) (by simp [results, Try.results44, go_sem, cF]) rfl
      ⟨⟨zeroF, none, none, 0, 0, 0, 0⟩, by rw [HF.out], by rw [HF.out]; rfl, FOwn.zero _ _, res_bel HR.out.bel HR.out.le _ _ _ _⟩
  have ok := Lib.hid (okf_of_valid hz)
  have hz' : (valid v.f != 0) = false := by simpa using hz
  have HZ := Lib.hid hz
  have HV1 := Lib.hid (HVv.out.below hw1.out)
  have HRR := Lib.hid hR
  obtain ⟨n0, m0⟩ := okf_lens (okf_of_valid hz)
  have okw := ok.out.w2
  have okw1 := ok.out.w1
  have okh := ok.out.h2
  have okh1 := ok.out.h1
  clear hz hR
  have c0 := b0.at
  go_wp2_with fail
  clear c0
  with_reducible refine (has_any v x y _).mono ?_
  rintro r w2 ⟨rfl, hb2⟩
  replace b0 := b0.below hb2
  replace HV1 := Lib.hid (HV1.out.below hb2)
  replace HRR := Lib.hid (HRR.out.on hb2)
  replace hw1 := Lib.hid (below_trans' hw1.out hb2)
  clear hb2
  cases hp : isP v.f.W v.f.H x y
  case false =>
    have HF := Lib.hid (setR_off (k := k) HZ.out hp)
    have cr := HRR.out.box.at
    have fr := HRR.out.fz
    clear hp
    go_wp2_with fail
    have cF := (HRR.out.box.four (.int .i64 0) (.int .i64 0) (.slice none 0 0) (.slice none 0 0)).at
    exact bodyPost_ret (v := .tuple #[.agg #[.int .i64 0, .int .i64 0, .slice none 0 0, .slice none 0 0], .int .i64 5]) (by simp [results, Try.results44, go_sem, cF]) rfl
      ⟨⟨zeroF, none, none, 0, 0, 0, 0⟩, by rw [HF.out], by rw [HF.out]; rfl, FOwn.zero _ _, res_bel HRR.out.bel HRR.out.le _ _ _ _⟩
  have HP := Lib.hid hp
  unfold isP at hp
  rw [decide_eq_true_eq] at hp
  obtain ⟨x0, x1, y0, y1⟩ := hp
  by_cases hd : 0 ≤ k ∧ k ≤ 7
  case neg =>
    have HF := Lib.hid (setR_dir HZ.out HP.out hd)
    have cr := HRR.out.box.at
    have fr := HRR.out.fz
    by_cases hd1 : k < 0
    all_goals
      first | have hd2 : 7 < k := by omega | skip
      clear hd
      go_wp2_with fail
      have cF := (HRR.out.box.four (.int .i64 0) (.int .i64 0) (.slice none 0 0) (.slice none 0 0)).at
      exact bodyPost_ret (v := .tuple #[.agg #[.int .i64 0, .int .i64 0, .slice none 0 0, .slice none 0 0], .int .i64 1]) (by simp [results, Try.results44, go_sem, cF]) rfl
        ⟨⟨zeroF, none, none, 0, 0, 0, 0⟩, by rw [HF.out], by rw [HF.out]; rfl, FOwn.zero _ _, res_bel HRR.out.bel HRR.out.le _ _ _ _⟩
  have HD := Lib.hid hd
  obtain ⟨kd0, kd1⟩ := hd
  have q1 : v.n ≤ 1000000 := by have := HVv.out.len; omega
  have q2 : v.m ≤ 1000000 := by have := HVv.out.lenp; omega
  have HS := Lib.hid (setR_ok HZ.out HP.out HD.out)
  have HNN := Lib.hid n0
  have HMM := Lib.hid m0
  clear n0 m0
  have c0 := b0.at
  go_wp2_with fail
  clear c0
  with_reducible refine (clone_any v _ HV1.out q1 q2).mono ?_
  rintro r w3 ⟨u, huf, rfl, ho0, hb2⟩
  have HU := Lib.hid huf
  have HO := Lib.hid ho0
  have HB2 := Lib.hid hb2
  have HUN := Lib.hid (show u.n = u.f.ds.length from ho0.In.len)
  have hum := ho0.In.lenp
  have huml : u.m ≤ 60 := by rw [hum, huf]; exact HMM.out
  clear huf ho0 hb2 hum q1 q2
  obtain ⟨i0, i1, i2, i3, i4⟩ := idx_bd ok.out.w1 ok.out.w2 ok.out.h2 x0 x1 y0 y1
  obtain ⟨j, hj⟩ := Int.eq_ofNat_of_zero_le i2
  have hll := ok.out.len
  have hjd : j < u.f.ds.length := by rw [HU.out]; omega
  obtain ⟨d, hdd⟩ : ∃ d, u.f.ds[j]? = some d := ⟨_, List.getElem?_eq_getElem hjd⟩
  have hjn : j < u.n := by rw [HUN.out]; exact hjd
  obtain ⟨g, hg, hgl, hgw, d0, z0⟩ := HO.out.atD hdd
  have X : ∀ w, (Instr.indexAt 22 (.slice u.A u.n u.c) (.int .i64 (y * v.f.W + x))).run Try.prog w = .ok (.pointer (some ⟨g, j, none⟩)) w := fun w => by
    have := ix22 (c := u.c) hg hjn w
    rw [← hj] at this
    rwa [show (⟨g, 0, none⟩ : Addr).add j = ⟨g, j, none⟩ by unfold Addr.add; split <;> simp_all] at this
  have HJ := Lib.hid hj
  have HG := Lib.hid hg
  have hgl' := Lib.hid hgl
  have hgw' := Lib.hid hgw
  have HLT := Lib.hid (show ∀ p, u.A = some p → p.block < w3.heap.size from fun p hp => (HO.out.blkA hp).2)
  have d1 := fun o => (World.cell?_alloc_lt w3 o ⟨g, j, none⟩ hgw).trans d0
  have z1 := fun o => ((belowA w3 o).frozen (p := ⟨g, j, none⟩) hgw).trans (z0 j)
  clear hj hll hjd hdd hg d0 z0 hgl i3
  dsimp only [FV.val]
  have b2 := b0.below HB2.out
  have cA := fun o => ((b2.alloc o).at)
  have hne : g ≠ w3.heap.size := by omega
  go_wp2_with fail
  clear cA d1 z1 X
  have HO5 := Lib.hid ((HO.out.storeD HG.out j k).on (belowA _ (.cells #[.int .i64 u.f.W, .int .i64 u.f.H, .slice u.A u.n u.c, .slice u.B u.m u.d] 25)))
  have HB5 := Lib.hid (below_trans' (HB2.out.setCell (p := ⟨g, j, none⟩) hgl'.out (.int .i64 k)) (belowA _ (.cells #[.int .i64 u.f.W, .int .i64 u.f.H, .slice u.A u.n u.c, .slice u.B u.m u.d] 25)))
  have hres : Calls Try.prog 84 #[u.val] ((w3.setCell ⟨g, j, none⟩ (.int .i64 k)).alloc (.cells #[.int .i64 u.f.W, .int .i64 u.f.H, .slice u.A u.n u.c, .slice u.B u.m u.d] 25)) (RetOwn (fin (setD v.f x y k)) (valid (setD v.f x y k)) w2) := by
    have h := result_any (u.withD (u.f.ds.set j k)) w2 _ HB5.out HO5.out (by show u.m ≤ _; omega)
    have e : (u.withD (u.f.ds.set j k)).f = setD v.f x y k := by
      show withD u.f _ = _
      rw [HU.out, show j = (y * v.f.W + x).toNat by have := HJ.out; omega]; rfl
    rw [e, srt_of (show (setD v.f x y k).ps.Pairwise ltE from ok.out.sorted)] at h
    exact h
  have HRES := Lib.hid hres
  clear hres
  with_reducible refine HRES.out.mono ?_
  rintro r w5 ⟨u', hu', rfl, ho5, hb5⟩
  have HU' := Lib.hid hu'
  have HO6 := Lib.hid ho5
  have HR5 := Lib.hid (HRR.out.on hb5)
  have hlt1 := Lib.hid HRR.out.box.1
  have cr := HR5.out.box.at
  have fr := HR5.out.fz
  clear hu' ho5 hb5
  dsimp only [FV.val]
  go_wp2_with fail
  have cF := (HR5.out.box.four (.int .i64 u'.f.W) (.int .i64 u'.f.H) (.slice u'.A u'.n u'.c) (.slice u'.B u'.m u'.d)).at
  have HE := res_own HO6.out hlt1.out HR5.out.bel HR5.out.le hw1.out.size (.int .i64 u'.f.W) (.int .i64 u'.f.H) (.slice u'.A u'.n u'.c) (.slice u'.B u'.m u'.d)
  exact bodyPost_ret (v := .tuple #[.agg #[.int .i64 u'.f.W, .int .i64 u'.f.H, .slice u'.A u'.n u'.c, .slice u'.B u'.m u'.d], .int .i64 (valid (setD v.f x y k))]) (by simp [results, Try.results44, go_sem, cF]) rfl
    ⟨u', by rw [HU'.out, HS.out], by rw [HS.out], HE.1, HE.2⟩
set_option maxHeartbeats 4000000 in
set_option maxRecDepth 4000 in
theorem refSet_any (v : FV) (x y k : Int) (w : World) (hv : v.In w) :
    Calls Try.prog 45 #[v.val, .int .i64 x, .int .i64 y, .int .i64 k] w (RetOwn (setR v.f x y k).1 (setR v.f x y k).2 w) := by
  have HVv := Lib.hid hv
  clear hv
  go_enter Try.func45, Try.ntmps45
  dsimp only [FV.val]
  go_wp2_with fail
  with_reducible refine (refValidate_any v _ (HVv.out.below (belowAA _ _ _))).mono ?_
  rintro r w1 ⟨rfl, hb1⟩
  have hR := (ResB.new w #[.int .i64 v.f.W, .int .i64 v.f.H, .slice v.A v.n v.c, .slice v.B v.m v.d] 25).on hb1
  have b0 := ((Box.new w #[.int .i64 v.f.W, .int .i64 v.f.H, .slice v.A v.n v.c, .slice v.B v.m v.d] 25).alloc (.cells #[.int .i64 0, .int .i64 0, .slice none 0 0, .slice none 0 0] 25)).below hb1
  have hw1 := Lib.hid (below2 _ _ hb1)
  clear hb1
  by_cases hz : valid v.f = 0
  case neg =>
    have hz' : (valid v.f != 0) = true := by simpa using hz
    have HF := Lib.hid (setR_bad (x := x) (y := y) (k := k) hz)
    have HR := Lib.hid hR
    have cr := hR.box.at
    have fr := hR.fz
    clear hz hR
    go_wp2_with fail
    have cF := (HR.out.box.four (.int .i64 0) (.int .i64 0) (.slice none 0 0) (.slice none 0 0)).at
    exact bodyPost_ret (v := .tuple #[.agg #[.int .i64 0, .int .i64 0, .slice none 0 0, .slice none 0 0], .int .i64 (valid v.f)]) (by simp [results, Try.results45, go_sem, cF]) rfl
      ⟨⟨zeroF, none, none, 0, 0, 0, 0⟩, by rw [HF.out], by rw [HF.out]; rfl, FOwn.zero _ _, res_bel HR.out.bel HR.out.le _ _ _ _⟩
  have ok := Lib.hid (okf_of_valid hz)
  have hz' : (valid v.f != 0) = false := by simpa using hz
  have HZ := Lib.hid hz
  have HV1 := Lib.hid (HVv.out.below hw1.out)
  have HRR := Lib.hid hR
  obtain ⟨n0, m0⟩ := okf_lens (okf_of_valid hz)
  have okw := ok.out.w2
  have okw1 := ok.out.w1
  have okh := ok.out.h2
  have okh1 := ok.out.h1
  clear hz hR
  have c0 := b0.at
  go_wp2_with fail
  clear c0
  with_reducible refine (isPlace_any v x y _ okw1 okw okh1 okh).mono ?_
  rintro r w2 ⟨rfl, hb2⟩
  replace b0 := b0.below hb2
  replace HV1 := Lib.hid (HV1.out.below hb2)
  replace HRR := Lib.hid (HRR.out.on hb2)
  replace hw1 := Lib.hid (below_trans' hw1.out hb2)
  clear hb2
  cases hp : isP v.f.W v.f.H x y
  case false =>
    have HF := Lib.hid (setR_off (k := k) HZ.out hp)
    have cr := HRR.out.box.at
    have fr := HRR.out.fz
    clear hp
    go_wp2_with fail
    have cF := (HRR.out.box.four (.int .i64 0) (.int .i64 0) (.slice none 0 0) (.slice none 0 0)).at
    exact bodyPost_ret (v := .tuple #[.agg #[.int .i64 0, .int .i64 0, .slice none 0 0, .slice none 0 0], .int .i64 5]) (by simp [results, Try.results45, go_sem, cF]) rfl
      ⟨⟨zeroF, none, none, 0, 0, 0, 0⟩, by rw [HF.out], by rw [HF.out]; rfl, FOwn.zero _ _, res_bel HRR.out.bel HRR.out.le _ _ _ _⟩
  have HP := Lib.hid hp
  unfold isP at hp
  rw [decide_eq_true_eq] at hp
  obtain ⟨x0, x1, y0, y1⟩ := hp
  by_cases hd : 0 ≤ k ∧ k ≤ 7
  case neg =>
    have HF := Lib.hid (setR_dir HZ.out HP.out hd)
    have cr := HRR.out.box.at
    have fr := HRR.out.fz
    go_wp2_with fail
    with_reducible refine (within_f k 0 7 _ hd).mono ?_
    rintro r w' ⟨rfl, rfl⟩
    clear hd
    go_wp2_with fail
    have cF := (HRR.out.box.four (.int .i64 0) (.int .i64 0) (.slice none 0 0) (.slice none 0 0)).at
    exact bodyPost_ret (v := .tuple #[.agg #[.int .i64 0, .int .i64 0, .slice none 0 0, .slice none 0 0], .int .i64 1]) (by simp [results, Try.results45, go_sem, cF]) rfl
      ⟨⟨zeroF, none, none, 0, 0, 0, 0⟩, by rw [HF.out], by rw [HF.out]; rfl, FOwn.zero _ _, res_bel HRR.out.bel HRR.out.le _ _ _ _⟩
  have HD := Lib.hid hd
  obtain ⟨kd0, kd1⟩ := hd
  have q1 : v.f.ds.length ≤ 1000000 := by have := HVv.out.len; omega
  have q2 : v.f.ps.length ≤ 1000000 := by have := HVv.out.lenp; omega
  have HS := Lib.hid (setR_ok HZ.out HP.out HD.out)
  have HNN := Lib.hid n0
  have HMM := Lib.hid m0
  clear n0 m0
  have c0 := b0.at
  go_wp2_with fail
  with_reducible refine (within_t k 0 7 _ HD.out).mono ?_
  rintro r w' ⟨rfl, rfl⟩
  go_wp2_with fail
  clear c0
  with_reducible refine (copyO_any v _ HV1.out q1 q2).mono ?_
  rintro r w3 ⟨u, huf, rfl, ho0, hb2⟩
  have HU := Lib.hid huf
  have HO := Lib.hid ho0
  have HB2 := Lib.hid hb2
  have HUN := Lib.hid (show u.n = u.f.ds.length from ho0.In.len)
  have hum := ho0.In.lenp
  have huml : u.m ≤ 60 := by rw [hum, huf]; exact HMM.out
  clear huf ho0 hb2 hum q1 q2
  obtain ⟨i0, i1, i2, i3, i4⟩ := idx_bd ok.out.w1 ok.out.w2 ok.out.h2 x0 x1 y0 y1
  obtain ⟨j, hj⟩ := Int.eq_ofNat_of_zero_le i2
  have hll := ok.out.len
  have hjd : j < u.f.ds.length := by rw [HU.out]; omega
  obtain ⟨d, hdd⟩ : ∃ d, u.f.ds[j]? = some d := ⟨_, List.getElem?_eq_getElem hjd⟩
  have hjn : j < u.n := by rw [HUN.out]; exact hjd
  obtain ⟨g, hg, hgl, hgw, d0, z0⟩ := HO.out.atD hdd
  have X : ∀ w, (Instr.indexAt 22 (.slice u.A u.n u.c) (.int .i64 (y * v.f.W + x))).run Try.prog w = .ok (.pointer (some ⟨g, j, none⟩)) w := fun w => by
    have := ix22 (c := u.c) hg hjn w
    rw [← hj] at this
    rwa [show (⟨g, 0, none⟩ : Addr).add j = ⟨g, j, none⟩ by unfold Addr.add; split <;> simp_all] at this
  have HJ := Lib.hid hj
  have HG := Lib.hid hg
  have hgl' := Lib.hid hgl
  have hgw' := Lib.hid hgw
  have HLT := Lib.hid (show ∀ p, u.A = some p → p.block < w3.heap.size from fun p hp => (HO.out.blkA hp).2)
  have d1 := fun o => (World.cell?_alloc_lt w3 o ⟨g, j, none⟩ hgw).trans d0
  have z1 := fun o => ((belowA w3 o).frozen (p := ⟨g, j, none⟩) hgw).trans (z0 j)
  clear hj hll hjd hdd hg d0 z0 hgl i3
  dsimp only [FV.val]
  have b2 := b0.below HB2.out
  have cA := fun o => ((b2.alloc o).at)
  have hne : g ≠ w3.heap.size := by omega
  go_wp2_with fail
  clear cA d1 z1 X
  have HO5 := Lib.hid ((HO.out.storeD HG.out j k).on (belowA _ (.cells #[.int .i64 u.f.W, .int .i64 u.f.H, .slice u.A u.n u.c, .slice u.B u.m u.d] 25)))
  have HB5 := Lib.hid (below_trans' (HB2.out.setCell (p := ⟨g, j, none⟩) hgl'.out (.int .i64 k)) (belowA _ (.cells #[.int .i64 u.f.W, .int .i64 u.f.H, .slice u.A u.n u.c, .slice u.B u.m u.d] 25)))
  have hres : Calls Try.prog 86 #[u.val] ((w3.setCell ⟨g, j, none⟩ (.int .i64 k)).alloc (.cells #[.int .i64 u.f.W, .int .i64 u.f.H, .slice u.A u.n u.c, .slice u.B u.m u.d] 25)) (RetOwn (fin (setD v.f x y k)) (valid (setD v.f x y k)) w2) := by
    have h := refResult_any (u.withD (u.f.ds.set j k)) w2 _ HB5.out HO5.out
    have e : (u.withD (u.f.ds.set j k)).f = setD v.f x y k := by
      show withD u.f _ = _
      rw [HU.out, show j = (y * v.f.W + x).toNat by have := HJ.out; omega]; rfl
    rw [e] at h
    exact h
  have HRES := Lib.hid hres
  clear hres
  with_reducible refine HRES.out.mono ?_
  rintro r w5 ⟨u', hu', rfl, ho5, hb5⟩
  have HU' := Lib.hid hu'
  have HO6 := Lib.hid ho5
  have HR5 := Lib.hid (HRR.out.on hb5)
  have hlt1 := Lib.hid HRR.out.box.1
  have cr := HR5.out.box.at
  have fr := HR5.out.fz
  clear hu' ho5 hb5
  dsimp only [FV.val]
  go_wp2_with fail
  have cF := (HR5.out.box.four (.int .i64 u'.f.W) (.int .i64 u'.f.H) (.slice u'.A u'.n u'.c) (.slice u'.B u'.m u'.d)).at
  have HE := res_own HO6.out hlt1.out HR5.out.bel HR5.out.le hw1.out.size (.int .i64 u'.f.W) (.int .i64 u'.f.H) (.slice u'.A u'.n u'.c) (.slice u'.B u'.m u'.d)
  exact bodyPost_ret (v := .tuple #[.agg #[.int .i64 u'.f.W, .int .i64 u'.f.H, .slice u'.A u'.n u'.c, .slice u'.B u'.m u'.d], .int .i64 (valid (setD v.f x y k))]) (by simp [results, Try.results45, go_sem, cF]) rfl
    ⟨u', by rw [HU'.out, HS.out], by rw [HS.out], HE.1, HE.2⟩
end Go.Proofs.Ytahmdnboeenfkaa
