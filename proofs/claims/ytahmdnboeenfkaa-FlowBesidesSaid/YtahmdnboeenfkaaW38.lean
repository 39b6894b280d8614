/- Walks: a parting more or less, the program's. -/
import Derived.Test.YtahmdnboeenfkaaPw
namespace Go.Proofs.Ytahmdnboeenfkaa
open Go.RowKit Go.Sort

theorem belowA3 (w : World) (o u t : Obj) : Below w.heap.size w (((w.alloc o).alloc u).alloc t) := below_trans' (belowAA w o u) (belowA _ t)
set_option maxHeartbeats 4000000 in
set_option maxRecDepth 10000 in
theorem Part_any (v : FV) (e : Edg) (w : World) (hv : v.In w) :
    Calls Try.prog 46 #[v.val, eval_ e] w (RetOwn (partR v.f e).1 (partR v.f e).2 w) := by
  have HVv := Lib.hid hv
  clear hv
  go_enter Try.func46, Try.ntmps46
  dsimp only [FV.val, eval_]
  go_wp2_with fail
  with_reducible refine (validate_any v _ (HVv.out.below (belowA3 _ _ _ _))).mono ?_
  rintro r w1 ⟨rfl, hb1⟩
  have hR := (ResB.new3 w #[.int .i64 v.f.W, .int .i64 v.f.H, .slice v.A v.n v.c, .slice v.B v.m v.d] #[.int .i64 e.1, .int .i64 e.2.1, .int .i64 e.2.2] 25 33).on hb1
  have b0 := (((Box.new w #[.int .i64 v.f.W, .int .i64 v.f.H, .slice v.A v.n v.c, .slice v.B v.m v.d] 25).alloc (.cells #[.int .i64 e.1, .int .i64 e.2.1, .int .i64 e.2.2] 33)).alloc (.cells #[.int .i64 0, .int .i64 0, .slice none 0 0, .slice none 0 0] 25)).below hb1
  have be := ((Box.new2 w #[.int .i64 v.f.W, .int .i64 v.f.H, .slice v.A v.n v.c, .slice v.B v.m v.d] #[.int .i64 e.1, .int .i64 e.2.1, .int .i64 e.2.2] 25 33).alloc (.cells #[.int .i64 0, .int .i64 0, .slice none 0 0, .slice none 0 0] 25)).below hb1
  have hw1 := Lib.hid (below_trans' (belowA3 w _ _ _) hb1)
  clear hb1
  by_cases hz : valid v.f = 0
  case neg =>
    have hz' : (valid v.f != 0) = true := by simpa using hz
    have HF := Lib.hid (partR_bad (e := e) hz)
    have HR := Lib.hid hR
    have cr := hR.box.at
    have fr := hR.fz
    clear hz hR
    go_wp2_with fail
    have cF := (HR.out.box.four (.int .i64 0) (.int .i64 0) (.slice none 0 0) (.slice none 0 0)).at
    exact bodyPost_ret (v := .tuple #[.agg #[.int .i64 0, .int .i64 0, .slice none 0 0, .slice none 0 0], .int .i64 (valid v.f)]) (by simp [results, Try.results46, go_sem, cF]) rfl
      ⟨⟨zeroF, none, none, 0, 0, 0, 0⟩, by rw [HF.out], by rw [HF.out]; rfl, FOwn.zero _ _, res_bel HR.out.bel HR.out.le _ _ _ _⟩
  have ok := Lib.hid (okf_of_valid hz)
  have hz' : (valid v.f != 0) = false := by simpa using hz
  have HZ := Lib.hid hz
  have HV1 := Lib.hid (HVv.out.below hw1.out)
  have HRR := Lib.hid hR
  obtain ⟨n0, m0⟩ := okf_lens (okf_of_valid hz)
  have okw := ok.out.w2
  have okw1 := ok.out.w1
  have okh := ok.out.h2
  have okh1 := ok.out.h1
  clear hz hR
  have c0 := b0.at
  have ce := be.at
  go_wp2_with fail
  clear c0 ce
  with_reducible refine (hasEdge_any v e _ okw1 (by omega) okh1 (by omega)).mono ?_
  rintro r w2 ⟨rfl, hb2⟩
  replace b0 := b0.below hb2
  replace be := be.below hb2
  replace HV1 := Lib.hid (HV1.out.below hb2)
  replace HRR := Lib.hid (HRR.out.on hb2)
  replace hw1 := Lib.hid (below_trans' hw1.out hb2)
  clear hb2
  cases hp : isE v.f.W v.f.H e
  case false =>
    have HF := Lib.hid (partR_off HZ.out hp)
    have cr := HRR.out.box.at
    have fr := HRR.out.fz
    clear hp
    go_wp2_with fail
    have cF := (HRR.out.box.four (.int .i64 0) (.int .i64 0) (.slice none 0 0) (.slice none 0 0)).at
    exact bodyPost_ret (v := .tuple #[.agg #[.int .i64 0, .int .i64 0, .slice none 0 0, .slice none 0 0], .int .i64 5]) (by simp [results, Try.results46, go_sem, cF]) rfl
      ⟨⟨zeroF, none, none, 0, 0, 0, 0⟩, by rw [HF.out], by rw [HF.out]; rfl, FOwn.zero _ _, res_bel HRR.out.bel HRR.out.le _ _ _ _⟩
  have HS := Lib.hid (partR_ok HZ.out hp)
  have q1 : v.n ≤ 1000000 := by have := HVv.out.len; omega
  have q2 : v.m ≤ 1000000 := by have := HVv.out.lenp; omega
  have HMM := Lib.hid m0
  clear n0 m0 hp
  have c0 := b0.at
  go_wp2_with fail
  clear c0
  with_reducible refine (clone_any v _ HV1.out q1 q2).mono ?_
  rintro r w3 ⟨u, huf, rfl, ho0, hb2⟩
  obtain ⟨f', A, B, n, c, m, d⟩ := u
  dsimp only at huf
  subst huf
  have hg3 := GF.boxed hb2 ho0 25
  have hml : m ≤ 60 := by have h := ho0.In.lenp; have := HMM.out; dsimp only at h; omega
  have HSO := Lib.hid ok.out.sorted
  replace be := (be.below hb2).alloc (.cells #[.int .i64 v.f.W, .int .i64 v.f.H, .slice A n c, .slice B m d] 25)
  have HG3 := Lib.hid hg3
  have hs3 : w2.heap.size ≤ w3.heap.size := hb2.size
  have hlt1 := Lib.hid HRR.out.box.1
  clear ho0 hb2 b0 q1 q2
  dsimp only [FV.val]
  have ce := be.at
  go_wp2_with fail
  clear ce
  with_reducible refine (bs_any B m d v.f.ps e _ hg3.own.In.ps (by omega) HSO.out).mono ?_
  rintro r w4 ⟨rfl, hb4⟩
  replace be := be.below hb4
  have hg4 := hg3.on hb4
  have HG4 := Lib.hid hg4
  have hs4 : w2.heap.size + 1 ≤ w4.heap.size := by have := hb4.size; rw [World.size_alloc] at this; omega
  clear hb4 hg3 HG3
  by_cases hm : e ∈ v.f.ps
  · have hd : decide (e ∈ v.f.ps) = true := by simpa using hm
    rw [hd]
    obtain ⟨i, hi⟩ : ∃ i, i = lowE v.f.ps e := ⟨_, rfl⟩
    have hx := (mem_iff_low HSO.out).1 hm
    rw [← hi] at hx ⊢
    have HX := Lib.hid hx
    have HE := Lib.hid ((filter_cut HSO.out hx).symm.trans (partE_in hm).symm)
    have him : i < m := by have h1 := (List.getElem?_eq_some_iff.1 hx).1; have h := hg4.own.In.lenp; dsimp only at h; omega
    obtain ⟨g, hg, hgl, hgw, _⟩ := hg4.own.atP hx
    dsimp only at hg
    subst hg
    have c4 := hg4.box.at
    clear hd hi hx hm hg4
    go_wp2_with fail
    with_reducible refine (delete_any w2.heap.size g m d i v.f.ps _ HG4.out.ps (by omega) him).mono ?_
    rintro r w5 ⟨rfl, hr5, hgw5⟩
    have bx5 := HG4.out.box.grown hgw5 (fun k hk => by injection hk with hk; subst hk; exact HG4.out.nB _ rfl)
    have f5 := fz_grown HG4.out.box.1 HG4.out.fz hgw5 (fun k hk => by injection hk with hk; subst hk; exact HG4.out.nB _ rfl)
    have hg6 := HG4.out.putR hr5 hgw5 (.inl rfl)
    have hres : Calls Try.prog 84 #[(⟨{ v.f with ps := v.f.ps.take i ++ v.f.ps.drop (i + 1) }, A, some ⟨g, 0, none⟩, n, c, m - 1, d⟩ : FV).val] (w5.setCell ⟨w3.heap.size, 3, none⟩ (.slice (some ⟨g, 0, none⟩) (m - 1) d)) (RetOwn (fin (partF v.f e)) (valid (partF v.f e)) w2) := by
      have h := result_any ⟨{ v.f with ps := v.f.ps.take i ++ v.f.ps.drop (i + 1) }, A, some ⟨g, 0, none⟩, n, c, m - 1, d⟩ w2 _ hg6.bel hg6.own (by show m - 1 ≤ _; omega)
      have e1 : srt ({ v.f with ps := v.f.ps.take i ++ v.f.ps.drop (i + 1) } : Fld) = partF v.f e := by
        rw [HE.out]
        unfold srt partF
        rw [sortE_of_lt (part_sorted HSO.out)]
      dsimp only at h
      rw [e1] at h
      exact h
    have HRES := Lib.hid hres
    have c5 := bx5.at
    have c6 := hg6.box.at
    clear hr5 hgw5 c4 hg6 hres bx5
    go_wp2_with fail
    with_reducible refine HRES.out.mono ?_
    rintro r w7 ⟨u', hu', rfl, ho5, hb5⟩
    have HU' := Lib.hid hu'
    have HO6 := Lib.hid ho5
    have HR5 := Lib.hid (HRR.out.on hb5)
    have cr := HR5.out.box.at
    have fr := HR5.out.fz
    clear hu' ho5 hb5 c5 c6 f5
    dsimp only [FV.val]
    go_wp2_with fail
    have cF := (HR5.out.box.four (.int .i64 u'.f.W) (.int .i64 u'.f.H) (.slice u'.A u'.n u'.c) (.slice u'.B u'.m u'.d)).at
    have HE := res_own HO6.out hlt1.out HR5.out.bel HR5.out.le hw1.out.size (.int .i64 u'.f.W) (.int .i64 u'.f.H) (.slice u'.A u'.n u'.c) (.slice u'.B u'.m u'.d)
    exact bodyPost_ret (v := .tuple #[.agg #[.int .i64 u'.f.W, .int .i64 u'.f.H, .slice u'.A u'.n u'.c, .slice u'.B u'.m u'.d], .int .i64 (valid (partF v.f e))]) (by simp [results, Try.results46, go_sem, cF]) rfl
      ⟨u', by rw [HU'.out, HS.out], by rw [HS.out], HE.1, HE.2⟩
  · have hd : decide (e ∈ v.f.ps) = false := by simpa using hm
    rw [hd]
    have HE := Lib.hid ((putE_sort HSO.out).symm.trans (partE_out hm).symm)
    generalize lowE v.f.ps e = i
    have c4 := hg4.box.at
    have c4A := fun o => (hg4.box.alloc o).at
    have ce := be.at
    clear hd hm hg4
    go_wp2_with (at_builtin; refine wpList_pushGE2 rfl _ _ rfl w2.heap.size _ B m d v.f.ps e _ rfl (HG4.out.on (belowA _ _)).ps (by rw [World.size_alloc]; omega) rfl (Box.new _ _ _) (by omega) ?_; intro B' d' w6 hr6 hgw6 hnew; have g5 := HG4.out.on (belowA w4 (Obj.cells #[.int .i64 e.1, .int .i64 e.2.1, .int .i64 e.2.2] 33)); have bx6 := g5.box.grown hgw6 (fun k hk => by obtain ⟨p, hp, rfl⟩ := own_blk hk; exact g5.nB p hp); have f6 := fz_grown g5.box.1 g5.fz hgw6 (fun k hk => by obtain ⟨p, hp, rfl⟩ := own_blk hk; exact g5.nB p hp); have c6 := bx6.at; have HG6 := Lib.hid (g5.putR hr6 hgw6 hnew); have c7 := HG6.out.box.at; clear hr6 hgw6 hnew g5 bx6 c4 c4A ce)
    have hres : Calls Try.prog 84 #[(⟨{ v.f with ps := v.f.ps ++ [e] }, A, B', n, c, m + 1, d'⟩ : FV).val] (w6.setCell ⟨w3.heap.size, 3, none⟩ (.slice B' (m + 1) d')) (RetOwn (fin (partF v.f e)) (valid (partF v.f e)) w2) := by
      have h := result_any ⟨{ v.f with ps := v.f.ps ++ [e] }, A, B', n, c, m + 1, d'⟩ w2 _ HG6.out.bel HG6.out.own (by show m + 1 ≤ _; omega)
      have e1 : srt ({ v.f with ps := v.f.ps ++ [e] } : Fld) = partF v.f e := by
        unfold srt partF
        dsimp only
        rw [HE.out]
      dsimp only at h
      rw [e1] at h
      exact h
    have HRES := Lib.hid hres
    clear hres c6 c7 f6
    with_reducible refine HRES.out.mono ?_
    rintro r w7 ⟨u', hu', rfl, ho5, hb5⟩
    have HU' := Lib.hid hu'
    have HO6 := Lib.hid ho5
    have HR5 := Lib.hid (HRR.out.on hb5)
    have cr := HR5.out.box.at
    have fr := HR5.out.fz
    clear hu' ho5 hb5
    dsimp only [FV.val]
    go_wp2_with fail
    have cF := (HR5.out.box.four (.int .i64 u'.f.W) (.int .i64 u'.f.H) (.slice u'.A u'.n u'.c) (.slice u'.B u'.m u'.d)).at
    have HE := res_own HO6.out hlt1.out HR5.out.bel HR5.out.le hw1.out.size (.int .i64 u'.f.W) (.int .i64 u'.f.H) (.slice u'.A u'.n u'.c) (.slice u'.B u'.m u'.d)
    exact bodyPost_ret (v := .tuple #[.agg #[.int .i64 u'.f.W, .int .i64 u'.f.H, .slice u'.A u'.n u'.c, .slice u'.B u'.m u'.d], .int .i64 (valid (partF v.f e))]) (by simp [results, Try.results46, go_sem, cF]) rfl
      ⟨u', by rw [HU'.out, HS.out], by rw [HS.out], HE.1, HE.2⟩
end Go.Proofs.Ytahmdnboeenfkaa
