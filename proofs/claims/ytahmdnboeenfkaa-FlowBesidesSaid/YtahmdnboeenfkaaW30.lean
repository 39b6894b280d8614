/- Walks: all directions turned, on both sides. -/
import Derived.Test.YtahmdnboeenfkaaW29
namespace Go.Proofs.Ytahmdnboeenfkaa
open Go.RowKit Go.Sort

def spin1 (k d : Int) : Int := (d + k) % 8
theorem srt_of {f : Fld} (h : f.ps.Pairwise ltE) : srt f = f := by unfold srt; rw [sortE_of_lt h]
theorem spinR_bad {f : Fld} (h : valid f ≠ 0) (k : Int) : spinR f k = (zeroF, valid f) := by unfold spinR; rw [if_pos h]
theorem spinR_ok {f : Fld} (h : valid f = 0) (k : Int) : spinR f k = (spinF f k, 0) := by unfold spinR; rw [if_neg (by simpa using h)]
theorem okf_lens {f : Fld} (h : Okf f) : f.ds.length ≤ 144 ∧ f.ps.length ≤ 60 := by
  have h1 := h.len
  have h2 := Int.mul_le_mul h.w2 h.h2 (by have := h.h1; omega) (by omega)
  exact ⟨by omega, h.cnt⟩

set_option maxHeartbeats 4000000 in
set_option maxRecDepth 4000 in
theorem Spin_any (v : FV) (k : Int) (w : World) (hv : v.In w) :
    Calls Try.prog 39 #[v.val, .int .i64 k] w (RetOwn (spinR v.f k).1 (spinR v.f k).2 w) := by
  have HVv := Lib.hid hv
  clear hv
  go_enter Try.func39, Try.ntmps39
  dsimp only [FV.val]
  go_wp2_with fail
  refine (validate_any v _ (HVv.out.below (belowAA _ _ _))).mono ?_
  rintro r w1 ⟨rfl, hb1⟩
  have hR := (ResB.new w #[.int .i64 v.f.W, .int .i64 v.f.H, .slice v.A v.n v.c, .slice v.B v.m v.d] 25).on hb1
  have b0 := ((Box.new w #[.int .i64 v.f.W, .int .i64 v.f.H, .slice v.A v.n v.c, .slice v.B v.m v.d] 25).alloc (.cells #[.int .i64 0, .int .i64 0, .slice none 0 0, .slice none 0 0] 25)).below hb1
  have hw1 := Lib.hid (below2 _ _ hb1)
  clear hb1
  by_cases hz : valid v.f = 0
  case neg =>
    have hz' : (valid v.f != 0) = true := by simpa using hz
    have HF := Lib.hid (spinR_bad hz k)
    have HR := Lib.hid hR
    have cr := hR.box.at
    have fr := hR.fz
    clear hz hR
    go_wp2_with fail
    have cF := (HR.out.box.four (.int .i64 0) (.int .i64 0) (.slice none 0 0) (.slice none 0 0)).at
    exact bodyPost_ret (v := .tuple #[.agg #[.int .i64 0, .int .i64 0, .slice none 0 0, .slice none 0 0], .int .i64 (valid v.f)]) (by simp [results, Try.results39, go_sem, cF]) rfl
      ⟨⟨zeroF, none, none, 0, 0, 0, 0⟩, by rw [HF.out], by rw [HF.out]; rfl, FOwn.zero _ _, res_bel HR.out.bel HR.out.le _ _ _ _⟩
  have ok := Lib.hid (okf_of_valid hz)
  have hz' : (valid v.f != 0) = false := by simpa using hz
  have HS := Lib.hid (spinR_ok hz k)
  have HZ := Lib.hid hz
  have HV1 := Lib.hid (HVv.out.below hw1.out)
  have HRR := Lib.hid hR
  obtain ⟨n0, m0⟩ := okf_lens (okf_of_valid hz)
  have q1 : v.n ≤ 1000000 := by have := HVv.out.len; omega
  have q2 : v.m ≤ 1000000 := by have := HVv.out.lenp; omega
  have q3 : v.f.ds.length ≤ 144 := n0
  have q4 : v.f.ps.length ≤ 60 := m0
  clear hz hR n0 m0
  have c0 := b0.at
  go_wp2_with fail
  clear c0
  with_reducible refine (clone_any v _ HV1.out q1 q2).mono ?_
  rintro r w2 ⟨u, huf, rfl, ho0, hb2⟩
  have HU := Lib.hid huf
  have HO := Lib.hid ho0
  have HB2 := Lib.hid hb2
  have hun : u.n = u.f.ds.length := ho0.In.len
  have hum : u.m = u.f.ps.length := ho0.In.lenp
  have hul : u.n ≤ 144 := by rw [hun, huf]; omega
  have huml : u.m ≤ 60 := by rw [hum, huf]; omega
  have HUN := Lib.hid hun
  clear huf ho0 hb2 hun hum q1 q2 q3 q4
  dsimp only [FV.val]
  have b2 := b0.below HB2.out
  have cA := fun o => ((b2.alloc o).at)
  have cN := (Box.new w2 #[.int .i64 u.f.W, .int .i64 u.f.H, .slice u.A u.n u.c, .slice u.B u.m u.d] 25).at
  go_wp2_with fail
  clear cA cN
  refine wp_gen (fun W => Box W w2.heap.size #[.int .i64 u.f.W, .int .i64 u.f.H, .slice u.A u.n u.c, .slice u.B u.m u.d] ∧ FOwn w1.heap.size W u ∧ Below w1.heap.size w1 W ∧ Below w2.heap.size w2 W) ⟨Box.new _ _ _, HO.out.on (belowA _ _), below_trans' HB2.out (belowA _ _), belowA _ _⟩ ?_
  rintro w3 ⟨bo, ho3, hb3, hb23⟩
  have HO3 := Lib.hid ho3
  have HB3 := Lib.hid hb3
  have hAlt := Lib.hid (fun p (hp : u.A = some p) => (HO.out.blkA hp).2)
  clear ho3 hb3 hb23
  go_loopw [21] (fun i wr => ∃ j : Nat, j ≤ u.n ∧ i = .int .i64 j ∧ Box wr w2.heap.size #[.int .i64 u.f.W, .int .i64 u.f.H, .slice u.A u.n u.c, .slice u.B u.m u.d] ∧ FOwn w1.heap.size wr (u.withD (mixL (spin1 k) j u.f.ds)) ∧ Below w1.heap.size w1 wr) (fun i _ => u.n - (intOf i).toNat)
  case atStart => exact ⟨0, by omega, rfl, bo, by rw [mixL_zero]; exact HO3.out, HB3.out⟩
  case round =>
    clear bo
    obtain ⟨j, hj, rfl, bo, hoj, hbj⟩ := hrel
    have HOj := Lib.hid hoj
    have HBj := Lib.hid hbj
    by_cases hlt : j < u.n
    · have hjd : j < u.f.ds.length := by rw [← HUN.out]; exact hlt
      obtain ⟨d, hd⟩ : ∃ d, u.f.ds[j]? = some d := ⟨_, List.getElem?_eq_getElem hjd⟩
      obtain ⟨g, hg, hgl, hgw, d0, z0⟩ := hoj.atD (k := j) (d := d) (mixL_get hd)
      have hg' : u.A = some ⟨g, 0, none⟩ := hg
      have hgo := hAlt.out _ hg'
      have X : ∀ w, (Instr.indexAt 22 (.slice u.A u.n u.c) (.int .i64 (j : Int))).run Try.prog w = .ok (.pointer (some ⟨g, j, none⟩)) w := fun w => by
        have := ix22 (c := u.c) hg' hlt w
        rwa [show (⟨g, 0, none⟩ : Addr).add j = ⟨g, j, none⟩ by unfold Addr.add; split <;> simp_all] at this
      have hdb := ok.out.dir d (by rw [← HU.out]; exact List.mem_of_getElem? hd)
      obtain ⟨db0, db1⟩ := hdb
      have HSET := Lib.hid (mixL_set (g := spin1 k) hd)
      have HGD := Lib.hid hg'
      have HEV := Lib.hid (show spin1 k d = (d + k % 8) % 8 by unfold spin1; omega)
      have hne : w2.heap.size ≠ (⟨g, j, none⟩ : Addr).block := by show w2.heap.size ≠ g; have : g < w2.heap.size := hgo; omega
      have HNE := Lib.hid hne
      have k0 : 0 ≤ k % 8 := by omega
      have k1 : k % 8 ≤ 7 := by omega
      have co := bo.at
      clear hd hg hg' hoj hbj hgo hne hjd
      have z0' := z0 j
      clear z0
      go_wp2_with fail
      go_region_held3 (fun w' => ∀ i, w'.cell? ⟨w2.heap.size, i, none⟩ = (#[.int .i64 u.f.W, .int .i64 u.f.H, .slice u.A u.n u.c, .slice u.B u.m u.d] : Array Value)[i]?) (first | exact co | exact (bo.far (p := ⟨g, j, none⟩) HNE.out _).at)
        (first | (go_at_call 83; refine (mod_any _ _).mono ?_; rintro e w' ⟨rfl, rfl⟩))
      have HW := Lib.hid (show IntKind.i64.wrap (d + k % 8) = d + k % 8 from IntWalk.i64_in _ (by omega))
      rw [HW.out, ← HEV.out]
      have HO5 := Lib.hid ((HOj.out.storeD HGD.out j (spin1 k d)).on (Below.refl _ _).drew)
      have HB5 := Lib.hid (HBj.out.setCell (p := ⟨g, j, none⟩) hgl (.int .i64 (spin1 k d))).drew
      have b5 := (bo.far (p := ⟨g, j, none⟩) HNE.out (.int .i64 (spin1 k d))).drew
      clear co d0 z0' X bo
      go_wp2_with fail
      go_roundw
      case rel => exact ⟨j + 1, by omega, by go_num, b5, by rw [← HSET.out]; exact HO5.out, HB5.out⟩
      case measure => simp [intOf]; omega
    · have hres : Calls Try.prog 84 #[u.val] wr (RetOwn (spinF v.f k) 0 w1) := by
        have h := result_any (u.withD (mixL (spin1 k) j u.f.ds)) w1 wr HBj.out HOj.out (by show u.m ≤ _; omega)
        have e : (u.withD (mixL (spin1 k) j u.f.ds)).f = spinF v.f k := by
          show withD u.f _ = _
          rw [mixL_all (by have := HUN.out; omega), HU.out]; rfl
        rw [e, srt_of (spin_okf ok.out k).sorted, valid_spin HZ.out k, show fin (spinF v.f k) = spinF v.f k by unfold fin; rw [if_pos (valid_spin HZ.out k)]] at h
        exact h
      have HRES := Lib.hid hres
      have co := bo.at
      clear hoj hbj hres
      go_wp2_with fail
      with_reducible refine HRES.out.mono ?_
      rintro r w5 ⟨u', hu', rfl, ho5, hb5⟩
      have HU' := Lib.hid hu'
      have HO5 := Lib.hid ho5
      have HR5 := Lib.hid (HRR.out.on hb5)
      have hlt1 := Lib.hid HRR.out.box.1
      have cr := HR5.out.box.at
      have fr := HR5.out.fz
      clear hu' ho5 hb5 co bo
      dsimp only [FV.val]
      go_wp2_with fail
      have cF := (HR5.out.box.four (.int .i64 u'.f.W) (.int .i64 u'.f.H) (.slice u'.A u'.n u'.c) (.slice u'.B u'.m u'.d)).at
      have HE := res_own HO5.out hlt1.out HR5.out.bel HR5.out.le hw1.out.size (.int .i64 u'.f.W) (.int .i64 u'.f.H) (.slice u'.A u'.n u'.c) (.slice u'.B u'.m u'.d)
      exact bodyPost_ret (v := .tuple #[.agg #[.int .i64 u'.f.W, .int .i64 u'.f.H, .slice u'.A u'.n u'.c, .slice u'.B u'.m u'.d], .int .i64 0]) (by simp [results, Try.results39, go_sem, cF]) rfl
        ⟨u', by rw [HU'.out, HS.out], by rw [HS.out], HE.1, HE.2⟩
end Go.Proofs.Ytahmdnboeenfkaa
