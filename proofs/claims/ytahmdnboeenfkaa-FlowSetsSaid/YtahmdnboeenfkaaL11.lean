/- Walks: the law FlowSets. -/
import Derived.Test.YtahmdnboeenfkaaW39
import Derived.Test.YtahmdnboeenfkaaL1
namespace Go.Proofs.Ytahmdnboeenfkaa
open Go.RowKit Go.Sort

set_option maxHeartbeats 4000000 in
set_option maxRecDepth 100000 in
theorem lawSets (v : FV) (s e : Edg) (w : World) (hv : v.In w) :
    Calls Try.prog 13 #[v.val, eval_ s, eval_ e] w fun r w' => r = .returned (.bool true) ∧ Below w.heap.size w w' := by
  have HV := Lib.hid hv
  clear hv
  go_enter Try.func13, Try.ntmps13
  dsimp only [FV.val, eval_]
  go_wp2_with fail
  with_reducible refine (long_any v _ (HV.out.below (belowA3 _ _ _ _))).mono ?_
  rintro r w1 ⟨rfl, hb1⟩
  have bv := (((Box.new w #[.int .i64 v.f.W, .int .i64 v.f.H, .slice v.A v.n v.c, .slice v.B v.m v.d] 25).alloc (.cells #[.int .i64 s.1, .int .i64 s.2.1, .int .i64 s.2.2] 64)).alloc (.cells #[.int .i64 e.1, .int .i64 e.2.1, .int .i64 e.2.2] 33)).below hb1
  have bs := ((Box.new2 w #[.int .i64 v.f.W, .int .i64 v.f.H, .slice v.A v.n v.c, .slice v.B v.m v.d] #[.int .i64 s.1, .int .i64 s.2.1, .int .i64 s.2.2] 25 64).alloc (.cells #[.int .i64 e.1, .int .i64 e.2.1, .int .i64 e.2.2] 33)).below hb1
  have be := (Box.new ((w.alloc (.cells #[.int .i64 v.f.W, .int .i64 v.f.H, .slice v.A v.n v.c, .slice v.B v.m v.d] 25)).alloc (.cells #[.int .i64 s.1, .int .i64 s.2.1, .int .i64 s.2.2] 64)) #[.int .i64 e.1, .int .i64 e.2.1, .int .i64 e.2.2] 33).below hb1
  have hw := Lib.hid (below_trans' (belowA3 w _ _ _) hb1)
  rw [World.size_alloc, World.size_alloc] at be
  clear hb1
  cases hlong : longF v.f
  case true =>
    go_wp2_with fail
    with_reducible refine (known_any _).mono ?_
    rintro r w2 ⟨rfl, hb2⟩
    go_wp2_with fail
    go_ret
    exact ⟨rfl, below_trans' hw.out hb2⟩
  have hl := of_decide_eq_false hlong
  have HL := Lib.hid hl
  replace HV := Lib.hid (HV.out.below hw.out)
  clear hlong hl
  have c0 := bv.at
  go_wp2_with fail
  clear c0
  with_reducible refine (copyO_any v _ HV.out (by have := HL.out; omega) (by have := HL.out; omega)).mono ?_
  rintro r w2 ⟨u, huf, rfl, ho, hb⟩
  obtain ⟨f', A, B, n, cap, m, d⟩ := u
  dsimp only at huf
  subst huf
  have Iu := Lib.hid ho.In
  replace bv := bv.below hb
  replace bs := bs.below hb
  replace be := be.below hb
  replace hw := Lib.hid (below_trans' hw.out hb)
  replace HV := Lib.hid (HV.out.below hb)
  clear hb ho
  have cs := fun o => (bs.alloc o).at
  dsimp only [FV.val]
  go_wp2_with fail
  clear cs
  obtain ⟨u, hu⟩ : ∃ u : FV, u = ⟨v.f, A, B, n, cap, m, d⟩ := ⟨_, rfl⟩
  have bu := Box.new w2 #[.int .i64 v.f.W, .int .i64 v.f.H, .slice A n cap, .slice B m d] 25
  replace bv := bv.alloc (.cells #[.int .i64 v.f.W, .int .i64 v.f.H, .slice A n cap, .slice B m d] 25)
  replace bs := bs.alloc (.cells #[.int .i64 v.f.W, .int .i64 v.f.H, .slice A n cap, .slice B m d] 25)
  replace be := be.alloc (.cells #[.int .i64 v.f.W, .int .i64 v.f.H, .slice A n cap, .slice B m d] 25)
  replace hw := Lib.hid (below_trans' hw.out (belowA w2 (.cells #[.int .i64 v.f.W, .int .i64 v.f.H, .slice A n cap, .slice B m d] 25)))
  replace HV := Lib.hid (HV.out.below (belowA w2 (.cells #[.int .i64 v.f.W, .int .i64 v.f.H, .slice A n cap, .slice B m d] 25)))
  replace Iu := Lib.hid (Iu.out.below (belowA w2 (.cells #[.int .i64 v.f.W, .int .i64 v.f.H, .slice A n cap, .slice B m d] 25)))
  generalize w2.alloc (.cells #[.int .i64 v.f.W, .int .i64 v.f.H, .slice A n cap, .slice B m d] 25) = w3 at bu bv bs be hw HV Iu ⊢
  have bv3 := bv
  have bu3 := bu
  have HV3 := HV
  have Iu3 := Iu
  have hw3 := hw
  with_reducible refine (Set_any ⟨v.f, A, B, n, cap, m, d⟩ s.1 s.2.1 s.2.2 _ Iu.out).mono ?_
  rintro r w4 ⟨a, haf, rfl, ho, hb⟩
  have GA := Lib.hid (GF.boxed hb ho 25)
  have Ha := Lib.hid (show a.f = (setR v.f s.1 s.2.1 s.2.2).1 from haf)
  have Ia := Lib.hid ho.In
  dsimp only

  replace bv := bv.below hb
  replace bs := bs.below hb
  replace be := be.below hb
  replace bu := bu.below hb
  replace hw := Lib.hid (below_trans' hw.out hb)
  replace HV := Lib.hid (HV.out.below hb)
  replace Iu := Lib.hid (Iu.out.below hb)
  clear hb haf ho
  have c1 := fun o => (bv.alloc o).at
  have c2 := fun o => (bs.alloc o).at
  dsimp only [FV.val]
  go_wp2_with fail
  clear c1 c2
  with_reducible refine (refSet_any v s.1 s.2.1 s.2.2 _ (HV.out.below (belowA _ _))).mono ?_
  rintro r w5 ⟨b, haf, rfl, ho, hb⟩
  have ba := (Box.new w4 #[.int .i64 a.f.W, .int .i64 a.f.H, .slice a.A a.n a.c, .slice a.B a.m a.d] 25).below hb
  replace bv := (bv.alloc (.cells #[.int .i64 a.f.W, .int .i64 a.f.H, .slice a.A a.n a.c, .slice a.B a.m a.d] 25)).below hb
  replace bs := (bs.alloc (.cells #[.int .i64 a.f.W, .int .i64 a.f.H, .slice a.A a.n a.c, .slice a.B a.m a.d] 25)).below hb
  replace be := (be.alloc (.cells #[.int .i64 a.f.W, .int .i64 a.f.H, .slice a.A a.n a.c, .slice a.B a.m a.d] 25)).below hb
  replace bu := (bu.alloc (.cells #[.int .i64 a.f.W, .int .i64 a.f.H, .slice a.A a.n a.c, .slice a.B a.m a.d] 25)).below hb
  replace GA := Lib.hid (GA.out.on hb)
  replace hb := below1 _ hb
  replace hw := Lib.hid (below_trans' hw.out hb)
  replace HV := Lib.hid (HV.out.below hb)
  replace Iu := Lib.hid (Iu.out.below hb)
  replace Ia := Lib.hid (Ia.out.below hb)
  have Hb := Lib.hid (show b.f = (setR v.f s.1 s.2.1 s.2.2).1 from haf)
  have Ib := Lib.hid ho.In
  dsimp only
  clear hb haf ho
  have c1 := fun o => (bu.alloc o).at
  have c2 := fun o => (be.alloc o).at
  dsimp only [FV.val]
  go_wp2_with fail
  clear c1 c2
  with_reducible refine (Part_any ⟨v.f, A, B, n, cap, m, d⟩ e _ (Iu.out.below (belowA _ _))).mono ?_
  rintro r w6 ⟨c, haf, rfl, ho, hb⟩
  have bb := (Box.new w5 #[.int .i64 b.f.W, .int .i64 b.f.H, .slice b.A b.n b.c, .slice b.B b.m b.d] 25).below hb
  replace bv := (bv.alloc (.cells #[.int .i64 b.f.W, .int .i64 b.f.H, .slice b.A b.n b.c, .slice b.B b.m b.d] 25)).below hb
  replace bs := (bs.alloc (.cells #[.int .i64 b.f.W, .int .i64 b.f.H, .slice b.A b.n b.c, .slice b.B b.m b.d] 25)).below hb
  replace be := (be.alloc (.cells #[.int .i64 b.f.W, .int .i64 b.f.H, .slice b.A b.n b.c, .slice b.B b.m b.d] 25)).below hb
  replace bu := (bu.alloc (.cells #[.int .i64 b.f.W, .int .i64 b.f.H, .slice b.A b.n b.c, .slice b.B b.m b.d] 25)).below hb
  replace ba := (ba.alloc (.cells #[.int .i64 b.f.W, .int .i64 b.f.H, .slice b.A b.n b.c, .slice b.B b.m b.d] 25)).below hb
  replace GA := Lib.hid (GA.out.on (below1 _ hb))
  replace hb := below1 _ hb
  replace hw := Lib.hid (below_trans' hw.out hb)
  replace HV := Lib.hid (HV.out.below hb)
  replace Iu := Lib.hid (Iu.out.below hb)
  replace Ia := Lib.hid (Ia.out.below hb)
  replace Ib := Lib.hid (Ib.out.below hb)
  have Hc := Lib.hid (show c.f = (partR v.f e).1 from haf)
  have Ic := Lib.hid ho.In
  dsimp only
  clear hb haf ho
  have c1 := fun o => (bv.alloc o).at
  have c2 := fun o => (be.alloc o).at
  dsimp only [FV.val]
  go_wp2_with fail
  clear c1 c2
  with_reducible refine (refPart_any v e _ (HV.out.below (belowA _ _))).mono ?_
  rintro r w7 ⟨q, haf, rfl, ho, hb⟩
  have bc := (Box.new w6 #[.int .i64 c.f.W, .int .i64 c.f.H, .slice c.A c.n c.c, .slice c.B c.m c.d] 25).below hb
  replace bv := (bv.alloc (.cells #[.int .i64 c.f.W, .int .i64 c.f.H, .slice c.A c.n c.c, .slice c.B c.m c.d] 25)).below hb
  replace bs := (bs.alloc (.cells #[.int .i64 c.f.W, .int .i64 c.f.H, .slice c.A c.n c.c, .slice c.B c.m c.d] 25)).below hb
  replace be := (be.alloc (.cells #[.int .i64 c.f.W, .int .i64 c.f.H, .slice c.A c.n c.c, .slice c.B c.m c.d] 25)).below hb
  replace bu := (bu.alloc (.cells #[.int .i64 c.f.W, .int .i64 c.f.H, .slice c.A c.n c.c, .slice c.B c.m c.d] 25)).below hb
  replace ba := (ba.alloc (.cells #[.int .i64 c.f.W, .int .i64 c.f.H, .slice c.A c.n c.c, .slice c.B c.m c.d] 25)).below hb
  replace bb := (bb.alloc (.cells #[.int .i64 c.f.W, .int .i64 c.f.H, .slice c.A c.n c.c, .slice c.B c.m c.d] 25)).below hb
  replace GA := Lib.hid (GA.out.on (below1 _ hb))
  replace hb := below1 _ hb
  replace hw := Lib.hid (below_trans' hw.out hb)
  replace HV := Lib.hid (HV.out.below hb)
  replace Iu := Lib.hid (Iu.out.below hb)
  replace Ia := Lib.hid (Ia.out.below hb)
  replace Ib := Lib.hid (Ib.out.below hb)
  replace Ic := Lib.hid (Ic.out.below hb)
  have Hq := Lib.hid (show q.f = (partR v.f e).1 from haf)
  have Iq := Lib.hid ho.In
  dsimp only
  clear hb haf ho
  generalize hz1 : (setR v.f s.1 s.2.1 s.2.2).2 = z1
  generalize hz2 : (partR v.f e).2 = z2
  have HZ2 := Lib.hid hz2
  clear hz1 hz2
  have c1 := fun o => (ba.alloc o).at
  have c2 := fun o => (bb.alloc o).at
  dsimp only [FV.val]
  go_wp2_with fail
  clear c1 c2
  with_reducible refine (same_any a b _ (Ia.out.below (belowA _ _)) (Ib.out.below (belowA _ _))).mono ?_
  rintro r w8 ⟨rfl, hb⟩
  rw [show sameF a.f b.f = true by rw [Ha.out, Hb.out]; exact sameF_refl _]
  have bq := (Box.new w7 #[.int .i64 q.f.W, .int .i64 q.f.H, .slice q.A q.n q.c, .slice q.B q.m q.d] 25).below hb
  replace bv := (bv.alloc (.cells #[.int .i64 q.f.W, .int .i64 q.f.H, .slice q.A q.n q.c, .slice q.B q.m q.d] 25)).below hb
  replace bs := (bs.alloc (.cells #[.int .i64 q.f.W, .int .i64 q.f.H, .slice q.A q.n q.c, .slice q.B q.m q.d] 25)).below hb
  replace be := (be.alloc (.cells #[.int .i64 q.f.W, .int .i64 q.f.H, .slice q.A q.n q.c, .slice q.B q.m q.d] 25)).below hb
  replace bu := (bu.alloc (.cells #[.int .i64 q.f.W, .int .i64 q.f.H, .slice q.A q.n q.c, .slice q.B q.m q.d] 25)).below hb
  replace ba := (ba.alloc (.cells #[.int .i64 q.f.W, .int .i64 q.f.H, .slice q.A q.n q.c, .slice q.B q.m q.d] 25)).below hb
  replace bb := (bb.alloc (.cells #[.int .i64 q.f.W, .int .i64 q.f.H, .slice q.A q.n q.c, .slice q.B q.m q.d] 25)).below hb
  replace bc := (bc.alloc (.cells #[.int .i64 q.f.W, .int .i64 q.f.H, .slice q.A q.n q.c, .slice q.B q.m q.d] 25)).below hb
  replace hb := below1 _ hb
  replace GA := Lib.hid (GA.out.on hb)
  replace hw := Lib.hid (below_trans' hw.out hb)
  replace HV := Lib.hid (HV.out.below hb)
  replace Iu := Lib.hid (Iu.out.below hb)
  replace Ia := Lib.hid (Ia.out.below hb)
  replace Ib := Lib.hid (Ib.out.below hb)
  replace Ic := Lib.hid (Ic.out.below hb)
  replace Iq := Lib.hid (Iq.out.below hb)
  clear hb
  have c1 := bc.at
  have c2 := bq.at
  go_wp2_with fail
  clear c1 c2
  with_reducible refine (same_any c q _ Ic.out Iq.out).mono ?_
  rintro r w9 ⟨rfl, hb⟩
  rw [show sameF c.f q.f = true by rw [Hc.out, Hq.out]; exact sameF_refl _]
  replace bv := bv.below hb
  replace bs := bs.below hb
  replace be := be.below hb
  replace bu := bu.below hb
  replace ba := ba.below hb
  replace bb := bb.below hb
  replace bc := bc.below hb
  replace bq := bq.below hb
  replace GA := Lib.hid (GA.out.on hb)
  replace hw := Lib.hid (below_trans' hw.out hb)
  replace HV := Lib.hid (HV.out.below hb)
  replace Iu := Lib.hid (Iu.out.below hb)
  replace Ia := Lib.hid (Ia.out.below hb)
  replace Ib := Lib.hid (Ib.out.below hb)
  replace Ic := Lib.hid (Ic.out.below hb)
  replace Iq := Lib.hid (Iq.out.below hb)
  clear hb
  have c1 := bc.at
  have c2 := be.at
  go_wp2_with fail
  clear c1 c2
  with_reducible refine (Part_any c e _ Ic.out).mono ?_
  rintro r w10 ⟨k, haf, rfl, ho, hb⟩
  replace bv := bv.below hb
  replace bs := bs.below hb
  replace be := be.below hb
  replace bu := bu.below hb
  replace ba := ba.below hb
  replace bb := bb.below hb
  replace bc := bc.below hb
  replace bq := bq.below hb
  have Hk := Lib.hid haf
  have Ik := Lib.hid ho.In
  replace GA := Lib.hid (GA.out.on hb)
  replace hw := Lib.hid (below_trans' hw.out hb)
  replace HV := Lib.hid (HV.out.below hb)
  replace Iu := Lib.hid (Iu.out.below hb)
  replace Ia := Lib.hid (Ia.out.below hb)
  replace Ib := Lib.hid (Ib.out.below hb)
  replace Ic := Lib.hid (Ic.out.below hb)
  replace Iq := Lib.hid (Iq.out.below hb)
  clear hb
  clear haf ho
  by_cases hz : z2 = 0
  · have HP := Lib.hid (show partR c.f e = (v.f, 0) by
      rw [Hc.out]
      exact partR_twice (by rw [HZ2.out]; exact hz))
    rw [hz]
    rw [HP.out]
    have HK := Lib.hid (show k.f = v.f by rw [Hk.out, HP.out])
    clear hz
    dsimp only [FV.val]
    have c2 := fun o => (bv.alloc o).at
    go_wp2_with fail
    clear c2
    with_reducible refine (same_any k v _ (Ik.out.below (belowA _ _)) (HV.out.below (belowA _ _))).mono ?_
    rintro r wk ⟨rfl, hb⟩
    rw [show sameF k.f v.f = true by rw [HK.out]; exact sameF_refl _]
    replace GA := Lib.hid (GA.out.on (below1 _ hb))
    clear hb HK HP
    go_wp2_with fail
    refine wp_gen (fun W => GF w3 w3.heap.size w3.heap.size W w4.heap.size a) (GA.out) ?_
    intro wL GL
    have HGL := Lib.hid GL
    have HAN := Lib.hid (show a.n = a.f.ds.length from GL.own.In.len)
    have hnb := GL.own.In.nb
    clear GL GA
    go_loopw [19] (fun i wr => ∃ j : Nat, j ≤ a.n ∧ i = .int .i64 j ∧ ∃ l : List Int, l.length = a.n ∧ GF w3 w3.heap.size w3.heap.size wr w4.heap.size (a.withD l)) (fun i _ => a.n - (intOf i).toNat)
    case atStart => exact ⟨0, by omega, rfl, a.f.ds, HAN.out.symm, HGL.out⟩
    case round =>
      obtain ⟨j, hj, rfl, l, hll, hgr⟩ := hrel
      have HGR := Lib.hid hgr
      have ca : ∀ i, wr.cell? ⟨w4.heap.size, i, none⟩ = (#[.int .i64 a.f.W, .int .i64 a.f.H, .slice a.A a.n a.c, .slice a.B a.m a.d] : Array Value)[i]? := hgr.box.at
      by_cases hlt : j < a.n
      · obtain ⟨x, hx⟩ : ∃ x, l[j]? = some x := ⟨_, List.getElem?_eq_getElem (by omega)⟩
        obtain ⟨g, hg, hgl, hgw, d0, z0⟩ := hgr.own.atD (k := j) hx
        have hg' : a.A = some ⟨g, 0, none⟩ := hg
        have X : ∀ w, (Instr.indexAt 22 (.slice a.A a.n a.c) (.int .i64 (j : Int))).run Try.prog w = .ok (.pointer (some ⟨g, j, none⟩)) w := fun w => by
          have := ix22 (c := a.c) hg' hlt w
          rwa [show (⟨g, 0, none⟩ : Addr).add j = ⟨g, j, none⟩ by unfold Addr.add; split <;> simp_all] at this
        have z1 := z0 j
        have HG5 := Lib.hid (HGR.out.storeA hg hgl j 9)
        have HLL := Lib.hid (show (l.set j 9).length = a.n by rw [List.length_set]; exact hll)
        clear hg hg' hgr hx z0 hgl hgw
        go_wp2_with fail
        go_roundw
        case rel => exact ⟨j + 1, by omega, by go_num, l.set j 9, HLL.out, HG5.out⟩
        case measure => simp [intOf]; omega
      · have c1 := (bu3.below hgr.bel).at
        have c2 := (bv3.below hgr.bel).at
        have HVr := Lib.hid (HV3.out.below hgr.bel)
        have Iur := Lib.hid (Iu3.out.below hgr.bel)
        have hwr := Lib.hid (below_trans' hw3.out hgr.bel)
        have bv9 := bv3.below hgr.bel
        clear hgr
        go_wp2_with fail
        clear c1 c2
        with_reducible refine (same_any ⟨v.f, A, B, n, cap, m, d⟩ v _ Iur.out HVr.out).mono ?_
        rintro r wy ⟨rfl, hb⟩
        rw [show sameF (⟨v.f, A, B, n, cap, m, d⟩ : FV).f v.f = true from sameF_refl _]
        replace hwr := Lib.hid (below_trans' hwr.out hb)
        clear hb
        go_wp2_with fail
        with_reducible refine (known_any _).mono ?_
        rintro r wx ⟨rfl, hb⟩
        have HB := Lib.hid hb
        clear hb
        go_wp2_with fail
        go_ret
        exact ⟨rfl, below_trans' hwr.out HB.out⟩
  · have hz' : (z2 != 0) = true := by simpa using hz
    generalize (partR c.f e).2 = z3
    clear hz
    dsimp only [FV.val]
    go_wp2_with fail
    refine wp_gen (fun W => GF w3 w3.heap.size w3.heap.size W w4.heap.size a) (GA.out.on (belowA _ _)) ?_
    intro wL GL
    have HGL := Lib.hid GL
    have HAN := Lib.hid (show a.n = a.f.ds.length from GL.own.In.len)
    have hnb := GL.own.In.nb
    clear GL GA
    go_loopw [19] (fun i wr => ∃ j : Nat, j ≤ a.n ∧ i = .int .i64 j ∧ ∃ l : List Int, l.length = a.n ∧ GF w3 w3.heap.size w3.heap.size wr w4.heap.size (a.withD l)) (fun i _ => a.n - (intOf i).toNat)
    case atStart => exact ⟨0, by omega, rfl, a.f.ds, HAN.out.symm, HGL.out⟩
    case round =>
      obtain ⟨j, hj, rfl, l, hll, hgr⟩ := hrel
      have HGR := Lib.hid hgr
      have ca : ∀ i, wr.cell? ⟨w4.heap.size, i, none⟩ = (#[.int .i64 a.f.W, .int .i64 a.f.H, .slice a.A a.n a.c, .slice a.B a.m a.d] : Array Value)[i]? := hgr.box.at
      by_cases hlt : j < a.n
      · obtain ⟨x, hx⟩ : ∃ x, l[j]? = some x := ⟨_, List.getElem?_eq_getElem (by omega)⟩
        obtain ⟨g, hg, hgl, hgw, d0, z0⟩ := hgr.own.atD (k := j) hx
        have hg' : a.A = some ⟨g, 0, none⟩ := hg
        have X : ∀ w, (Instr.indexAt 22 (.slice a.A a.n a.c) (.int .i64 (j : Int))).run Try.prog w = .ok (.pointer (some ⟨g, j, none⟩)) w := fun w => by
          have := ix22 (c := a.c) hg' hlt w
          rwa [show (⟨g, 0, none⟩ : Addr).add j = ⟨g, j, none⟩ by unfold Addr.add; split <;> simp_all] at this
        have z1 := z0 j
        have HG5 := Lib.hid (HGR.out.storeA hg hgl j 9)
        have HLL := Lib.hid (show (l.set j 9).length = a.n by rw [List.length_set]; exact hll)
        clear hg hg' hgr hx z0 hgl hgw
        go_wp2_with fail
        go_roundw
        case rel => exact ⟨j + 1, by omega, by go_num, l.set j 9, HLL.out, HG5.out⟩
        case measure => simp [intOf]; omega
      · have c1 := (bu3.below hgr.bel).at
        have c2 := (bv3.below hgr.bel).at
        have HVr := Lib.hid (HV3.out.below hgr.bel)
        have Iur := Lib.hid (Iu3.out.below hgr.bel)
        have hwr := Lib.hid (below_trans' hw3.out hgr.bel)
        have bv9 := bv3.below hgr.bel
        clear hgr
        go_wp2_with fail
        clear c1 c2
        with_reducible refine (same_any ⟨v.f, A, B, n, cap, m, d⟩ v _ Iur.out HVr.out).mono ?_
        rintro r wy ⟨rfl, hb⟩
        rw [show sameF (⟨v.f, A, B, n, cap, m, d⟩ : FV).f v.f = true from sameF_refl _]
        replace hwr := Lib.hid (below_trans' hwr.out hb)
        clear hb
        go_wp2_with fail
        with_reducible refine (known_any _).mono ?_
        rintro r wx ⟨rfl, hb⟩
        have HB := Lib.hid hb
        clear hb
        go_wp2_with fail
        go_ret
        exact ⟨rfl, below_trans' hwr.out HB.out⟩
theorem lawSetsR (v : FV) (s e : Edg) (w : World) (hv : v.In w) {p1 p2 : Prop} (_ : p1) (_ : p2) :
    Calls Try.prog 13 #[v.val, eval_ s, eval_ e] w fun r w' => r = .returned (.bool true) ∧ Below w.heap.size w w' := lawSets v s e w hv
end Go.Proofs.Ytahmdnboeenfkaa
