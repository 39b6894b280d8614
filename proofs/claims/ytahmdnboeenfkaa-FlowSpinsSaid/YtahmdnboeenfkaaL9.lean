/- Walks: the law FlowSpins. -/
import Derived.Test.YtahmdnboeenfkaaW36
import Derived.Test.YtahmdnboeenfkaaW34
import Derived.Test.YtahmdnboeenfkaaL1
namespace Go.Proofs.Ytahmdnboeenfkaa
open Go.RowKit Go.Sort

set_option maxHeartbeats 4000000 in
set_option maxRecDepth 100000 in
theorem lawSpins (v : FV) (k : Int) (w : World) (hv : v.In w) :
    Calls Try.prog 14 #[v.val, .int .i64 k] w fun r w' => r = .returned (.bool true) ∧ Below w.heap.size w w' := by
  have HV := Lib.hid hv
  clear hv
  go_enter Try.func14, Try.ntmps14
  dsimp only [FV.val, eval_]
  go_wp2_with fail
  with_reducible refine (long_any v _ (HV.out.below (belowA _ _))).mono ?_
  rintro r w1 ⟨rfl, hb1⟩
  have bv := (Box.new w #[.int .i64 v.f.W, .int .i64 v.f.H, .slice v.A v.n v.c, .slice v.B v.m v.d] 25).below hb1
  have hw := Lib.hid (below1 _ hb1)
  clear hb1
  cases hlong : longF v.f
  case true =>
    go_wp2_with fail
    with_reducible refine (known_any _).mono ?_
    rintro r w2 ⟨rfl, hb2⟩
    go_wp2_with fail
    go_ret
    exact ⟨rfl, below_trans' hw.out hb2⟩
  have hl := of_decide_eq_false hlong
  have HL := Lib.hid hl
  replace HV := Lib.hid (HV.out.below hw.out)
  clear hlong hl
  have c0 := bv.at
  go_wp2_with fail
  clear c0
  with_reducible refine (copyO_any v _ HV.out (by have := HL.out; omega) (by have := HL.out; omega)).mono ?_
  rintro r w2 ⟨u, huf, rfl, ho, hb⟩
  have HU := Lib.hid huf
  have Iu := Lib.hid ho.In
  replace bv := bv.below hb
  replace hw := Lib.hid (below_trans' hw.out hb)
  replace HV := Lib.hid (HV.out.below hb)
  clear hb huf ho

  dsimp only [FV.val]
  go_wp2_with fail
  with_reducible refine (Spin_any u k _ (Iu.out.below (belowA _ _))).mono ?_
  rintro r w3 ⟨a, haf, rfl, ho, hb⟩
  have bu := (Box.new w2 #[.int .i64 u.f.W, .int .i64 u.f.H, .slice u.A u.n u.c, .slice u.B u.m u.d] 25).below hb
  replace bv := (bv.alloc (.cells #[.int .i64 u.f.W, .int .i64 u.f.H, .slice u.A u.n u.c, .slice u.B u.m u.d] 25)).below hb
  replace hb := below1 _ hb
  replace hw := Lib.hid (below_trans' hw.out hb)
  replace HV := Lib.hid (HV.out.below hb)
  replace Iu := Lib.hid (Iu.out.below hb)
  have Ia := Lib.hid ho.In
  rw [HU.out] at haf ⊢
  have Ha := Lib.hid (show a.f = (spinR v.f k).1 from haf)
  clear hb haf ho
  have cc := fun o => (bv.alloc o).at
  dsimp only [FV.val]
  go_wp2_with fail
  clear cc
  with_reducible refine (refSpin_any v k _ (HV.out.below (belowA _ _))).mono ?_
  rintro r w4 ⟨b, haf, rfl, ho, hb⟩
  have ba := (Box.new w3 #[.int .i64 a.f.W, .int .i64 a.f.H, .slice a.A a.n a.c, .slice a.B a.m a.d] 25).below hb
  replace bv := (bv.alloc (.cells #[.int .i64 a.f.W, .int .i64 a.f.H, .slice a.A a.n a.c, .slice a.B a.m a.d] 25)).below hb
  replace bu := (bu.alloc (.cells #[.int .i64 a.f.W, .int .i64 a.f.H, .slice a.A a.n a.c, .slice a.B a.m a.d] 25)).below hb
  replace hb := below1 _ hb
  replace hw := Lib.hid (below_trans' hw.out hb)
  replace HV := Lib.hid (HV.out.below hb)
  replace Iu := Lib.hid (Iu.out.below hb)
  replace Ia := Lib.hid (Ia.out.below hb)
  have Ib := Lib.hid ho.In
  have Hb := Lib.hid (show b.f = (spinR v.f k).1 from haf)
  clear hb haf ho
  have cc := fun o => (bu.alloc o).at
  dsimp only [FV.val]
  go_wp2_with fail
  clear cc
  with_reducible refine (Mirror_any u  _ (Iu.out.below (belowA _ _))).mono ?_
  rintro r w5 ⟨c, haf, rfl, ho, hb⟩
  have bb := (Box.new w4 #[.int .i64 b.f.W, .int .i64 b.f.H, .slice b.A b.n b.c, .slice b.B b.m b.d] 25).below hb
  replace bv := (bv.alloc (.cells #[.int .i64 b.f.W, .int .i64 b.f.H, .slice b.A b.n b.c, .slice b.B b.m b.d] 25)).below hb
  replace bu := (bu.alloc (.cells #[.int .i64 b.f.W, .int .i64 b.f.H, .slice b.A b.n b.c, .slice b.B b.m b.d] 25)).below hb
  replace ba := (ba.alloc (.cells #[.int .i64 b.f.W, .int .i64 b.f.H, .slice b.A b.n b.c, .slice b.B b.m b.d] 25)).below hb
  replace hb := below1 _ hb
  replace hw := Lib.hid (below_trans' hw.out hb)
  replace HV := Lib.hid (HV.out.below hb)
  replace Iu := Lib.hid (Iu.out.below hb)
  replace Ia := Lib.hid (Ia.out.below hb)
  replace Ib := Lib.hid (Ib.out.below hb)
  have Ic := Lib.hid ho.In
  rw [HU.out] at haf ⊢
  have Hc := Lib.hid (show c.f = (mirR v.f).1 from haf)
  clear hb haf ho
  have cc := fun o => (bv.alloc o).at
  dsimp only [FV.val]
  go_wp2_with fail
  clear cc
  with_reducible refine (refMirror_any v  _ (HV.out.below (belowA _ _))).mono ?_
  rintro r w6 ⟨d, haf, rfl, ho, hb⟩
  have bc := (Box.new w5 #[.int .i64 c.f.W, .int .i64 c.f.H, .slice c.A c.n c.c, .slice c.B c.m c.d] 25).below hb
  replace bv := (bv.alloc (.cells #[.int .i64 c.f.W, .int .i64 c.f.H, .slice c.A c.n c.c, .slice c.B c.m c.d] 25)).below hb
  replace bu := (bu.alloc (.cells #[.int .i64 c.f.W, .int .i64 c.f.H, .slice c.A c.n c.c, .slice c.B c.m c.d] 25)).below hb
  replace ba := (ba.alloc (.cells #[.int .i64 c.f.W, .int .i64 c.f.H, .slice c.A c.n c.c, .slice c.B c.m c.d] 25)).below hb
  replace bb := (bb.alloc (.cells #[.int .i64 c.f.W, .int .i64 c.f.H, .slice c.A c.n c.c, .slice c.B c.m c.d] 25)).below hb
  replace hb := below1 _ hb
  replace hw := Lib.hid (below_trans' hw.out hb)
  replace HV := Lib.hid (HV.out.below hb)
  replace Iu := Lib.hid (Iu.out.below hb)
  replace Ia := Lib.hid (Ia.out.below hb)
  replace Ib := Lib.hid (Ib.out.below hb)
  replace Ic := Lib.hid (Ic.out.below hb)
  have Id := Lib.hid ho.In
  have Hd := Lib.hid (show d.f = (mirR v.f).1 from haf)
  clear hb haf ho
  have cc := fun o => (bu.alloc o).at
  dsimp only [FV.val]
  go_wp2_with fail
  clear cc
  with_reducible refine (Quarter_any u  _ (Iu.out.below (belowA _ _))).mono ?_
  rintro r w7 ⟨x, haf, rfl, ho, hb⟩
  have bd := (Box.new w6 #[.int .i64 d.f.W, .int .i64 d.f.H, .slice d.A d.n d.c, .slice d.B d.m d.d] 25).below hb
  replace bv := (bv.alloc (.cells #[.int .i64 d.f.W, .int .i64 d.f.H, .slice d.A d.n d.c, .slice d.B d.m d.d] 25)).below hb
  replace bu := (bu.alloc (.cells #[.int .i64 d.f.W, .int .i64 d.f.H, .slice d.A d.n d.c, .slice d.B d.m d.d] 25)).below hb
  replace ba := (ba.alloc (.cells #[.int .i64 d.f.W, .int .i64 d.f.H, .slice d.A d.n d.c, .slice d.B d.m d.d] 25)).below hb
  replace bb := (bb.alloc (.cells #[.int .i64 d.f.W, .int .i64 d.f.H, .slice d.A d.n d.c, .slice d.B d.m d.d] 25)).below hb
  replace bc := (bc.alloc (.cells #[.int .i64 d.f.W, .int .i64 d.f.H, .slice d.A d.n d.c, .slice d.B d.m d.d] 25)).below hb
  replace hb := below1 _ hb
  replace hw := Lib.hid (below_trans' hw.out hb)
  replace HV := Lib.hid (HV.out.below hb)
  replace Iu := Lib.hid (Iu.out.below hb)
  replace Ia := Lib.hid (Ia.out.below hb)
  replace Ib := Lib.hid (Ib.out.below hb)
  replace Ic := Lib.hid (Ic.out.below hb)
  replace Id := Lib.hid (Id.out.below hb)
  have Ix := Lib.hid ho.In
  rw [HU.out] at haf ⊢
  have Hx := Lib.hid (show x.f = (quaR v.f).1 from haf)
  clear hb haf ho
  have cc := fun o => (bv.alloc o).at
  dsimp only [FV.val]
  go_wp2_with fail
  clear cc
  with_reducible refine (refQuarter_any v  _ (HV.out.below (belowA _ _))).mono ?_
  rintro r w8 ⟨y, haf, rfl, ho, hb⟩
  have bx := (Box.new w7 #[.int .i64 x.f.W, .int .i64 x.f.H, .slice x.A x.n x.c, .slice x.B x.m x.d] 25).below hb
  replace bv := (bv.alloc (.cells #[.int .i64 x.f.W, .int .i64 x.f.H, .slice x.A x.n x.c, .slice x.B x.m x.d] 25)).below hb
  replace bu := (bu.alloc (.cells #[.int .i64 x.f.W, .int .i64 x.f.H, .slice x.A x.n x.c, .slice x.B x.m x.d] 25)).below hb
  replace ba := (ba.alloc (.cells #[.int .i64 x.f.W, .int .i64 x.f.H, .slice x.A x.n x.c, .slice x.B x.m x.d] 25)).below hb
  replace bb := (bb.alloc (.cells #[.int .i64 x.f.W, .int .i64 x.f.H, .slice x.A x.n x.c, .slice x.B x.m x.d] 25)).below hb
  replace bc := (bc.alloc (.cells #[.int .i64 x.f.W, .int .i64 x.f.H, .slice x.A x.n x.c, .slice x.B x.m x.d] 25)).below hb
  replace bd := (bd.alloc (.cells #[.int .i64 x.f.W, .int .i64 x.f.H, .slice x.A x.n x.c, .slice x.B x.m x.d] 25)).below hb
  replace hb := below1 _ hb
  replace hw := Lib.hid (below_trans' hw.out hb)
  replace HV := Lib.hid (HV.out.below hb)
  replace Iu := Lib.hid (Iu.out.below hb)
  replace Ia := Lib.hid (Ia.out.below hb)
  replace Ib := Lib.hid (Ib.out.below hb)
  replace Ic := Lib.hid (Ic.out.below hb)
  replace Id := Lib.hid (Id.out.below hb)
  replace Ix := Lib.hid (Ix.out.below hb)
  have Iy := Lib.hid ho.In
  have Hy := Lib.hid (show y.f = (quaR v.f).1 from haf)
  clear hb haf ho
  generalize hz1 : (spinR v.f k).2 = z1
  generalize hz2 : (mirR v.f).2 = z2
  generalize hz3 : (quaR v.f).2 = z3
  clear hz1 hz2 hz3
  have ca := fun o => (ba.alloc o).at
  have cb := fun o => (bb.alloc o).at
  dsimp only [FV.val]
  go_wp2_with fail
  clear ca cb
  with_reducible refine (same_any a b _ (Ia.out.below (belowA _ _)) (Ib.out.below (belowA _ _))).mono ?_
  rintro r w9 ⟨rfl, hb⟩
  rw [show sameF a.f b.f = true by rw [Ha.out, Hb.out]; exact sameF_refl _]
  have by_ := (Box.new w8 #[.int .i64 y.f.W, .int .i64 y.f.H, .slice y.A y.n y.c, .slice y.B y.m y.d] 25).below hb
  replace bv := (bv.alloc (.cells #[.int .i64 y.f.W, .int .i64 y.f.H, .slice y.A y.n y.c, .slice y.B y.m y.d] 25)).below hb
  replace bu := (bu.alloc (.cells #[.int .i64 y.f.W, .int .i64 y.f.H, .slice y.A y.n y.c, .slice y.B y.m y.d] 25)).below hb
  replace ba := (ba.alloc (.cells #[.int .i64 y.f.W, .int .i64 y.f.H, .slice y.A y.n y.c, .slice y.B y.m y.d] 25)).below hb
  replace bb := (bb.alloc (.cells #[.int .i64 y.f.W, .int .i64 y.f.H, .slice y.A y.n y.c, .slice y.B y.m y.d] 25)).below hb
  replace bc := (bc.alloc (.cells #[.int .i64 y.f.W, .int .i64 y.f.H, .slice y.A y.n y.c, .slice y.B y.m y.d] 25)).below hb
  replace bd := (bd.alloc (.cells #[.int .i64 y.f.W, .int .i64 y.f.H, .slice y.A y.n y.c, .slice y.B y.m y.d] 25)).below hb
  replace bx := (bx.alloc (.cells #[.int .i64 y.f.W, .int .i64 y.f.H, .slice y.A y.n y.c, .slice y.B y.m y.d] 25)).below hb
  replace hb := below1 _ hb
  replace hw := Lib.hid (below_trans' hw.out hb)
  replace HV := Lib.hid (HV.out.below hb)
  replace Iu := Lib.hid (Iu.out.below hb)
  replace Ia := Lib.hid (Ia.out.below hb)
  replace Ib := Lib.hid (Ib.out.below hb)
  replace Ic := Lib.hid (Ic.out.below hb)
  replace Id := Lib.hid (Id.out.below hb)
  replace Ix := Lib.hid (Ix.out.below hb)
  replace Iy := Lib.hid (Iy.out.below hb)
  clear hb
  have c1 := bc.at
  have c2 := bd.at
  go_wp2_with fail
  clear c1 c2
  with_reducible refine (same_any c d _ Ic.out Id.out).mono ?_
  rintro r w10 ⟨rfl, hb⟩
  rw [show sameF c.f d.f = true by rw [Hc.out, Hd.out]; exact sameF_refl _]
  replace bv := bv.below hb
  replace bu := bu.below hb
  replace ba := ba.below hb
  replace bb := bb.below hb
  replace bc := bc.below hb
  replace bd := bd.below hb
  replace bx := bx.below hb
  replace by_ := by_.below hb
  replace hw := Lib.hid (below_trans' hw.out hb)
  replace HV := Lib.hid (HV.out.below hb)
  replace Iu := Lib.hid (Iu.out.below hb)
  replace Ia := Lib.hid (Ia.out.below hb)
  replace Ib := Lib.hid (Ib.out.below hb)
  replace Ic := Lib.hid (Ic.out.below hb)
  replace Id := Lib.hid (Id.out.below hb)
  replace Ix := Lib.hid (Ix.out.below hb)
  replace Iy := Lib.hid (Iy.out.below hb)
  clear hb
  have c1 := bx.at
  have c2 := by_.at
  go_wp2_with fail
  clear c1 c2
  with_reducible refine (same_any x y _ Ix.out Iy.out).mono ?_
  rintro r w11 ⟨rfl, hb⟩
  rw [show sameF x.f y.f = true by rw [Hx.out, Hy.out]; exact sameF_refl _]
  replace bv := bv.below hb
  replace bu := bu.below hb
  replace ba := ba.below hb
  replace bb := bb.below hb
  replace bc := bc.below hb
  replace bd := bd.below hb
  replace bx := bx.below hb
  replace by_ := by_.below hb
  replace hw := Lib.hid (below_trans' hw.out hb)
  replace HV := Lib.hid (HV.out.below hb)
  replace Iu := Lib.hid (Iu.out.below hb)
  replace Ia := Lib.hid (Ia.out.below hb)
  replace Ib := Lib.hid (Ib.out.below hb)
  replace Ic := Lib.hid (Ic.out.below hb)
  replace Id := Lib.hid (Id.out.below hb)
  replace Ix := Lib.hid (Ix.out.below hb)
  replace Iy := Lib.hid (Iy.out.below hb)
  clear hb
  have c1 := bu.at
  have c2 := bv.at
  go_wp2_with fail
  clear c1 c2
  with_reducible refine (same_any u v _ Iu.out HV.out).mono ?_
  rintro r w12 ⟨rfl, hb⟩
  rw [show sameF u.f v.f = true by rw [HU.out]; exact sameF_refl _]
  replace bv := bv.below hb
  replace bu := bu.below hb
  replace ba := ba.below hb
  replace bb := bb.below hb
  replace bc := bc.below hb
  replace bd := bd.below hb
  replace bx := bx.below hb
  replace by_ := by_.below hb
  replace hw := Lib.hid (below_trans' hw.out hb)
  replace HV := Lib.hid (HV.out.below hb)
  replace Iu := Lib.hid (Iu.out.below hb)
  replace Ia := Lib.hid (Ia.out.below hb)
  replace Ib := Lib.hid (Ib.out.below hb)
  replace Ic := Lib.hid (Ic.out.below hb)
  replace Id := Lib.hid (Id.out.below hb)
  replace Ix := Lib.hid (Ix.out.below hb)
  replace Iy := Lib.hid (Iy.out.below hb)
  clear hb
  go_wp2_with fail
  with_reducible refine (known_any _).mono ?_
  rintro r wz ⟨rfl, hb⟩
  have HB := Lib.hid hb
  clear hb
  go_wp2_with fail
  go_ret
  exact ⟨rfl, below_trans' hw.out HB.out⟩
theorem lawSpinsR (v : FV) (k : Int) (w : World) (hv : v.In w) {p1 : Prop} (_ : p1) :
    Calls Try.prog 14 #[v.val, .int .i64 k] w fun r w' => r = .returned (.bool true) ∧ Below w.heap.size w w' := lawSpins v k w hv
end Go.Proofs.Ytahmdnboeenfkaa
