/- Walks: the law FlowTurns. -/
import Derived.Test.YtahmdnboeenfkaaW11
namespace Go.Proofs.Ytahmdnboeenfkaa
open Go.RowKit Go.Sort

theorem Box.new3 (w : World) (cs ds es : Array Value) (t u x : TypeId) : Box (((w.alloc (.cells cs t)).alloc (.cells ds u)).alloc (.cells es x)) (w.heap.size + 2) es := by
  have := Box.new ((w.alloc (.cells cs t)).alloc (.cells ds u)) es x
  simpa using this
theorem below3 {w w' : World} (o u x : Obj) (h : Below (((w.alloc o).alloc u).alloc x).heap.size (((w.alloc o).alloc u).alloc x) w') : Below w.heap.size w w' := below2 o u (below1 x h)
theorem belowAAA (w : World) (o u x : Obj) : Below w.heap.size w (((w.alloc o).alloc u).alloc x) := below3 o u x (Below.refl _ _)

theorem lawTurns (v : FV) (e : Edg) (x y : Int) (w : World) (hv : v.In w) :
    Calls Try.prog 4 #[v.val, eval_ e, .agg #[.int .i64 x, .int .i64 y]] w fun r w' => r = .returned (.bool true) ∧ Below w.heap.size w w' := by
  have HV := Lib.hid hv
  clear hv
  go_enter Try.func4, Try.ntmps4
  dsimp only [FV.val, eval_]
  go_wp2_with fail
  refine (long_any v _ (HV.out.below (belowAAA _ _ _ _))).mono ?_
  rintro r w1 ⟨rfl, hb1⟩
  have b0 := (((Box.new _ _ _).alloc _).alloc _).below hb1
  have b1 := ((Box.new2 _ _ _ _ _).alloc _).below hb1
  have b2 := (Box.new3 _ _ _ _ _ _ _).below hb1
  have hw1 := Lib.hid (below3 _ _ _ hb1)
  clear hb1
  cases hlong : longF v.f
  case true =>
    go_wp2_with fail
    refine (known_any _).mono ?_
    rintro r w2 ⟨rfl, hb2⟩
    go_wp2_with fail
    go_ret
    exact ⟨rfl, below_trans' hw1.out hb2⟩
  clear hlong
  have c0 := b0.at
  have c1 := b1.at
  have c2 := b2.at
  have HV1 := Lib.hid (HV.out.below hw1.out)
  go_wp2_with fail
  refine (Turning_any v e _ HV1.out).mono ?_
  rintro r w2 ⟨rfl, hb2⟩
  clear c0 c1 c2
  replace b0 := b0.below hb2
  replace b1 := b1.below hb2
  replace b2 := b2.below hb2
  replace hw1 := Lib.hid (below_trans' hw1.out hb2)
  replace HV1 := Lib.hid (HV.out.below hw1.out)
  clear hb2
  have c0 := b0.at
  have c1 := b1.at
  have c2 := b2.at
  go_wp2_with fail
  refine (refTurning_any v e _ HV1.out).mono ?_
  rintro r w3 ⟨rfl, hb2⟩
  clear c0 c1 c2
  replace b0 := b0.below hb2
  replace b1 := b1.below hb2
  replace b2 := b2.below hb2
  replace hw1 := Lib.hid (below_trans' hw1.out hb2)
  replace HV1 := Lib.hid (HV.out.below hw1.out)
  clear hb2
  have c0 := b0.at
  have c1 := b1.at
  have c2 := b2.at
  go_wp2_with fail
  refine (Index_any v x y _ HV1.out).mono ?_
  rintro r w4 ⟨rfl, hb2⟩
  clear c0 c1 c2
  replace b0 := b0.below hb2
  replace b1 := b1.below hb2
  replace b2 := b2.below hb2
  replace hw1 := Lib.hid (below_trans' hw1.out hb2)
  replace HV1 := Lib.hid (HV.out.below hw1.out)
  clear hb2
  have c0 := b0.at
  have c1 := b1.at
  have c2 := b2.at
  go_wp2_with fail
  refine (refIndex_any v x y _ HV1.out).mono ?_
  rintro r w5 ⟨rfl, hb2⟩
  clear c0 c1 c2
  replace hw1 := Lib.hid (below_trans' hw1.out hb2)
  clear hb2 b0 b1 b2
  go_wp2_with fail
  refine (known_any _).mono ?_
  rintro r w6 ⟨rfl, hb2⟩
  have HB := Lib.hid hb2
  clear hb2
  go_wp2_with fail
  go_ret
  exact ⟨rfl, below_trans' hw1.out HB.out⟩
theorem lawTurnsR (v : FV) (e : Edg) (q : Int × Int) (w : World) (hv : v.In w) {p1 p2 : Prop} (_ : p1) (_ : p2) :
    Calls Try.prog 4 #[v.val, eval_ e, .agg #[.int .i64 q.1, .int .i64 q.2]] w fun r w' => r = .returned (.bool true) ∧ Below w.heap.size w w' := lawTurns v e q.1 q.2 w hv
end Go.Proofs.Ytahmdnboeenfkaa
