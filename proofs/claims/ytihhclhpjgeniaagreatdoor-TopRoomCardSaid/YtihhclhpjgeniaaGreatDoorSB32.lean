/- Merged texts: Gk Gl J2 Sp Gm -/
import Derived.Test.YtihhclhpjgeniaaGreatDoorSB13
import Derived.Test.YtihhclhpjgeniaaGreatDoorSB14
import Derived.Test.YtihhclhpjgeniaaGreatDoorSB26
import Derived.Test.YtihhclhpjgeniaaGreatDoorSB29
import Derived.Test.YtihhclhpjgeniaaGreatDoorSB31
namespace Go.Proofs.YtihhclhpjgeniaaGreatDoor
open Go.RowKit Go.Sort
abbrev wgA (w : Wg) : Array Value := #[.string (mkB w.name), .string (mkB w.bun), .int .i64 w.hairs, .int .i64 w.done, .int .i64 w.shed, .int .i64 w.len, .int .i64 w.lvl, .int .i64 w.tone, .int .i64 w.bl, .string (mkB w.plait), .int .i64 w.state, .int .i64 w.price]
abbrev wgZ : Array Value := #[.string (ByteArray.mk #[]), .string (ByteArray.mk #[]), .int .i64 0, .int .i64 0, .int .i64 0, .int .i64 0, .int .i64 0, .int .i64 0, .int .i64 0, .string (ByteArray.mk #[]), .int .i64 0, .int .i64 0]
def RetC (x : (Int × Wg) × List UInt8) (w : World) (r : Ending) (w' : World) : Prop :=
 (∃ (z : Wg) (t : List UInt8), r = .returned (.tuple #[.agg (wgA z), .string (mkB t), .int .i64 x.1.1]) ∧ (x.1.1 = 0 → z = x.1.2 ∧ t = x.2)) ∧ Below w.heap.size w w'
theorem retWE {fn : Func} {tmps : Array Value} {w : World} (p u t : _root_.Go.Tmp) (g : Nat) (cs : Array Value) (h : fn.results = #[.cell p 49, .tmp u, .tmp t]) (hp : tmps.getD p undef = .pointer (some ⟨g, 0, none⟩)) (hg : At w g cs 49) (hc : cs.size = 12) :
  (results fn tmps).run Tryz.prog w = .ok (.tuple #[.agg cs, tmps.getD u undef, tmps.getD t undef]) w := by
 rw [results_ctt h, hp]
 simp [asAddr, run_loadVar_row w g 49 49 cs (0, 0) _ hg Tryz.underlying49 rfl (by rw [hc]; kernel_rfl)]
theorem At.set12 {w : World} {q : Nat} {t : TypeId} (h : At w q wgZ t) (a0 a1 a2 a3 a4 a5 a6 a7 a8 a9 a10 a11 : Value) : At ((((((((((((w.setCell ⟨q, 0, none⟩ a0).setCell ⟨q, 1, none⟩ a1).setCell ⟨q, 2, none⟩ a2).setCell ⟨q, 3, none⟩ a3).setCell ⟨q, 4, none⟩ a4).setCell ⟨q, 5, none⟩ a5).setCell ⟨q, 6, none⟩ a6).setCell ⟨q, 7, none⟩ a7).setCell ⟨q, 8, none⟩ a8).setCell ⟨q, 9, none⟩ a9).setCell ⟨q, 10, none⟩ a10).setCell ⟨q, 11, none⟩ a11) q #[a0, a1, a2, a3, a4, a5, a6, a7, a8, a9, a10, a11] t :=
 by
  unfold wgZ at h
  have k := ((((((((((((h.set 0 a0).set 1 a1).set 2 a2).set 3 a3).set 4 a4).set 5 a5).set 6 a6).set 7 a7).set 8 a8).set 9 a9).set 10 a10).set 11 a11)
  simp only [List.setIfInBounds_toArray, List.set_cons_succ, List.set_cons_zero] at k
  exact k
theorem below_put12 {B : Nat} {w w' : World} (h : Below B w w') {M : Nat} (h1 : B ≤ M) (a0 a1 a2 a3 a4 a5 a6 a7 a8 a9 a10 a11 : Value) : Below B w ((((((((((((w'.setCell ⟨M, 0, none⟩ a0).setCell ⟨M, 1, none⟩ a1).setCell ⟨M, 2, none⟩ a2).setCell ⟨M, 3, none⟩ a3).setCell ⟨M, 4, none⟩ a4).setCell ⟨M, 5, none⟩ a5).setCell ⟨M, 6, none⟩ a6).setCell ⟨M, 7, none⟩ a7).setCell ⟨M, 8, none⟩ a8).setCell ⟨M, 9, none⟩ a9).setCell ⟨M, 10, none⟩ a10).setCell ⟨M, 11, none⟩ a11) :=
 (below_put (below_put (below_put (below_put (below_put (below_put (below_put (below_put (below_put (below_put (below_put (below_put h (p := ⟨M, 0, none⟩) h1 a0) (p := ⟨M, 1, none⟩) h1 a1) (p := ⟨M, 2, none⟩) h1 a2) (p := ⟨M, 3, none⟩) h1 a3) (p := ⟨M, 4, none⟩) h1 a4) (p := ⟨M, 5, none⟩) h1 a5) (p := ⟨M, 6, none⟩) h1 a6) (p := ⟨M, 7, none⟩) h1 a7) (p := ⟨M, 8, none⟩) h1 a8) (p := ⟨M, 9, none⟩) h1 a9) (p := ⟨M, 10, none⟩) h1 a10) (p := ⟨M, 11, none⟩) h1 a11)
theorem Wg.Ok.sh {y : Wg} (h : y.Ok) : shOk y.lvl y.tone y.bl := ⟨h.lvl.1, h.lvl.2, h.tone.1, h.tone.2, h.bl.1, h.bl.2⟩
theorem ch_end {w W : World} {x : (Int × Wg) × List UInt8} {z : Wg} {t : List UInt8} {e : Int} (he : e = x.1.1) (hz : x.1.1 = 0 → z = x.1.2 ∧ t = x.2) (hb : Below w.heap.size w W) : RetC x w (.returned (.tuple #[.agg (wgA z), .string (mkB t), .int .i64 e])) W :=
 ⟨⟨z, t, by rw [he], hz⟩, hb⟩
set_option maxRecDepth 100000 in
set_option maxHeartbeats 1000000 in
theorem ch8_any (y : Wg) (x : OV) (w : World) (hk : x.o.kind = 8) (hy : y.Ok) : Calls Tryz.prog 228 #[.agg (wgA y), .agg x.arr] w (RetC (bleachW y, tBl) w) := by
 have hk2 : ((x.o.kind : Nat) : Int) = 8 := by rw [hk]; rfl
 have HY := Lib.hid hy
 clear hy hk
 go_enter Tryz.func228, Tryz.ntmps228
 go_wp2_with fail
 refine gen_at (M := fun W => Calls Tryz.prog 84 _ W _) (fun W => At W w.heap.size (wgA y) 49 ∧ At W (w.heap.size + 1 + 1) wgZ 49 ∧ Below w.heap.size w W) ⟨((At.new w _ 49).al _).al _, at_n2 w _ _ _ 49, bel3 w _ _ _⟩ ?_
 rintro w1 ⟨k0, k2, hw1⟩
 with_reducible refine (bleach_any y.lvl y.tone y.bl w1 HY.out.sh).mono ?_
 rintro _ w2 (⟨hb, rfl, hb2⟩ | ⟨hb, rfl, hb2⟩)
 ·have HA := Lib.hid (k0.below hb2)
  have HR := Lib.hid (k2.below hb2)
  have HW := Lib.hid (below_trans' hw1 hb2)
  have HE : Hid (bleachW y = (14, y)) := Lib.hid (if_pos hb)
  clear k0 k2 hw1 hb2 hb hk2
  have c0 := HA.out.cell
  have f0 := HA.out.fz
  have cr := HR.out.cell
  have fr := HR.out.fz
  go_wp2_with fail
  have hn0 : w.heap.size + 1 + 1 ≠ w.heap.size := by omega
  refine bodyPost_ret (retWE 4 5 6 (w.heap.size + 1 + 1) (wgA { y with lvl := 0, tone := 0, bl := 0 }) rfl rfl ((((HR.out.far (p := ⟨w.heap.size, 6, none⟩) hn0 _).far (p := ⟨w.heap.size, 7, none⟩) hn0 _).far (p := ⟨w.heap.size, 8, none⟩) hn0 _).set12 _ _ _ _ _ _ _ _ _ _ _ _) rfl) rfl ?_
  exact ch_end (z := { y with lvl := 0, tone := 0, bl := 0 }) (t := tBl) (e := 14) (by rw [HE.out]) (fun h => by rw [HE.out] at h ⊢; cases h) (below_put12 (below_put3 HW.out (Nat.le_refl _) _ _ _ _ _ _) (by omega) _ _ _ _ _ _ _ _ _ _ _ _)
 ·have HA := Lib.hid (k0.below hb2)
  have HR := Lib.hid (k2.below hb2)
  have HW := Lib.hid (below_trans' hw1 hb2)
  have HE : Hid (bleachW y = (0, { y with lvl := min (y.lvl + 2) 10, tone := 0, bl := y.bl + 1 })) := Lib.hid (if_neg hb)
  clear k0 k2 hw1 hb2 hb hk2
  have c0 := HA.out.cell
  have f0 := HA.out.fz
  have cr := HR.out.cell
  have fr := HR.out.fz
  go_wp2_with fail
  have hn0 : w.heap.size + 1 + 1 ≠ w.heap.size := by omega
  refine bodyPost_ret (retWE 4 5 6 (w.heap.size + 1 + 1) (wgA { y with lvl := min (y.lvl + 2) 10, tone := 0, bl := y.bl + 1 }) rfl rfl ((((HR.out.far (p := ⟨w.heap.size, 6, none⟩) hn0 _).far (p := ⟨w.heap.size, 7, none⟩) hn0 _).far (p := ⟨w.heap.size, 8, none⟩) hn0 _).set12 _ _ _ _ _ _ _ _ _ _ _ _) rfl) rfl ?_
  exact ch_end (z := { y with lvl := min (y.lvl + 2) 10, tone := 0, bl := y.bl + 1 }) (t := tBl) (e := 0) (by rw [HE.out]) (fun h => by rw [HE.out] at h ⊢; exact ⟨rfl, rfl⟩) (below_put12 (below_put3 HW.out (Nat.le_refl _) _ _ _ _ _ _) (by omega) _ _ _ _ _ _ _ _ _ _ _ _)
set_option maxRecDepth 100000 in
set_option maxHeartbeats 1000000 in
theorem ch11_any (y : Wg) (x : OV) (w : World) (hk : x.o.kind = 11) : Calls Tryz.prog 228 #[.agg (wgA y), .agg x.arr] w (RetC ((0, { y with plait := [] }), tCo) w) := by
 have hk2 : ((x.o.kind : Nat) : Int) = 11 := by rw [hk]; rfl
 clear hk
 go_enter Tryz.func228, Tryz.ntmps228
 go_wp2_with fail
 refine bodyPost_ret (retWE 4 5 6 (w.heap.size + 1 + 1) (wgA { y with plait := [] }) rfl rfl (at_n2 w _ _ (wgA { y with plait := [] }) 49) rfl) rfl ?_
 exact ch_end (z := { y with plait := [] }) (t := tCo) (e := 0) rfl (fun _ => ⟨rfl, rfl⟩) (bel3 w _ _ _)
set_option maxRecDepth 100000 in
set_option maxHeartbeats 1000000 in
theorem ch13_any (y : Wg) (x : OV) (w : World) (hk : x.o.kind = 13) : Calls Tryz.prog 228 #[.agg (wgA y), .agg x.arr] w (RetC ((0, y), tWa) w) := by
 have hk2 : ((x.o.kind : Nat) : Int) = 13 := by rw [hk]; rfl
 clear hk
 go_enter Tryz.func228, Tryz.ntmps228
 go_wp2_with fail
 refine bodyPost_ret (retWE 4 5 6 (w.heap.size + 1 + 1) (wgA y) rfl rfl (at_n2 w _ _ (wgA y) 49) rfl) rfl ?_
 exact ch_end (z := y) (t := tWa) (e := 0) rfl (fun _ => ⟨rfl, rfl⟩) (bel3 w _ _ _)
theorem thn {Q : Exit → Act → World → Prop} {K : Act → World → Prop} {a : Act} {w : World} (h : K a w) : Thn Q K .normal a w := h
structure CS (w0 : World) (y : Wg) (x : OV) (W : World) : Prop where
 k0 : At W w0.heap.size (wgA y) 49
 k1 : At W (w0.heap.size + 1) x.arr 114
 k2 : At W (w0.heap.size + 1 + 1) wgZ 49
 o0 : x.In w0
 t0 : Tab w0
 b : Below w0.heap.size w0 W
theorem CS.o {w0 W : World} {y : Wg} {x : OV} (h : CS w0 y x W) : x.In W := h.o0.below h.b
theorem CS.t {w0 W : World} {y : Wg} {x : OV} (h : CS w0 y x W) : Tab W := tab_below h.t0 h.b
theorem CS.below {w0 W W' : World} {y : Wg} {x : OV} (h : CS w0 y x W) (hb : Below W.heap.size W W') : CS w0 y x W' := ⟨h.k0.below hb, h.k1.below hb, h.k2.below hb, h.o0, h.t0, below_trans' h.b hb⟩
theorem CS.new {y : Wg} {x : OV} {w : World} (hx : x.In w) (ht : Tab w) : CS w y x (((w.alloc (.cells (wgA y) 49)).alloc (.cells x.arr 114)).alloc (.cells wgZ 49)) :=
 ⟨((At.new w _ 49).al _).al _, (at_n1 w _ _ 114).al _, at_n2 w _ _ _ 49, hx, ht, bel3 w _ _ _⟩
theorem CS.shade {w0 W : World} {y : Wg} {x : OV} (h : CS w0 y x W) (l t b : Int) : CS w0 { y with lvl := l, tone := t, bl := b } x (((W.setCell ⟨w0.heap.size, 6, none⟩ (.int .i64 l)).setCell ⟨w0.heap.size, 7, none⟩ (.int .i64 t)).setCell ⟨w0.heap.size, 8, none⟩ (.int .i64 b)) := by
 have hn1 : w0.heap.size + 1 ≠ w0.heap.size := by omega
 have hn2 : w0.heap.size + 1 + 1 ≠ w0.heap.size := by omega
 refine ⟨?_, ((h.k1.far (p := ⟨w0.heap.size, 6, none⟩) hn1 _).far (p := ⟨w0.heap.size, 7, none⟩) hn1 _).far (p := ⟨w0.heap.size, 8, none⟩) hn1 _, ((h.k2.far (p := ⟨w0.heap.size, 6, none⟩) hn2 _).far (p := ⟨w0.heap.size, 7, none⟩) hn2 _).far (p := ⟨w0.heap.size, 8, none⟩) hn2 _, h.o0, h.t0, below_put3 h.b (Nat.le_refl _) 6 7 8 _ _ _⟩
 have k := ((h.k0.set 6 (.int .i64 l)).set 7 (.int .i64 t)).set 8 (.int .i64 b)
 simp only [wgA, List.setIfInBounds_toArray, List.set_cons_succ, List.set_cons_zero] at k
 exact k
theorem CS.cell {w0 W : World} {y z : Wg} {x : OV} (h : CS w0 y x W) (i : Nat) (u : Value) (he : (wgA y).setIfInBounds i u = wgA z) : CS w0 z x (W.setCell ⟨w0.heap.size, i, none⟩ u) :=
 ⟨by rw [← he]; exact h.k0.set i u, h.k1.far (p := ⟨w0.heap.size, i, none⟩) (show w0.heap.size + 1 ≠ w0.heap.size by omega) u, h.k2.far (p := ⟨w0.heap.size, i, none⟩) (show w0.heap.size + 1 + 1 ≠ w0.heap.size by omega) u, h.o0, h.t0, below_put h.b (p := ⟨w0.heap.size, i, none⟩) (Nat.le_refl _) u⟩
theorem dye2_any (y : Wg) (p q : Int) (w : World) (h : y.Ok) : Calls Tryz.prog 85 #[.agg (shV y.lvl y.tone y.bl), .int .i64 p, .int .i64 q] w fun r w' => (∃ l t b, r = .returned (.tuple #[.agg (shV l t b), .int .i64 (dyeW' y p q).1]) ∧ ((dyeW' y p q).1 = 0 → (dyeW' y p q).2 = { y with lvl := l, tone := t, bl := b })) ∧ Below w.heap.size w w' := by
 refine (dye_any y.lvl y.tone y.bl p q w h.sh).mono ?_
 rintro r w' (⟨h1, rfl, hb⟩ | ⟨h1, h2, rfl, hb⟩ | ⟨h1, h2, rfl, hb⟩)
 ·have h3 := of_decide_eq_false h1
  have e : dyeW' y p q = (1, y) := if_pos (by omega)
  rw [e]
  exact ⟨⟨0, 0, 0, rfl, fun h => by cases h⟩, hb⟩
 ·have h3 := of_decide_eq_true h1
  have e : dyeW' y p q = (14, y) := by unfold dyeW'; rw [if_neg (by omega), if_pos h2]
  rw [e]
  exact ⟨⟨0, 0, 0, rfl, fun h => by cases h⟩, hb⟩
 ·have h3 := of_decide_eq_true h1
  have e : dyeW' y p q = (0, { y with lvl := p, tone := q }) := by unfold dyeW'; rw [if_neg (by omega), if_neg (by omega)]
  rw [e]
  exact ⟨⟨p, q, y.bl, rfl, fun _ => rfl⟩, hb⟩
set_option maxRecDepth 100000 in
set_option maxHeartbeats 1000000 in
theorem ch9_any (y : Wg) (x : OV) (a b : Int) (w : World) (hk : x.o.kind = 9) (ha : x.o.nums = [a, b]) (hx : x.In w) (hy : y.Ok) (ht : Tab w) (hab : fits a ∧ fits b) : Calls Tryz.prog 228 #[.agg (wgA y), .agg x.arr] w (RetC (dyeW' y a b, dyeT a b) w) := by
 have HA := Lib.hid hab
 clear hab
 have hk2 : ((x.o.kind : Nat) : Int) = 9 := by rw [hk]; rfl
 have HY := Lib.hid hy
 have HS : Hid (CS w y x _) := Lib.hid (CS.new hx ht)
 clear hy hk hx ht
 obtain ⟨ae, e2, -, -, -⟩ := HS.out.o.num (k := 0) (a := a) (by rw [ha]; rfl)
 have hm : x.m = 2 := by rw [HS.out.o.m, ha]; rfl
 have hk3 : (0 : Int) < (x.m : Int) := by rw [hm]; decide
 have hk4 : (1 : Int) < (x.m : Int) := by rw [hm]; decide
 clear hm
 go_enter Tryz.func228, Tryz.ntmps228
 go_wp2_with fail
 clear hk2
 refine wp_region_hk [0, 1, 2, 3, 4, 5, 6, 7, 8, 9, 14] [11, 12, 13] [10, 15, 16] (fun W => CS w y x W) mixed (by kernel_rfl) (fun W W' h hb => h.below hb) (HS.out.below (below_drew _)) ?_
 iterate 11
  refine canonG_read (v := ?_) rfl (by rfl) ?_ ?_
  rotate_left
  ·intro W hS
   have c0 := hS.k0.cell
   have c5 : W.cell? ⟨w.heap.size + 1, 5, none⟩ = some (.slice x.B x.m x.d) := hS.k1.cell 5
   obtain ⟨ae', e2', hc1, _, _⟩ := hS.o.num (k := 0) (a := a) (by rw [ha]; rfl)
   obtain ⟨ae3, e3', hc2, _, _⟩ := hS.o.num (k := 1) (a := b) (by rw [ha]; rfl)
   have e9 : ae' = ae := by rw [e2] at e2'; injection e2' with e2'; exact e2'.symm
   have e8 : ae3 = ae := by rw [e2] at e3'; injection e3' with e3'; exact e3'.symm
   rw [e9, show ae.add 0 = ae from rfl] at hc1
   rw [e8, show ae.add 1 = ⟨ae.block, ae.off + 1, none⟩ from rfl] at hc2
   clear e2' e9 e3' e8
   go_simp <;> with_reducible rfl
  simp only [List.getElem_toArray, List.getElem_cons_zero, List.getElem_cons_succ, Act.put, List.setIfInBounds_toArray, List.set_cons_succ, List.set_cons_zero]
 refine canonG_nil ?_
 refine tailK_one (t := 10) (ts' := [15, 16]) (ps' := []) (ns := [11, 12, 13]) (by kernel_rfl) rfl (by kernel_rfl) (by kernel_rfl) rfl (by kernel_rfl) ?_
 intro W1 hb1
 have H1 := Lib.hid (HS.out.below (undrew hb1))
 clear HS hb1
 go_wp2_with fail
 with_reducible refine (dye2_any y a b W1 HY.out).mono ?_
 rintro _ W2 ⟨⟨l, t, b', rfl, hz⟩, hb2⟩
 have H2 := Lib.hid (H1.out.below hb2)
 have HZ := Lib.hid hz
 clear hb2 hz H1
 go_wp2_with fail
 refine ⟨H2.out, ?_⟩
 iterate 3
  refine canonG_read (v := ?_) rfl (by rfl) ?_ ?_
  rotate_left
  ·intro W hS
   go_simp <;> with_reducible rfl
  simp only [List.getElem_toArray, List.getElem_cons_zero, List.getElem_cons_succ, Act.put, List.setIfInBounds_toArray, List.set_cons_succ, List.set_cons_zero]
 refine canonG_nil ?_
 refine tailK_close (t := 15) (ts' := [16]) (by kernel_rfl) rfl rfl (by kernel_rfl) ?_
 intro W3 hb3
 have H3 := Lib.hid (H2.out.below hb3)
 clear hb3 H2
 have c0 := H3.out.k0.cell
 have f0 := H3.out.k0.fz
 go_wp2_with fail
 refine thn ?_
 have H4 := Lib.hid (H3.out.shade l t b')
 clear c0 f0 H3
 generalize ((W3.setCell ⟨w.heap.size, 6, none⟩ (.int .i64 l)).setCell ⟨w.heap.size, 7, none⟩ (.int .i64 t)).setCell ⟨w.heap.size, 8, none⟩ (.int .i64 b') = W4 at H4 ⊢
 refine tailJ_last (t := 16) (by kernel_rfl) rfl ?_
 intro W5 hb5
 have H5 := Lib.hid (H4.out.below hb5)
 clear hb5 H4
 go_wp2_with fail
 refine NoPanic.normal ?_
 obtain ⟨z, hzz⟩ : ∃ z : Wg, z = { y with lvl := l, tone := t, bl := b' } := ⟨_, rfl⟩
 rw [← hzz] at H5 HZ
 clear hzz
 generalize hee : (dyeW' y a b).1 = e at HZ ⊢
 have HEE := Lib.hid hee
 clear hee
 obtain ⟨s1, hs1⟩ : ∃ s1, s1 = tDy ++ Lib.itoa a := ⟨_, rfl⟩
 obtain ⟨s2, hs2⟩ : ∃ s2, s2 = s1 ++ [120] := ⟨_, rfl⟩
 have hl := itoa_len HA.out.1
 have HL1 : Hid (s1.length ≤ 26) := Lib.hid (by rw [hs1]; simp [tDy]; omega)
 have HL2 : Hid (s2.length ≤ 27) := Lib.hid (by have := HL1.out; rw [hs2]; simp; omega)
 have HS1 := Lib.hid hs1
 have HS2 := Lib.hid hs2
 clear hs1 hs2 hl
 go_wp2_with fail
 refine wp_region_hk [0, 1, 2, 3, 4, 5, 6, 7, 8, 9, 10, 11, 12] [] [13] (fun W => CS w z x W) mixed (by kernel_rfl) (fun W W' h hb => h.below hb) (H5.out.below (below_drew _)) ?_
 iterate 4
  refine canonG_read (v := ?_) rfl (by rfl) ?_ ?_
  rotate_left
  ·intro W hS
   have c0 := hS.k0.cell
   have c5 : W.cell? ⟨w.heap.size + 1, 5, none⟩ = some (.slice x.B x.m x.d) := hS.k1.cell 5
   obtain ⟨ae', e2', hc1, _, _⟩ := hS.o.num (k := 0) (a := a) (by rw [ha]; rfl)
   obtain ⟨ae3, e3', hc2, _, _⟩ := hS.o.num (k := 1) (a := b) (by rw [ha]; rfl)
   have e9 : ae' = ae := by rw [e2] at e2'; injection e2' with e2'; exact e2'.symm
   have e8 : ae3 = ae := by rw [e2] at e3'; injection e3' with e3'; exact e3'.symm
   rw [e9, show ae.add 0 = ae from rfl] at hc1
   rw [e8, show ae.add 1 = ⟨ae.block, ae.off + 1, none⟩ from rfl] at hc2
   clear e2' e9 e3' e8
   go_simp <;> with_reducible rfl
  simp only [List.getElem_toArray, List.getElem_cons_zero, List.getElem_cons_succ, Act.put, List.setIfInBounds_toArray, List.set_cons_succ, List.set_cons_zero]
 refine canonG_call (v := .string (mkB (Lib.itoa a))) (f := 25) (args := #[.int .i64 a]) rfl (by rfl) ?_ ?_ ?_
 ·intro W hS
  go_simp
 ·intro W hS
  exact itoa_any a W HA.out.1 hS.t
 simp only [List.getElem_toArray, List.getElem_cons_zero, List.getElem_cons_succ, Act.put, List.setIfInBounds_toArray, List.set_cons_succ, List.set_cons_zero]
 refine canonG_read (v := .string (mkB s1)) rfl (by rfl) ?_ ?_
 ·intro W hS
  have hln := itoa_len HA.out.1
  have hno : ¬ 9223372036854775807 < 5 + (Lib.itoa a).length := by omega
  have happ : (ByteArray.mk #[100, 121, 101, 32, 99] ++ mkB (Lib.itoa a)) = mkB s1 := by rw [HS1.out]; exact mk_append tDy (Lib.itoa a)
  go_simp
 simp only [List.getElem_toArray, List.getElem_cons_zero, List.getElem_cons_succ, Act.put, List.setIfInBounds_toArray, List.set_cons_succ, List.set_cons_zero]
 refine canonG_read (v := .string (mkB s2)) rfl (by rfl) ?_ ?_
 ·intro W hS
  have hln := HL1.out
  have hno : ¬ 9223372036854775807 < s1.length + 1 := by omega
  have happ : (mkB s1 ++ ByteArray.mk #[120]) = mkB s2 := by rw [HS2.out]; exact mk_append s1 [120]
  go_simp
 simp only [List.getElem_toArray, List.getElem_cons_zero, List.getElem_cons_succ, Act.put, List.setIfInBounds_toArray, List.set_cons_succ, List.set_cons_zero]
 iterate 4
  refine canonG_read (v := ?_) rfl (by rfl) ?_ ?_
  rotate_left
  ·intro W hS
   have c0 := hS.k0.cell
   have c5 : W.cell? ⟨w.heap.size + 1, 5, none⟩ = some (.slice x.B x.m x.d) := hS.k1.cell 5
   obtain ⟨ae', e2', hc1, _, _⟩ := hS.o.num (k := 0) (a := a) (by rw [ha]; rfl)
   obtain ⟨ae3, e3', hc2, _, _⟩ := hS.o.num (k := 1) (a := b) (by rw [ha]; rfl)
   have e9 : ae' = ae := by rw [e2] at e2'; injection e2' with e2'; exact e2'.symm
   have e8 : ae3 = ae := by rw [e2] at e3'; injection e3' with e3'; exact e3'.symm
   rw [e9, show ae.add 0 = ae from rfl] at hc1
   rw [e8, show ae.add 1 = ⟨ae.block, ae.off + 1, none⟩ from rfl] at hc2
   clear e2' e9 e3' e8
   go_simp <;> with_reducible rfl
  simp only [List.getElem_toArray, List.getElem_cons_zero, List.getElem_cons_succ, Act.put, List.setIfInBounds_toArray, List.set_cons_succ, List.set_cons_zero]
 refine canonG_call (v := .string (mkB (Lib.itoa b))) (f := 25) (args := #[.int .i64 b]) rfl (by rfl) ?_ ?_ ?_
 ·intro W hS
  go_simp
 ·intro W hS
  exact itoa_any b W HA.out.2 hS.t
 simp only [List.getElem_toArray, List.getElem_cons_zero, List.getElem_cons_succ, Act.put, List.setIfInBounds_toArray, List.set_cons_succ, List.set_cons_zero]
 refine canonG_read (v := .string (mkB (dyeT a b))) rfl (by rfl) ?_ ?_
 ·intro W hS
  have hln := HL2.out
  have hln2 := itoa_len HA.out.2
  have hno : ¬ 9223372036854775807 < s2.length + (Lib.itoa b).length := by omega
  have happ : (mkB s2 ++ mkB (Lib.itoa b)) = mkB (dyeT a b) := by rw [HS2.out, HS1.out]; exact mk_append (tDy ++ Lib.itoa a ++ [120]) (Lib.itoa b)
  go_simp
 simp only [List.getElem_toArray, List.getElem_cons_zero, List.getElem_cons_succ, Act.put, List.setIfInBounds_toArray, List.set_cons_succ, List.set_cons_zero]
 refine canonG_nil ?_
 refine tailK_last (t := 13) (by kernel_rfl) rfl ?_
 intro W6 hb6
 have H6 := Lib.hid (H5.out.below (undrew hb6))
 clear hb6 H5
 go_wp2_with fail
 refine NoPanic.normal ?_
 have c0 := H6.out.k0.cell
 have c2 := H6.out.k2.cell
 have f2 := H6.out.k2.fz
 have hn0 : w.heap.size + 1 + 1 ≠ w.heap.size := by omega
 go_wp2_with fail
 refine bodyPost_ret (retWE 4 5 6 (w.heap.size + 1 + 1) (wgA z) rfl rfl (H6.out.k2.set12 _ _ _ _ _ _ _ _ _ _ _ _) rfl) rfl ?_
 exact ch_end (z := z) (t := dyeT a b) (e := e) HEE.out.symm (fun h => ⟨(HZ.out (HEE.out.symm.trans h)).symm, rfl⟩) (below_put12 H6.out.b (by omega) _ _ _ _ _ _ _ _ _ _ _ _)
end Go.Proofs.YtihhclhpjgeniaaGreatDoor
namespace Go.Proofs.YtihhclhpjgeniaaGreatDoor
open Go.RowKit Go.Sort
set_option maxRecDepth 100000 in
set_option maxHeartbeats 1000000 in
theorem ch12_any (y : Wg) (x : OV) (a : Int) (w : World) (hk : x.o.kind = 12) (ha : x.o.nums = [a]) (hx : x.In w) (hy : y.Ok) (ht : Tab w) (hab : fits a) (hr : 0 ≤ a ∧ a ≤ 1000000) : Calls Tryz.prog 228 #[.agg (wgA y), .agg x.arr] w (RetC (trimW y a, tCu ++ Lib.itoa a) w) := by
 have HA := Lib.hid hab
 have HR := Lib.hid hr
 clear hab hr
 have hk2 : ((x.o.kind : Nat) : Int) = 12 := by rw [hk]; rfl
 have HY := Lib.hid hy
 have HS : Hid (CS w y x _) := Lib.hid (CS.new hx ht)
 clear hy hk hx ht
 obtain ⟨ae, e2, -, -, -⟩ := HS.out.o.num (k := 0) (a := a) (by rw [ha]; rfl)
 have hm : x.m = 1 := by rw [HS.out.o.m, ha]; rfl
 have hk3 : (0 : Int) < (x.m : Int) := by rw [hm]; decide
 clear hm
 go_enter Tryz.func228, Tryz.ntmps228
 go_wp2_with fail
 clear hk2
 refine gen_at (M := fun W => Code.wp Tryz.prog _ _ _ W) (fun W => CS w y x W) HS.out ?_
 clear HS
 intro w1 hs1
 have HS := Lib.hid hs1
 obtain ⟨ae', e2', hc1, _, _⟩ := hs1.o.num (k := 0) (a := a) (by rw [ha]; rfl)
 have e9 : ae' = ae := by rw [e2] at e2'; injection e2' with e2'; exact e2'.symm
 rw [e9, show ae.add 0 = ae from rfl] at hc1
 have g0 : ∀ d os, (grow (redrawn w1 d) os).cell? ae = some (.int .i64 a) := rg_cell hc1
 have g1 : ∀ d os, (grow (redrawn w1 d) os).cell? ⟨w.heap.size + 1, 5, none⟩ = some (.slice x.B x.m x.d) := rg_cell (hs1.k1.cell 5)
 have g2 : ∀ d os, (grow (redrawn w1 d) os).cell? ⟨w.heap.size, 5, none⟩ = some (.int .i64 y.len) := rg_cell (hs1.k0.cell 5)
 rw [e2] at g1
 clear hs1 hc1 e2' e9
 by_cases h0 : a = 0
 ·have h1 : (a == 0) = true := by simpa using h0
  have HE : Hid (trimW y a = (1, y)) := Lib.hid (if_pos (.inl h0))
  refine wp_region_qb mixed (by kernel_rfl) ?_
  repeat (go_big_quiet_step (fail))
  refine wpQuiet_nil ?_
  intro w2 hb2
  have H2 := Lib.hid (HS.out.below hb2)
  clear hb2 g0 g1 g2 HS h0 h1
  have v1 : IntKind.i64.wrap (y.len - a) = y.len - a := IntWalk.i64_in _ (by have := HY.out.len; have := HR.out; omega)
  go_wp2_with fail
  refine wp_region_hk [0, 1, 2, 3, 4, 5, 6, 7] [] [8] (fun W => CS w y x W) mixed (by kernel_rfl) (fun W W' h hb => h.below hb) (H2.out.below (below_drew _)) ?_
  iterate 8
   refine canonG_read (v := ?_) rfl (by rfl) ?_ ?_
   rotate_left
   ·intro W hS
    have c0 := hS.k0.cell
    have c5 : W.cell? ⟨w.heap.size + 1, 5, none⟩ = some (.slice x.B x.m x.d) := hS.k1.cell 5
    obtain ⟨ae', e2', hc1, _, _⟩ := hS.o.num (k := 0) (a := a) (by rw [ha]; rfl)
    have e9 : ae' = ae := by rw [e2] at e2'; injection e2' with e2'; exact e2'.symm
    rw [e9, show ae.add 0 = ae from rfl] at hc1
    clear e2' e9
    go_simp <;> with_reducible rfl
   simp only [List.getElem_toArray, List.getElem_cons_zero, List.getElem_cons_succ, Act.put, List.setIfInBounds_toArray, List.set_cons_succ, List.set_cons_zero]
  refine canonG_nil ?_
  refine tailK_last (t := 8) (by kernel_rfl) rfl ?_
  intro w3 hb3
  have H3 := Lib.hid (H2.out.below (undrew hb3))
  clear hb3 H2
  have c5 := H3.out.k0.cell 5
  have f5 := H3.out.k0.fz 5
  go_wp2_with fail
  refine NoPanic.normal ?_
  have H4 := Lib.hid (H3.out.cell (z := { y with len := y.len - a }) 5 (.int .i64 (y.len - a)) rfl)
  clear H3 c5 f5 v1
  generalize w3.setCell ⟨w.heap.size, 5, none⟩ (.int .i64 (y.len - a)) = w4 at H4 ⊢
  have k5 : w4.cell? ⟨w.heap.size + 1, 5, none⟩ = some (.slice x.B x.m x.d) := H4.out.k1.cell 5
  obtain ⟨ae2, e3, hc1, _, _⟩ := H4.out.o.num (k := 0) (a := a) (by rw [ha]; rfl)
  have e9 : ae2 = ae := by rw [e2] at e3; injection e3 with e3; exact e3.symm
  rw [e9, show ae.add 0 = ae from rfl] at hc1
  rw [e2] at k5
  clear e3 e9
  go_wp2_with fail
  clear hc1 k5
  with_reducible refine (itoa_any a w4 HA.out H4.out.t).mono ?_
  rintro _ w5 ⟨rfl, hb5⟩
  have H5 := Lib.hid (H4.out.below hb5)
  clear hb5 H4
  have hln := itoa_len HA.out
  have hno : ¬ 9223372036854775807 < 4 + (Lib.itoa a).length := by omega
  have happ : (ByteArray.mk #[99, 117, 116, 32] ++ mkB (Lib.itoa a)) = mkB (tCu ++ Lib.itoa a) := mk_append tCu (Lib.itoa a)
  have c0 := H5.out.k0.cell
  have c2 := H5.out.k2.cell
  have f2 := H5.out.k2.fz
  go_wp2_with fail
  refine bodyPost_ret (retWE 4 5 6 (w.heap.size + 1 + 1) (wgA { y with len := y.len - a }) rfl rfl (H5.out.k2.set12 _ _ _ _ _ _ _ _ _ _ _ _) rfl) rfl ?_
  exact ch_end (z := { y with len := y.len - a }) (t := tCu ++ Lib.itoa a) (e := 1) (by rw [HE.out]) (fun h => by rw [HE.out] at h ⊢; cases h) (below_put12 H5.out.b (by omega) _ _ _ _ _ _ _ _ _ _ _ _)
 by_cases h2 : y.len ≤ a
 ·have h1 : (a == 0) = false := by simpa using h0
  have HE : Hid (trimW y a = (1, y)) := Lib.hid (if_pos (.inr h2))
  refine wp_region_qb mixed (by kernel_rfl) ?_
  repeat (go_big_quiet_step (fail))
  refine wpQuiet_nil ?_
  intro w2 hb2
  have H2 := Lib.hid (HS.out.below hb2)
  clear hb2 g0 g1 g2 HS h0 h1 h2
  have v1 : IntKind.i64.wrap (y.len - a) = y.len - a := IntWalk.i64_in _ (by have := HY.out.len; have := HR.out; omega)
  go_wp2_with fail
  refine wp_region_hk [0, 1, 2, 3, 4, 5, 6, 7] [] [8] (fun W => CS w y x W) mixed (by kernel_rfl) (fun W W' h hb => h.below hb) (H2.out.below (below_drew _)) ?_
  iterate 8
   refine canonG_read (v := ?_) rfl (by rfl) ?_ ?_
   rotate_left
   ·intro W hS
    have c0 := hS.k0.cell
    have c5 : W.cell? ⟨w.heap.size + 1, 5, none⟩ = some (.slice x.B x.m x.d) := hS.k1.cell 5
    obtain ⟨ae', e2', hc1, _, _⟩ := hS.o.num (k := 0) (a := a) (by rw [ha]; rfl)
    have e9 : ae' = ae := by rw [e2] at e2'; injection e2' with e2'; exact e2'.symm
    rw [e9, show ae.add 0 = ae from rfl] at hc1
    clear e2' e9
    go_simp <;> with_reducible rfl
   simp only [List.getElem_toArray, List.getElem_cons_zero, List.getElem_cons_succ, Act.put, List.setIfInBounds_toArray, List.set_cons_succ, List.set_cons_zero]
  refine canonG_nil ?_
  refine tailK_last (t := 8) (by kernel_rfl) rfl ?_
  intro w3 hb3
  have H3 := Lib.hid (H2.out.below (undrew hb3))
  clear hb3 H2
  have c5 := H3.out.k0.cell 5
  have f5 := H3.out.k0.fz 5
  go_wp2_with fail
  refine NoPanic.normal ?_
  have H4 := Lib.hid (H3.out.cell (z := { y with len := y.len - a }) 5 (.int .i64 (y.len - a)) rfl)
  clear H3 c5 f5 v1
  generalize w3.setCell ⟨w.heap.size, 5, none⟩ (.int .i64 (y.len - a)) = w4 at H4 ⊢
  have k5 : w4.cell? ⟨w.heap.size + 1, 5, none⟩ = some (.slice x.B x.m x.d) := H4.out.k1.cell 5
  obtain ⟨ae2, e3, hc1, _, _⟩ := H4.out.o.num (k := 0) (a := a) (by rw [ha]; rfl)
  have e9 : ae2 = ae := by rw [e2] at e3; injection e3 with e3; exact e3.symm
  rw [e9, show ae.add 0 = ae from rfl] at hc1
  rw [e2] at k5
  clear e3 e9
  go_wp2_with fail
  clear hc1 k5
  with_reducible refine (itoa_any a w4 HA.out H4.out.t).mono ?_
  rintro _ w5 ⟨rfl, hb5⟩
  have H5 := Lib.hid (H4.out.below hb5)
  clear hb5 H4
  have hln := itoa_len HA.out
  have hno : ¬ 9223372036854775807 < 4 + (Lib.itoa a).length := by omega
  have happ : (ByteArray.mk #[99, 117, 116, 32] ++ mkB (Lib.itoa a)) = mkB (tCu ++ Lib.itoa a) := mk_append tCu (Lib.itoa a)
  have c0 := H5.out.k0.cell
  have c2 := H5.out.k2.cell
  have f2 := H5.out.k2.fz
  go_wp2_with fail
  refine bodyPost_ret (retWE 4 5 6 (w.heap.size + 1 + 1) (wgA { y with len := y.len - a }) rfl rfl (H5.out.k2.set12 _ _ _ _ _ _ _ _ _ _ _ _) rfl) rfl ?_
  exact ch_end (z := { y with len := y.len - a }) (t := tCu ++ Lib.itoa a) (e := 1) (by rw [HE.out]) (fun h => by rw [HE.out] at h ⊢; cases h) (below_put12 H5.out.b (by omega) _ _ _ _ _ _ _ _ _ _ _ _)
 ·have h1 : (a == 0) = false := by simpa using h0
  have HE : Hid (trimW y a = (0, { y with len := y.len - a })) := Lib.hid (if_neg (fun h => h.elim h0 h2))
  refine wp_region_qb mixed (by kernel_rfl) ?_
  repeat (go_big_quiet_step (fail))
  refine wpQuiet_nil ?_
  intro w2 hb2
  have H2 := Lib.hid (HS.out.below hb2)
  clear hb2 g0 g1 g2 HS h0 h1 h2
  have v1 : IntKind.i64.wrap (y.len - a) = y.len - a := IntWalk.i64_in _ (by have := HY.out.len; have := HR.out; omega)
  go_wp2_with fail
  refine wp_region_hk [0, 1, 2, 3, 4, 5, 6, 7] [] [8] (fun W => CS w y x W) mixed (by kernel_rfl) (fun W W' h hb => h.below hb) (H2.out.below (below_drew _)) ?_
  iterate 8
   refine canonG_read (v := ?_) rfl (by rfl) ?_ ?_
   rotate_left
   ·intro W hS
    have c0 := hS.k0.cell
    have c5 : W.cell? ⟨w.heap.size + 1, 5, none⟩ = some (.slice x.B x.m x.d) := hS.k1.cell 5
    obtain ⟨ae', e2', hc1, _, _⟩ := hS.o.num (k := 0) (a := a) (by rw [ha]; rfl)
    have e9 : ae' = ae := by rw [e2] at e2'; injection e2' with e2'; exact e2'.symm
    rw [e9, show ae.add 0 = ae from rfl] at hc1
    clear e2' e9
    go_simp <;> with_reducible rfl
   simp only [List.getElem_toArray, List.getElem_cons_zero, List.getElem_cons_succ, Act.put, List.setIfInBounds_toArray, List.set_cons_succ, List.set_cons_zero]
  refine canonG_nil ?_
  refine tailK_last (t := 8) (by kernel_rfl) rfl ?_
  intro w3 hb3
  have H3 := Lib.hid (H2.out.below (undrew hb3))
  clear hb3 H2
  have c5 := H3.out.k0.cell 5
  have f5 := H3.out.k0.fz 5
  go_wp2_with fail
  refine NoPanic.normal ?_
  have H4 := Lib.hid (H3.out.cell (z := { y with len := y.len - a }) 5 (.int .i64 (y.len - a)) rfl)
  clear H3 c5 f5 v1
  generalize w3.setCell ⟨w.heap.size, 5, none⟩ (.int .i64 (y.len - a)) = w4 at H4 ⊢
  have k5 : w4.cell? ⟨w.heap.size + 1, 5, none⟩ = some (.slice x.B x.m x.d) := H4.out.k1.cell 5
  obtain ⟨ae2, e3, hc1, _, _⟩ := H4.out.o.num (k := 0) (a := a) (by rw [ha]; rfl)
  have e9 : ae2 = ae := by rw [e2] at e3; injection e3 with e3; exact e3.symm
  rw [e9, show ae.add 0 = ae from rfl] at hc1
  rw [e2] at k5
  clear e3 e9
  go_wp2_with fail
  clear hc1 k5
  with_reducible refine (itoa_any a w4 HA.out H4.out.t).mono ?_
  rintro _ w5 ⟨rfl, hb5⟩
  have H5 := Lib.hid (H4.out.below hb5)
  clear hb5 H4
  have hln := itoa_len HA.out
  have hno : ¬ 9223372036854775807 < 4 + (Lib.itoa a).length := by omega
  have happ : (ByteArray.mk #[99, 117, 116, 32] ++ mkB (Lib.itoa a)) = mkB (tCu ++ Lib.itoa a) := mk_append tCu (Lib.itoa a)
  have c0 := H5.out.k0.cell
  have c2 := H5.out.k2.cell
  have f2 := H5.out.k2.fz
  go_wp2_with fail
  refine bodyPost_ret (retWE 4 5 6 (w.heap.size + 1 + 1) (wgA { y with len := y.len - a }) rfl rfl (H5.out.k2.set12 _ _ _ _ _ _ _ _ _ _ _ _) rfl) rfl ?_
  exact ch_end (z := { y with len := y.len - a }) (t := tCu ++ Lib.itoa a) (e := 0) (by rw [HE.out]) (fun h => by rw [HE.out] at h ⊢; exact ⟨rfl, rfl⟩) (below_put12 H5.out.b (by omega) _ _ _ _ _ _ _ _ _ _ _ _)
end Go.Proofs.YtihhclhpjgeniaaGreatDoor
namespace Go.Proofs.YtihhclhpjgeniaaGreatDoor
open Go.RowKit Go.Sort
end Go.Proofs.YtihhclhpjgeniaaGreatDoor
namespace Go.Proofs.YtihhclhpjgeniaaGreatDoor
open Go.RowKit Go.Sort
abbrev thenI (l : Nat) (w : List UInt8) (o : Option PR) : Option PR := o.map fun y => (y.1, l + y.2.1, w ++ y.2.2)
theorem wordL_signW (c : UInt8) {w : List UInt8} (h : wordL w) : wordL (signW c w) := by
 unfold signW
 split
 ·exact wordL_in h
 ·split
  ·exact wordL_mi h
  ·split
   ·exact wordL_fl h
   ·exact h
theorem wordL_signsW (ss : List UInt8) {w : List UInt8} (h : wordL w) : wordL (signsW ss w) := by
 unfold signsW
 induction ss with
 | nil => exact h
 | cons c l ih => exact wordL_signW c ih
theorem wordL_append {u v : List UInt8} (hu : wordL u) (hv : wordL v) : wordL (u ++ v) := fun c hc => (List.mem_append.1 hc).elim (hu c) (hv c)
theorem wordL_rep (n : Nat) {w : List UInt8} (h : wordL w) : wordL (rep n w) := by
 intro c hc
 unfold rep at hc
 obtain ⟨l, hl, hc⟩ := List.mem_flatten.1 hc
 rw [List.eq_of_mem_replicate hl] at hc
 exact h c hc
def Good (r : PR) : Prop := r.2.2.length = r.2.1 ∧ wordL r.2.2
theorem pTail_good {u : List UInt8} {l : Nat} {w : List UInt8} (h1 : w.length = l) (h2 : wordL w) : Good (pTail u l w) := by
 cases u with
 | nil => exact ⟨h1, h2⟩
 | cons c v =>
  by_cases hc : isDig c = true
  ·rw [pTail_dig hc]
   exact ⟨by show (rep _ w).length = _; rw [rep_length, h1], wordL_rep _ h2⟩
  ·have : pTail (c :: v) l w = (c :: v, l, w) := pTail_no fun e v h => by rw [← (List.cons.inj h).1]; simpa using hc
   rw [this]; exact ⟨h1, h2⟩
theorem pOne_good {inner : List UInt8 → Option PR} (hi : ∀ t r, inner t = some r → Good r) {s : List UInt8} {r : PR} (h : pOne inner s = some r) : Good r := by
 unfold pOne at h
 generalize s.dropWhile isSign = R at h
 split at h
 ·cases h
 ·rename_i c t
  split at h
  ·rename_i hc
   cases h
   exact ⟨by show (signsW _ [c]).length = 1; rw [signsW_length]; rfl, wordL_signsW _ (by intro d hd; rw [List.mem_singleton.1 hd]; exact hc)⟩
  ·split at h
   ·split at h
    ·rename_i u l w hx
     cases h
     obtain ⟨h1, h2⟩ := hi _ _ hx
     obtain ⟨h3, h4⟩ := pTail_good (u := u) h1 h2
     exact ⟨(signsW_length _ _).trans h3, wordL_signsW _ h4⟩
    ·cases h
   ·cases h
theorem pItems_good : ∀ (f d : Nat) (s : List UInt8) (r : PR), pItems f d s = some r → Good r ∧ (r.1 = [] ∨ ∃ u, r.1 = 41 :: u)
 | 0, _, _, _, h => by cases h
 | f + 1, d, s, r, h => by
  cases s with
  | nil => cases h; exact ⟨⟨rfl, fun c hc => absurd hc (by simp)⟩, .inl rfl⟩
  | cons c u =>
   by_cases hc : c = 41
   ·subst hc
    cases h; exact ⟨⟨rfl, fun c hc => absurd hc (by simp)⟩, .inr ⟨u, rfl⟩⟩
   ·rw [pItems_one hc] at h
    cases h1 : pOne (fun t => if d < 8 then pItems f (d + 1) t else none) (c :: u) with
    | none => rw [h1] at h; cases h
    | some r1 =>
     rw [h1] at h
     dsimp only at h
     cases h2 : pItems f d r1.1 with
     | none => rw [h2] at h; cases h
     | some r2 =>
      rw [h2] at h
      cases h
      obtain ⟨g2, e2⟩ := pItems_good f d _ _ h2
      obtain ⟨a1, b1⟩ := pOne_good (fun t r h => by
       split at h
       ·exact (pItems_good f (d + 1) _ _ h).1
       ·cases h) h1
      exact ⟨⟨by show (r1.2.2 ++ r2.2.2).length = _; rw [List.length_append, a1, g2.1], wordL_append b1 g2.2⟩, e2⟩
def nd (y : List UInt8) : Prop := ∀ e u, y = e :: u → isDig e = false
theorem pStyle_ok {s : List UInt8} {u : List UInt8} (h : pStyle s = (u, 0)) : s.length ≤ 4000 ∧ pItems (s.length + 1) 0 s = some ([], u.length, u) ∧ wordL u ∧ u.length ≤ 60 := by
 unfold pStyle at h
 split at h
 ·cases h
 ·rename_i h4
  split at h
  ·rename_i L W hp
   split at h
   ·cases h
   ·rename_i h60
    cases h
    obtain ⟨⟨h1, h2⟩, _⟩ := pItems_good _ _ _ _ hp
    dsimp only at h1 h2
    exact ⟨by omega, by rw [h1]; exact hp, h2, by omega⟩
  ·cases h
end Go.Proofs.YtihhclhpjgeniaaGreatDoor
namespace Go.Proofs.YtihhclhpjgeniaaGreatDoor
open Go.RowKit Go.Sort
set_option maxRecDepth 100000 in
set_option maxHeartbeats 1000000 in
theorem ch10_any (y : Wg) (x : OV) (w : World) (hk : x.o.kind = 10) (hx : x.In w) (hy : y.Ok) (ht : Tab w) (hs : x.o.style.length ≤ 400) : Calls Tryz.prog 228 #[.agg (wgA y), .agg x.arr] w (RetC (plaitW y x.o.style, tPl ++ x.o.style) w) := by
 have hk2 : ((x.o.kind : Nat) : Int) = 10 := by rw [hk]; rfl
 have HY := Lib.hid hy
 have HS : Hid (CS w y x _) := Lib.hid (CS.new hx ht)
 have HL := Lib.hid hs
 clear hy hk hx ht hs
 go_enter Tryz.func228, Tryz.ntmps228
 go_wp2_with fail
 clear hk2
 refine gen_at (M := fun W => Calls Tryz.prog 272 _ W _) (fun W => CS w y x W) HS.out ?_
 clear HS
 intro w1 hs1
 have H1 := Lib.hid hs1
 clear hs1
 with_reducible refine (parseE_any x.o.style w1 (Nat.le_trans HL.out (by decide))).mono ?_
 rintro _ w2 ⟨rfl, hb2⟩
 have H2 := Lib.hid (H1.out.below hb2)
 clear hb2 H1
 obtain ⟨ps, hps⟩ : ∃ ps, pStyle x.o.style = ps := ⟨_, rfl⟩
 have HP := Lib.hid hps
 rw [hps]
 clear hps
 obtain ⟨v, e⟩ := ps
 dsimp only
 have hno : ¬ 9223372036854775807 < 6 + x.o.style.length := by have := HL.out; omega
 have happ : (ByteArray.mk #[112, 108, 97, 105, 116, 32] ++ mkB x.o.style) = mkB (tPl ++ x.o.style) := mk_append tPl x.o.style
 have c0 := H2.out.k0.cell
 have c4 : w2.cell? ⟨w.heap.size + 1, 4, none⟩ = some (.string (mkB x.o.style)) := H2.out.k1.cell 4
 by_cases he : e = 0
 rotate_left
 ·have h1 : (e == 0) = false := by simpa using he
  have HE : Hid (plaitW y x.o.style = (e, y)) := Lib.hid (by unfold plaitW; rw [HP.out]; exact if_pos he)
  have c2 := H2.out.k2.cell
  have f2 := H2.out.k2.fz
  go_wp2_with fail
  refine bodyPost_ret (retWE 4 5 6 (w.heap.size + 1 + 1) (wgA y) rfl rfl (H2.out.k2.set12 _ _ _ _ _ _ _ _ _ _ _ _) rfl) rfl ?_
  exact ch_end (z := y) (t := tPl ++ x.o.style) (e := e) (by rw [HE.out]) (fun h => by rw [HE.out] at h; exact absurd h he) (below_put12 H2.out.b (by omega) _ _ _ _ _ _ _ _ _ _ _ _)
 ·subst he
  have HV : Hid (v.length ≤ 60) := Lib.hid (pStyle_ok HP.out).2.2.2
  have HP2 : Hid ((mkB y.plait).size ≤ 60) := Lib.hid (okW_iff.1 HY.out.plait).1
  go_wp2_with fail
  clear c0 c4
  with_reducible refine (join_any (mkB y.plait) (mkB v) w2 (Nat.le_trans HP2.out (by decide)) (by rw [size_mk]; exact Nat.le_trans HV.out (by decide))).mono ?_
  rintro _ w3 ⟨rfl, hb3⟩
  have H3 := Lib.hid (H2.out.below hb3)
  clear hb3 H2
  obtain ⟨js, hjs⟩ : ∃ js, joinR (mkB y.plait) (mkB v) = js := ⟨_, rfl⟩
  have HJ := Lib.hid hjs
  rw [hjs]
  clear hjs
  obtain ⟨u, e⟩ := js
  dsimp only
  have HE : Hid (plaitW y x.o.style = if e ≠ 0 then (e, y) else (0, { y with plait := u })) := Lib.hid (by unfold plaitW; rw [HP.out]; show (if (0 : Int) ≠ 0 then _ else _) = _; rw [if_neg (by simp), show joinR (mkB y.plait) (mkB (v, (0 : Int)).1) = (u, e) from HJ.out])
  have c0 := H3.out.k0.cell
  have f0 := H3.out.k0.fz
  have c4 : w3.cell? ⟨w.heap.size + 1, 4, none⟩ = some (.string (mkB x.o.style)) := H3.out.k1.cell 4
  have c2 := H3.out.k2.cell
  have f2 := H3.out.k2.fz
  go_wp2_with fail
  have hn0 : w.heap.size + 1 + 1 ≠ w.heap.size := by omega
  refine bodyPost_ret (retWE 4 5 6 (w.heap.size + 1 + 1) (wgA { y with plait := u }) rfl rfl ((H3.out.k2.far (p := ⟨w.heap.size, 9, none⟩) hn0 _).set12 _ _ _ _ _ _ _ _ _ _ _ _) rfl) rfl ?_
  refine ch_end (z := { y with plait := u }) (t := tPl ++ x.o.style) (e := e) ?_ ?_ (below_put12 (below_put H3.out.b (p := ⟨w.heap.size, 9, none⟩) (Nat.le_refl _) _) (by omega) _ _ _ _ _ _ _ _ _ _ _ _)
  ·rw [HE.out]
   by_cases h : e = 0
   ·rw [if_neg (by simpa using h)]; exact h
   ·rw [if_pos h]
  ·rw [HE.out]
   by_cases h : e = 0
   ·rw [if_neg (by simpa using h)]; exact fun _ => ⟨rfl, rfl⟩
   ·rw [if_pos h]; exact fun k => absurd k h
def WOk (o : Ordr) : Prop := (o.kind = 8) ∨ (o.kind = 9 ∧ ∃ a b, o.nums = [a, b] ∧ inN a ∧ inN b) ∨ (o.kind = 10 ∧ o.style.length ≤ 400) ∨ o.kind = 11 ∨ (o.kind = 12 ∧ ∃ a, o.nums = [a] ∧ inN a) ∨ o.kind = 13
theorem changed_any (y : Wg) (x : OV) (w : World) (hk : WOk x.o) (hx : x.In w) (hy : y.Ok) (ht : Tab w) : Calls Tryz.prog 228 #[.agg (wgA y), .agg x.arr] w (RetC (dressW x.o y) w) := by
 have hf : ∀ n, inN n → fits n := fun n hn => by unfold fits; unfold inN at hn; omega
 rcases hk with h | ⟨h, a, b, hn, ha, hb⟩ | ⟨h, hs⟩ | h | ⟨h, a, hn, ha⟩ | h
 ·have e : dressW x.o y = (bleachW y, tBl) := by unfold dressW; rw [h]; rfl
  rw [e]; exact ch8_any y x w h hy
 ·have e : dressW x.o y = (dyeW' y a b, dyeT a b) := by unfold dressW; rw [h, hn]; rfl
  rw [e]; exact ch9_any y x a b w h hn hx hy ht ⟨hf a ha, hf b hb⟩
 ·have e : dressW x.o y = (plaitW y x.o.style, tPl ++ x.o.style) := by unfold dressW; rw [h]; rfl
  rw [e]; exact ch10_any y x w h hx hy ht hs
 ·have e : dressW x.o y = ((0, { y with plait := [] }), tCo) := by unfold dressW; rw [h]; rfl
  rw [e]; exact ch11_any y x w h
 ·have e : dressW x.o y = (trimW y a, tCu ++ Lib.itoa a) := by unfold dressW; rw [h, hn]; rfl
  rw [e]; exact ch12_any y x a w h hn hx hy ht (hf a ha) ha
 ·have e : dressW x.o y = ((0, y), tWa) := by unfold dressW; rw [h]; rfl
  rw [e]; exact ch13_any y x w h
end Go.Proofs.YtihhclhpjgeniaaGreatDoor
