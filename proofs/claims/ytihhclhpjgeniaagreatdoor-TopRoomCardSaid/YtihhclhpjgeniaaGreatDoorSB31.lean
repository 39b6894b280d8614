/- Merged texts: De Md -/
import Derived.Test.YtihhclhpjgeniaaGreatDoorSB6
import Derived.Test.YtihhclhpjgeniaaGreatDoorSB16
import Derived.Test.YtihhclhpjgeniaaGreatDoorSB18
import Derived.Test.YtihhclhpjgeniaaGreatDoorSB23
import Derived.StillTail
namespace Go.Proofs.YtihhclhpjgeniaaGreatDoor
open Go.RowKit Go.Sort
def tintB (l t : Int) : Bool := decide (1 ≤ l ∧ l ≤ 10 ∧ 0 ≤ t ∧ t ≤ 5)
set_option maxRecDepth 100000 in
theorem tint_any (l t : Int) (w : World) : Calls Tryz.prog 142 #[.int .i64 l, .int .i64 t] w fun r w' => r = .returned (.bool (tintB l t)) ∧ w' = w := by
 go_enter Tryz.func142, Tryz.ntmps142
 by_cases h1 : 1 ≤ l
 ·by_cases h2 : l ≤ 10
  ·by_cases h3 : 0 ≤ t
   ·by_cases h4 : t ≤ 5
    ·have HE : Hid (tintB l t = true) := Lib.hid (decide_eq_true ⟨h1, h2, h3, h4⟩)
     go_wp2_with fail
     go_ret
     exact ⟨by rw [HE.out]; rfl, rfl⟩
    ·have HE : Hid (tintB l t = false) := Lib.hid (decide_eq_false fun h => h4 h.2.2.2)
     go_wp2_with fail
     go_ret
     exact ⟨by rw [HE.out]; rfl, rfl⟩
   ·have HE : Hid (tintB l t = false) := Lib.hid (decide_eq_false fun h => h3 h.2.2.1)
    go_wp2_with fail
    go_ret
    exact ⟨by rw [HE.out]; rfl, rfl⟩
  ·have HE : Hid (tintB l t = false) := Lib.hid (decide_eq_false fun h => h2 h.2.1)
   go_wp2_with fail
   go_ret
   exact ⟨by rw [HE.out]; rfl, rfl⟩
 ·have HE : Hid (tintB l t = false) := Lib.hid (decide_eq_false fun h => h1 h.1)
  go_wp2_with fail
  go_ret
  exact ⟨by rw [HE.out]; rfl, rfl⟩
abbrev shV (l t b : Int) : Array Value := #[.int .i64 l, .int .i64 t, .int .i64 b]
def shOk (l t b : Int) : Prop := 1 ≤ l ∧ l ≤ 10 ∧ 0 ≤ t ∧ t ≤ 5 ∧ 0 ≤ b ∧ b ≤ 3
set_option maxRecDepth 100000 in
theorem validS_any (l t b : Int) (w : World) (h : shOk l t b) : Calls Tryz.prog 141 #[.agg (shV l t b)] w fun r w' => r = .returned (.bool true) ∧ Below w.heap.size w w' := by
 obtain ⟨h1, h2, h3, h4, h5, h6⟩ := h
 have HT : Hid (tintB l t = true) := Lib.hid (decide_eq_true ⟨h1, h2, h3, h4⟩)
 clear h1 h2 h3 h4
 go_enter Tryz.func141, Tryz.ntmps141
 go_wp2_with fail
 with_reducible refine (tint_any l t _).mono ?_
 rintro _ w1 ⟨rfl, rfl⟩
 rw [HT.out]
 go_wp2_with fail
 go_ret
 exact ⟨rfl, belowA _ _⟩
theorem retSE {fn : Func} {tmps : Array Value} {w : World} (p u : _root_.Go.Tmp) (g : Nat) (cs : Array Value) (h : fn.results = #[.cell p 41, .tmp u]) (hp : tmps.getD p undef = .pointer (some ⟨g, 0, none⟩)) (hg : At w g cs 41) (hc : cs.size = 3) :
  (results fn tmps).run Tryz.prog w = .ok (.tuple #[.agg cs, tmps.getD u undef]) w := by
 rw [results_cell_tmp h, hp]
 simp [asAddr, run_loadVar_row w g 41 41 cs (0, 0) _ hg Tryz.underlying41 rfl (by rw [hc]; kernel_rfl)]
theorem At.set3 {w : World} {q : Nat} {c d e : Value} {t : TypeId} (h : At w q #[c, d, e] t) (a b f : Value) : At (((w.setCell ⟨q, 0, none⟩ a).setCell ⟨q, 1, none⟩ b).setCell ⟨q, 2, none⟩ f) q #[a, b, f] t := ((h.set 0 a).set 1 b).set 2 f
theorem below_put3 {B : Nat} {w w' : World} (h : Below B w w') {M : Nat} (h1 : B ≤ M) (i j k : Nat) (a b c : Value) : Below B w (((w'.setCell ⟨M, i, none⟩ a).setCell ⟨M, j, none⟩ b).setCell ⟨M, k, none⟩ c) :=
 below_put (below_put (below_put h (p := ⟨M, i, none⟩) h1 a) (p := ⟨M, j, none⟩) h1 b) (p := ⟨M, k, none⟩) h1 c
def RetS (l t b e : Int) (w : World) (r : Ending) (w' : World) : Prop := r = .returned (.tuple #[.agg (shV l t b), .int .i64 e]) ∧ Below w.heap.size w w'
def RetBl (l b : Int) (w : World) (r : Ending) (w' : World) : Prop := (b = 3 ∧ RetS 0 0 0 14 w r w') ∨ (b ≠ 3 ∧ RetS (min (l + 2) 10) 0 (b + 1) 0 w r w')
def RetDy (l b p q : Int) (w : World) (r : Ending) (w' : World) : Prop := (tintB p q = false ∧ RetS 0 0 0 1 w r w') ∨ (tintB p q = true ∧ l < p ∧ RetS 0 0 0 14 w r w') ∨ (tintB p q = true ∧ p ≤ l ∧ RetS p q b 0 w r w')
set_option maxRecDepth 100000 in
set_option maxHeartbeats 1000000 in
theorem bleach_any (l t b : Int) (w : World) (h : shOk l t b) : Calls Tryz.prog 84 #[.agg (shV l t b)] w (RetBl l b w) := by
 have HO := Lib.hid h
 obtain ⟨h1, h2, h3, h4, h5, h6⟩ := h
 go_enter Tryz.func84, Tryz.ntmps84
 go_wp2_with fail
 refine gen_at (M := fun W => Calls Tryz.prog 141 _ W _) (fun W => At W w.heap.size (shV l t b) 41 ∧ At W (w.heap.size + 1) (shV 0 0 0) 41 ∧ Below w.heap.size w W) ⟨(At.new w _ 41).al _, at_n1 w _ _ 41, bel2 w _ _⟩ ?_
 rintro w1 ⟨k0, k1, hw1⟩
 with_reducible refine (validS_any l t b w1 HO.out).mono ?_
 rintro _ w2 ⟨rfl, hb2⟩
 have HA := Lib.hid (k0.below hb2)
 have HR := Lib.hid (k1.below hb2)
 have HW := Lib.hid (below_trans' hw1 hb2)
 clear k0 k1 hw1 hb2
 have b0 := HA.out.cell
 have fr := HR.out.fz
 have cr := HR.out.cell
 have v1 : IntKind.i64.wrap (l + 2) = l + 2 := IntWalk.i64_in _ (by omega)
 have v2 : IntKind.i64.wrap (b + 1) = b + 1 := IntWalk.i64_in _ (by omega)
 clear h1 h2 h3 h4 h5 h6
 by_cases hb : b = 3
 ·subst hb
  go_wp2_with fail
  refine bodyPost_ret (retSE 2 3 (w.heap.size + 1) (shV 0 0 0) rfl rfl (HR.out.set3 _ _ _) rfl) rfl ?_
  exact .inl ⟨rfl, rfl, below_put3 HW.out (by omega) _ _ _ _ _ _⟩
 ·have hb1 : (b == 3) = false := by simpa using hb
  go_wp2_with fail
  refine bodyPost_ret (retSE 2 3 (w.heap.size + 1) (shV (min (l + 2) 10) 0 (b + 1)) rfl rfl (HR.out.set3 _ _ _) rfl) rfl ?_
  exact .inr ⟨hb, rfl, below_put3 HW.out (by omega) _ _ _ _ _ _⟩
set_option maxRecDepth 100000 in
set_option maxHeartbeats 1000000 in
theorem dye_any (l t b p q : Int) (w : World) (h : shOk l t b) : Calls Tryz.prog 85 #[.agg (shV l t b), .int .i64 p, .int .i64 q] w (RetDy l b p q w) := by
 have HO := Lib.hid h
 clear h
 go_enter Tryz.func85, Tryz.ntmps85
 go_wp2_with fail
 refine gen_at (M := fun W => Calls Tryz.prog 141 _ W _) (fun W => At W w.heap.size (shV l t b) 41 ∧ At W (w.heap.size + 1) (shV 0 0 0) 41 ∧ Below w.heap.size w W) ⟨(At.new w _ 41).al _, at_n1 w _ _ 41, bel2 w _ _⟩ ?_
 rintro w1 ⟨k0, k1, hw1⟩
 with_reducible refine (validS_any l t b w1 HO.out).mono ?_
 rintro _ w2 ⟨rfl, hb2⟩
 have HA := Lib.hid (k0.below hb2)
 have HR := Lib.hid (k1.below hb2)
 have HW := Lib.hid (below_trans' hw1 hb2)
 clear k0 k1 hw1 hb2
 go_wp2_with fail
 with_reducible refine (tint_any p q w2).mono ?_
 rintro _ w3 ⟨rfl, rfl⟩
 have b0 := HA.out.cell
 have fr := HR.out.fz
 have cr := HR.out.cell
 cases hT : tintB p q with
 | false =>
  have HT := Lib.hid hT
  clear hT
  go_wp2_with fail
  refine bodyPost_ret (retSE 6 7 (w.heap.size + 1) (shV 0 0 0) rfl rfl (HR.out.set3 _ _ _) rfl) rfl ?_
  exact .inl ⟨HT.out, rfl, below_put3 HW.out (by omega) _ _ _ _ _ _⟩
 | true =>
  have HT := Lib.hid hT
  clear hT
  by_cases hl : l < p
  ·go_wp2_with fail
   refine bodyPost_ret (retSE 6 7 (w.heap.size + 1) (shV 0 0 0) rfl rfl (HR.out.set3 _ _ _) rfl) rfl ?_
   exact .inr (.inl ⟨HT.out, hl, rfl, below_put3 HW.out (by omega) _ _ _ _ _ _⟩)
  ·go_wp2_with fail
   refine bodyPost_ret (retSE 6 7 (w.heap.size + 1) (shV p q b) rfl rfl (HR.out.set3 _ _ _) rfl) rfl ?_
   exact .inr (.inr ⟨HT.out, by omega, rfl, below_put3 HW.out (by omega) _ _ _ _ _ _⟩)
end Go.Proofs.YtihhclhpjgeniaaGreatDoor
namespace Go.Proofs.YtihhclhpjgeniaaGreatDoor
open Go.RowKit Go.Sort
section
variable {P : Program} {ops : Array Oper} {md : Region.Mode} {C : World → Prop} {Q : Exit → Act → World → Prop}
abbrev GrW (w w' : World) : Prop := ∃ p : Regrown, w' = grow (redrawn w p.d) p.os
end
end Go.Proofs.YtihhclhpjgeniaaGreatDoor
