/- Merged texts: Hd He Gb -/
import Derived.Test.YtihhclhpjgeniaaGreatDoorSB18
import Derived.Test.YtihhclhpjgeniaaGreatDoorSB22
namespace Go.Proofs.YtihhclhpjgeniaaGreatDoor
open Go.RowKit Go.Sort
set_option maxRecDepth 100000 in
set_option maxHeartbeats 1000000 in
theorem drawB_any (u : BV) (n : Int) (w : World) (hu : u.In w) (hn : 0 ≤ n ∧ n ≤ 1000000) :
  Calls Tryz.prog 222 #[.agg u.arr, .int .i64 n] w (RetBB (drawH u.h n).2.1 (drawH u.h n).2.2 (drawH u.h n).1 w) := by
 have HU := Lib.hid hu
 clear hu
 go_enter Tryz.func222, Tryz.ntmps222
 go_wp2_with fail
 refine gen_at (M := fun W => Calls Tryz.prog 144 _ W _) (fun W => At W w.heap.size u.arr 56 ∧ At W (w.heap.size + 1) noArr 56 ∧ At W (w.heap.size + 1 + 1) noArr 56 ∧ Below w.heap.size w W ∧ w.heap.size + 3 ≤ W.heap.size) ⟨((At.new w _ 56).al _).al _, (at_n1 w _ _ 56).al _, at_n2 w _ _ _ 56, bel3 w _ _ _, by simp⟩ ?_
 rintro w1 ⟨k0, k1, k2, hw1, hz1⟩
 with_reducible refine (validB_any u w1 (HU.out.below hw1)).mono ?_
 rintro _ w2 ⟨rfl, hb2⟩
 have HA := Lib.hid (k0.below hb2)
 have HR := Lib.hid (k1.below hb2)
 have HS := Lib.hid (k2.below hb2)
 have HW := Lib.hid (below_trans' hw1 hb2)
 have hz2 : w.heap.size + 3 ≤ w2.heap.size := Nat.le_trans hz1 hb2.size
 clear k0 k1 k2 hw1 hb2 hz1
 have b0 := HA.out.cell
 go_wp2_with fail
 clear b0
 with_reducible refine (openB_any u w2 (HU.out.below HW.out)).mono ?_
 rintro _ w3 ⟨rfl, hb3⟩
 have HR3 := Lib.hid (HR.out.below hb3)
 have HS3 := Lib.hid (HS.out.below hb3)
 have HW3 := Lib.hid (below_trans' HW.out hb3)
 have hz3 : w.heap.size + 3 ≤ w3.heap.size := Nat.le_trans hz2 hb3.size
 clear HA HR HS HW hb3 hz2
 have hn0 : ¬ n < 0 := by omega
 have hin := HU.out.ok.op
 go_wp2_with (first
  | (refine wpList_lock rfl rfl rfl _ _ rfl u.h.op rfl rfl ?_; intro W q1 hb hz)
  | (refine wpList_load50 rfl _ rfl w3.heap.size rfl (flatP u.h.op) q1 ?_))
 with_reducible refine (count_any u.h.op W (hin.mono (by omega))).mono ?_
 rintro _ w4 ⟨rfl, hb4⟩
 have HR4 := Lib.hid ((HR3.out.below hb).below hb4)
 have HS4 := Lib.hid ((HS3.out.below hb).below hb4)
 have HW4 := Lib.hid (below_trans' (below_trans' HW3.out hb) hb4)
 have Q4 := Lib.hid (LkP.below q1 hb4)
 clear HR3 HS3 HW3 hb hb4 q1 hz
 generalize w3.heap.size = N at Q4 hz3 ⊢
 by_cases hc : cntH u.h.op < n
 ·have HE : Hid (drawH u.h n = (6, noH, noH)) := Lib.hid (by unfold drawH; rw [if_neg (by omega), if_pos hc])
  have fr := HR4.out.fz
  have cr := HR4.out.cell
  have fs := HS4.out.fz
  have cs := HS4.out.cell
  have hne : w.heap.size + 1 ≠ w.heap.size + 1 + 1 := by omega
  go_wp2_with fail
  obtain ⟨r1, r2⟩ := at_put4 (a := .slice none 0 0) (b := .slice none 0 0) (c := .slice none 0 0) (d := .slice none 0 0) HR4.out HS4.out hne
  refine bodyPost_ret (retBBE 4 5 6 (w.heap.size + 1) (w.heap.size + 1 + 1) noArr noArr rfl rfl rfl r1 rfl r2 rfl) rfl ?_
  rw [HE.out]
  exact retBB_end (x := noB) (y := noB) rfl rfl (noB_in _) (noB_in _) (noB_new (w.heap.size + 3)) (noB_new (w.heap.size + 3)) (by omega) (by omega) (by omega) HW4.out _ _ _ _
 ·have HE : Hid (drawH u.h n = (0, tieH (oP u.h.op n 0), tieH (rP u.h.op n 0))) := Lib.hid (by
   unfold drawH; rw [if_neg (by omega), if_neg (by omega), tie_congr (h := oP u.h.op n 0) (g := drawL u.h.op n) fun k hk m _ _ => oP_draw _ _ hk m, tie_congr (h := rP u.h.op n 0) (g := restL u.h.op n) fun k hk m _ _ => rP_rest _ _ hk m])
  have i1 := oP_in hin hn.1 0
  have i2 := rP_in hin hn.1 0
  go_wp2_with fail
  with_reducible refine (draw_any N u.h.op n w4 Q4.out hin (by omega)).mono ?_
  rintro _ w5 ⟨rfl, kl, kp⟩
  have Q5 := Lib.hid kl
  have HR5 := Lib.hid (At.kp HR4.out kp (by omega))
  have HS5 := Lib.hid (At.kp HS4.out kp (by omega))
  have hsz := HW4.out.size
  have HW5 := Lib.hid (below_kp HW4.out kp hsz (by omega))
  clear kl kp HR4 HS4 HW4 Q4 hin hsz
  go_wp2_with (first
   | (refine wpList_lock rfl rfl rfl _ _ rfl (oP u.h.op n 0) rfl rfl ?_; intro X q1 hb hz)
   | (refine wpList_load50 rfl _ rfl w5.heap.size rfl (flatP (oP u.h.op n 0)) q1 ?_))
  with_reducible refine (tie_any (oP u.h.op n 0) X (i1.mono (by omega))).mono ?_
  rw [fin_small i1]
  rintro _ w6 ⟨x, hx, rfl, hi, hn', hb6⟩
  have HX := Lib.hid hx
  have HI := Lib.hid hi
  have hz6 := hb.size
  have hz7 := HS5.out.lt
  have HN := Lib.hid (hn'.mono (show w.heap.size + 3 ≤ X.heap.size by omega))
  have K5 := Lib.hid ((HR5.out.below hb).below hb6)
  have K6 := Lib.hid ((HS5.out.below hb).below hb6)
  have Q2 := Lib.hid (LkP.below (LkP.below Q5.out hb) hb6)
  have HW6 := Lib.hid (below_trans' (below_trans' HW5.out hb) hb6)
  have fr := K5.out.fz
  have cr := K5.out.cell
  clear hx hi hn' hb hb6 HR5 HS5 Q5 HW5 i1 q1 hz hz6
  go_wp2_with (refine wpList_load50 rfl _ rfl N rfl _ (LkP.far (LkP.far Q2.out (p := ⟨w.heap.size + 1, 0, none⟩) (by show N ≠ w.heap.size + 1; omega) _) (p := ⟨w.heap.size + 1, 1, none⟩) (by show N ≠ w.heap.size + 1; omega) _) ?_)
  have A4 := Lib.hid (K5.out.set2 (.slice x.A x.n x.c) (.slice x.B x.m x.d))
  have A5 := Lib.hid (K6.out.far2 (M := w.heap.size + 1) (by omega) 0 1 (.slice x.A x.n x.c) (.slice x.B x.m x.d))
  have HI2 := Lib.hid ((HI.out.put HN.out (g := w.heap.size + 1) (by omega) 0 (.slice x.A x.n x.c)).put HN.out (g := w.heap.size + 1) (by omega) 1 (.slice x.B x.m x.d))
  have HW7 := Lib.hid (below_put2 HW6.out (M := w.heap.size + 1) (by omega) 0 1 (.slice x.A x.n x.c) (.slice x.B x.m x.d))
  clear fr cr K5 K6 HI HW6 Q2
  generalize (w6.setCell ⟨w.heap.size + 1, 0, none⟩ (.slice x.A x.n x.c)).setCell ⟨w.heap.size + 1, 1, none⟩ (.slice x.B x.m x.d) = w7 at A4 A5 HI2 HW7 ⊢
  with_reducible refine (tie_any (rP u.h.op n 0) w7 (i2.mono (by omega))).mono ?_
  rw [fin_small i2]
  rintro _ w8 ⟨y, hy, rfl, hj, hm', hb⟩
  have HY := Lib.hid hy
  have HJ := Lib.hid hj
  have HM := Lib.hid hm'
  have B4 := Lib.hid (A4.out.below hb)
  have B5 := Lib.hid (A5.out.below hb)
  have HI3 := Lib.hid (HI2.out.below hb)
  have HW8 := Lib.hid (below_trans' HW7.out hb)
  have hz6 := At.lt A5.out
  have fr := B5.out.fz
  have cr := B5.out.cell
  clear hy hj hm' hb A4 A5 HI2 HW7 i2
  go_wp2_with fail
  have C4 := B4.out.far2 (M := w.heap.size + 1 + 1) (by omega) 0 1 (.slice y.A y.n y.c) (.slice y.B y.m y.d)
  have C5 := B5.out.set2 (.slice y.A y.n y.c) (.slice y.B y.m y.d)
  have HI4 := (HI3.out.put HN.out (g := w.heap.size + 1 + 1) (by omega) 0 (.slice y.A y.n y.c)).put HN.out (g := w.heap.size + 1 + 1) (by omega) 1 (.slice y.B y.m y.d)
  have HJ4 := (HJ.out.put HM.out (g := w.heap.size + 1 + 1) (by omega) 0 (.slice y.A y.n y.c)).put HM.out (g := w.heap.size + 1 + 1) (by omega) 1 (.slice y.B y.m y.d)
  have HW9 := below_put2 HW8.out (M := w.heap.size + 1 + 1) (by omega) 0 1 (.slice y.A y.n y.c) (.slice y.B y.m y.d)
  have Z := Lib.hid (ZS.mk (N := w.heap.size + 3) C4 C5 HW9 HI4 HJ4 (HN.out.mono (by omega)) (HM.out.mono (by omega)) (by omega))
  clear fr cr B4 B5 HI3 HJ HW8 C4 C5 HI4 HJ4 HW9
  generalize (w8.setCell ⟨w.heap.size + 1 + 1, 0, none⟩ (.slice y.A y.n y.c)).setCell ⟨w.heap.size + 1 + 1, 1, none⟩ (.slice y.B y.m y.d) = w9 at Z ⊢
  refine wp_region_hv [0, 1] [2, 3, 4] (fun W => ZS w (w.heap.size + 1) (w.heap.size + 1 + 1) (w.heap.size + 3) x y W) mixed (by kernel_rfl) (fun W W' h hb => h.below hb) Z.out.drew ?_
  refine canonG_read (v := .agg x.arr) rfl (by rfl) ?_ ?_
  ·intro W hS
   have q0 := At.cell hS.a
   go_simp
  simp only [List.getElem_toArray, List.getElem_cons_zero, Act.put, List.setIfInBounds_toArray, List.set_cons_succ, List.set_cons_zero]
  refine canonG_read (v := .agg y.arr) rfl (by rfl) ?_ ?_
  ·intro W hS
   have q0 := At.cell hS.b
   go_simp
  simp only [List.getElem_toArray, List.getElem_cons_zero, List.getElem_cons_succ, Act.put, List.setIfInBounds_toArray, List.set_cons_succ, List.set_cons_zero]
  refine canonG_nil ?_
  refine tailG_one (t := 2) (ts' := [3, 4]) (by kernel_rfl) rfl rfl ?_
  intro W4 hb4
  have Z4 := Lib.hid (Z.out.drew.below hb4)
  clear hb4 Z
  have fr := Z4.out.a.fz
  have cr := Z4.out.a.cell
  go_wp2_with fail
  have Z5 := Lib.hid Z4.out.setp
  clear fr cr Z4
  generalize (W4.setCell ⟨w.heap.size + 1, 0, none⟩ (.slice x.A x.n x.c)).setCell ⟨w.heap.size + 1, 1, none⟩ (.slice x.B x.m x.d) = W5 at Z5 ⊢
  refine ⟨Z5.out, ?_⟩
  refine tailG_one (t := 3) (ts' := [4]) (by kernel_rfl) rfl rfl ?_
  intro W6 hb6
  have Z6 := Lib.hid (Z5.out.below hb6)
  clear hb6 Z5
  have fr := Z6.out.b.fz
  have cr := Z6.out.b.cell
  go_wp2_with fail
  have Z7 := Lib.hid Z6.out.setq
  clear fr cr Z6
  generalize (W6.setCell ⟨w.heap.size + 1 + 1, 0, none⟩ (.slice y.A y.n y.c)).setCell ⟨w.heap.size + 1 + 1, 1, none⟩ (.slice y.B y.m y.d) = W7 at Z7 ⊢
  refine ⟨Z7.out, ?_⟩
  refine tailG_last (t := 4) (by kernel_rfl) rfl ?_
  intro W8 hb8
  have Z8 := Lib.hid (Z7.out.below hb8)
  clear hb8 Z7
  go_wp2_with fail
  refine NoPanic.normal ?_
  go_wp2_with fail
  refine bodyPost_ret (retBBE 4 5 6 (w.heap.size + 1) (w.heap.size + 1 + 1) x.arr y.arr rfl rfl rfl Z8.out.a rfl Z8.out.b rfl) rfl ?_
  rw [HE.out]
  exact Z8.out.ret HX.out HY.out
end Go.Proofs.YtihhclhpjgeniaaGreatDoor
namespace Go.Proofs.YtihhclhpjgeniaaGreatDoor
open Go.RowKit Go.Sort
def two (h : Lck) : Lck := fun k n => if k < 2 then h k n else 0
theorem flatP_congr {h g : Lck} (e : ∀ k, k < 2 → ∀ n, h k n = g k n) : flatP h = flatP g := by
 funext j; exact e _ (Nat.mod_lt _ (by omega)) _
theorem two_at {h : Lck} {k : Nat} (hk : k < 2) (n : Nat) : two h k n = h k n := if_pos hk
theorem flatP_two (h : Lck) : flatP (two h) = flatP h := flatP_congr fun _ hk n => two_at hk n
theorem two_in {h : Lck} {M : Int} (hh : h.In2 M) (h0 : 0 ≤ M) : (two h).In M := fun k n => by
 unfold two; split
 ·rename_i hk; exact hh k hk n
 ·omega
theorem tk_two (h : Lck) (n : Int) (m : Nat) : tk (two h) n m = tk h n m := tk_of (two_at (by omega) m) n
theorem take2_any (q : Nat) (h : Lck) (m : Nat) (n : Int) (w : World) (hk : LkP w q h) (hm : m < 25) (hh : h.In2 100000000) (h0 : 0 ≤ n) (h1 : n ≤ 100000000) :
  Calls Tryz.prog 271 #[.pointer (some ⟨q, 0, none⟩), .int .i64 m, .int .i64 n] w fun r w' =>
   r = .returned (.agg #[.int .i64 (tk h n m 0), .int .i64 (tk h n m 1)]) ∧ LkP w' q (takeL h m (tk h n m)) ∧ Kp (· = q) w w' := by
 have hk2 : LkP w q (two h) := by unfold LkP; rw [flatP_two]; exact hk
 refine (takeK_any q (two h) m n w hk2 hm (two_in hh (by omega)) h0 h1).mono ?_
 rintro r w' ⟨rfl, kl, kp⟩
 rw [tk_two] at kl ⊢
 refine ⟨rfl, ?_, kp⟩
 have e : flatP (tkL (two h) m (tk h n m 0) (tk h n m 1)) = flatP (takeL h m (tk h n m)) := flatP_congr fun k hk x => by
  rw [tkL_at (two h) m (tk h n m) hk]
  unfold takeL
  rw [two_at hk]
 unfold LkP
 rw [← e]
 exact kl
theorem tie2_any (h : Lck) (w : World) (hh : h.In2 200000000) : Calls Tryz.prog 269 #[.agg (arrI (flatP h))] w (RetB (fin h).2 (fin h).1 w) := by
 have := tie_any (two h) w (two_in hh (by omega))
 rw [flatP_two, fin_congr (h := two h) (g := h) fun k hk n _ _ => two_at hk n] at this
 exact this
theorem takeL_zero {h : Lck} (hh : ∀ k, k < 2 → ∀ n, 0 ≤ h k n) (j : Nat) : takeL h j (tk h 0 j) = h := by
 funext k n
 have := hh 0 (by omega) j
 unfold takeL tk
 split
 ·rename_i e; subst e
  split <;> omega
 ·rfl
theorem cin_zero : ∀ (c j : Nat) (h : Lck), (∀ k, k < 2 → ∀ n, 0 ≤ h k n) → cin c j h 0 = (h, 0)
 | 0, _, _, _ => rfl
 | c + 1, j, h, hh => by
  have a0 := hh 0 (by omega) j
  have a1 := hh 1 (by omega) j
  have e : min 0 (h 0 j + h 1 j) = 0 := by omega
  show cin c (j + 1) (takeL h j (tk h (min 0 (h 0 j + h 1 j)) j)) (0 - min 0 (h 0 j + h 1 j)) = _
  rw [e, takeL_zero hh]
  exact cin_zero c (j + 1) h hh
theorem tie2_fin {h : Lck} (hh : h.In2 1000000) : fin h = (0, tieH h) := by
 have := fin_small (two_in hh (by omega))
 rw [fin_congr (h := two h) (g := h) fun k hk n _ _ => two_at hk n, tie_congr (h := two h) (g := h) fun k hk n _ _ => two_at hk n] at this
 exact this
def RetBZ (h : Hr) (e : Int) (w : World) (r : Ending) (w' : World) : Prop := ∃ (v : BV) (z : Int), v.h = h ∧ r = .returned (.tuple #[.agg v.arr, .int .i64 z, .int .i64 e]) ∧ v.In w' ∧ v.New w.heap.size ∧ Below w.heap.size w w'
theorem retBZ_end {h : Hr} {e z : Int} {w w5 : World} {x : BV} {g N : Nat} (hx : x.h = h) (hi : x.In w5) (hn : x.New N) (hg : g < N) (hw : w.heap.size ≤ g) (hb : Below w.heap.size w w5) (a b : Value) :
  RetBZ h e w (.returned (.tuple #[.agg x.arr, .int .i64 z, .int .i64 e])) ((w5.setCell ⟨g, 0, none⟩ a).setCell ⟨g, 1, none⟩ b) :=
 ⟨x, z, hx, rfl, (hi.put hn hg 0 a).put hn hg 1 b, hn.mono (by omega : w.heap.size ≤ N), below_put (below_put hb (p := ⟨g, 0, none⟩) hw a) (p := ⟨g, 1, none⟩) hw b⟩
theorem results_ctt {fn : Func} {p u t : _root_.Go.Tmp} {ty : TypeId} (h : fn.results = #[.cell p ty, .tmp u, .tmp t]) (tmps : Array Value) (P : Program) (w : World) :
  (results fn tmps).run P w = ((asAddr (tmps.getD p undef)).run P w).andThen fun a w₁ => ((loadVar ty a).run P w₁).andThen fun v w₂ => .ok (.tuple #[v, tmps.getD u undef, tmps.getD t undef]) w₂ := by
 simp only [results, h]
 simp [Sem.run_bind, Result.andThen]
theorem retBZE {fn : Func} {tmps : Array Value} {w : World} (p u t : _root_.Go.Tmp) (g : Nat) (cs : Array Value) (h : fn.results = #[.cell p 56, .tmp u, .tmp t]) (hp : tmps.getD p undef = .pointer (some ⟨g, 0, none⟩)) (hg : At w g cs 56) (hc : cs.size = 2) :
  (results fn tmps).run Tryz.prog w = .ok (.tuple #[.agg cs, tmps.getD u undef, tmps.getD t undef]) w := by
 rw [results_ctt h, hp]
 simp [asAddr, run_loadVar_row w g 56 56 cs (0, 0) _ hg Tryz.underlying56 rfl (by rw [hc]; kernel_rfl)]
set_option maxRecDepth 100000 in
set_option maxHeartbeats 2000000 in
theorem cutB_any (u v : BV) (w : World) (hu : u.In w) (hv : v.In w) : Calls Tryz.prog 230 #[.agg u.arr, .agg v.arr] w (RetBZ (cutH u.h v.h).2 (cutH u.h v.h).1 w) := by
 have HU := Lib.hid hu
 have HV := Lib.hid hv
 clear hu hv
 go_enter Tryz.func230, Tryz.ntmps230
 go_wp2_with fail
 refine gen_at (M := fun W => Calls Tryz.prog 267 _ W _) (fun W => At W (w.heap.size + 1 + 1) noArr 56 ∧ Below w.heap.size w W ∧ w.heap.size + 3 ≤ W.heap.size) ⟨at_n2 w _ _ _ 56, bel3 w _ _ _, by simp⟩ ?_
 rintro w1 ⟨k1, hw1, hz1⟩
 with_reducible refine (pair_any u v w1 (HU.out.below hw1) (HV.out.below hw1)).mono ?_
 rintro _ w2 ⟨rfl, hb2⟩
 have HR := Lib.hid (k1.below hb2)
 have HW := Lib.hid (below_trans' hw1 hb2)
 have hz2 : w.heap.size + 3 ≤ w2.heap.size := Nat.le_trans hz1 hb2.size
 clear k1 hw1 hb2 hz1
 go_wp2_with (first
  | (refine wpList_locks rfl rfl rfl rfl rfl rfl _ _ _ _ rfl rfl u.h.op v.h.op rfl rfl rfl rfl ?_; intro W q1 q2 hb hz))
 have HR2 := Lib.hid (HR.out.below hb)
 have HW2 := Lib.hid (below_trans' HW.out hb)
 clear HR HW hb
 generalize w2.heap.size = N at q1 q2 hz hz2 ⊢
 have HY := Lib.hid HV.out.ok.op
 go_loopw [5, 9] (fun l i wr => ∃ (e : Nat) (z : Int) (h : Lck), e ≤ 24 ∧ i = .int .i64 e ∧ l = .int .i64 z ∧ cout v.h.op e h = cout v.h.op 24 u.h.op ∧ h.In2 1000000 ∧ LkP wr N h ∧ LkP wr (N + 1) v.h.op ∧ At wr (w.heap.size + 1 + 1) noArr 56 ∧ Below w.heap.size w wr) (fun _ i _ => (intOf i).toNat)
 case atStart => exact ⟨24, 0, u.h.op, by omega, rfl, rfl, rfl, HU.out.ok.op.two, q1, q2, HR2.out, HW2.out⟩
 case round =>
  obtain ⟨e, z, h, he, rfl, rfl, hc, hin, k1, k2, k3, hw⟩ := hrel
  clear q1 q2 HR2 HW2
  have K1 := Lib.hid k1
  have K2 := Lib.hid k2
  have K3 := Lib.hid k3
  have HW := Lib.hid hw
  have HC := Lib.hid hc
  have HI := Lib.hid hin
  clear k1 k2 k3 hw hc hin
  cases e with
  | zero =>
   have HE : Hid (cutH u.h v.h = (0, tieH h)) := Lib.hid (by unfold cutH; rw [← HC.out]; rfl)
   have h2 : h.In2 200000000 := fun k hk n => by have := HI.out k hk n; omega
   go_wp2_with (refine wpList_load50 rfl _ rfl N rfl _ K1.out ?_)
   with_reducible refine (tie2_any h _ h2).mono ?_
   rw [tie2_fin HI.out]
   rintro _ w5 ⟨x, hx, rfl, hi, hn, hb⟩
   have HX := Lib.hid hx
   have HJ := Lib.hid hi
   have hk := At.lt K1.out
   have HN := Lib.hid (hn.mono (show N ≤ wr.heap.size by omega))
   have K4 := Lib.hid (K3.out.below hb)
   have HW3 := Lib.hid (below_trans' HW.out hb)
   have fr := K4.out.fz
   have cr := K4.out.cell
   clear hx hi hn hb HW K3
   go_wp2_with fail
   have hsz := HW3.out.size
   have A5 := K4.out.set2 (.slice x.A x.n x.c) (.slice x.B x.m x.d)
   have J5 := (HJ.out.put HN.out (g := w.heap.size + 1 + 1) (by omega) 0 (.slice x.A x.n x.c)).put HN.out (g := w.heap.size + 1 + 1) (by omega) 1 (.slice x.B x.m x.d)
   have W5 := below_put2 HW3.out (M := w.heap.size + 1 + 1) (by omega) 0 1 (.slice x.A x.n x.c) (.slice x.B x.m x.d)
   refine bodyPost_ret (retBZE 4 5 6 (w.heap.size + 1 + 1) x.arr rfl rfl (A5.set2 (.slice x.A x.n x.c) (.slice x.B x.m x.d)) rfl) rfl ?_
   rw [HE.out]
   exact retBZ_end HX.out J5 HN.out (by omega) (by omega) W5 _ _
  | succ j =>
   have g0 := LkP.rg0 K2.out (n := j + 1) (by omega)
   have g1 := LkP.rg1 K2.out (n := j + 1) (by omega)
   have y0 := HY.out 0 (j + 1)
   have y1 := HY.out 1 (j + 1)
   have v1 : IntKind.i64.wrap (v.h.op 0 (j + 1) + v.h.op 1 (j + 1)) = v.h.op 0 (j + 1) + v.h.op 1 (j + 1) := IntWalk.i64_in _ (by omega)
   go_wp2_with fail
   refine wp_region_qb mixed (by kernel_rfl) ?_
   repeat (go_big_quiet_step (fail))
   refine wpQuiet_nil ?_
   intro w5 hb5
   have L1 := Lib.hid (LkP.below K1.out hb5)
   have L2 := Lib.hid (LkP.below K2.out hb5)
   have L3 := Lib.hid (K3.out.below hb5)
   have HW5 := Lib.hid (below_trans' HW.out hb5)
   clear K1 K2 K3 HW hb5 g0 g1 v1
   obtain ⟨n0, hn0⟩ : ∃ s, v.h.op 0 (j + 1) + v.h.op 1 (j + 1) = s := ⟨_, rfl⟩
   have HN0 := Lib.hid hn0
   have hb0 : 0 ≤ n0 ∧ n0 ≤ 2000000 := by omega
   rw [hn0]
   clear hn0 y0 y1
   generalize hE : ((j + 1 : Nat) : Int) = E
   have HEE := Lib.hid hE
   clear hE
   go_wp2_with fail
   go_loopw [5, 10, 11] (fun l nd fr wx => ∃ (f : Nat) (z : Int) (g : Lck) (need : Int), j + 1 ≤ f ∧ f ≤ 25 ∧ fr = .int .i64 f ∧ nd = .int .i64 need ∧ l = .int .i64 z ∧ cin (25 - f) f g need = cin (24 - j) (j + 1) h n0 ∧ (0 ≤ need ∧ need ≤ 2000000) ∧ g.In2 1000000 ∧ LkP wx N g ∧ LkP wx (N + 1) v.h.op ∧ At wx (w.heap.size + 1 + 1) noArr 56 ∧ Below w.heap.size w wx) (fun _ _ fr _ => 25 - (intOf fr).toNat)
   case atStart => exact ⟨j + 1, z, h, n0, by omega, by omega, by rw [HEE.out], rfl, rfl, by rw [show 25 - (j + 1) = 24 - j by omega], hb0, HI.out, L1.out, L2.out, L3.out, HW5.out⟩
   case round =>
    obtain ⟨f, z, g, need, hf1, hf2, rfl, rfl, rfl, hci, hnd, hgi, k1, k2, k3, hw⟩ := hrel
    clear L1 L2 L3 HW5
    have K1 := Lib.hid k1
    have K2 := Lib.hid k2
    have K3 := Lib.hid k3
    have HW := Lib.hid hw
    have HCI := Lib.hid hci
    have HGI := Lib.hid hgi
    clear k1 k2 k3 hw hci hgi
    by_cases hc : f ≤ 24 ∧ 0 < need
    ·obtain ⟨hf3, hc2⟩ := hc
     have g0 := LkP.rg0 K1.out (n := f) (by omega)
     have g1 := LkP.rg1 K1.out (n := f) (by omega)
     have y0 := HGI.out 0 (by omega) f
     have y1 := HGI.out 1 (by omega) f
     have v1 : IntKind.i64.wrap (g 0 f + g 1 f) = g 0 f + g 1 f := IntWalk.i64_in _ (by omega)
     go_wp2_with fail
     refine wp_region_qb mixed (by kernel_rfl) ?_
     repeat (go_big_quiet_step (fail))
     refine wpQuiet_nil ?_
     intro w6 hb6
     have L1 := Lib.hid (LkP.below K1.out hb6)
     have L2 := Lib.hid (LkP.below K2.out hb6)
     have L3 := Lib.hid (K3.out.below hb6)
     have HW6 := Lib.hid (below_trans' HW.out hb6)
     clear K1 K2 K3 HW hb6 g0 g1 v1
     go_wp2_with fail
     have hgb : g.In2 100000000 := fun k hk n => by have := HGI.out k hk n; omega
     have hmm : 0 ≤ min need (g 0 f + g 1 f) ∧ min need (g 0 f + g 1 f) ≤ g 0 f + g 1 f ∧ min need (g 0 f + g 1 f) ≤ need := by omega
     with_reducible refine (take2_any N g f (min need (g 0 f + g 1 f)) w6 L1.out (by omega) hgb (by omega) (by omega)).mono ?_
     rintro _ w7 ⟨rfl, kl, kp⟩
     have M1 := Lib.hid kl
     have M2 := Lib.hid (LkP.kp L2.out kp (by omega))
     have M3 := Lib.hid (At.kp L3.out kp (by omega))
     have hsz := HW6.out.size
     have HW7 := Lib.hid (below_kp HW6.out kp hsz (by omega))
     have HGJ := Lib.hid (take_in2 HGI.out (j := f) hmm.1 hmm.2.1).1
     have HCJ : Hid (cin (25 - (f + 1)) (f + 1) (takeL g f (tk g (min need (g 0 f + g 1 f)) f)) (need - min need (g 0 f + g 1 f)) = cin (24 - j) (j + 1) h n0) := Lib.hid (by
      rw [← HCI.out, show 25 - f = (25 - (f + 1)) + 1 by omega]; rfl)
     clear kl kp L1 L2 L3 HW6 hgb HGI HCI y0 y1 hsz
     generalize takeL g f (tk g (min need (g 0 f + g 1 f)) f) = g2 at M1 HGJ HCJ
     generalize min need (g 0 f + g 1 f) = mm at hmm HCJ ⊢
     have v2 : IntKind.i64.wrap (need - mm) = need - mm := IntWalk.i64_in _ (by omega)
     have v3 : IntKind.i64.wrap ((f : Int) + 1) = ((f + 1 : Nat) : Int) := by rw [IntWalk.i64_in _ (by omega)]; push_cast; rfl
     go_wp2_with fail
     go_roundw
     case rel => exact ⟨f + 1, _, g2, need - mm, by omega, by omega, by go_num, rfl, rfl, HCJ.out, by omega, HGJ.out, M1.out, M2.out, M3.out, HW7.out⟩
     case measure => simp [intOf]; omega
    ·have HCE : Hid (cin (24 - j) (j + 1) h n0 = (g, need)) := Lib.hid (by
      rw [← HCI.out]
      by_cases h25 : f = 25
      ·rw [h25]; rfl
      ·have : need = 0 := by omega
       rw [this]
       exact cin_zero _ _ _ fun k hk n => (HGI.out k hk n).1)
     have HCF : Hid (cout v.h.op 24 u.h.op = if 0 < need then none else cout v.h.op j g) := Lib.hid (by
      rw [← HC.out]
      show (if 0 < (cin (24 - j) (j + 1) h (v.h.op 0 (j + 1) + v.h.op 1 (j + 1))).2 then none else cout v.h.op j (cin (24 - j) (j + 1) h (v.h.op 0 (j + 1) + v.h.op 1 (j + 1))).1) = _
      rw [HN0.out, HCE.out])
     have fr := K3.out.fz
     have cr := K3.out.cell
     by_cases hn : 0 < need
     ·have hf4 : f = 25 := by omega
      subst hf4
      have HE : Hid (cutH u.h v.h = (6, noH)) := Lib.hid (by unfold cutH; rw [HCF.out, if_pos hn])
      clear hc
      go_wp2_with fail
      refine bodyPost_ret (retBZE 4 5 6 (w.heap.size + 1 + 1) noArr rfl rfl (K3.out.set2 (.slice none 0 0) (.slice none 0 0)) rfl) rfl ?_
      rw [HE.out]
      exact retBZ_end (x := noB) rfl (noB_in _) (noB_new (w.heap.size + 3)) (by omega) (by omega) HW.out _ _
     ·have hn0 : need = 0 := by omega
      subst hn0
      clear hc
      have HC2 : Hid (cout v.h.op j g = cout v.h.op 24 u.h.op) := Lib.hid (by rw [HCF.out, if_neg hn])
      have v3 : IntKind.i64.wrap (E - 1) = (j : Int) := by have := HEE.out; rw [IntWalk.i64_in _ (by omega)]; omega
      clear HCF HCE HC fr cr
      go_wp2_with fail
      all_goals exact ⟨⟨j, z, g, by omega, rfl, rfl, HC2.out, HGI.out, K1.out, K2.out, K3.out, HW.out⟩, by simp [intOf]⟩
end Go.Proofs.YtihhclhpjgeniaaGreatDoor
namespace Go.Proofs.YtihhclhpjgeniaaGreatDoor
open Go.RowKit Go.Sort
def idxI : Option Nat → Int
 | none => -1
 | some i => i
theorem cell_any {w : World} {q : Nat} {c : Value} {t : TypeId} (h : At w q #[c] t) : w.cell? ⟨q, 0, none⟩ = some c := At.cell h 0
set_option maxRecDepth 100000 in
theorem clB_any (b : NB) (n : List UInt8) (q : Nat) (w : World) (hq : At w q #[.string (mkB n)] 9) :
  Calls Tryz.prog 120 #[.agg #[.string (mkB b.name), .slice b.v.A b.v.n b.v.c, .slice b.v.B b.v.m b.v.d], .pointer (some ⟨q, 0, none⟩)] w fun r w' => r = .returned (.bool (b.name == n)) ∧ Below w.heap.size w w' := by
 have c0 := cell_any (hq.al (.cells #[.string (mkB b.name), .slice b.v.A b.v.n b.v.c, .slice b.v.B b.v.m b.v.d] 130))
 go_enter Tryz.func120, Tryz.ntmps120
 go_wp2_with fail
 go_ret
 exact ⟨rfl, belowA _ _⟩
abbrev NW.arr (x : NW) : Array Value := #[.string (mkB x.w.name), .string (mkB x.w.bun), .int .i64 x.w.hairs, .int .i64 x.w.done, .int .i64 x.w.shed, .int .i64 x.w.len, .int .i64 x.w.lvl, .int .i64 x.w.tone, .int .i64 x.w.bl, .string (mkB x.w.plait), .int .i64 x.w.state, .int .i64 x.w.price, .slice x.A x.n x.c]
set_option maxRecDepth 100000 in
theorem clW_any (x : NW) (n : List UInt8) (q : Nat) (w : World) (hq : At w q #[.string (mkB n)] 9) :
  Calls Tryz.prog 118 #[.agg x.arr, .pointer (some ⟨q, 0, none⟩)] w fun r w' => r = .returned (.bool (x.w.name == n)) ∧ Below w.heap.size w w' := by
 have c0 := cell_any (hq.al (.cells x.arr 126))
 go_enter Tryz.func118, Tryz.ntmps118
 go_wp2_with fail
 go_ret
 exact ⟨rfl, belowA _ _⟩
theorem find_at {α : Type} {p : α → Bool} {l : List α} {k : Nat} {a : α} (hk : l[k]? = some a) (hp : p a = true) (hno : ∀ x ∈ l.take k, p x = false) : l.findIdx? p = some k := by
 obtain ⟨hl, he⟩ := List.getElem?_eq_some_iff.1 hk
 rw [List.findIdx?_eq_some_iff_getElem]
 refine ⟨hl, by rw [he]; exact hp, fun j hj => ?_⟩
 have := hno l[j] (by rw [List.mem_take_iff_getElem]; exact ⟨j, by omega, rfl⟩)
 simpa using this
theorem find_no {α : Type} {p : α → Bool} {l : List α} (hno : ∀ x ∈ l, p x = false) : l.findIdx? p = none := by
 rw [List.findIdx?_eq_none_iff]
 exact hno
theorem find_map {α β : Type} (f : α → β) (p : β → Bool) (l : List α) : (l.map f).findIdx? p = l.findIdx? fun a => p (f a) := by
 rw [List.findIdx?_map]; rfl
set_option maxRecDepth 100000 in
set_option maxHeartbeats 1000000 in
theorem ixB_any (l : List NB) (A : Option Addr) (c : Nat) (n : List UInt8) (q : Nat) (w : World) (h : w.ownsRow 0 130 3 (.slice A l.length c) l.length (l.flatMap NB.cells)) (hq : At w q #[.string (mkB n)] 9) (hl : l.length ≤ 1000) :
  Calls Tryz.prog 119 #[.slice A l.length c, .func (.func 120) #[] #[.pointer (some ⟨q, 0, none⟩)]] w fun r w' => r = .returned (.int .i64 (idxI (l.findIdx? fun b => b.name == n))) ∧ Below w.heap.size w w' := by
 have HR := Lib.hid h
 have HQ := Lib.hid hq
 clear h hq
 obtain ⟨N, hN⟩ : ∃ N, l.length = N := ⟨_, rfl⟩
 have HN := Lib.hid hN
 rw [hN] at HR hl ⊢
 clear hN
 go_enter Tryz.func119, Tryz.ntmps119
 go_wp2_with fail
 go_loopw [8] (fun i wr => ∃ k : Nat, k ≤ N ∧ i = .int .i64 k ∧ (∀ x ∈ l.take k, (x.name == n) = false) ∧ Below w.heap.size w wr) (fun i _ => N - (intOf i).toNat)
 case atStart => exact ⟨0, by omega, rfl, by simp, Below.refl _ _⟩
 case round =>
  obtain ⟨k, hk, rfl, hno, hbw⟩ := hrel
  have HNO := Lib.hid hno
  have HW := Lib.hid hbw
  clear hno hbw
  by_cases hlt : k < N
  ·obtain ⟨g, hg⟩ := own_form HR.out (by omega)
   have hx : ∃ b, l[k]? = some b := ⟨l[k]'(by rw [HN.out]; exact hlt), List.getElem?_eq_getElem _⟩
   obtain ⟨b, hb⟩ := hx
   have hrow := row_on HR.out HW.out
   rw [hg] at hrow ⊢
   have d0 : wr.cell? ⟨g, k * 3, none⟩ = some (.string (mkB b.name)) := own_cell nb_len (by omega) hrow hb (j := 0) (by omega)
   have d1 : wr.cell? ⟨g, k * 3 + 1, none⟩ = some (.slice b.v.A b.v.n b.v.c) := own_cell nb_len (by omega) hrow hb (j := 1) (by omega)
   have d2 : wr.cell? ⟨g, k * 3 + 2, none⟩ = some (.slice b.v.B b.v.m b.v.d) := own_cell nb_len (by omega) hrow hb (j := 2) (by omega)
   have HT := Lib.hid (take_succ_of hb)
   have HB := Lib.hid hb
   have v2 : IntKind.i64.wrap ((k : Int) + 1) = ((k + 1 : Nat) : Int) := by rw [IntWalk.i64_in _ (by omega)]; push_cast; rfl
   clear hb hrow
   go_wp2_with fail
   with_reducible refine (clB_any b n q wr (HQ.out.below HW.out)).mono ?_
   rintro _ w2 ⟨rfl, hb2⟩
   have HW2 := Lib.hid (below_trans' HW.out hb2)
   clear hb2 d0 d1 d2
   rcases Bool.eq_false_or_eq_true (b.name == n) with hf | hf
   ·have HE : Hid (l.findIdx? (fun b => b.name == n) = some k) := Lib.hid (find_at HB.out hf HNO.out)
    rw [hf]
    clear hf
    go_wp2_with fail
    go_ret
    exact ⟨by rw [HE.out]; rfl, HW2.out⟩
   ·have HF := Lib.hid hf
    rw [hf]
    clear hf
    go_wp2_with fail
    go_roundw
    case rel =>
     refine ⟨k + 1, by omega, by go_num, ?_, HW2.out⟩
     intro x hx
     rw [HT.out] at hx
     rcases List.mem_append.1 hx with hx | hx
     ·exact HNO.out x hx
     ·rw [List.mem_singleton.1 hx]; exact HF.out
    case measure => simp [intOf]; omega
  ·have HE : Hid (l.findIdx? (fun b => b.name == n) = none) := Lib.hid (find_no fun x hx => HNO.out x (by rw [List.take_of_length_le (by rw [HN.out]; omega)]; exact hx))
   go_wp2_with fail
   go_ret
   exact ⟨by rw [HE.out]; rfl, HW.out⟩
set_option maxRecDepth 100000 in
set_option maxHeartbeats 1000000 in
theorem ixW_any (l : List NW) (A : Option Addr) (c : Nat) (n : List UInt8) (q : Nat) (w : World) (h : w.ownsRow 0 126 13 (.slice A l.length c) l.length (l.flatMap NW.cells)) (hq : At w q #[.string (mkB n)] 9) (hl : l.length ≤ 1000) :
  Calls Tryz.prog 117 #[.slice A l.length c, .func (.func 118) #[] #[.pointer (some ⟨q, 0, none⟩)]] w fun r w' => r = .returned (.int .i64 (idxI (l.findIdx? fun x => x.w.name == n))) ∧ Below w.heap.size w w' := by
 have HR := Lib.hid h
 have HQ := Lib.hid hq
 clear h hq
 obtain ⟨N, hN⟩ : ∃ N, l.length = N := ⟨_, rfl⟩
 have HN := Lib.hid hN
 rw [hN] at HR hl ⊢
 clear hN
 go_enter Tryz.func117, Tryz.ntmps117
 go_wp2_with fail
 go_loopw [8] (fun i wr => ∃ k : Nat, k ≤ N ∧ i = .int .i64 k ∧ (∀ x ∈ l.take k, (x.w.name == n) = false) ∧ Below w.heap.size w wr) (fun i _ => N - (intOf i).toNat)
 case atStart => exact ⟨0, by omega, rfl, by simp, Below.refl _ _⟩
 case round =>
  obtain ⟨k, hk, rfl, hno, hbw⟩ := hrel
  have HNO := Lib.hid hno
  have HW := Lib.hid hbw
  clear hno hbw
  by_cases hlt : k < N
  ·obtain ⟨g, hg⟩ := own_form HR.out (by omega)
   have hx : ∃ b, l[k]? = some b := ⟨l[k]'(by rw [HN.out]; exact hlt), List.getElem?_eq_getElem _⟩
   obtain ⟨b, hb⟩ := hx
   have hrow := row_on HR.out HW.out
   rw [hg] at hrow ⊢
   have d0 : wr.cell? ⟨g, k * 13, none⟩ = some (.string (mkB b.w.name)) := own_cell nw_len (by omega) hrow hb (j := 0) (by omega)
   have d1 : wr.cell? ⟨g, k * 13 + 1, none⟩ = some (.string (mkB b.w.bun)) := own_cell nw_len (by omega) hrow hb (j := 1) (by omega)
   have d2 : wr.cell? ⟨g, k * 13 + 2, none⟩ = some (.int .i64 b.w.hairs) := own_cell nw_len (by omega) hrow hb (j := 2) (by omega)
   have d3 : wr.cell? ⟨g, k * 13 + 3, none⟩ = some (.int .i64 b.w.done) := own_cell nw_len (by omega) hrow hb (j := 3) (by omega)
   have d4 : wr.cell? ⟨g, k * 13 + 4, none⟩ = some (.int .i64 b.w.shed) := own_cell nw_len (by omega) hrow hb (j := 4) (by omega)
   have d5 : wr.cell? ⟨g, k * 13 + 5, none⟩ = some (.int .i64 b.w.len) := own_cell nw_len (by omega) hrow hb (j := 5) (by omega)
   have d6 : wr.cell? ⟨g, k * 13 + 6, none⟩ = some (.int .i64 b.w.lvl) := own_cell nw_len (by omega) hrow hb (j := 6) (by omega)
   have d7 : wr.cell? ⟨g, k * 13 + 7, none⟩ = some (.int .i64 b.w.tone) := own_cell nw_len (by omega) hrow hb (j := 7) (by omega)
   have d8 : wr.cell? ⟨g, k * 13 + 8, none⟩ = some (.int .i64 b.w.bl) := own_cell nw_len (by omega) hrow hb (j := 8) (by omega)
   have d9 : wr.cell? ⟨g, k * 13 + 9, none⟩ = some (.string (mkB b.w.plait)) := own_cell nw_len (by omega) hrow hb (j := 9) (by omega)
   have d10 : wr.cell? ⟨g, k * 13 + 10, none⟩ = some (.int .i64 b.w.state) := own_cell nw_len (by omega) hrow hb (j := 10) (by omega)
   have d11 : wr.cell? ⟨g, k * 13 + 11, none⟩ = some (.int .i64 b.w.price) := own_cell nw_len (by omega) hrow hb (j := 11) (by omega)
   have d12 : wr.cell? ⟨g, k * 13 + 12, none⟩ = some (.slice b.A b.n b.c) := own_cell nw_len (by omega) hrow hb (j := 12) (by omega)
   have HT := Lib.hid (take_succ_of hb)
   have HB := Lib.hid hb
   have v2 : IntKind.i64.wrap ((k : Int) + 1) = ((k + 1 : Nat) : Int) := by rw [IntWalk.i64_in _ (by omega)]; push_cast; rfl
   clear hb hrow
   go_wp2_with fail
   with_reducible refine (clW_any b n q wr (HQ.out.below HW.out)).mono ?_
   rintro _ w2 ⟨rfl, hb2⟩
   have HW2 := Lib.hid (below_trans' HW.out hb2)
   clear hb2 d0 d1 d2 d3 d4 d5 d6 d7 d8 d9 d10 d11 d12
   rcases Bool.eq_false_or_eq_true (b.w.name == n) with hf | hf
   ·have HE : Hid (l.findIdx? (fun x => x.w.name == n) = some k) := Lib.hid (find_at HB.out hf HNO.out)
    rw [hf]
    clear hf
    go_wp2_with fail
    go_ret
    exact ⟨by rw [HE.out]; rfl, HW2.out⟩
   ·have HF := Lib.hid hf
    rw [hf]
    clear hf
    go_wp2_with fail
    go_roundw
    case rel =>
     refine ⟨k + 1, by omega, by go_num, ?_, HW2.out⟩
     intro x hx
     rw [HT.out] at hx
     rcases List.mem_append.1 hx with hx | hx
     ·exact HNO.out x hx
     ·rw [List.mem_singleton.1 hx]; exact HF.out
    case measure => simp [intOf]; omega
  ·have HE : Hid (l.findIdx? (fun x => x.w.name == n) = none) := Lib.hid (find_no fun x hx => HNO.out x (by rw [List.take_of_length_le (by rw [HN.out]; omega)]; exact hx))
   go_wp2_with fail
   go_ret
   exact ⟨by rw [HE.out]; rfl, HW.out⟩
end Go.Proofs.YtihhclhpjgeniaaGreatDoor
