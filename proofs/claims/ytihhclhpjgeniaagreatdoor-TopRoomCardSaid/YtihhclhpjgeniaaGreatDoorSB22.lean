/- Merged texts: Hb Hc -/
import Derived.Test.YtihhclhpjgeniaaGreatDoorSB21
namespace Go.Proofs.YtihhclhpjgeniaaGreatDoor
open Go.RowKit Go.Sort
theorem op_zero (b : Hr) (k : Nat) : b.op k 0 = 0 := by
 unfold Hr.op; split
 ·rfl
 ·split <;> rfl
theorem keptL_one (b : Hr) : keptL b.op 1 = b.op := by
 funext k n
 unfold keptL
 split
 ·rw [show n = 0 by omega, op_zero]
 ·rfl
theorem shortL_one (b : Hr) : shortL b.op 1 = zeroH := by
 funext k n
 unfold shortL
 split
 ·rw [show n = 0 by omega, op_zero]
 ·rfl
theorem keptL_step (b : Hr) (m : Nat) : setH (setH (keptL b.op m) 0 m 0) 1 m 0 = keptL b.op (m + 1) := by
 funext k n
 unfold setH keptL
 by_cases hn : n = m
 ·subst hn
  rw [if_pos (Nat.lt_succ_self n), if_neg (Nat.lt_irrefl n)]
  by_cases h1 : k = 1
  ·subst h1; simp
  ·by_cases h0 : k = 0
   ·subst h0; simp
   ·simp [h0, h1, op_two b (show ¬ k < 2 by omega)]
 ·rw [if_neg (fun e => hn e.2), if_neg (fun e => hn e.2)]
  by_cases hm : n < m
  ·rw [if_pos hm, if_pos (by omega)]
  ·rw [if_neg hm, if_neg (by omega)]
theorem shortL_step (b : Hr) (m : Nat) : setH (setH (shortL b.op m) 0 m (b.op 0 m)) 1 m (b.op 1 m) = shortL b.op (m + 1) := by
 funext k n
 unfold setH shortL
 by_cases hn : n = m
 ·subst hn
  rw [if_pos (Nat.lt_succ_self n), if_neg (Nat.lt_irrefl n)]
  by_cases h1 : k = 1
  ·subst h1; simp
  ·by_cases h0 : k = 0
   ·subst h0; simp
   ·simp [h0, h1, op_two b (show ¬ k < 2 by omega)]
 ·rw [if_neg (fun e => hn e.2), if_neg (fun e => hn e.2)]
  by_cases hm : n < m
  ·rw [if_pos hm, if_pos (by omega)]
  ·rw [if_neg hm, if_neg (by omega)]
theorem keptL_self (h : Lck) (k m : Nat) : keptL h m k m = h k m := if_neg (Nat.lt_irrefl m)
theorem keptL_in {h : Lck} (hh : h.In 1000000) (m : Nat) : (keptL h m).In 1000000 := fun k n => by have := hh k n; unfold keptL; split <;> omega
theorem shortL_in {h : Lck} (hh : h.In 1000000) (m : Nat) : (shortL h m).In 1000000 := fun k n => by have := hh k n; unfold shortL; split <;> omega
theorem fin_small {h : Lck} (hh : h.In 1000000) : fin h = (0, tieH h) := by
 unfold fin
 rw [if_neg]
 intro hb
 simp only [big, List.any_eq_true, List.mem_range] at hb
 obtain ⟨i, _, hi⟩ := hb
 have a := hh 0 (i + 1); have b := hh 1 (i + 1)
 simp only [Bool.or_eq_true, decide_eq_true_eq] at hi
 omega
def RetBB (h g : Hr) (e : Int) (w : World) (r : Ending) (w' : World) : Prop :=
 ∃ x y : BV, x.h = h ∧ y.h = g ∧ r = .returned (.tuple #[.agg x.arr, .agg y.arr, .int .i64 e]) ∧ x.In w' ∧ y.In w' ∧ x.New w.heap.size ∧ y.New w.heap.size ∧ Below w.heap.size w w'
theorem retBB_end {h g : Hr} {e : Int} {w w5 : World} {x y : BV} {p q N M : Nat} (hx : x.h = h) (hy : y.h = g) (hi : x.In w5) (hj : y.In w5) (hn : x.New N) (hm : y.New M) (hp : p < N ∧ p < M) (hq : q < N ∧ q < M) (hw : w.heap.size ≤ p ∧ w.heap.size ≤ q) (hb : Below w.heap.size w w5) (a b c d : Value) :
  RetBB h g e w (.returned (.tuple #[.agg x.arr, .agg y.arr, .int .i64 e])) ((((w5.setCell ⟨p, 0, none⟩ a).setCell ⟨p, 1, none⟩ b).setCell ⟨q, 0, none⟩ c).setCell ⟨q, 1, none⟩ d) :=
 ⟨x, y, hx, hy, rfl, (((hi.put hn hp.1 0 a).put hn hp.1 1 b).put hn hq.1 0 c).put hn hq.1 1 d, (((hj.put hm hp.2 0 a).put hm hp.2 1 b).put hm hq.2 0 c).put hm hq.2 1 d, hn.mono (by omega : w.heap.size ≤ N), hm.mono (by omega : w.heap.size ≤ M),
  below_put (below_put (below_put (below_put hb (p := ⟨p, 0, none⟩) hw.1 a) (p := ⟨p, 1, none⟩) hw.1 b) (p := ⟨q, 0, none⟩) hw.2 c) (p := ⟨q, 1, none⟩) hw.2 d⟩
theorem at_put4 {w : World} {p q : Nat} {c1 c2 a b c d : Value} {e1 e2 : Value} (hp : At w p #[c1, c2] 56) (hq : At w q #[e1, e2] 56) (hne : p ≠ q) :
  At ((((w.setCell ⟨p, 0, none⟩ a).setCell ⟨p, 1, none⟩ b).setCell ⟨q, 0, none⟩ c).setCell ⟨q, 1, none⟩ d) p #[a, b] 56 ∧ At ((((w.setCell ⟨p, 0, none⟩ a).setCell ⟨p, 1, none⟩ b).setCell ⟨q, 0, none⟩ c).setCell ⟨q, 1, none⟩ d) q #[c, d] 56 :=
 ⟨(((hp.set 0 a).set 1 b).far (p := ⟨q, 0, none⟩) hne c).far (p := ⟨q, 1, none⟩) hne d, (((hq.far (p := ⟨p, 0, none⟩) hne.symm a).far (p := ⟨p, 1, none⟩) hne.symm b).set 0 c).set 1 d⟩
theorem At.far4 {w : World} {q : Nat} {cs : Array Value} {t : TypeId} (h : At w q cs t) {M N : Nat} (h1 : q ≠ M) (h2 : q ≠ N) (i j k l : Nat) (a b c d : Value) :
  At ((((w.setCell ⟨M, i, none⟩ a).setCell ⟨M, j, none⟩ b).setCell ⟨N, k, none⟩ c).setCell ⟨N, l, none⟩ d) q cs t :=
 (((h.far (p := ⟨M, i, none⟩) h1 a).far (p := ⟨M, j, none⟩) h1 b).far (p := ⟨N, k, none⟩) h2 c).far (p := ⟨N, l, none⟩) h2 d
theorem below_put4 {B : Nat} {w w' : World} (h : Below B w w') {M N : Nat} (h1 : B ≤ M) (h2 : B ≤ N) (i j k l : Nat) (a b c d : Value) :
  Below B w ((((w'.setCell ⟨M, i, none⟩ a).setCell ⟨M, j, none⟩ b).setCell ⟨N, k, none⟩ c).setCell ⟨N, l, none⟩ d) :=
 below_put (below_put (below_put (below_put h (p := ⟨M, i, none⟩) h1 a) (p := ⟨M, j, none⟩) h1 b) (p := ⟨N, k, none⟩) h2 c) (p := ⟨N, l, none⟩) h2 d
theorem At.far2 {w : World} {q : Nat} {cs : Array Value} {t : TypeId} (h : At w q cs t) {M : Nat} (h1 : q ≠ M) (i j : Nat) (a b : Value) :
  At ((w.setCell ⟨M, i, none⟩ a).setCell ⟨M, j, none⟩ b) q cs t := (h.far (p := ⟨M, i, none⟩) h1 a).far (p := ⟨M, j, none⟩) h1 b
theorem below_put2 {B : Nat} {w w' : World} (h : Below B w w') {M : Nat} (h1 : B ≤ M) (i j : Nat) (a b : Value) :
  Below B w ((w'.setCell ⟨M, i, none⟩ a).setCell ⟨M, j, none⟩ b) := below_put (below_put h (p := ⟨M, i, none⟩) h1 a) (p := ⟨M, j, none⟩) h1 b
theorem At.set2 {w : World} {q : Nat} {c d : Value} {t : TypeId} (h : At w q #[c, d] t) (a b : Value) : At ((w.setCell ⟨q, 0, none⟩ a).setCell ⟨q, 1, none⟩ b) q #[a, b] t := (h.set 0 a).set 1 b
structure ZS (w : World) (p q N : Nat) (x y : BV) (W : World) : Prop where
 a : At W p x.arr 56
 b : At W q y.arr 56
 l : Below w.heap.size w W
 i : x.In W
 j : y.In W
 n : x.New N
 m : y.New N
 pq : p ≠ q ∧ p < N ∧ q < N ∧ w.heap.size ≤ p ∧ w.heap.size ≤ q
theorem ZS.below {w W W' : World} {p q N : Nat} {x y : BV} (h : ZS w p q N x y W) (hb : Below W.heap.size W W') : ZS w p q N x y W' := ⟨h.a.below hb, h.b.below hb, below_trans' h.l hb, h.i.below hb, h.j.below hb, h.n, h.m, h.pq⟩
theorem ZS.drew {w W : World} {p q N : Nat} {x y : BV} (h : ZS w p q N x y W) : ZS w p q N x y W.drew :=
 ⟨h.a, h.b, ⟨h.l.os, h.l.tape, h.l.output, h.l.size, h.l.block⟩, ⟨h.i.r.drew, h.i.s.drew, h.i.nc, h.i.md, h.i.ok⟩, ⟨h.j.r.drew, h.j.s.drew, h.j.nc, h.j.md, h.j.ok⟩, h.n, h.m, h.pq⟩
theorem ZS.setp {w W : World} {p q N : Nat} {x y : BV} (h : ZS w p q N x y W) : ZS w p q N x y ((W.setCell ⟨p, 0, none⟩ (.slice x.A x.n x.c)).setCell ⟨p, 1, none⟩ (.slice x.B x.m x.d)) :=
 ⟨h.a.set2 _ _, h.b.far2 h.pq.1.symm _ _ _ _, below_put2 h.l h.pq.2.2.2.1 _ _ _ _, (h.i.put h.n h.pq.2.1 0 _).put h.n h.pq.2.1 1 _, (h.j.put h.m h.pq.2.1 0 _).put h.m h.pq.2.1 1 _, h.n, h.m, h.pq⟩
theorem ZS.setq {w W : World} {p q N : Nat} {x y : BV} (h : ZS w p q N x y W) : ZS w p q N x y ((W.setCell ⟨q, 0, none⟩ (.slice y.A y.n y.c)).setCell ⟨q, 1, none⟩ (.slice y.B y.m y.d)) :=
 ⟨h.a.far2 h.pq.1 _ _ _ _, h.b.set2 _ _, below_put2 h.l h.pq.2.2.2.2 _ _ _ _, (h.i.put h.n h.pq.2.2.1 0 _).put h.n h.pq.2.2.1 1 _, (h.j.put h.m h.pq.2.2.1 0 _).put h.m h.pq.2.2.1 1 _, h.n, h.m, h.pq⟩
theorem ZS.ret {w W : World} {p q N : Nat} {x y : BV} (z : ZS w p q N x y W) {h g : Hr} {e : Int} (hx : x.h = h) (hy : y.h = g) : RetBB h g e w (.returned (.tuple #[.agg x.arr, .agg y.arr, .int .i64 e])) W :=
 have := z.pq
 ⟨x, y, hx, hy, rfl, z.i, z.j, z.n.mono (by omega), z.m.mono (by omega), z.l⟩
set_option maxRecDepth 100000 in
set_option maxHeartbeats 1000000 in
theorem hack_any (u : BV) (n : Int) (w : World) (hu : u.In w) (hn : 0 ≤ n ∧ n ≤ 1000000) :
  Calls Tryz.prog 223 #[.agg u.arr, .int .i64 n] w (RetBB (hackH u.h n).2.1 (hackH u.h n).2.2 (hackH u.h n).1 w) := by
 have HU := Lib.hid hu
 clear hu
 go_enter Tryz.func223, Tryz.ntmps223
 go_wp2_with fail
 refine gen_at (M := fun W => Calls Tryz.prog 144 _ W _) (fun W => At W w.heap.size u.arr 56 ∧ At W (w.heap.size + 1) noArr 56 ∧ At W (w.heap.size + 1 + 1) noArr 56 ∧ Below w.heap.size w W ∧ w.heap.size + 3 ≤ W.heap.size) ⟨((At.new w _ 56).al _).al _, (at_n1 w _ _ 56).al _, at_n2 w _ _ _ 56, bel3 w _ _ _, by simp⟩ ?_
 rintro w1 ⟨k0, k1, k2, hw1, hz1⟩
 with_reducible refine (validB_any u w1 (HU.out.below hw1)).mono ?_
 rintro _ w2 ⟨rfl, hb2⟩
 have HA := Lib.hid (k0.below hb2)
 have HR := Lib.hid (k1.below hb2)
 have HS := Lib.hid (k2.below hb2)
 have HW := Lib.hid (below_trans' hw1 hb2)
 have hz2 : w.heap.size + 3 ≤ w2.heap.size := Nat.le_trans hz1 hb2.size
 clear k0 k1 k2 hw1 hb2 hz1
 have b0 := HA.out.cell
 by_cases h1 : n < 1 ∨ 25 < n
 ·have HE : Hid (hackH u.h n = (1, noH, noH)) := Lib.hid (by unfold hackH; rw [if_pos h1])
  have fr := HR.out.fz
  have cr := HR.out.cell
  have fs := HS.out.fz
  have cs := HS.out.cell
  have hne : w.heap.size + 1 ≠ w.heap.size + 1 + 1 := by omega
  by_cases g1 : n < 1
  ·go_wp2_with fail
   obtain ⟨r1, r2⟩ := at_put4 (a := .slice none 0 0) (b := .slice none 0 0) (c := .slice none 0 0) (d := .slice none 0 0) HR.out HS.out hne
   refine bodyPost_ret (retBBE 4 5 6 (w.heap.size + 1) (w.heap.size + 1 + 1) noArr noArr rfl rfl rfl r1 rfl r2 rfl) rfl ?_
   rw [HE.out]
   exact retBB_end (x := noB) (y := noB) rfl rfl (noB_in _) (noB_in _) (noB_new (w.heap.size + 3)) (noB_new (w.heap.size + 3)) (by omega) (by omega) (by omega) HW.out _ _ _ _
  ·have g2 : 25 - 1 < n := by omega
   have g3 : 24 < n := by omega
   have g4 : 25 < n := by omega
   clear h1
   go_wp2_with fail
   obtain ⟨r1, r2⟩ := at_put4 (a := .slice none 0 0) (b := .slice none 0 0) (c := .slice none 0 0) (d := .slice none 0 0) HR.out HS.out hne
   refine bodyPost_ret (retBBE 4 5 6 (w.heap.size + 1) (w.heap.size + 1 + 1) noArr noArr rfl rfl rfl r1 rfl r2 rfl) rfl ?_
   rw [HE.out]
   exact retBB_end (x := noB) (y := noB) rfl rfl (noB_in _) (noB_in _) (noB_new (w.heap.size + 3)) (noB_new (w.heap.size + 3)) (by omega) (by omega) (by omega) HW.out _ _ _ _
 ·have HE : Hid (hackH u.h n = (0, tieH (keptL u.h.op n.toNat), tieH (shortL u.h.op n.toNat))) := Lib.hid (by unfold hackH; rw [if_neg h1])
  have g1 : ¬ n < 1 := by omega
  have g2 : ¬ 25 < n := by omega
  clear h1
  go_wp2_with fail
  clear b0
  with_reducible refine (openB_any u w2 (HU.out.below HW.out)).mono ?_
  rintro _ w3 ⟨rfl, hb3⟩
  have HR3 := Lib.hid (HR.out.below hb3)
  have HS3 := Lib.hid (HS.out.below hb3)
  have HW3 := Lib.hid (below_trans' HW.out hb3)
  have hz3 : w.heap.size + 3 ≤ w3.heap.size := Nat.le_trans hz2 hb3.size
  clear HA HR HS HW hb3 hz2
  obtain ⟨d, hd⟩ : ∃ d : Nat, n = ((d + 1 : Nat) : Int) := ⟨(n - 1).toNat, by omega⟩
  subst hd
  have hd2 : d < 25 := by omega
  clear g1 g2 hn
  go_wp2_with (first
   | (refine wpList_lock rfl rfl rfl _ _ rfl u.h.op rfl rfl ?_; intro W q1 hb hz)
   | (refine wpList_lock0 rfl rfl ?_; intro X q2 hc hy))
  have HR4 := Lib.hid ((HR3.out.below hb).below hc)
  have HS4 := Lib.hid ((HS3.out.below hb).below hc)
  have HW4 := Lib.hid (below_trans' (below_trans' HW3.out hb) hc)
  have Q1 : Hid (LkP X w3.heap.size (keptL u.h.op 1)) := Lib.hid (by rw [keptL_one]; exact q1.below hc)
  have Q2 : Hid (LkP X W.heap.size (shortL u.h.op 1)) := Lib.hid (by rw [shortL_one]; exact q2)
  clear HR3 HS3 HW3 hb hc q1 q2 hy
  generalize w3.heap.size = N at Q1 hz hz3 ⊢
  generalize W.heap.size = M at Q2 hz ⊢
  go_loopw [10] (fun i wr => ∃ m : Nat, m ≤ d ∧ i = .int .i64 ((m + 1 : Nat) : Int) ∧ LkP wr N (keptL u.h.op (m + 1)) ∧ LkP wr M (shortL u.h.op (m + 1)) ∧ At wr (w.heap.size + 1) noArr 56 ∧ At wr (w.heap.size + 1 + 1) noArr 56 ∧ Below w.heap.size w wr) (fun i _ => d + 2 - (intOf i).toNat)
  case atStart => exact ⟨0, by omega, rfl, Q1.out, Q2.out, HR4.out, HS4.out, HW4.out⟩
  case round =>
   obtain ⟨m, hm, rfl, k1, k2, k3, k4, hw⟩ := hrel
   clear Q1 Q2 HR4 HS4 HW4
   have K1 := Lib.hid k1
   have K2 := Lib.hid k2
   have K3 := Lib.hid k3
   have K4 := Lib.hid k4
   have HW := Lib.hid hw
   clear k1 k2 k3 k4 hw
   by_cases hlt : m < d
   ·have f1 := At.fz K1.out
    have f2 := At.fz K2.out
    have g0 := LkP.get0 K1.out (n := m + 1) (by omega)
    have g1 := LkP.get1 K1.out (n := m + 1) (by omega)
    have g2 := LkP.get0 K2.out (n := m + 1) (by omega)
    have g3 := LkP.get1 K2.out (n := m + 1) (by omega)
    rw [keptL_self] at g0 g1
    have hne : N ≠ M := by omega
    have hne2 : M ≠ N := by omega
    have v2 : (IntKind.i64.wrap (((m + 1 : Nat) : Int) + 1)) = ((m + 1 + 1 : Nat) : Int) := by rw [IntWalk.i64_in _ (by omega)]; push_cast; rfl
    go_wp2_with fail
    have KB := Lib.hid (LkP.put2 (LkP.far (LkP.far K1.out (p := ⟨M, (m + 1) * 2, none⟩) hne (.int .i64 (u.h.op 0 (m + 1)))) (p := ⟨M, (m + 1) * 2 + 1, none⟩) hne (.int .i64 (u.h.op 1 (m + 1)))) (m + 1) 0 0)
    have KC := Lib.hid (LkP.far (LkP.far (LkP.put2 K2.out (m + 1) (u.h.op 0 (m + 1)) (u.h.op 1 (m + 1))) (p := ⟨N, (m + 1) * 2, none⟩) hne2 (.int .i64 0)) (p := ⟨N, (m + 1) * 2 + 1, none⟩) hne2 (.int .i64 0))
    rw [keptL_step] at KB
    rw [shortL_step] at KC
    have KD := Lib.hid (K3.out.far4 (M := M) (N := N) (by omega) (by omega) ((m + 1) * 2) ((m + 1) * 2 + 1) ((m + 1) * 2) ((m + 1) * 2 + 1) (.int .i64 (u.h.op 0 (m + 1))) (.int .i64 (u.h.op 1 (m + 1))) (.int .i64 0) (.int .i64 0))
    have KE := Lib.hid (K4.out.far4 (M := M) (N := N) (by omega) (by omega) ((m + 1) * 2) ((m + 1) * 2 + 1) ((m + 1) * 2) ((m + 1) * 2 + 1) (.int .i64 (u.h.op 0 (m + 1))) (.int .i64 (u.h.op 1 (m + 1))) (.int .i64 0) (.int .i64 0))
    have HW3 := Lib.hid (below_put4 HW.out (M := M) (N := N) (by omega) (by omega) ((m + 1) * 2) ((m + 1) * 2 + 1) ((m + 1) * 2) ((m + 1) * 2 + 1) (.int .i64 (u.h.op 0 (m + 1))) (.int .i64 (u.h.op 1 (m + 1))) (.int .i64 0) (.int .i64 0))
    clear f1 f2 g0 g1 g2 g3
    go_roundw
    case rel => exact ⟨m + 1, by omega, by go_num, KB.out, KC.out, KD.out, KE.out, HW3.out⟩
    case measure => simp [intOf]; omega
   ·obtain rfl : m = d := by omega
    have hin := HU.out.ok.op
    have i1 := keptL_in hin (m + 1)
    have i2 := shortL_in hin (m + 1)
    rw [Int.toNat_natCast] at HE
    go_wp2_with (refine wpList_load50 rfl _ rfl N rfl _ K1.out ?_)
    with_reducible refine (tie_any (keptL u.h.op (m + 1)) _ (i1.mono (by omega))).mono ?_
    rw [fin_small i1]
    rintro _ w5 ⟨x, hx, rfl, hi, hn', hb⟩
    have HX := Lib.hid hx
    have HI := Lib.hid hi
    have HN := Lib.hid hn'
    have K5 := Lib.hid (K3.out.below hb)
    have K6 := Lib.hid (K4.out.below hb)
    have Q2 := Lib.hid (LkP.below K2.out hb)
    have HW5 := Lib.hid (below_trans' HW.out hb)
    have hz5 := HW.out.size
    have hk := At.lt K2.out
    have fr := K5.out.fz
    have cr := K5.out.cell
    have hzz := hb.size
    clear hx hi hn' hb K1 K2 K3 K4 HW hin i1
    go_wp2_with (refine wpList_load50 rfl _ rfl M rfl _ (LkP.far (LkP.far Q2.out (p := ⟨w.heap.size + 1, 0, none⟩) (by show M ≠ w.heap.size + 1; omega) _) (p := ⟨w.heap.size + 1, 1, none⟩) (by show M ≠ w.heap.size + 1; omega) _) ?_)
    have A4 := Lib.hid (K5.out.set2 (.slice x.A x.n x.c) (.slice x.B x.m x.d))
    have A5 := Lib.hid (K6.out.far2 (M := w.heap.size + 1) (by omega) 0 1 (.slice x.A x.n x.c) (.slice x.B x.m x.d))
    have HI2 := Lib.hid ((HI.out.put HN.out (g := w.heap.size + 1) (by omega) 0 (.slice x.A x.n x.c)).put HN.out (g := w.heap.size + 1) (by omega) 1 (.slice x.B x.m x.d))
    have HW6 := Lib.hid (below_put2 HW5.out (M := w.heap.size + 1) (by omega) 0 1 (.slice x.A x.n x.c) (.slice x.B x.m x.d))
    clear fr cr K5 K6 HI HW5 Q2
    generalize (w5.setCell ⟨w.heap.size + 1, 0, none⟩ (.slice x.A x.n x.c)).setCell ⟨w.heap.size + 1, 1, none⟩ (.slice x.B x.m x.d) = w6 at A4 A5 HI2 HW6 ⊢
    with_reducible refine (tie_any (shortL u.h.op (m + 1)) w6 (i2.mono (by omega))).mono ?_
    rw [fin_small i2]
    rintro _ w7 ⟨y, hy, rfl, hj, hm', hb⟩
    have HY := Lib.hid hy
    have HJ := Lib.hid hj
    have HM := Lib.hid hm'
    have B4 := Lib.hid (A4.out.below hb)
    have B5 := Lib.hid (A5.out.below hb)
    have HI3 := Lib.hid (HI2.out.below hb)
    have HW7 := Lib.hid (below_trans' HW6.out hb)
    have hz6 := At.lt A5.out
    have fr := B5.out.fz
    have cr := B5.out.cell
    clear hy hj hm' hb A4 A5 HI2 HW6 i2
    go_wp2_with fail
    have C4 := B4.out.far2 (M := w.heap.size + 1 + 1) (by omega) 0 1 (.slice y.A y.n y.c) (.slice y.B y.m y.d)
    have C5 := B5.out.set2 (.slice y.A y.n y.c) (.slice y.B y.m y.d)
    have HI4 := (HI3.out.put HN.out (g := w.heap.size + 1 + 1) (by omega) 0 (.slice y.A y.n y.c)).put HN.out (g := w.heap.size + 1 + 1) (by omega) 1 (.slice y.B y.m y.d)
    have HJ4 := (HJ.out.put HM.out (g := w.heap.size + 1 + 1) (by omega) 0 (.slice y.A y.n y.c)).put HM.out (g := w.heap.size + 1 + 1) (by omega) 1 (.slice y.B y.m y.d)
    have HW8 := below_put2 HW7.out (M := w.heap.size + 1 + 1) (by omega) 0 1 (.slice y.A y.n y.c) (.slice y.B y.m y.d)
    have Z := Lib.hid (ZS.mk (N := w.heap.size + 3) C4 C5 HW8 HI4 HJ4 (HN.out.mono (by omega)) (HM.out.mono (by omega)) (by omega))
    clear fr cr B4 B5 HI3 HJ HW7 C4 C5 HI4 HJ4 HW8
    generalize (w7.setCell ⟨w.heap.size + 1 + 1, 0, none⟩ (.slice y.A y.n y.c)).setCell ⟨w.heap.size + 1 + 1, 1, none⟩ (.slice y.B y.m y.d) = w8 at Z ⊢
    refine wp_region_hv [0, 1] [2, 3, 4] (fun W => ZS w (w.heap.size + 1) (w.heap.size + 1 + 1) (w.heap.size + 3) x y W) mixed (by kernel_rfl) (fun W W' h hb => h.below hb) Z.out.drew ?_
    refine canonG_read (v := .agg x.arr) rfl (by rfl) ?_ ?_
    ·intro W hS
     have q0 := At.cell hS.a
     go_simp
    simp only [List.getElem_toArray, List.getElem_cons_zero, Act.put, List.setIfInBounds_toArray, List.set_cons_succ, List.set_cons_zero]
    refine canonG_read (v := .agg y.arr) rfl (by rfl) ?_ ?_
    ·intro W hS
     have q0 := At.cell hS.b
     go_simp
    simp only [List.getElem_toArray, List.getElem_cons_zero, List.getElem_cons_succ, Act.put, List.setIfInBounds_toArray, List.set_cons_succ, List.set_cons_zero]
    refine canonG_nil ?_
    refine tailG_one (t := 2) (ts' := [3, 4]) (by kernel_rfl) rfl rfl ?_
    intro W4 hb4
    have Z4 := Lib.hid (Z.out.drew.below hb4)
    clear hb4 Z
    have fr := Z4.out.a.fz
    have cr := Z4.out.a.cell
    go_wp2_with fail
    have Z5 := Lib.hid Z4.out.setp
    clear fr cr Z4
    generalize (W4.setCell ⟨w.heap.size + 1, 0, none⟩ (.slice x.A x.n x.c)).setCell ⟨w.heap.size + 1, 1, none⟩ (.slice x.B x.m x.d) = W5 at Z5 ⊢
    refine ⟨Z5.out, ?_⟩
    refine tailG_one (t := 3) (ts' := [4]) (by kernel_rfl) rfl rfl ?_
    intro W6 hb6
    have Z6 := Lib.hid (Z5.out.below hb6)
    clear hb6 Z5
    have fr := Z6.out.b.fz
    have cr := Z6.out.b.cell
    go_wp2_with fail
    have Z7 := Lib.hid Z6.out.setq
    clear fr cr Z6
    generalize (W6.setCell ⟨w.heap.size + 1 + 1, 0, none⟩ (.slice y.A y.n y.c)).setCell ⟨w.heap.size + 1 + 1, 1, none⟩ (.slice y.B y.m y.d) = W7 at Z7 ⊢
    refine ⟨Z7.out, ?_⟩
    refine tailG_last (t := 4) (by kernel_rfl) rfl ?_
    intro W8 hb8
    have Z8 := Lib.hid (Z7.out.below hb8)
    clear hb8 Z7
    go_wp2_with fail
    refine NoPanic.normal ?_
    go_wp2_with fail
    refine bodyPost_ret (retBBE 4 5 6 (w.heap.size + 1) (w.heap.size + 1 + 1) x.arr y.arr rfl rfl rfl Z8.out.a rfl Z8.out.b rfl) rfl ?_
    rw [HE.out]
    exact Z8.out.ret HX.out HY.out
end Go.Proofs.YtihhclhpjgeniaaGreatDoor
namespace Go.Proofs.YtihhclhpjgeniaaGreatDoor
open Go.RowKit Go.Sort
def oP (h : Lck) (n : Int) (e : Nat) : Lck := fun k m => if k < 2 ∧ e < m ∧ m ≤ 24 then dr h n m k else 0
def rP (h : Lck) (n : Int) (e : Nat) : Lck := fun k m => h k m - oP h n e k m
theorem oP_top (h : Lck) (n : Int) : oP h n 24 = zeroH := by
 funext k m; unfold oP; rw [if_neg (by omega)]
theorem rP_top (h : Lck) (n : Int) : rP h n 24 = h := by
 funext k m; unfold rP; rw [oP_top]; simp
theorem oP_self (h : Lck) (n : Int) (e k : Nat) : oP h n e k e = 0 := if_neg (by omega)
theorem rP_self (h : Lck) (n : Int) (e k : Nat) : rP h n e k e = h k e := by unfold rP; rw [oP_self]; omega
theorem tk_of {h g : Lck} {m : Nat} (e : h 0 m = g 0 m) (n : Int) : tk h n m = tk g n m := by
 funext k; unfold tk; rw [e]
theorem oP_step (h : Lck) (n : Int) (j : Nat) (hj : j < 24) : gvL (oP h n (j + 1)) (j + 1) (dr h n (j + 1) 0) (dr h n (j + 1) 1) = oP h n j := by
 funext k m
 unfold gvL setH
 by_cases hm : m = j + 1
 ·subst hm
  rw [oP_self, oP_self]
  rcases (show k = 0 ∨ k = 1 ∨ 2 ≤ k by omega) with rfl | rfl | hk
  ·simp [oP]; omega
  ·simp [oP]; omega
  ·rw [if_neg (by omega), if_neg (by omega)]
   unfold oP
   rw [if_neg (by omega), if_neg (by omega)]
 ·rw [if_neg (fun e => hm e.2), if_neg (fun e => hm e.2)]
  unfold oP
  by_cases hq : k < 2 ∧ j < m ∧ m ≤ 24
  ·rw [if_pos hq, if_pos (by omega)]
  ·rw [if_neg hq, if_neg (by omega)]
theorem rP_step (h : Lck) (n : Int) (j : Nat) (hj : j < 24) : tkL (rP h n (j + 1)) (j + 1) (dr h n (j + 1) 0) (dr h n (j + 1) 1) = rP h n j := by
 funext k m
 have e := congrFun (congrFun (oP_step h n j hj) k) m
 unfold rP
 rw [← e]
 unfold tkL gvL setH
 by_cases hm : m = j + 1
 ·subst hm
  rcases (show k = 0 ∨ k = 1 ∨ 2 ≤ k by omega) with rfl | rfl | hk
  ·simp; omega
  ·simp; omega
  ·simp [show k ≠ 0 by omega, show k ≠ 1 by omega]
 ·simp [hm]
theorem lft_zero {h : Lck} (hh : ∀ k n, 0 ≤ h k n) {n : Int} {d : Nat} (h0 : lft h n d = 0) : ∀ c, lft h n (d + c) = 0
 | 0 => h0
 | c + 1 => by
  have := lft_zero hh h0 c
  have e : lft h n (d + (c + 1)) = lft h n (d + c) - min (lft h n (d + c)) (h 0 (24 - (d + c)) + h 1 (24 - (d + c))) := rfl
  have a := hh 0 (24 - (d + c)); have b := hh 1 (24 - (d + c))
  rw [e, this]
  omega
theorem oP_done {h : Lck} (hh : ∀ k n, 0 ≤ h k n) {n : Int} {e : Nat} (he : e ≤ 24) (h0 : lft h n (24 - e) = 0) : oP h n e = oP h n 0 := by
 funext k m
 unfold oP
 by_cases hq : k < 2 ∧ e < m ∧ m ≤ 24
 ·rw [if_pos hq, if_pos (by omega)]
 ·rw [if_neg hq]
  by_cases hr : k < 2 ∧ 0 < m ∧ m ≤ 24
  ·rw [if_pos hr]
   have hz := lft_zero hh h0 (e - m)
   rw [show 24 - e + (e - m) = 24 - m by omega] at hz
   have := hh 0 m; have := hh 1 m
   unfold dr tk
   rw [hz]
   split <;> omega
  ·rw [if_neg hr]
theorem oP_in {h : Lck} (hh : h.In 1000000) {n : Int} (h0 : 0 ≤ n) (e : Nat) : (oP h n e).In 1000000 := fun k m => by
 unfold oP
 split
 ·rename_i hq
  have := dr_in (fun k n => (hh k n).1) h0 m hq.1
  have := hh k m
  omega
 ·omega
theorem rP_in {h : Lck} (hh : h.In 1000000) {n : Int} (h0 : 0 ≤ n) (e : Nat) : (rP h n e).In 1000000 := fun k m => by
 have := hh k m
 unfold rP oP
 split
 ·rename_i hq
  have := dr_in (fun k n => (hh k n).1) h0 m hq.1
  omega
 ·omega
theorem oP_draw (h : Lck) (n : Int) {k : Nat} (hk : k < 2) (m : Nat) : oP h n 0 k m = drawL h n k m := by
 unfold oP drawL
 by_cases hm : m = 0 ∨ 24 < m
 ·rw [if_pos hm, if_neg (by omega)]
 ·rw [if_neg hm, if_pos (by omega)]
theorem rP_rest (h : Lck) (n : Int) {k : Nat} (hk : k < 2) (m : Nat) : rP h n 0 k m = restL h n k m := by
 unfold rP
 rw [oP_draw h n hk]
 unfold drawL restL
 split <;> omega
set_option maxRecDepth 100000 in
set_option maxHeartbeats 1000000 in
theorem draw_any (q : Nat) (h : Lck) (n : Int) (w : World) (hk : LkP w q h) (hh : h.In 1000000) (hn : 0 ≤ n ∧ n ≤ 100000000) :
  Calls Tryz.prog 270 #[.pointer (some ⟨q, 0, none⟩), .int .i64 n] w fun r w' => r = .returned (.agg (arrI (flatP (oP h n 0)))) ∧ LkP w' q (rP h n 0) ∧ Kp (· = q) w w' := by
 have HK := Lib.hid hk
 have HH := Lib.hid hh
 have hq := At.lt hk
 clear hk hh
 go_enter Tryz.func270, Tryz.ntmps270
 go_wp2_with (first | (refine wpList_lock0 (w := w) rfl rfl ?_; intro X0 q0 hc0 hy0) | (refine wpList_lock0 rfl rfl ?_; intro X q1 hc hy))
 have HK1 : Hid (LkP X q (rP h n 24)) := Lib.hid (by rw [rP_top]; exact LkP.below (LkP.below HK.out hc0) hc)
 have HO1 : Hid (LkP X X0.heap.size (oP h n 24)) := Lib.hid (by rw [oP_top]; exact q1)
 have HR1 := Lib.hid (LkP.below q0 hc)
 have HW1 := Lib.hid (below_trans' hc0 hc)
 clear q0 q1 hc0 hc hy HK
 generalize X0.heap.size = M at HO1 hy0 ⊢
 go_loopw [1, 6] (fun l i wr => ∃ e : Nat, e ≤ 24 ∧ i = .int .i64 e ∧ l = .int .i64 (lft h n (24 - e)) ∧ LkP wr q (rP h n e) ∧ LkP wr M (oP h n e) ∧ LkP wr w.heap.size zeroH ∧ Kp (· = q) w wr) (fun _ i _ => (intOf i).toNat)
 case atStart => exact ⟨24, by omega, rfl, rfl, HK1.out, HO1.out, HR1.out, Kp.of HW1.out⟩
 case round =>
  obtain ⟨e, he, rfl, rfl, k1, k2, k3, kp⟩ := hrel
  clear HK1 HO1 HR1 HW1
  have K1 := Lib.hid k1
  have K2 := Lib.hid k2
  have K3 := Lib.hid k3
  have KP := Lib.hid kp
  clear k1 k2 k3 kp
  have hl := lft_in (fun k n => (HH.out k n).1) hn.1 (24 - e)
  by_cases hc : 0 < e ∧ 0 < lft h n (24 - e)
  ·obtain ⟨j, rfl⟩ : ∃ j, e = j + 1 := ⟨e - 1, by omega⟩
   have hc2 := hc.2
   have g0 := LkP.rg0 K1.out (n := j + 1) (by omega)
   have g1 := LkP.rg1 K1.out (n := j + 1) (by omega)
   rw [rP_self] at g0 g1
   have a0 := HH.out 0 (j + 1)
   have a1 := HH.out 1 (j + 1)
   have v1 : IntKind.i64.wrap (h 0 (j + 1) + h 1 (j + 1)) = h 0 (j + 1) + h 1 (j + 1) := IntWalk.i64_in _ (by omega)
   clear hc
   have HL : Hid (lft h n (24 - j) = lft h n (24 - (j + 1)) - min (lft h n (24 - (j + 1))) (h 0 (j + 1) + h 1 (j + 1))) := Lib.hid (by
    have e1 : lft h n (24 - (j + 1) + 1) = lft h n (24 - (j + 1)) - min (lft h n (24 - (j + 1))) (h 0 (24 - (24 - (j + 1))) + h 1 (24 - (24 - (j + 1)))) := rfl
    rw [show 24 - (j + 1) + 1 = 24 - j by omega, show 24 - (24 - (j + 1)) = j + 1 by omega] at e1
    exact e1)
   have HD : Hid (tk (rP h n (j + 1)) (min (lft h n (24 - (j + 1))) (h 0 (j + 1) + h 1 (j + 1))) (j + 1) = dr h n (j + 1)) := Lib.hid (tk_of (rP_self h n (j + 1) 0) _)
   generalize lft h n (24 - (j + 1)) = l at hl hc2 HL HD ⊢
   go_wp2_with fail
   refine wp_region_qb mixed (by kernel_rfl) ?_
   repeat (go_big_quiet_step (fail))
   refine wpQuiet_nil ?_
   intro w5 hb5
   have K15 := Lib.hid (LkP.below K1.out hb5)
   have K25 := Lib.hid (LkP.below K2.out hb5)
   have K35 := Lib.hid (LkP.below K3.out hb5)
   have KP5 := Lib.hid (KP.out.grow hb5)
   clear K1 K2 K3 KP hb5 g0 g1 v1
   go_wp2_with fail
   have ej : ((j + 1 : Nat) : Int) = (j : Int) + 1 := by push_cast; rfl
   have i1 := rP_in HH.out hn.1 (j + 1)
   have i2 := oP_in HH.out hn.1 (j + 1)
   have ht := takeK_any q (rP h n (j + 1)) (j + 1) (min l (h 0 (j + 1) + h 1 (j + 1))) w5 K15.out (by omega) (i1.mono (by omega)) (by omega) (by omega)
   rw [ej, HD.out] at ht
   with_reducible refine ht.mono ?_
   clear ht i1
   rintro _ w6 ⟨rfl, kl, kp⟩
   have q1 : LkP w6 q (tkL (rP h n (j + 1)) (j + 1) (dr h n (j + 1) 0) (dr h n (j + 1) 1)) := kl
   rw [rP_step h n j (by omega)] at q1
   have K1 := Lib.hid q1
   have K2 := Lib.hid (LkP.kp K25.out kp (by omega))
   have K3 := Lib.hid (LkP.kp K35.out kp (by omega))
   have KP := Lib.hid (KP5.out.step kp)
   have d0 := dr_in (fun k n => (HH.out k n).1) hn.1 (j + 1) (k := 0) (by omega)
   have d1 := dr_in (fun k n => (HH.out k n).1) hn.1 (j + 1) (k := 1) (by omega)
   clear kl kp q1 K15 K25 K35 KP5
   go_wp2_with fail
   have ha := addK_any M (oP h n (j + 1)) (j + 1) (dr h n (j + 1) 0) (dr h n (j + 1) 1) w6 K2.out (by omega) (i2.mono (by omega)) (by omega) (by omega)
   rw [ej] at ha
   with_reducible refine ha.mono ?_
   clear ha i2
   rintro _ w7 ⟨rfl, kl, kp⟩
   have q1 : LkP w7 M (gvL (oP h n (j + 1)) (j + 1) (dr h n (j + 1) 0) (dr h n (j + 1) 1)) := kl
   rw [oP_step h n j (by omega)] at q1
   have K4 := Lib.hid q1
   have K5 := Lib.hid (LkP.kp K1.out kp (by omega))
   have K6 := Lib.hid (LkP.kp K3.out kp (by omega))
   have KP6 := Lib.hid (KP.out.trans kp (by intro x hx e; omega))
   clear kl kp q1 K1 K2 K3 KP d0 d1
   have v2 : IntKind.i64.wrap (l - min l (h 0 (j + 1) + h 1 (j + 1))) = lft h n (24 - j) := by rw [HL.out, IntWalk.i64_in _ (by omega)]
   have v3 : IntKind.i64.wrap ((j : Int) + 1 - 1) = (j : Int) := by rw [IntWalk.i64_in _ (by omega)]; omega
   obtain ⟨l2, hl2⟩ : ∃ z, lft h n (24 - j) = z := ⟨_, rfl⟩
   have HL2 := Lib.hid hl2
   rw [hl2] at v2
   clear hl2
   go_wp2_with fail
   go_roundw
   case rel => exact ⟨j, by omega, rfl, by rw [HL2.out], K5.out, K4.out, K6.out, KP6.out⟩
   case measure => simp [intOf]
  ·have HO : Hid (oP h n e = oP h n 0) := Lib.hid (by
    by_cases h0 : e = 0
    ·rw [h0]
    ·exact oP_done (fun k n => (HH.out k n).1) he (by omega))
   have HP : Hid (rP h n e = rP h n 0) := Lib.hid (by unfold rP; rw [HO.out])
   have q1 := K1.out
   have q2 := K2.out
   rw [HP.out] at q1
   rw [HO.out] at q2
   have Q1 := Lib.hid q1
   have Q2 := Lib.hid q2
   clear q1 q2 K1 K2 HO HP
   have kpf : ∀ f : Nat → Int, Kp (· = q) w (wr.setRow w.heap.size (arrI f)) := fun f => KP.out.row (fun e => absurd e (Nat.lt_irrefl _)) _
   by_cases h0 : 0 < e
   ·have h1 : ¬ 0 < lft h n (24 - e) := fun h2 => hc ⟨h0, h2⟩
    obtain ⟨l, hl2⟩ : ∃ z, lft h n (24 - e) = z := ⟨_, rfl⟩
    rw [hl2] at h1 ⊢
    clear hc hl hl2
    go_wp2_with (first | refine wpList_load50 rfl _ rfl M rfl _ Q2.out ?_ | refine wpList_store50 rfl _ _ rfl w.heap.size _ _ rfl rfl K3.out ?_)
    refine bodyPost_ret (ret50 4 w.heap.size _ rfl rfl (K3.out.row _)) rfl ?_
    exact ⟨rfl, Q1.out.rowFar (by omega) _, kpf _⟩
   ·obtain rfl : e = 0 := by omega
    clear hc h0
    go_wp2_with (first | refine wpList_load50 rfl _ rfl M rfl _ Q2.out ?_ | refine wpList_store50 rfl _ _ rfl w.heap.size _ _ rfl rfl K3.out ?_)
    refine bodyPost_ret (ret50 4 w.heap.size _ rfl rfl (K3.out.row _)) rfl ?_
    exact ⟨rfl, Q1.out.rowFar (by omega) _, kpf _⟩
end Go.Proofs.YtihhclhpjgeniaaGreatDoor
