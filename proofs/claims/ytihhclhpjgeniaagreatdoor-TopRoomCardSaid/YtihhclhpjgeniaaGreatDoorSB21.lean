/- Merged texts: H9 Ha -/
import Derived.Test.YtihhclhpjgeniaaGreatDoorSB15
import Derived.Test.YtihhclhpjgeniaaGreatDoorSB20
namespace Go.Proofs.YtihhclhpjgeniaaGreatDoor
open Go.RowKit Go.Sort
theorem op_far {b : Hr} (h : b.Ok) (k : Nat) {n : Nat} (hn : 24 < n) : b.op k n = 0 := by
 unfold Hr.op
 split
 ·exact at1_far h.r hn
 ·split
  ·exact at1_far h.w hn
  ·rfl
def mixL (x y : Lck) (m : Nat) : Lck := fun k n => x k n + if n < m then y k n else 0
theorem mixL_zero (x y : Lck) : mixL x y 0 = x := by funext k n; simp [mixL]
theorem mixL_step (x : Lck) (b : Hr) (m : Nat) : setH (setH (mixL x b.op m) 0 m (mixL x b.op m 0 m + b.op 0 m)) 1 m (mixL x b.op m 1 m + b.op 1 m) = mixL x b.op (m + 1) := by
 funext k n
 unfold setH mixL
 by_cases hn : n = m
 ·subst hn
  rw [if_neg (Nat.lt_irrefl n), if_pos (Nat.lt_succ_self n), if_neg (Nat.lt_irrefl n)]
  by_cases h1 : k = 1
  ·subst h1; simp
  ·by_cases h0 : k = 0
   ·subst h0; simp
   ·simp [h0, h1, op_two b (show ¬ k < 2 by omega)]
 ·rw [if_neg (fun e => hn e.2), if_neg (fun e => hn e.2)]
  by_cases hm : n < m
  ·rw [if_pos hm, if_pos (by omega)]
  ·rw [if_neg hm, if_neg (by omega)]
theorem mixL_all {a b : Hr} (hb : b.Ok) : mixL a.op b.op 25 = fun k n => a.op k n + b.op k n := by
 funext k n
 unfold mixL
 split
 ·rfl
 ·rw [op_far hb k (by omega)]
theorem mixL_in {a b : Hr} (ha : a.Ok) (hb : b.Ok) (m : Nat) : (mixL a.op b.op m).In 2000000 := fun k n => by
 have := ha.op k n; have := hb.op k n
 unfold mixL; split <;> omega
set_option maxRecDepth 100000 in
set_option maxHeartbeats 1000000 in
theorem mix_any (u v : BV) (w : World) (hu : u.In w) (hv : v.In w) : Calls Tryz.prog 220 #[.agg u.arr, .agg v.arr] w (RetB (mixH u.h v.h).2 (mixH u.h v.h).1 w) := by
 have HU := Lib.hid hu
 have HV := Lib.hid hv
 clear hu hv
 go_enter Tryz.func220, Tryz.ntmps220
 go_wp2_with fail
 refine gen_at (M := fun W => Calls Tryz.prog 267 _ W _) (fun W => At W (w.heap.size + 1 + 1) noArr 56 ∧ Below w.heap.size w W ∧ w.heap.size + 3 ≤ W.heap.size) ?_ ?_
 ·exact ⟨at_n2 w _ _ _ 56, bel3 w _ _ _, by simp⟩
 rintro w1 ⟨k1, hw1, hz1⟩
 with_reducible refine (pair_any u v w1 (HU.out.below hw1) (HV.out.below hw1)).mono ?_
 rintro _ w2 ⟨rfl, hb2⟩
 have HR := Lib.hid (k1.below hb2)
 have HW := Lib.hid (below_trans' hw1 hb2)
 have hz2 : w.heap.size + 3 ≤ w2.heap.size := Nat.le_trans hz1 hb2.size
 clear k1 hw1 hb2 hz1
 go_wp2_with (first
  | (refine wpList_locks rfl rfl rfl rfl rfl rfl _ _ _ _ rfl rfl u.h.op v.h.op rfl rfl rfl rfl ?_; intro W q1 q2 hb hz)
  | (refine wpList_load50 rfl _ rfl (w2.heap.size + 1) rfl (flatP v.h.op) q2 ?_))
 have HR2 := Lib.hid (HR.out.below hb)
 have HW2 := Lib.hid (below_trans' HW.out hb)
 clear HR HW hb
 rw [← mixL_zero u.h.op v.h.op] at q1
 generalize w2.heap.size = N at q1 q2 hz hz2 ⊢
 go_loopw [23] (fun i wr => ∃ m : Nat, m ≤ 25 ∧ i = .int .i64 m ∧ LkP wr N (mixL u.h.op v.h.op m) ∧ At wr (w.heap.size + 1 + 1) noArr 56 ∧ Below w.heap.size w wr) (fun i _ => 25 - (intOf i).toNat)
 case atStart => exact ⟨0, by omega, rfl, q1, HR2.out, HW2.out⟩
 case round =>
  obtain ⟨m, hm, rfl, k1, k2, hw⟩ := hrel
  clear q1 q2 HR2 HW2
  have K1 := Lib.hid k1
  have K2 := Lib.hid k2
  have HW := Lib.hid hw
  clear k1 k2 hw
  by_cases hlt : m < 25
  ·have hx := idxP v.h.op hlt
   have v2 : (IntKind.i64.wrap ((m : Int) + 1)) = ((m + 1 : Nat) : Int) := by rw [IntWalk.i64_in _ (by omega)]; push_cast; rfl
   go_wp2_with fail
   have hv0 := HV.out.ok.op 0 m
   have hv1 := HV.out.ok.op 1 m
   with_reducible refine (addK_any N (mixL u.h.op v.h.op m) m (v.h.op 0 m) (v.h.op 1 m) _ (K1.out.al _) hlt ((mixL_in HU.out.ok HV.out.ok m).mono (by omega)) (by omega) (by omega)).mono ?_
   rintro _ w5 ⟨rfl, kl, kp⟩
   rw [mixL_step] at kl
   have KL := Lib.hid kl
   have K3 := Lib.hid (At.kp (K2.out.al (.cells #[.int .i64 (v.h.op 0 m), .int .i64 (v.h.op 1 m)] 215)) kp (by omega))
   have HW3 := Lib.hid (below_kp (below_al HW.out HW.out.size (.cells #[.int .i64 (v.h.op 0 m), .int .i64 (v.h.op 1 m)] 215)) kp (by rw [World.size_alloc]; have := HW.out.size; omega) (by omega))
   clear kl kp hx hv0 hv1 K1 K2 HW
   go_wp2_with fail
   go_roundw
   case rel => exact ⟨m + 1, by omega, by go_num, KL.out, K3.out, HW3.out⟩
   case measure => simp [intOf]; omega
  ·obtain rfl : m = 25 := by omega
   have hin := mixL_in HU.out.ok HV.out.ok 25
   have HM := Lib.hid (mixL_all (a := u.h) HV.out.ok)
   go_wp2_with (refine wpList_load50 rfl _ rfl N rfl _ K1.out ?_)
   with_reducible refine (tie_any (mixL u.h.op v.h.op 25) _ (hin.mono (by omega))).mono ?_
   rintro _ w5 ⟨x, hx, rfl, hi, hn, hb⟩
   have HX := Lib.hid hx
   have HI := Lib.hid hi
   have HN := Lib.hid hn
   have K3 := Lib.hid (K2.out.below hb)
   have HW3 := Lib.hid (below_trans' HW.out hb)
   have fr := K3.out.fz
   have cr := K3.out.cell
   have hz5 := HW.out.size
   clear hx hi hn hb K2 HW hin
   go_wp2_with fail
   refine bodyPost_ret (retBE 4 5 (w.heap.size + 1 + 1) x.arr rfl rfl ((At.set K3.out 0 (.slice x.A x.n x.c)).set 1 (.slice x.B x.m x.d)) rfl) rfl ?_
   have hk := K1.out.lt
   rw [HM.out] at HX ⊢
   exact retB_end HX.out HI.out HN.out (by omega) (by omega) HW3.out _ _
def turnP (x : Lck) (m : Nat) : Lck := fun k n => if n < m then turnL x k n else x k n
theorem turnP_zero (x : Lck) : turnP x 0 = x := by funext k n; simp [turnP]
theorem turnP_step (b : Hr) (m : Nat) : setH (setH (turnP b.op m) 0 m (b.op 0 m + b.op 1 m)) 1 m 0 = turnP b.op (m + 1) := by
 funext k n
 by_cases hn : n = m
 ·subst hn
  unfold setH turnP turnL
  rw [if_neg (Nat.lt_irrefl n), if_pos (Nat.lt_succ_self n)]
  by_cases h1 : k = 1
  ·subst h1; simp
  ·by_cases h0 : k = 0
   ·subst h0; simp
   ·simp [h0, h1, op_two b (show ¬ k < 2 by omega)]
 ·unfold setH
  rw [if_neg (fun e => hn e.2), if_neg (fun e => hn e.2)]
  unfold turnP
  by_cases hm : n < m
  ·rw [if_pos hm, if_pos (by omega)]
  ·rw [if_neg hm, if_neg (by omega)]
theorem turnP_all {a : Hr} (ha : a.Ok) : turnP a.op 25 = turnL a.op := by
 funext k n
 unfold turnP
 split
 ·rfl
 ·unfold turnL
  rw [op_far ha k (by omega)]
  split
  ·rw [op_far ha 0 (by omega), op_far ha 1 (by omega)]; rfl
  ·rfl
theorem turnL_in {a : Hr} (ha : a.Ok) : (turnL a.op).In 2000000 := fun k n => by
 have := ha.op 0 n; have := ha.op 1 n
 unfold turnL; split <;> omega
set_option maxRecDepth 100000 in
set_option maxHeartbeats 1000000 in
theorem turn_any (u : BV) (w : World) (hu : u.In w) : Calls Tryz.prog 224 #[.agg u.arr] w (RetB (turnH u.h).2 (turnH u.h).1 w) := by
 have HU := Lib.hid hu
 clear hu
 go_enter Tryz.func224, Tryz.ntmps224
 go_wp2_with fail
 refine gen_at (M := fun W => Calls Tryz.prog 144 _ W _) (fun W => At W w.heap.size u.arr 56 ∧ At W (w.heap.size + 1) noArr 56 ∧ Below w.heap.size w W ∧ w.heap.size + 2 ≤ W.heap.size) ⟨(At.new w _ 56).al _, at_n1 w _ _ 56, bel2 w _ _, by simp⟩ ?_
 rintro w1 ⟨k0, k1, hw1, hz1⟩
 with_reducible refine (validB_any u w1 (HU.out.below hw1)).mono ?_
 rintro _ w2 ⟨rfl, hb2⟩
 have HA := Lib.hid (k0.below hb2)
 have HR := Lib.hid (k1.below hb2)
 have HW := Lib.hid (below_trans' hw1 hb2)
 have hz2 : w.heap.size + 2 ≤ w2.heap.size := Nat.le_trans hz1 hb2.size
 have b0 := HA.out.cell
 clear k0 k1 hw1 hb2 hz1
 go_wp2_with fail
 clear b0
 with_reducible refine (openB_any u w2 (HU.out.below HW.out)).mono ?_
 rintro _ w3 ⟨rfl, hb3⟩
 have HR3 := Lib.hid (HR.out.below hb3)
 have HW3 := Lib.hid (below_trans' HW.out hb3)
 have hz3 : w.heap.size + 2 ≤ w3.heap.size := Nat.le_trans hz2 hb3.size
 clear HA HR HW hb3 hz2
 go_wp2_with (first
  | (refine wpList_lock rfl rfl rfl _ _ rfl u.h.op rfl rfl ?_; intro W q1 hb hz)
  | (refine wpList_load50 rfl _ rfl w3.heap.size rfl (flatP u.h.op) q1 ?_))
 have HR4 := Lib.hid (HR3.out.below hb)
 have HW4 := Lib.hid (below_trans' HW3.out hb)
 clear HR3 HW3 hb
 rw [← turnP_zero u.h.op] at q1
 generalize w3.heap.size = N at q1 hz hz3 ⊢
 go_loopw [17] (fun i wr => ∃ m : Nat, m ≤ 25 ∧ i = .int .i64 m ∧ LkP wr N (turnP u.h.op m) ∧ At wr (w.heap.size + 1) noArr 56 ∧ Below w.heap.size w wr) (fun i _ => 25 - (intOf i).toNat)
 case atStart => exact ⟨0, by omega, rfl, q1, HR4.out, HW4.out⟩
 case round =>
  obtain ⟨m, hm, rfl, k1, k2, hw⟩ := hrel
  clear q1 HR4 HW4
  have K1 := Lib.hid k1
  have K2 := Lib.hid k2
  have HW := Lib.hid hw
  clear k1 k2 hw
  by_cases hlt : m < 25
  ·have hx := idxP u.h.op hlt
   have u0 := HU.out.ok.op 0 m
   have u1 := HU.out.ok.op 1 m
   have v2 : (IntKind.i64.wrap ((m : Int) + 1)) = ((m + 1 : Nat) : Int) := by rw [IntWalk.i64_in _ (by omega)]; push_cast; rfl
   have v3 : (IntKind.i64.wrap (u.h.op 0 m + u.h.op 1 m)) = u.h.op 0 m + u.h.op 1 m := IntWalk.i64_in _ (by omega)
   clear u0 u1
   have KA := Lib.hid (LkP.below K1.out (belowA wr (.cells #[.int .i64 (u.h.op 0 m), .int .i64 (u.h.op 1 m)] 215)))
   have fa := KA.out.fz
   have g0 := LkP.get0 KA.out hlt
   have g1 := LkP.get1 KA.out hlt
   go_wp2_with fail
   have KB := Lib.hid (LkP.put2 KA.out m (u.h.op 0 m + u.h.op 1 m) 0)
   rw [turnP_step] at KB
   have K3 := Lib.hid (((K2.out.al (.cells #[.int .i64 (u.h.op 0 m), .int .i64 (u.h.op 1 m)] 215)).far (p := ⟨N, m * 2, none⟩) (by show w.heap.size + 1 ≠ N; omega) (.int .i64 (u.h.op 0 m + u.h.op 1 m))).far (p := ⟨N, m * 2 + 1, none⟩) (by show w.heap.size + 1 ≠ N; omega) (.int .i64 0))
   have HW3 := Lib.hid (below_put (below_put (below_al HW.out HW.out.size (.cells #[.int .i64 (u.h.op 0 m), .int .i64 (u.h.op 1 m)] 215)) (p := ⟨N, m * 2, none⟩) (by show w.heap.size ≤ N; omega) (.int .i64 (u.h.op 0 m + u.h.op 1 m))) (p := ⟨N, m * 2 + 1, none⟩) (by show w.heap.size ≤ N; omega) (.int .i64 0))
   clear fa g0 g1 KA
   go_roundw
   case rel => exact ⟨m + 1, by omega, by go_num, KB.out, K3.out, HW3.out⟩
   case measure => simp [intOf]; omega
  ·obtain rfl : m = 25 := by omega
   have hin := turnL_in HU.out.ok
   have K4 : Hid (LkP wr N (turnL u.h.op)) := Lib.hid (by rw [← turnP_all HU.out.ok]; exact K1.out)
   go_wp2_with (refine wpList_load50 rfl _ rfl N rfl _ K4.out ?_)
   with_reducible refine (tie_any (turnL u.h.op) _ (hin.mono (by omega))).mono ?_
   rintro _ w5 ⟨x, hx, rfl, hi, hn, hb⟩
   have HX := Lib.hid hx
   have HI := Lib.hid hi
   have HN := Lib.hid hn
   have K3 := Lib.hid (K2.out.below hb)
   have HW3 := Lib.hid (below_trans' HW.out hb)
   have fr := K3.out.fz
   have cr := K3.out.cell
   have hz5 := HW.out.size
   clear hx hi hn hb K2 HW hin
   go_wp2_with fail
   refine bodyPost_ret (retBE 2 3 (w.heap.size + 1) x.arr rfl rfl ((At.set K3.out 0 (.slice x.A x.n x.c)).set 1 (.slice x.B x.m x.d)) rfl) rfl ?_
   have hk := K1.out.lt
   exact retB_end HX.out HI.out HN.out (by omega) (by omega) HW3.out _ _
end Go.Proofs.YtihhclhpjgeniaaGreatDoor
namespace Go.Proofs.YtihhclhpjgeniaaGreatDoor
open Go.RowKit Go.Sort
theorem fin_congr {h g : Lck} (e : ∀ k, k < 2 → ∀ n, 1 ≤ n → n ≤ 24 → h k n = g k n) : fin h = fin g := by
 have hb : big h = big g := by
  unfold big
  rw [Bool.eq_iff_iff, List.any_eq_true, List.any_eq_true]
  have key : ∀ i ∈ List.range 24, (decide (1000000 < h 0 (i + 1)) || decide (1000000 < h 1 (i + 1))) = (decide (1000000 < g 0 (i + 1)) || decide (1000000 < g 1 (i + 1))) := fun i hi => by
   have := List.mem_range.1 hi
   rw [e 0 (by omega) _ (by omega) (by omega), e 1 (by omega) _ (by omega) (by omega)]
  constructor
  ·rintro ⟨i, hi, h1⟩; exact ⟨i, hi, by rw [← key i hi]; exact h1⟩
  ·rintro ⟨i, hi, h1⟩; exact ⟨i, hi, by rw [key i hi]; exact h1⟩
 unfold fin
 rw [hb, tie_congr e]
def tkL (h : Lck) (m : Nat) (r s : Int) : Lck := setH (setH h 0 m (h 0 m - r)) 1 m (h 1 m - s)
def gvL (h : Lck) (m : Nat) (r s : Int) : Lck := setH (setH h 0 m (h 0 m + r)) 1 m (h 1 m + s)
theorem tkL_at (h : Lck) (m : Nat) (r : Nat → Int) {k : Nat} (hk : k < 2) (n : Nat) : tkL h m (r 0) (r 1) k n = takeL h m r k n := by
 unfold tkL takeL setH
 by_cases hn : n = m
 ·subst hn
  rcases (show k = 0 ∨ k = 1 by omega) with rfl | rfl <;> simp
 ·simp [hn]
theorem gvL_at (h : Lck) (m : Nat) (r : Nat → Int) {k : Nat} (hk : k < 2) (n : Nat) : gvL h m (r 0) (r 1) k n = giveL h m r k n := by
 unfold gvL giveL setH
 by_cases hn : n = m
 ·subst hn
  rcases (show k = 0 ∨ k = 1 by omega) with rfl | rfl <;> simp
 ·simp [hn]
theorem setH_in {h : Lck} {M : Int} (hh : h.In M) (k n : Nat) {x : Int} (h0 : 0 ≤ x) (h1 : x ≤ M) : (setH h k n x).In M := fun a b => by
 unfold setH; split
 ·exact ⟨h0, h1⟩
 ·exact hh a b
theorem tkL_in {h : Lck} {M : Int} (hh : h.In M) {m : Nat} {r s : Int} (h0 : 0 ≤ r ∧ r ≤ h 0 m) (h1 : 0 ≤ s ∧ s ≤ h 1 m) : (tkL h m r s).In M := by
 have a0 := hh 0 m; have a1 := hh 1 m
 exact setH_in (setH_in hh 0 m (by omega) (by omega)) 1 m (by omega) (by omega)
theorem gvL_in {h : Lck} {M N : Int} (hh : h.In M) {m : Nat} {r s : Int} (h0 : 0 ≤ r ∧ r ≤ N) (h1 : 0 ≤ s ∧ s ≤ N) : (gvL h m r s).In (M + N) := by
 have a0 := hh 0 m; have a1 := hh 1 m
 exact setH_in (setH_in (hh.mono (by omega)) 0 m (by omega) (by omega)) 1 m (by omega) (by omega)
set_option maxRecDepth 100000 in
set_option maxHeartbeats 1000000 in
theorem above_any (u : BV) (w : World) (hu : u.In w) : Calls Tryz.prog 87 #[.agg u.arr, .int .i64 1] w fun r w' => r = .returned (.tuple #[.int .i64 u.h.cnt, .int .i64 0]) ∧ Below w.heap.size w w' := by
 have HU := Lib.hid hu
 clear hu
 go_enter Tryz.func87, Tryz.ntmps87
 go_wp2_with fail
 refine gen_at (M := fun W => Calls Tryz.prog 144 _ W _) (fun W => At W w.heap.size u.arr 56 ∧ Below w.heap.size w W) ⟨At.new w _ 56, belowA w _⟩ ?_
 rintro w1 ⟨k0, hw1⟩
 with_reducible refine (validB_any u w1 (HU.out.below hw1)).mono ?_
 rintro _ w2 ⟨rfl, hb2⟩
 have HA := Lib.hid (k0.below hb2)
 have HW := Lib.hid (below_trans' hw1 hb2)
 have b0 := HA.out.cell
 clear k0 hw1 hb2
 go_wp2_with fail
 clear b0
 with_reducible refine (openB_any u w2 (HU.out.below HW.out)).mono ?_
 rintro _ w3 ⟨rfl, hb3⟩
 have HW3 := Lib.hid (below_trans' HW.out hb3)
 clear HA HW hb3
 go_wp2_with fail
 have hin := HU.out.ok.op
 with_reducible refine (count_any u.h.op w3 (hin.mono (by omega))).mono ?_
 rintro _ w4 ⟨rfl, hb4⟩
 have HW4 := Lib.hid (below_trans' HW3.out hb4)
 clear hb4 hin
 go_wp2_with fail
 go_ret2
 exact ⟨rfl, HW4.out⟩
set_option maxRecDepth 100000 in
set_option maxHeartbeats 1000000 in
theorem countB_any (u : BV) (w : World) (hu : u.In w) : Calls Tryz.prog 53 #[.agg u.arr] w fun r w' => r = .returned (.tuple #[.int .i64 u.h.cnt, .int .i64 0]) ∧ Below w.heap.size w w' := by
 have HU := Lib.hid hu
 clear hu
 go_enter Tryz.func53, Tryz.ntmps53
 go_wp2_with fail
 with_reducible refine (above_any u _ (HU.out.below (belowA w _))).mono ?_
 rintro _ w1 ⟨rfl, hb⟩
 have HW := Lib.hid (below1 _ hb)
 clear hb
 go_wp2_with fail
 go_ret2
 exact ⟨rfl, HW.out⟩
set_option maxRecDepth 100000 in
set_option maxHeartbeats 1000000 in
theorem snap_any (u : BV) (l a n : Int) (w : World) (hu : u.In w) (hl : 0 ≤ l ∧ l ≤ 1000000) (ha : 0 ≤ a ∧ a ≤ 1000000) (hn : 0 ≤ n ∧ n ≤ 1000000) :
  Calls Tryz.prog 225 #[.agg u.arr, .int .i64 l, .int .i64 a, .int .i64 n] w (RetB (snapH u.h l a n).2 (snapH u.h l a n).1 w) := by
 have HU := Lib.hid hu
 clear hu
 go_enter Tryz.func225, Tryz.ntmps225
 go_wp2_with fail
 refine gen_at (M := fun W => Calls Tryz.prog 144 _ W _) (fun W => At W w.heap.size u.arr 56 ∧ At W (w.heap.size + 1) noArr 56 ∧ Below w.heap.size w W ∧ w.heap.size + 2 ≤ W.heap.size) ⟨(At.new w _ 56).al _, at_n1 w _ _ 56, bel2 w _ _, by simp⟩ ?_
 rintro w1 ⟨k0, k1, hw1, hz1⟩
 with_reducible refine (validB_any u w1 (HU.out.below hw1)).mono ?_
 rintro _ w2 ⟨rfl, hb2⟩
 have HA := Lib.hid (k0.below hb2)
 have HR := Lib.hid (k1.below hb2)
 have HW := Lib.hid (below_trans' hw1 hb2)
 have hz2 : w.heap.size + 2 ≤ w2.heap.size := Nat.le_trans hz1 hb2.size
 clear k0 k1 hw1 hb2 hz1
 have b0 := HA.out.cell
 by_cases h1 : l < 2 ∨ 24 < l ∨ a < 1 ∨ l ≤ a
 ·have HE : Hid (snapH u.h l a n = (1, noH)) := Lib.hid (by unfold snapH; rw [if_pos (by omega)])
  have fr := HR.out.fz
  have cr := HR.out.cell
  by_cases g1 : l < 2
  ·go_wp2_with fail
   refine bodyPost_ret (retBE 8 9 (w.heap.size + 1) noArr rfl rfl ((At.set HR.out 0 (.slice none 0 0)).set 1 (.slice none 0 0)) rfl) rfl ?_
   rw [HE.out]
   exact retB_end (x := noB) rfl (noB_in _) (noB_new (w.heap.size + 2)) (by omega) (by omega) HW.out _ _
  ·by_cases g2 : 24 < l
   ·go_wp2_with fail
    refine bodyPost_ret (retBE 8 9 (w.heap.size + 1) noArr rfl rfl ((At.set HR.out 0 (.slice none 0 0)).set 1 (.slice none 0 0)) rfl) rfl ?_
    rw [HE.out]
    exact retB_end (x := noB) rfl (noB_in _) (noB_new (w.heap.size + 2)) (by omega) (by omega) HW.out _ _
   ·by_cases g3 : a < 1
    ·go_wp2_with fail
     refine bodyPost_ret (retBE 8 9 (w.heap.size + 1) noArr rfl rfl ((At.set HR.out 0 (.slice none 0 0)).set 1 (.slice none 0 0)) rfl) rfl ?_
     rw [HE.out]
     exact retB_end (x := noB) rfl (noB_in _) (noB_new (w.heap.size + 2)) (by omega) (by omega) HW.out _ _
    ·have g4 : l ≤ a := by omega
     go_wp2_with fail
     refine bodyPost_ret (retBE 8 9 (w.heap.size + 1) noArr rfl rfl ((At.set HR.out 0 (.slice none 0 0)).set 1 (.slice none 0 0)) rfl) rfl ?_
     rw [HE.out]
     exact retB_end (x := noB) rfl (noB_in _) (noB_new (w.heap.size + 2)) (by omega) (by omega) HW.out _ _
 ·have g1 : ¬ l < 2 := by omega
  have g2 : ¬ 24 < l := by omega
  have g3 : ¬ a < 1 := by omega
  have g4 : ¬ l ≤ a := by omega
  have g5 : ¬ n < 0 := by omega
  clear h1
  go_wp2_with fail
  clear b0
  with_reducible refine (openB_any u w2 (HU.out.below HW.out)).mono ?_
  rintro _ w3 ⟨rfl, hb3⟩
  have HR3 := Lib.hid (HR.out.below hb3)
  have HW3 := Lib.hid (below_trans' HW.out hb3)
  have hz3 : w.heap.size + 2 ≤ w3.heap.size := Nat.le_trans hz2 hb3.size
  clear HA HR HW hb3 hz2
  obtain ⟨m, hm⟩ : ∃ m : Nat, l = m := ⟨l.toNat, by omega⟩
  obtain ⟨k, hk⟩ : ∃ k : Nat, a = k := ⟨a.toNat, by omega⟩
  subst hm hk
  have hm1 : 2 ≤ m := by omega
  have hm2 : m < 25 := by omega
  have hk1 : 1 ≤ k := by omega
  have hk2 : k < m := by omega
  clear g1 g2 g3 g4 g5 hl ha
  go_wp2_with (first
   | (refine wpList_lock rfl rfl rfl _ _ rfl u.h.op rfl rfl ?_; intro W q1 hb hz))
  have HR4 := Lib.hid (HR3.out.below hb)
  have HW4 := Lib.hid (below_trans' HW3.out hb)
  have Q1 := Lib.hid q1
  clear HR3 HW3 hb q1
  generalize w3.heap.size = N at Q1 hz hz3 ⊢
  simp only [Act.put, List.setIfInBounds_toArray, List.set_cons_succ, List.set_cons_zero]
  have g0 := Q1.out.rg0 (n := m) hm2
  have g1 := Q1.out.rg1 (n := m) hm2
  have a0 := HU.out.ok.op 0 m
  have a1 := HU.out.ok.op 1 m
  have v1 : IntKind.i64.wrap (u.h.op 0 m + u.h.op 1 m) = u.h.op 0 m + u.h.op 1 m := IntWalk.i64_in _ (by omega)
  refine wp_region_qb mixed (by kernel_rfl) ?_
  repeat (go_big_quiet_step (fail))
  refine wpQuiet_nil ?_
  intro w5 hb5
  have HR5 := Lib.hid (HR4.out.below hb5)
  have HW5 := Lib.hid (below_trans' HW4.out hb5)
  have Q5 := Lib.hid (Q1.out.below hb5)
  clear HR4 HW4 Q1 hb5 g0 g1 v1
  by_cases hs : u.h.op 0 m + u.h.op 1 m < n
  ·have HE : Hid (snapH u.h m k n = (6, noH)) := Lib.hid (by unfold snapH; rw [if_neg (by omega), Int.toNat_natCast, if_pos hs])
   have fr := HR5.out.fz
   have cr := HR5.out.cell
   clear a0 a1
   go_wp2_with fail
   refine bodyPost_ret (retBE 8 9 (w.heap.size + 1) noArr rfl rfl ((At.set HR5.out 0 (.slice none 0 0)).set 1 (.slice none 0 0)) rfl) rfl ?_
   rw [HE.out]
   exact retB_end (x := noB) rfl (noB_in _) (noB_new (w.heap.size + 2)) (by omega) (by omega) HW5.out _ _
  ·have HE : Hid (snapH u.h m k n = fin (snapL u.h.op m k n)) := Lib.hid (by unfold snapH; rw [if_neg (by omega), Int.toNat_natCast, if_neg hs, Int.toNat_natCast])
   have hin := HU.out.ok.op
   have ht := tk_in (h := u.h.op) (fun k n => (hin k n).1) (n := n) (m := m) hn.1 (by omega)
   clear a0 a1
   go_wp2_with fail
   with_reducible refine (takeK_any N u.h.op m n w5 Q5.out hm2 (hin.mono (by omega)) hn.1 (by omega)).mono ?_
   rintro _ w6 ⟨rfl, kl, kp⟩
   have i1 : (tkL u.h.op m (tk u.h.op n m 0) (tk u.h.op n m 1)).In 1000000 := tkL_in hin ht.1 ht.2.1
   have e1 := fun k (hk : k < 2) x => tkL_at u.h.op m (tk u.h.op n m) hk x
   have r0 := ht.1
   have r1 := ht.2.1
   have l0 := hin 0 m
   have l1 := hin 1 m
   have HS : Hid (snapL u.h.op m k n = giveL (giveL (takeL u.h.op m (tk u.h.op n m)) k (tk u.h.op n m)) (m - k) (tk u.h.op n m)) := Lib.hid rfl
   have q1 : LkP w6 N (tkL u.h.op m (tk u.h.op n m 0) (tk u.h.op n m 1)) := kl
   have HR6 := Lib.hid (At.kp HR5.out kp (by omega))
   have hsz := HW5.out.size
   have HW6 := Lib.hid (below_kp HW5.out kp hsz (by omega))
   clear kl
   generalize tkL u.h.op m (tk u.h.op n m 0) (tk u.h.op n m 1) = L1 at i1 e1 q1
   have E1 := Lib.hid e1
   have Q6 := Lib.hid q1
   have I1 := Lib.hid i1
   clear kp HR5 HW5 Q5 hsz e1 q1 i1 ht hin
   have T0 : Hid (0 ≤ tk u.h.op n m 0 ∧ tk u.h.op n m 0 ≤ 1000000) := Lib.hid (by omega)
   have T1 : Hid (0 ≤ tk u.h.op n m 1 ∧ tk u.h.op n m 1 ≤ 1000000) := Lib.hid (by omega)
   clear r0 r1 l0 l1
   obtain ⟨R, hR⟩ : ∃ R, tk u.h.op n m = R := ⟨_, rfl⟩
   rw [hR] at HS E1 T0 T1 ⊢
   clear hR
   have b0 := T0.out
   have b1 := T1.out
   have hk3 : k < 25 := by omega
   go_wp2_with fail
   with_reducible refine (addK_any N L1 k (R 0) (R 1) _ (Q6.out.al _) hk3 (I1.out.mono (by omega)) (by omega) (by omega)).mono ?_
   rintro _ w7 ⟨rfl, kl, kp⟩
   have q1 : LkP w7 N (gvL L1 k (R 0) (R 1)) := kl
   have i1 := gvL_in I1.out (m := k) T0.out T1.out
   have e1 : ∀ j (_ : j < 2) x, gvL L1 k (R 0) (R 1) j x = giveL (takeL u.h.op m R) k R j x := fun j hj x => by
    rw [gvL_at L1 k R hj]
    unfold giveL
    rw [E1.out j hj]
   have HR7 := Lib.hid (At.kp (HR6.out.al (.cells #[.int .i64 (R 0), .int .i64 (R 1)] 215)) kp (by omega))
   have hsz := HW6.out.size
   have HW7 := Lib.hid (below_kp (below_al HW6.out hsz (.cells #[.int .i64 (R 0), .int .i64 (R 1)] 215)) kp (by rw [World.size_alloc]; omega) (by omega))
   have K7 := Lib.hid (At.kp (At.new w6 #[.int .i64 (R 0), .int .i64 (R 1)] 215) kp (by have := Q6.out.lt; omega))
   clear kl
   generalize gvL L1 k (R 0) (R 1) = L2 at i1 e1 q1
   generalize w6.heap.size = M at K7 ⊢
   have E2 := Lib.hid e1
   have Q7 := Lib.hid q1
   have I2 := Lib.hid i1
   clear kp HR6 HW6 Q6 hsz e1 q1 i1 E1 I1
   have c7 := K7.out.cell
   have v5 : IntKind.i64.wrap ((m : Int) - (k : Int)) = ((m - k : Nat) : Int) := by rw [IntWalk.i64_in _ (by omega)]; omega
   have hk4 : m - k < 25 := by omega
   go_wp2_with fail
   clear v5
   with_reducible refine (addK_any N L2 (m - k) (R 0) (R 1) _ Q7.out hk4 (I2.out.mono (by omega)) (by omega) (by omega)).mono ?_
   rintro _ w8 ⟨rfl, kl, kp⟩
   have q1 : LkP w8 N (gvL L2 (m - k) (R 0) (R 1)) := kl
   have i1 := gvL_in I2.out (m := m - k) T0.out T1.out
   have e1 : ∀ j (_ : j < 2) x, gvL L2 (m - k) (R 0) (R 1) j x = snapL u.h.op m k n j x := fun j hj x => by
    rw [gvL_at L2 (m - k) R hj, HS.out]
    unfold giveL
    rw [E2.out j hj]
    rfl
   have HR8 := Lib.hid (At.kp HR7.out kp (by omega))
   have hsz := HW7.out.size
   have HW8 := Lib.hid (below_kp HW7.out kp hsz (by omega))
   clear kl
   generalize gvL L2 (m - k) (R 0) (R 1) = L3 at i1 e1 q1
   have HF : Hid (fin L3 = snapH u.h m k n) := Lib.hid (by rw [HE.out]; exact fin_congr fun j hj x _ _ => e1 j hj x)
   have Q8 := Lib.hid q1
   have I3 := Lib.hid i1
   clear kp HR7 HW7 Q7 hsz e1 q1 i1 E2 I2 c7 K7
   go_wp2_with (refine wpList_load50 rfl _ rfl N rfl _ Q8.out ?_)
   with_reducible refine (tie_any L3 _ (I3.out.mono (by omega))).mono ?_
   rw [HF.out]
   rintro _ w9 ⟨x, hx, rfl, hi, hn', hb⟩
   have HX := Lib.hid hx
   have HI := Lib.hid hi
   have HN := Lib.hid hn'
   have K3 := Lib.hid (HR8.out.below hb)
   have HW3 := Lib.hid (below_trans' HW8.out hb)
   have fr := K3.out.fz
   have cr := K3.out.cell
   have hz5 := HW8.out.size
   have hk := Q8.out.lt
   clear hx hi hn' hb HR8 HW8
   go_wp2_with fail
   refine bodyPost_ret (retBE 8 9 (w.heap.size + 1) x.arr rfl rfl ((At.set K3.out 0 (.slice x.A x.n x.c)).set 1 (.slice x.B x.m x.d)) rfl) rfl ?_
   exact retB_end HX.out HI.out HN.out (by omega) (by omega) HW3.out _ _
end Go.Proofs.YtihhclhpjgeniaaGreatDoor
