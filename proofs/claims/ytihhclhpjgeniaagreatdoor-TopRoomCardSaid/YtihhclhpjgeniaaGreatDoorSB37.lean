/- Merged texts: Gs Gt -/
import Derived.Test.YtihhclhpjgeniaaGreatDoorSB21
import Derived.Test.YtihhclhpjgeniaaGreatDoorSB29
import Derived.Test.YtihhclhpjgeniaaGreatDoorSB34
import Derived.Test.YtihhclhpjgeniaaGreatDoorSB36
namespace Go.Proofs.YtihhclhpjgeniaaGreatDoor
open Go.RowKit Go.Sort
theorem noH_cnt : noH.cnt = 0 := by decide
set_option maxRecDepth 100000 in
set_option maxHeartbeats 1000000 in
theorem turnO_any (v : RV) (st : Int) (p : Nat) (x : OV) (a : List UInt8) (w : World) (h : v.In st p w) (hx : x.In w) (hk : x.o.kind = 4) (han : x.o.names[0]? = some a) (_ha : x.o.nums = []) (ht : Tab w) (hlb : v.bs.length ≤ 12) (hlost : 0 ≤ v.lost ∧ v.lost ≤ 1000000000) (hbo : 0 ≤ v.bought ∧ v.bought ≤ 1000000000) :
  Calls Tryz.prog 159 #[.pointer (some ⟨p, 0, none⟩), .agg x.arr] w (RetO v st p w (turnR v.rm a)) := by
 have hkk : ((x.o.kind : Nat) : Int) = 4 := by rw [hk]; rfl
 have H0 := Lib.hid h
 have HW := Lib.hid (OS.box h hx ht)
 have HB := Lib.hid (belowA w (.cells x.arr 114))
 obtain ⟨ad, e1, -, hk1, -⟩ := hx.name han
 have hkn : (0 : Int) < (x.n : Int) := by omega
 have HX0 := Lib.hid hx
 have HT0 := Lib.hid ht
 clear h hx ht hk
 obtain ⟨e, hee⟩ : ∃ e : BV, e = noB := ⟨_, rfl⟩
 have HNO := Lib.hid hee
 clear hee
 have ck := HW.out.k.cell
 obtain ⟨ad4, e4, hc4, -, -⟩ := HW.out.o.name (k := 0) han
 have z4 : ad4 = ad := by rw [e1] at e4; injection e4 with e4; exact e4.symm
 rw [z4, show ad.add 0 = ad from rfl] at hc4
 have c3 : (w.alloc (.cells x.arr 114)).cell? ⟨w.heap.size, 3, none⟩ = some (.slice (some ad) x.n x.c) := by rw [← e1]; exact HW.out.k.cell 3
 clear e4 z4
 go_enter Tryz.func159, Tryz.ntmps159
 go_wp2_with fail
 clear ck hc4 c3
 with_reducible refine (bundleR_any v st p a _ HW.out.a hlb).mono ?_
 rintro _ w2 ⟨rfl, hb⟩
 have HS2 := Lib.hid (HW.out.below hb)
 have HB2' := Lib.hid (below_trans' HB.out hb)
 clear hb HW HB
 cases hbb : v.rm.bun a with
 | none =>
  have HL : Hid (turnR v.rm a = (5, v.rm)) := Lib.hid (by unfold turnR; rw [hbb])
  rw [show idxI none = -1 from rfl]
  go_wp2_with fail
  go_ret
  exact retO_no HL.out HS2.out.a HB2'.out
 | some k =>
 rw [show idxI (some k) = (k : Int) from rfl]
 have hkn0 : ¬ ((k : Int) < 0) := by omega
 obtain ⟨y2, hy2, gb, hgb⟩ : ∃ y2 : NB, v.bs[k]? = some y2 ∧ ∃ gb, v.A = some ⟨gb, 0, none⟩ := by
  rw [bun_idx] at hbb
  obtain ⟨hk, _⟩ := List.findIdx?_eq_some_iff_getElem.1 hbb
  refine ⟨v.bs[k], List.getElem?_eq_getElem hk, ?_⟩
  exact own_form HS2.out.a.rb (by omega)
 have HB2 := Lib.hid hy2
 have HGB := Lib.hid hgb
 have hkl : k < v.bs.length := (List.getElem?_eq_some_iff.1 hy2).1
 have hkl' : (k : Int) < (v.bs.length : Int) := by omega
 have hhr : v.rm.hr k = y2.v.h := by rw [bs_at, hy2]; rfl
 have HL0 : Hid (turnR v.rm a = if (turnH y2.v.h).1 ≠ 0 then ((turnH y2.v.h).1, v.rm) else (0, v.rm.setH k (turnH y2.v.h).2)) := Lib.hid (by unfold turnR; rw [hbb]; dsimp only; rw [hhr])
 clear hy2 hgb hhr hbb
 have hrob := HS2.out.a.rb
 have c2 : w2.cell? ⟨p, 2, none⟩ = some (.slice v.A v.bs.length v.ca) := At.cell HS2.out.a.room 2
 rw [HGB.out] at c2 hrob
 have b1 : w2.cell? ⟨gb, k * 3 + 1, none⟩ = some (.slice y2.v.A y2.v.n y2.v.c) := own_cell nb_len (by omega) hrob HB2.out (j := 1) (by omega)
 have b2 : w2.cell? ⟨gb, k * 3 + 1 + 1, none⟩ = some (.slice y2.v.B y2.v.m y2.v.d) := own_cell nb_len (by omega) hrob HB2.out (j := 2) (by omega)
 have ck : w2.cell? ⟨w.heap.size, 0, none⟩ = some (.int .i64 x.o.kind) := HS2.out.k.cell 0
 rw [hkk] at ck
 have hlt := HS2.out.k.lt
 clear hrob
 go_wp2_with fail
 refine gen_at (M := fun W => Calls Tryz.prog 224 _ W _) (fun W => HS st p w.heap.size v x w2.heap.size (w2.heap.size + 1) y2.v e W ∧ Below w.heap.size w W) ⟨?_, below_trans' HB2'.out (bel2 w2 _ _)⟩ ?_
 ·rw [HNO.out]; exact HS.new HS2.out y2.v
 have HQ : Hid (w.heap.size ≤ w2.heap.size) := Lib.hid HB2'.out.size
 have HQ1 : Hid (w.heap.size < w2.heap.size) := Lib.hid HS2.out.k.lt
 clear HS2 HB2'
 generalize w2.heap.size = q at HQ HQ1 ⊢
 rintro w3 ⟨h3, hb3⟩
 have HS3 := Lib.hid h3
 have HB3 := Lib.hid hb3
 clear h3 hb3 c2 b1 b2 ck hlt
 have hy2 := HS3.out.s.a.hb y2 (List.mem_of_getElem? HB2.out)
 with_reducible refine (turn_any y2.v w3 hy2).mono ?_
 rintro _ w4 ⟨c, hc, rfl, hci, hcn, hb⟩
 have HC := Lib.hid hc
 have S4 := Lib.hid (HS3.out.s.below hb)
 have Q4 := Lib.hid (HS3.out.q.below hb)
 have R4 := Lib.hid (HS3.out.r.below hb)
 have B4 := Lib.hid (below_trans' HB3.out hb)
 have C4 := Lib.hid hci
 have N_c : Hid (c.New w.heap.size) := Lib.hid (hcn.mono HB3.out.size)
 have X_c : Hid (∀ j, blk c.A c.n j ∨ blk c.B c.m j → j ≠ q) := Lib.hid (fun j hj => by have h1 := hcn j hj; have h2 := HS3.out.q.lt; omega)
 clear hc hci hcn hb HS3 HB3 hy2
 generalize (turnH y2.v.h).2 = hr at HC HL0
 generalize (turnH y2.v.h).1 = er at HL0 ⊢
 have BA : Hid (Below w.heap.size w _) := Lib.hid (below_put (below_put B4.out (p := ⟨q, 0, none⟩) HQ.out (.slice c.A c.n c.c)) (p := ⟨q, 1, none⟩) HQ.out (.slice c.B c.m c.d))
 have SA : Hid (OS st p w.heap.size v x _) := Lib.hid (S4.out.putq H0.out B4.out HQ.out (.slice c.A c.n c.c) (.slice c.B c.m c.d) (by have := HQ1.out; omega) HX0.out HT0.out)
 have KA : Hid (At _ q c.arr 56) := Lib.hid ((Q4.out.set 0 (.slice c.A c.n c.c)).set 1 (.slice c.B c.m c.d))
 have OA : Hid (At _ (q + 1) e.arr 56) := Lib.hid ((R4.out.far (p := ⟨q, 0, none⟩) (show q + 1 ≠ q by omega) (.slice c.A c.n c.c)).far (p := ⟨q, 1, none⟩) (show q + 1 ≠ q by omega) (.slice c.B c.m c.d))
 have CA : Hid (c.In _) := Lib.hid (C4.out.kb (S := fun x => x = q) (((Kp.refl (fun x => x = q) w4).set (p := ⟨q, 0, none⟩) (fun _ => rfl) (.slice c.A c.n c.c)).set (p := ⟨q, 1, none⟩) (fun _ => rfl) (.slice c.B c.m c.d)) (fun j hj => X_c.out j (.inl hj)) (fun j hj => X_c.out j (.inr hj)))
 have cq := Q4.out.cell
 have fq := Q4.out.fz
 have cr := R4.out.cell
 by_cases hz : er = 0
 rotate_left
 ·have HL : Hid (turnR v.rm a = (er, v.rm)) := Lib.hid (by rw [HL0.out, if_pos hz])
  have h1 : (er != 0) = true := by simpa using hz
  go_wp2_with fail
  go_ret
  exact retO_no HL.out SA.out.a BA.out
 subst hz
 rw [if_neg (by simp)] at HL0
 go_wp2_with fail
 clear cq fq cr
 generalize (w4.setCell ⟨q, 0, none⟩ (.slice c.A c.n c.c)).setCell ⟨q, 1, none⟩ (.slice c.B c.m c.d) = w5 at BA SA KA OA CA ⊢
 have HS5 := SA
 have HB5 := BA
 have C_c5 := CA
 have C_e5 : Hid (e.In w5) := Lib.hid (by rw [HNO.out]; exact noB_in _)
 have K_q5 := KA
 have K_r5 := OA
 clear BA SA KA OA CA
 with_reducible refine (countB_any e w5 C_e5.out).mono ?_
 rintro _ w6 ⟨rfl, hb⟩
 have HS6 := Lib.hid (HS5.out.below hb)
 have HB6 := Lib.hid (below_trans' HB5.out hb)
 have C_c6 := Lib.hid (C_c5.out.below hb)
 have K_q6 := Lib.hid (K_q5.out.below hb)
 have HCN := Lib.hid C_e5.out.ok.cnt
 clear hb HS5 HB5 C_c5 K_q5 K_r5
 go_wp2_with fail
 refine wp_region_hj [0, 1, 2, 3, 4, 5, 6, 7] [] [8] (fun W => OS st p w.heap.size v x W ∧ At W q c.arr 56) mixed (by kernel_rfl) (fun W W' h hb => ⟨h.1.below hb, h.2.below hb⟩) ⟨HS6.out.below (below_drew _), K_q6.out.below (below_drew _)⟩ ?_
 iterate 8
  refine canonG_read (v := ?_) rfl (by rfl) ?_ ?_
  rotate_left
  ·intro W hS
   have c2 : W.cell? ⟨p, 2, none⟩ = some (.slice v.A v.bs.length v.ca) := At.cell hS.1.a.room 2
   rw [HGB.out] at c2
   have cq := hS.2.cell
   go_simp <;> with_reducible rfl
  simp only [List.getElem_toArray, List.getElem_cons_zero, List.getElem_cons_succ, Act.put, List.setIfInBounds_toArray, List.set_cons_succ, List.set_cons_zero]
 refine canonG_nil ?_
 refine tailJ_last (t := 8) (by kernel_rfl) rfl ?_
 intro w7 hb
 have HI := Lib.hid (HS6.out.below (undrew hb)).a
 have HB7 := Lib.hid (below_trans' HB6.out (undrew hb))
 have C_c7 := Lib.hid (C_c6.out.below (undrew hb))
 clear hb HS6 HB6 C_c6 K_q6
 have hrob := HI.out.rb
 rw [HGB.out] at hrob
 have b1 : w7.cell? ⟨gb, k * 3 + 1, none⟩ = some (.slice y2.v.A y2.v.n y2.v.c) := own_cell nb_len (by omega) hrob HB2.out (j := 1) (by omega)
 have b2 : w7.cell? ⟨gb, k * 3 + 1 + 1, none⟩ = some (.slice y2.v.B y2.v.m y2.v.d) := own_cell nb_len (by omega) hrob HB2.out (j := 2) (by omega)
 have fb : ∀ j, w7.frozen? ⟨gb, j, none⟩ = false := fun j => hrob.frozenAt j
 have c6 : w7.cell? ⟨p, 6, none⟩ = some (.int .i64 v.lost) := At.cell HI.out.room 6
 have c5 : w7.cell? ⟨p, 5, none⟩ = some (.int .i64 v.bought) := At.cell HI.out.room 5
 have fp := HI.out.room.fz
 have hne : gb ≠ p := (HI.out.ne_b HGB.out).1
 have hne2 : p ≠ gb := fun e => hne e.symm
 have v1 : IntKind.i64.wrap (v.lost + e.h.cnt) = v.lost + e.h.cnt := IntWalk.i64_in _ (by have := HCN.out; omega)
 have v2 : IntKind.i64.wrap (v.bought + 0) = v.bought + 0 := IntWalk.i64_in _ (by omega)
 obtain ⟨r1, r2⟩ := chg_fin e.h.cnt 0 H0.out HI.out HB7.out HGB.out HB2.out C_c7.out N_c.out
 simp only [Int.add_zero] at r1 r2 v2
 have R1 := Lib.hid r1
 have R2 := Lib.hid r2
 clear hrob r1 r2
 go_wp2_with fail
 refine NoPanic.normal ?_
 go_wp2_with fail
 go_ret
 rw [HL0.out]
 refine ⟨rfl, _, ?_, R1.out, R2.out⟩
 have hb := rm_setB v k y2 c HB2.out
 rw [← HC.out, ← hb]
 have hz : e.h.cnt = 0 := by rw [HNO.out]; exact noH_cnt
 rw [hz]
 show Rm.mk _ _ _ _ _ _ _ = Rm.mk _ _ _ _ _ _ _
 simp
set_option maxRecDepth 100000 in
set_option maxHeartbeats 1000000 in
theorem snapO_any (v : RV) (st : Int) (p : Nat) (x : OV) (a : List UInt8) (l j n : Int) (w : World) (h : v.In st p w) (hx : x.In w) (hk : x.o.kind = 5) (han : x.o.names[0]? = some a) (ha : x.o.nums = [l, j, n]) (h_l : inN l) (h_j : inN j) (h_n : inN n) (ht : Tab w) (hlb : v.bs.length ≤ 12) (hlost : 0 ≤ v.lost ∧ v.lost ≤ 1000000000) (hbo : 0 ≤ v.bought ∧ v.bought ≤ 1000000000) :
  Calls Tryz.prog 159 #[.pointer (some ⟨p, 0, none⟩), .agg x.arr] w (RetO v st p w (snapR v.rm a l j n)) := by
 have hkk : ((x.o.kind : Nat) : Int) = 5 := by rw [hk]; rfl
 have H0 := Lib.hid h
 have HW := Lib.hid (OS.box h hx ht)
 have HB := Lib.hid (belowA w (.cells x.arr 114))
 have N_l : Hid (0 ≤ l ∧ l ≤ 1000000) := Lib.hid h_l
 clear h_l
 have N_j : Hid (0 ≤ j ∧ j ≤ 1000000) := Lib.hid h_j
 clear h_j
 have N_n : Hid (0 ≤ n ∧ n ≤ 1000000) := Lib.hid h_n
 clear h_n
 obtain ⟨ad, e1, -, hk1, -⟩ := hx.name han
 have hkn : (0 : Int) < (x.n : Int) := by omega
 obtain ⟨ae, e2, -, hk2, -⟩ := hx.num (k := 0) (by rw [ha]; rfl)
 have hm : x.m = 3 := by rw [hx.m, ha]; rfl
 have hm0 : (0 : Int) < (x.m : Int) := by rw [hm]; decide
 have hm1 : (1 : Int) < (x.m : Int) := by rw [hm]; decide
 have hm2 : (2 : Int) < (x.m : Int) := by rw [hm]; decide
 clear hm
 have HX0 := Lib.hid hx
 have HT0 := Lib.hid ht
 clear h hx ht hk
 obtain ⟨e, hee⟩ : ∃ e : BV, e = noB := ⟨_, rfl⟩
 have HNO := Lib.hid hee
 clear hee
 have ck := HW.out.k.cell
 obtain ⟨ad4, e4, hc4, -, -⟩ := HW.out.o.name (k := 0) han
 have z4 : ad4 = ad := by rw [e1] at e4; injection e4 with e4; exact e4.symm
 rw [z4, show ad.add 0 = ad from rfl] at hc4
 have c3 : (w.alloc (.cells x.arr 114)).cell? ⟨w.heap.size, 3, none⟩ = some (.slice (some ad) x.n x.c) := by rw [← e1]; exact HW.out.k.cell 3
 clear e4 z4
 go_enter Tryz.func159, Tryz.ntmps159
 go_wp2_with fail
 clear ck hc4 c3
 with_reducible refine (bundleR_any v st p a _ HW.out.a hlb).mono ?_
 rintro _ w2 ⟨rfl, hb⟩
 have HS2 := Lib.hid (HW.out.below hb)
 have HB2' := Lib.hid (below_trans' HB.out hb)
 clear hb HW HB
 cases hbb : v.rm.bun a with
 | none =>
  have HL : Hid (snapR v.rm a l j n = (5, v.rm)) := Lib.hid (by unfold snapR; rw [hbb])
  rw [show idxI none = -1 from rfl]
  go_wp2_with fail
  go_ret
  exact retO_no HL.out HS2.out.a HB2'.out
 | some k =>
 rw [show idxI (some k) = (k : Int) from rfl]
 have hkn0 : ¬ ((k : Int) < 0) := by omega
 obtain ⟨y2, hy2, gb, hgb⟩ : ∃ y2 : NB, v.bs[k]? = some y2 ∧ ∃ gb, v.A = some ⟨gb, 0, none⟩ := by
  rw [bun_idx] at hbb
  obtain ⟨hk, _⟩ := List.findIdx?_eq_some_iff_getElem.1 hbb
  refine ⟨v.bs[k], List.getElem?_eq_getElem hk, ?_⟩
  exact own_form HS2.out.a.rb (by omega)
 have HB2 := Lib.hid hy2
 have HGB := Lib.hid hgb
 have hkl : k < v.bs.length := (List.getElem?_eq_some_iff.1 hy2).1
 have hkl' : (k : Int) < (v.bs.length : Int) := by omega
 have hhr : v.rm.hr k = y2.v.h := by rw [bs_at, hy2]; rfl
 have HL0 : Hid (snapR v.rm a l j n = if (snapH y2.v.h l j n).1 ≠ 0 then ((snapH y2.v.h l j n).1, v.rm) else (0, { v.rm.setH k (snapH y2.v.h l j n).2 with bought := v.rm.bought + n })) := Lib.hid (by unfold snapR; rw [hbb]; dsimp only; rw [hhr])
 clear hy2 hgb hhr hbb
 have hrob := HS2.out.a.rb
 have c2 : w2.cell? ⟨p, 2, none⟩ = some (.slice v.A v.bs.length v.ca) := At.cell HS2.out.a.room 2
 rw [HGB.out] at c2 hrob
 have b1 : w2.cell? ⟨gb, k * 3 + 1, none⟩ = some (.slice y2.v.A y2.v.n y2.v.c) := own_cell nb_len (by omega) hrob HB2.out (j := 1) (by omega)
 have b2 : w2.cell? ⟨gb, k * 3 + 1 + 1, none⟩ = some (.slice y2.v.B y2.v.m y2.v.d) := own_cell nb_len (by omega) hrob HB2.out (j := 2) (by omega)
 have ck : w2.cell? ⟨w.heap.size, 0, none⟩ = some (.int .i64 x.o.kind) := HS2.out.k.cell 0
 rw [hkk] at ck
 have hlt := HS2.out.k.lt
 clear hrob
 have c5 : w2.cell? ⟨w.heap.size, 5, none⟩ = some (.slice x.B x.m x.d) := HS2.out.k.cell 5
 obtain ⟨ae3, e3, hd2, -, hlt2⟩ := HS2.out.o.num (k := 2) (a := n) (by rw [ha]; rfl)
 have z3 : ae3 = ae := by rw [e2] at e3; injection e3 with e3; exact e3.symm
 rw [z3, show ae.add 2 = ⟨ae.block, ae.off + 2, none⟩ from rfl] at hd2
 rw [z3] at hlt2
 rw [e2] at c5
 clear e3 z3
 go_wp2_with fail
 clear c5 hd2 hlt2
 refine gen_at (M := fun W => Code.wp Tryz.prog _ _ _ W) (fun W => HS st p w.heap.size v x w2.heap.size (w2.heap.size + 1) y2.v e W ∧ Below w.heap.size w W) ⟨?_, below_trans' HB2'.out (bel2 w2 _ _)⟩ ?_
 ·rw [HNO.out]; exact HS.new HS2.out y2.v
 have HQ : Hid (w.heap.size ≤ w2.heap.size) := Lib.hid HB2'.out.size
 have HQ1 : Hid (w.heap.size < w2.heap.size) := Lib.hid HS2.out.k.lt
 clear HS2 HB2'
 generalize w2.heap.size = q at HQ HQ1 ⊢
 rintro w3 ⟨h3, hb3⟩
 have HS3 := Lib.hid h3
 have HB3 := Lib.hid hb3
 clear h3 hb3 c2 b1 b2 ck hlt
 refine wp_region_hk [0, 1, 2, 3, 4, 5, 6, 7, 8, 9] [11, 12, 13] [10, 14, 15] (fun W => HS st p w.heap.size v x q (q + 1) y2.v e W) mixed (by kernel_rfl) (fun W W' h hb => h.below hb) (HS3.out.below (below_drew _)) ?_
 iterate 10
  refine canonG_read (v := ?_) rfl (by rfl) ?_ ?_
  rotate_left
  ·intro W hS
   have cq := hS.q.cell
   have c5 : W.cell? ⟨w.heap.size, 5, none⟩ = some (.slice x.B x.m x.d) := hS.s.k.cell 5
   rw [e2] at c5
   obtain ⟨ad0, e0, hd0, -, -⟩ := hS.s.o.num (k := 0) (a := l) (by rw [ha]; rfl)
   have z0 : ad0 = ae := by rw [e2] at e0; injection e0 with e0; exact e0.symm
   rw [z0, show ae.add 0 = ae from rfl] at hd0
   clear e0 z0
   obtain ⟨ad1, e1, hd1, -, -⟩ := hS.s.o.num (k := 1) (a := j) (by rw [ha]; rfl)
   have z1 : ad1 = ae := by rw [e2] at e1; injection e1 with e1; exact e1.symm
   rw [z1, show ae.add 1 = ⟨ae.block, ae.off + 1, none⟩ from rfl] at hd1
   clear e1 z1
   go_simp <;> with_reducible rfl
  simp only [List.getElem_toArray, List.getElem_cons_zero, List.getElem_cons_succ, Act.put, List.setIfInBounds_toArray, List.set_cons_succ, List.set_cons_zero]
 refine canonG_nil ?_
 refine tailK_one (t := 10) (ts' := [14, 15]) (ps' := []) (ns := [11, 12, 13]) (by kernel_rfl) rfl (by kernel_rfl) (by kernel_rfl) rfl (by kernel_rfl) ?_
 intro W1 hb
 have HS2 := Lib.hid (HS3.out.below (undrew hb))
 have HB1 := Lib.hid (below_trans' HB3.out (undrew hb))
 clear hb HS3 HB3
 have HS3 := HS2
 have HB3 := HB1
 clear HS2 HB1
 have hy2 := HS3.out.s.a.hb y2 (List.mem_of_getElem? HB2.out)
 go_wp2_with fail
 with_reducible refine (snap_any y2.v l j n W1 hy2 N_l.out N_j.out N_n.out).mono ?_
 rintro _ w3 ⟨c, hc, rfl, hci, hcn, hb⟩
 have HC := Lib.hid hc
 have S4 := Lib.hid (HS3.out.s.below hb)
 have Q4 := Lib.hid (HS3.out.q.below hb)
 have R4 := Lib.hid (HS3.out.r.below hb)
 have B4 := Lib.hid (below_trans' HB3.out hb)
 have C4 := Lib.hid hci
 have N_c : Hid (c.New w.heap.size) := Lib.hid (hcn.mono HB3.out.size)
 have X_c : Hid (∀ j, blk c.A c.n j ∨ blk c.B c.m j → j ≠ q) := Lib.hid (fun j hj => by have h1 := hcn j hj; have h2 := HS3.out.q.lt; omega)
 have HSn := Lib.hid (HS3.out.below hb)
 clear hc hci hcn hb HS3 HB3 hy2
 go_wp2_with fail
 refine ⟨HSn.out, ?_⟩
 iterate 3
  refine canonG_read (v := ?_) rfl (by rfl) ?_ ?_
  rotate_left
  ·intro W hS
   go_simp <;> with_reducible rfl
  simp only [List.getElem_toArray, List.getElem_cons_zero, List.getElem_cons_succ, Act.put, List.setIfInBounds_toArray, List.set_cons_succ, List.set_cons_zero]
 refine canonG_nil ?_
 refine tailK_close (t := 14) (ts' := [15]) (by kernel_rfl) rfl rfl (by kernel_rfl) ?_
 intro w4 hb
 clear HSn
 have S5 := Lib.hid (S4.out.below hb)
 have Q5 := Lib.hid (Q4.out.below hb)
 have R5 := Lib.hid (R4.out.below hb)
 have C5 := Lib.hid (C4.out.below hb)
 have B5 := Lib.hid (below_trans' B4.out hb)
 clear hb S4 Q4 R4 C4 B4
 have S4 := S5
 have Q4 := Q5
 have R4 := R5
 have C4 := C5
 have B4 := B5
 clear S5 Q5 R5 C5 B5
 have BA : Hid (Below w.heap.size w _) := Lib.hid (below_put (below_put B4.out (p := ⟨q, 0, none⟩) HQ.out (.slice c.A c.n c.c)) (p := ⟨q, 1, none⟩) HQ.out (.slice c.B c.m c.d))
 have SA : Hid (OS st p w.heap.size v x _) := Lib.hid (S4.out.putq H0.out B4.out HQ.out (.slice c.A c.n c.c) (.slice c.B c.m c.d) (by have := HQ1.out; omega) HX0.out HT0.out)
 have KA : Hid (At _ q c.arr 56) := Lib.hid ((Q4.out.set 0 (.slice c.A c.n c.c)).set 1 (.slice c.B c.m c.d))
 have OA : Hid (At _ (q + 1) e.arr 56) := Lib.hid ((R4.out.far (p := ⟨q, 0, none⟩) (show q + 1 ≠ q by omega) (.slice c.A c.n c.c)).far (p := ⟨q, 1, none⟩) (show q + 1 ≠ q by omega) (.slice c.B c.m c.d))
 have CA : Hid (c.In _) := Lib.hid (C4.out.kb (S := fun x => x = q) (((Kp.refl (fun x => x = q) w4).set (p := ⟨q, 0, none⟩) (fun _ => rfl) (.slice c.A c.n c.c)).set (p := ⟨q, 1, none⟩) (fun _ => rfl) (.slice c.B c.m c.d)) (fun j hj => X_c.out j (.inl hj)) (fun j hj => X_c.out j (.inr hj)))
 have cq := Q4.out.cell
 have fq := Q4.out.fz
 go_wp2_with fail
 refine thn ?_
 clear cq fq
 generalize (w4.setCell ⟨q, 0, none⟩ (.slice c.A c.n c.c)).setCell ⟨q, 1, none⟩ (.slice c.B c.m c.d) = w5 at BA SA KA OA CA ⊢
 have HS5 := SA
 have HB5 := BA
 have C_c5 := CA
 have C_e5 : Hid (e.In w5) := Lib.hid (by rw [HNO.out]; exact noB_in _)
 have K_q5 := KA
 have K_r5 := OA
 clear BA SA KA OA CA
 refine tailJ_last (t := 15) (by kernel_rfl) rfl ?_
 intro w6 hb
 have HS' := Lib.hid (HS5.out.below hb)
 have C_c' := Lib.hid (C_c5.out.below hb)
 have C_e' := Lib.hid (C_e5.out.below hb)
 have K_q' := Lib.hid (K_q5.out.below hb)
 have K_r' := Lib.hid (K_r5.out.below hb)
 have HB' := Lib.hid (below_trans' HB5.out hb)
 clear hb HS5 HB5 C_c5 C_e5 K_q5 K_r5
 have HS5 := HS'
 have C_c5 := C_c'
 have C_e5 := C_e'
 have K_q5 := K_q'
 have K_r5 := K_r'
 have HB5 := HB'
 clear HS' C_c' C_e' K_q' K_r' HB'
 go_wp2_with fail
 refine NoPanic.normal ?_
 generalize (snapH y2.v.h l j n).2 = hr at HC HL0
 generalize (snapH y2.v.h l j n).1 = er at HL0 ⊢
 by_cases hz : er = 0
 rotate_left
 ·have HL : Hid (snapR v.rm a l j n = (er, v.rm)) := Lib.hid (by rw [HL0.out, if_pos hz])
  have h1 : (er != 0) = true := by simpa using hz
  go_wp2_with fail
  go_ret
  exact retO_no HL.out HS5.out.a HB5.out
 subst hz
 rw [if_neg (by simp)] at HL0
 have cr := K_r5.out.cell
 go_wp2_with fail
 clear cr
 with_reducible refine (countB_any e w6 C_e5.out).mono ?_
 rintro _ w8 ⟨rfl, hb⟩
 have HS6 := Lib.hid (HS5.out.below hb)
 have HB6 := Lib.hid (below_trans' HB5.out hb)
 have C_c6 := Lib.hid (C_c5.out.below hb)
 have K_q6 := Lib.hid (K_q5.out.below hb)
 have HCN := Lib.hid C_e5.out.ok.cnt
 clear hb HS5 HB5 C_c5 K_q5 K_r5
 go_wp2_with fail
 refine wp_region_hj [0, 1, 2, 3, 4, 5, 6, 7] [] [8] (fun W => OS st p w.heap.size v x W ∧ At W q c.arr 56) mixed (by kernel_rfl) (fun W W' h hb => ⟨h.1.below hb, h.2.below hb⟩) ⟨HS6.out.below (below_drew _), K_q6.out.below (below_drew _)⟩ ?_
 iterate 8
  refine canonG_read (v := ?_) rfl (by rfl) ?_ ?_
  rotate_left
  ·intro W hS
   have c2 : W.cell? ⟨p, 2, none⟩ = some (.slice v.A v.bs.length v.ca) := At.cell hS.1.a.room 2
   rw [HGB.out] at c2
   have cq := hS.2.cell
   go_simp <;> with_reducible rfl
  simp only [List.getElem_toArray, List.getElem_cons_zero, List.getElem_cons_succ, Act.put, List.setIfInBounds_toArray, List.set_cons_succ, List.set_cons_zero]
 refine canonG_nil ?_
 refine tailJ_last (t := 8) (by kernel_rfl) rfl ?_
 intro w7 hb
 have HI := Lib.hid (HS6.out.below (undrew hb)).a
 have HB7 := Lib.hid (below_trans' HB6.out (undrew hb))
 have C_c7 := Lib.hid (C_c6.out.below (undrew hb))
 clear hb HS6 HB6 C_c6 K_q6
 have hrob := HI.out.rb
 rw [HGB.out] at hrob
 have b1 : w7.cell? ⟨gb, k * 3 + 1, none⟩ = some (.slice y2.v.A y2.v.n y2.v.c) := own_cell nb_len (by omega) hrob HB2.out (j := 1) (by omega)
 have b2 : w7.cell? ⟨gb, k * 3 + 1 + 1, none⟩ = some (.slice y2.v.B y2.v.m y2.v.d) := own_cell nb_len (by omega) hrob HB2.out (j := 2) (by omega)
 have fb : ∀ j, w7.frozen? ⟨gb, j, none⟩ = false := fun j => hrob.frozenAt j
 have c6 : w7.cell? ⟨p, 6, none⟩ = some (.int .i64 v.lost) := At.cell HI.out.room 6
 have c5 : w7.cell? ⟨p, 5, none⟩ = some (.int .i64 v.bought) := At.cell HI.out.room 5
 have fp := HI.out.room.fz
 have hne : gb ≠ p := (HI.out.ne_b HGB.out).1
 have hne2 : p ≠ gb := fun e => hne e.symm
 have v1 : IntKind.i64.wrap (v.lost + e.h.cnt) = v.lost + e.h.cnt := IntWalk.i64_in _ (by have := HCN.out; omega)
 have v2 : IntKind.i64.wrap (v.bought + n) = v.bought + n := IntWalk.i64_in _ (by have := N_n.out; omega)
 obtain ⟨r1, r2⟩ := chg_fin e.h.cnt n H0.out HI.out HB7.out HGB.out HB2.out C_c7.out N_c.out
 skip
 have R1 := Lib.hid r1
 have R2 := Lib.hid r2
 clear hrob r1 r2
 go_wp2_with fail
 refine NoPanic.normal ?_
 go_wp2_with fail
 go_ret
 rw [HL0.out]
 refine ⟨rfl, _, ?_, R1.out, R2.out⟩
 have hb := rm_setB v k y2 c HB2.out
 rw [← HC.out, ← hb]
 have hz : e.h.cnt = 0 := by rw [HNO.out]; exact noH_cnt
 rw [hz]
 show Rm.mk _ _ _ _ _ _ _ = Rm.mk _ _ _ _ _ _ _
 simp [RV.rm]
end Go.Proofs.YtihhclhpjgeniaaGreatDoor
namespace Go.Proofs.YtihhclhpjgeniaaGreatDoor
open Go.RowKit Go.Sort
theorem OV.In.kp {S : Nat → Prop} {x : OV} {w w' : World} (h : x.In w) (k : Kp S w w') (hn : ∀ b, blk x.A x.n b ∨ blk x.B x.m b → ¬ S b) : x.In w' := ⟨h.r.kb k fun b hb => hn b (.inl hb), h.s.kb k fun b hb => hn b (.inr hb)⟩
structure NS (p K : Nat) (cs : Array Value) (x : OV) (W : World) : Prop where
 a : At W p cs 109
 k : At W K x.arr 114
 o : x.In W
theorem NS.below {p K : Nat} {cs : Array Value} {x : OV} {W W' : World} (h : NS p K cs x W) (hb : Below W.heap.size W W') : NS p K cs x W' := ⟨h.a.below hb, h.k.below hb, h.o.below hb⟩
theorem info126 : (Tryz.prog.info? 126).map (fun i => (i.zero, i.size, i.bytes)) = some (some (.agg #[.string ByteArray.empty, .string ByteArray.empty, .int .i64 0, .int .i64 0, .int .i64 0, .int .i64 0, .int .i64 0, .int .i64 0, .int .i64 0, .string ByteArray.empty, .int .i64 0, .int .i64 0, .slice none 0 0]), 13, 144) := by kernel_rfl
theorem nw_ones (b : NW) : ∀ u ∈ b.cells, u.oneCell' = true := by
 intro u hu
 simp only [NW.cells, wgL, List.cons_append, List.nil_append, List.mem_cons, List.not_mem_nil, or_false] at hu
 rcases hu with rfl | rfl | rfl | rfl | rfl | rfl | rfl | rfl | rfl | rfl | rfl | rfl | rfl <;> rfl
set_option maxRecDepth 100000 in
set_option maxHeartbeats 1000000 in
theorem beginO_any (v : RV) (st : Int) (p : Nat) (x : OV) (a b : List UInt8) (c len : Int) (w : World) (h : v.In st p w) (hx : x.In w) (hxF : ∀ k, blk x.A x.n k ∨ blk x.B x.m k → ¬ v.F p k) (han : x.o.names[0]? = some a) (hbn : x.o.names[1]? = some b) (ha : x.o.nums = [c, len]) (hc : inN c) (hlen : inN len) (hnl : a.length ≤ 1000000) (ht : Tab w) (hul : v.used.length ≤ 1000000) (hlb : v.bs.length ≤ 12) (hlw : v.ws.length ≤ 12) :
  Calls Tryz.prog 160 #[.pointer (some ⟨p, 0, none⟩), .agg x.arr] w (RetO v st p w (beginR v.rm a b c len)) := by
 have H0 := Lib.hid h
 have HX0 := Lib.hid hx
 have HXF := Lib.hid hxF
 have HS := Lib.hid (OS.box h hx ht)
 have HB := Lib.hid (belowA w (.cells x.arr 114))
 have HC : Hid (0 ≤ c ∧ c ≤ 1000000) := Lib.hid hc
 have HLN := Lib.hid hlen
 clear h hx hlen hc ht hxF
 go_enter Tryz.func160, Tryz.ntmps160
 go_wp2_with fail
 refine gen_at (M := fun W => Code.wp Tryz.prog _ _ _ W) (fun W => OS st p w.heap.size v x W ∧ Below w.heap.size w W) ⟨HS.out, HB.out⟩ ?_
 clear HS HB
 rintro w1 ⟨hs, hb⟩
 have HS := Lib.hid hs
 have HB := Lib.hid hb
 obtain ⟨ad, e1, hc1, hk1, -⟩ := hs.o.name han
 obtain ⟨ad2, e2', -, hk2, -⟩ := hs.o.name hbn
 obtain ⟨ae, e2, hd0, -, -⟩ := hs.o.num (k := 0) (a := c) (by rw [ha]; rfl)
 obtain ⟨ae1, e3, hd1, -, -⟩ := hs.o.num (k := 1) (a := len) (by rw [ha]; rfl)
 have e5 : ae1 = ae := by rw [e2] at e3; injection e3 with e3; exact e3.symm
 rw [show ad.add 0 = ad from rfl] at hc1
 rw [show ae.add 0 = ae from rfl] at hd0
 rw [e5, show ae.add 1 = ⟨ae.block, ae.off + 1, none⟩ from rfl] at hd1
 have hm3 : x.m = 2 := by rw [hs.o.m, ha]; rfl
 have k0 : (0 : Int) < (x.m : Int) := by rw [hm3]; decide
 have k1 : (1 : Int) < (x.m : Int) := by rw [hm3]; decide
 have k3 : (0 : Int) < (x.n : Int) := by omega
 have k3' : 0 < x.n := by omega
 have k4 : (1 : Int) < (x.n : Int) := by omega
 have g0 : ∀ d os, (grow (redrawn w1 d) os).cell? ad = some (.string (mkB a)) := rg_cell hc1
 have g1 : ∀ d os, (grow (redrawn w1 d) os).cell? ae = some (.int .i64 c) := rg_cell hd0
 have g2 : ∀ d os, (grow (redrawn w1 d) os).cell? ⟨ae.block, ae.off + 1, none⟩ = some (.int .i64 len) := rg_cell hd1
 have g4 : ∀ d os, (grow (redrawn w1 d) os).cell? ⟨w.heap.size, 3, none⟩ = some (.slice x.A x.n x.c) := rg_cell (hs.k.cell 3)
 have g5 : ∀ d os, (grow (redrawn w1 d) os).cell? ⟨w.heap.size, 5, none⟩ = some (.slice x.B x.m x.d) := rg_cell (hs.k.cell 5)
 rw [e1] at g4
 rw [e2] at g5
 clear hs hb hc1 hk1 hk2 hd0 hd1 e3 e5 hm3 e2' ad2
 refine wp_region_qb mixed (by kernel_rfl) ?_
 repeat (go_big_quiet_step (fail))
 refine wpQuiet_nil ?_
 intro w2 hb2
 have HS2 := Lib.hid (HS.out.below hb2)
 have HB2 := Lib.hid (below_trans' HB.out hb2)
 clear hb2 g0 g1 g2 g4 g5 HS HB k0 k1 e2
 have c3 : w2.cell? ⟨w.heap.size, 3, none⟩ = some (.slice (some ad) x.n x.c) := by rw [← e1]; exact HS2.out.k.cell 3
 obtain ⟨ad4, e4, hc4, -, -⟩ := HS2.out.o.name hbn
 have z4 : ad4 = ad := by rw [e1] at e4; injection e4 with e4; exact e4.symm
 rw [z4, show ad.add 1 = ⟨ad.block, ad.off + 1, none⟩ from rfl] at hc4
 clear e4 z4
 go_wp2_with fail
 clear c3 hc4
 with_reducible refine (bundleR_any v st p b w2 HS2.out.a hlb).mono ?_
 rintro _ w3 ⟨rfl, hb3⟩
 have HS3 := Lib.hid (HS2.out.below hb3)
 have HB3 := Lib.hid (below_trans' HB2.out hb3)
 clear hb3 HS2 HB2
 go_wp2_with fail
 with_reducible refine (freshR_any v st p a w3 HS3.out.a hnl).mono ?_
 rintro _ w4 ⟨rfl, rfl⟩
 obtain ⟨f, hf⟩ : ∃ f, v.rm.fresh a = f := ⟨_, rfl⟩
 have HF := Lib.hid hf
 rw [hf]
 clear hf
 cases f with
 | false =>
  have HL : Hid (beginR v.rm a b c len = (2, v.rm)) := Lib.hid (by unfold beginR; rw [if_pos HF.out])
  go_wp2_with fail
  go_ret
  exact retO_no HL.out HS3.out.a HB3.out
 | true =>
 cases hbb : v.rm.bun b with
 | none =>
  have HL : Hid (beginR v.rm a b c len = (5, v.rm)) := Lib.hid (by unfold beginR; rw [if_neg (by rw [HF.out]; simp), hbb])
  rw [show idxI none = -1 from rfl]
  go_wp2_with fail
  go_ret
  exact retO_no HL.out HS3.out.a HB3.out
 | some k =>
 rw [show idxI (some k) = (k : Int) from rfl]
 have hkn : ¬ ((k : Int) < 0) := by omega
 obtain ⟨y2, hy2⟩ : ∃ y2 : NB, v.bs[k]? = some y2 := by
  rw [bun_idx] at hbb
  obtain ⟨hk, _⟩ := List.findIdx?_eq_some_iff_getElem.1 hbb
  exact ⟨v.bs[k], List.getElem?_eq_getElem hk⟩
 have HY2 := Lib.hid hy2
 have hhr : v.rm.hr k = y2.v.h := by rw [bs_at, hy2]; rfl
 have hlen : v.rm.ws.length = v.ws.length := by show (v.ws.map _).length = _; simp
 have HL0 : Hid (beginR v.rm a b c len = if len < 1 ∨ 24 < len ∨ c = 0 then (1, v.rm)
  else if 12 ≤ v.ws.length then (4, v.rm)
  else if (cutH y2.v.h (ofH c len)).1 ≠ 0 then ((cutH y2.v.h (ofH c len)).1, v.rm)
  else (0, { v.rm.setH k (cutH y2.v.h (ofH c len)).2 with used := v.rm.used ++ [a], ws := v.rm.ws ++ [newW a b c len] })) := Lib.hid (by
  unfold beginR; rw [if_neg (by rw [HF.out]; simp), hbb]; dsimp only; rw [hhr, hlen])
 clear hy2 hhr hlen hbb
 by_cases h1 : len < 1
 ·have HL : Hid (beginR v.rm a b c len = (1, v.rm)) := Lib.hid (by rw [HL0.out, if_pos (.inl h1)])
  go_wp2_with fail
  go_ret
  exact retO_no HL.out HS3.out.a HB3.out
 by_cases h2 : 24 < len
 ·have HL : Hid (beginR v.rm a b c len = (1, v.rm)) := Lib.hid (by rw [HL0.out, if_pos (.inr (.inl h2))])
  go_wp2_with fail
  go_ret
  exact retO_no HL.out HS3.out.a HB3.out
 by_cases h3 : c = 0
 ·have h3' : (c == 0) = true := by simpa using h3
  have HL : Hid (beginR v.rm a b c len = (1, v.rm)) := Lib.hid (by rw [HL0.out, if_pos (.inr (.inr h3))])
  go_wp2_with fail
  go_ret
  exact retO_no HL.out HS3.out.a HB3.out
 have h3' : (c == 0) = false := by simpa using h3
 rw [if_neg (by omega)] at HL0
 have c3 : w4.cell? ⟨p, 3, none⟩ = some (.slice v.B v.ws.length v.cb) := At.cell HS3.out.a.room 3
 by_cases h4 : 12 ≤ v.ws.length
 ·have h4' : (12 : Int) ≤ (v.ws.length : Int) := by omega
  have HL : Hid (beginR v.rm a b c len = (4, v.rm)) := Lib.hid (by rw [HL0.out, if_pos h4])
  go_wp2_with fail
  go_ret
  exact retO_no HL.out HS3.out.a HB3.out
 have h4' : ¬ (12 : Int) ≤ (v.ws.length : Int) := by omega
 rw [if_neg h4] at HL0
 have HH : Hid (1 ≤ len ∧ len ≤ 24) := Lib.hid (by omega)
 go_wp2_with fail
 clear c3 h1 h2 h3 h3' h4 h4'
 with_reducible refine (cutR_any v st p k y2 c len w4 HS3.out.a HY2.out HC.out HH.out hlb).mono ?_
 rintro _ w5 ⟨rfl, v1, hrm, hi, hrs⟩
 have H5 := Lib.hid hi
 have HR5 := Lib.hid ((Rs.below (v := v) (p := p) HB3.out).trans hrs)
 have HK5 : Hid (At w5 w.heap.size x.arr 114) := Lib.hid (HS3.out.k.kp hrs.kp (fun e => by have := H0.out.lt (.inl e); omega))
 have HX5 : Hid (x.In w5) := Lib.hid (HS3.out.o.kp hrs.kp HXF.out)
 have HRM := Lib.hid hrm
 clear hi hrs hrm HS3
 obtain ⟨D, hD⟩ : ∃ D, cutH y2.v.h (ofH c len) = D := ⟨_, rfl⟩
 rw [hD] at HL0 HRM ⊢
 clear hD
 obtain ⟨er, hr⟩ := D
 dsimp only [cutX] at HL0 HRM ⊢
 by_cases hz : er = 0
 rotate_left
 ·have h1 : (er != 0) = true := by simpa using hz
  have HRM1 : Hid (v1.rm = v.rm) := Lib.hid (by rw [HRM.out]; exact if_neg hz)
  have HL : Hid (beginR v.rm a b c len = (er, v.rm)) := Lib.hid (by rw [HL0.out, if_pos hz])
  clear HRM
  go_wp2_with fail
  go_ret
  rw [HL.out]
  exact ⟨rfl, v1, HRM1.out, H5.out, HR5.out⟩
 subst hz
 rw [if_neg (by simp)] at HL0
 have HRM1 : Hid (v1.rm = v.rm.setH k hr) := Lib.hid (by rw [HRM.out]; exact if_pos rfl)
 clear HRM
 have hu1 : v1.used = v.used := by have := congrArg Rm.used HRM1.out; exact this
 have hw1 : v1.ws.length = v.ws.length := by have := congrArg (fun r : Rm => r.ws.length) HRM1.out; simpa [RV.rm, Rm.setH] using this
 have c4 : w5.cell? ⟨p, 4, none⟩ = some (.map (some v1.M)) := At.cell H5.out.room 4
 obtain ⟨w6, hr6, hm6, hg6⟩ := H5.out.mp.store a (by unfold maxLen; omega) (by rw [hu1]; unfold maxLen; omega)
 go_wp2_with fail
 obtain ⟨hv6, hk6⟩ := H5.out.addN hm6 hg6
 have hMF : v1.F p v1.M := .inr (.inl rfl)
 have hMlt := H5.out.lt (.inl hMF)
 have hMn : v.F p v1.M ∨ w.heap.size ≤ v1.M := HR5.out.f _ hMF
 have V6 := Lib.hid hv6
 have HR6 : Hid (Rs p v w { v1 with used := v1.used ++ [a] } w6) := Lib.hid (HR5.out.step hk6 (fun x _ e => by rw [e]; exact hMF) (fun j hj => .inl hj) (fun j hj => .inl hj))
 have HA : Hid (w.heap.size ≠ v1.M ∧ ∀ j, blk x.A x.n j ∨ blk x.B x.m j → j ≠ v1.M) := Lib.hid ⟨fun e => H5.out.mp.ne HK5.out e.symm, fun j hj e => by
  rcases hMn with h | h
  ·exact HXF.out j hj (by rw [e]; exact h)
  ·have := hj.elim HX0.out.r.blk_lt HX0.out.s.blk_lt
   omega⟩
 have S6 : Hid (NS p w.heap.size (({ v1 with used := v1.used ++ [a] } : RV).cells st) x w6) := Lib.hid ⟨hv6.room, HK5.out.kp hk6 HA.out.1, HX5.out.kp hk6 (fun j hj e => HA.out.2 j hj e)⟩
 clear hv6 hk6 hr6 hm6 hg6 c4 hMF hMlt hMn HK5 HX5 H5 HR5 HA
 have hv2e : ({ v1 with used := v1.used ++ [a] } : RV).rm = { v.rm.setH k hr with used := v.rm.used ++ [a] } := by
  have e1 : ({ v1 with used := v1.used ++ [a] } : RV).rm = { v1.rm with used := v1.used ++ [a] } := rfl
  rw [e1, HRM1.out, hu1]
  rfl
 obtain ⟨v2, hv2⟩ : ∃ v2 : RV, v2 = { v1 with used := v1.used ++ [a] } := ⟨_, rfl⟩
 have hlw2 : v2.ws.length ≤ 12 := by rw [hv2]; exact Nat.le_trans (Nat.le_of_eq hw1) hlw
 rw [← hv2] at V6 HR6 S6 hv2e
 have HV2 := Lib.hid hv2e
 clear hv2e hv2 hu1 HRM1 hw1
 refine wp_region_hj [0, 1, 2, 3, 4, 5, 6, 7, 8, 9, 10, 11, 12, 13, 14, 17, 18] [] [15, 16, 19] (fun W => NS p w.heap.size (v2.cells st) x W) mixed (by kernel_rfl) (fun W W' h hb => h.below hb) (S6.out.below (below_drew _)) ?_
 iterate 17
  refine canonG_read (v := ?_) rfl (by rfl) ?_ ?_
  rotate_left
  ·intro W hS
   have q2 : W.cell? ⟨p, 3, none⟩ = some (.slice v2.B v2.ws.length v2.cb) := At.cell hS.a 3
   have c3 : W.cell? ⟨w.heap.size, 3, none⟩ = some (.slice (some ad) x.n x.c) := by rw [← e1]; exact hS.k.cell 3
   obtain ⟨ad4, e4, hc4, -, -⟩ := hS.o.name hbn
   have z4 : ad4 = ad := by rw [e1] at e4; injection e4 with e4; exact e4.symm
   rw [z4, show ad.add 1 = ⟨ad.block, ad.off + 1, none⟩ from rfl] at hc4
   clear e4 z4
   go_simp <;> with_reducible rfl
  simp only [List.getElem_toArray, List.getElem_cons_zero, List.getElem_cons_succ, Act.put, List.setIfInBounds_toArray, List.set_cons_succ, List.set_cons_zero]
 refine canonG_nil ?_
 refine tailJ_one (t := 15) (ts' := [16, 19]) (ps' := []) (ns := []) (by kernel_rfl) rfl (by kernel_rfl) (by kernel_rfl) rfl ?_
 intro W1 hb
 have V1 := Lib.hid (V6.out.below (undrew hb))
 have S1 := Lib.hid (S6.out.below (undrew hb))
 have R1 := Lib.hid (HR6.out.grow (undrew hb))
 clear hb V6 S6 HR6
 go_wp2_with fail
 have N2 := Lib.hid (At.new W1 #[.string (mkB a), .string (mkB b), .int .i64 c, .int .i64 0, .int .i64 0, .int .i64 len, .int .i64 5, .int .i64 0, .int .i64 0, .string (ByteArray.mk #[]), .int .i64 0, .int .i64 0, .slice none 0 0] 126)
 have V2 := Lib.hid (V1.out.below (belowA W1 (.cells #[.string (mkB a), .string (mkB b), .int .i64 c, .int .i64 0, .int .i64 0, .int .i64 len, .int .i64 5, .int .i64 0, .int .i64 0, .string (ByteArray.mk #[]), .int .i64 0, .int .i64 0, .slice none 0 0] 126)))
 have S2 := Lib.hid (S1.out.below (belowA W1 (.cells #[.string (mkB a), .string (mkB b), .int .i64 c, .int .i64 0, .int .i64 0, .int .i64 len, .int .i64 5, .int .i64 0, .int .i64 0, .string (ByteArray.mk #[]), .int .i64 0, .int .i64 0, .slice none 0 0] 126)))
 have R2 := Lib.hid (R1.out.grow (belowA W1 (.cells #[.string (mkB a), .string (mkB b), .int .i64 c, .int .i64 0, .int .i64 0, .int .i64 len, .int .i64 5, .int .i64 0, .int .i64 0, .string (ByteArray.mk #[]), .int .i64 0, .int .i64 0, .slice none 0 0] 126)))
 have L2 := Lib.hid R1.out.kp.size
 clear V1 S1 R1
 generalize W1.alloc (.cells _ 126) = W2 at N2 V2 S2 R2 ⊢
 generalize W1.heap.size = M at N2 L2 ⊢
 refine ⟨S2.out, canonG_nil ?_⟩
 refine tailJ_one (t := 16) (ts' := [19]) (ps' := []) (ns := []) (by kernel_rfl) rfl (by kernel_rfl) (by kernel_rfl) rfl ?_
 intro W3 hb
 have N3 := Lib.hid (N2.out.below hb)
 have V3 := Lib.hid (V2.out.below hb)
 have S3 := Lib.hid (S2.out.below hb)
 have R3 := Lib.hid (R2.out.grow hb)
 clear hb N2 V2 S2 R2
 have hrd : Reads W3 W3.heap.size 13 (some ⟨M, 0, none⟩) 1 (NW.cells ⟨newW a b c len, none, 0, 0⟩) := ⟨rfl, fun _ => ⟨_, rfl, N3.out.lt, fun j x hj => by rw [Addr.add_mid, Nat.zero_add, At.cell N3.out j, show (#[.string (mkB a), .string (mkB b), .int .i64 c, .int .i64 0, .int .i64 0, .int .i64 len, .int .i64 5, .int .i64 0, .int .i64 0, .string (ByteArray.mk #[]), .int .i64 0, .int .i64 0, .slice none 0 0] : Array Value) = (NW.cells ⟨newW a b c len, none, 0, 0⟩).toArray from rfl]; simpa using hj⟩⟩
 refine wpList_pushXm rfl _ _ 106 126 rfl Tryz.underlying106 info126 rfl (by decide) (by decide) 0 _ v2.B v2.ws.length v2.cb (v2.ws.flatMap NW.cells) (some ⟨M, 0, none⟩) 1 1 (NW.cells ⟨newW a b c len, none, 0, 0⟩) rfl V3.out.rw (Nat.zero_le _) rfl hrd (nw_ones _) (by omega) ?_
 intro A' c' X ho hg hl2
 have hbp := V3.out.ne_p
 have S4 : Hid (At X p (v2.cells st) 109) := Lib.hid (S3.out.a.grown hg (fun e => by
   obtain ⟨q, hq, hk⟩ := ownb e
   exact hbp.2.2.1 q hq hk))
 have SX : Hid (NS p w.heap.size (v2.cells st) x X) := Lib.hid ⟨S4.out, S3.out.k.grown hg (fun e => by
   obtain ⟨q, hq, hk⟩ := ownb e
   obtain ⟨_, cs, fr, hc⟩ := row_addr V3.out.rw hq
   have h1 : W3.heap[w.heap.size]? = _ := S3.out.k
   rw [hk, h1] at hc
   simp at hc), S3.out.o.kp (kp_grown_row hg) (fun j hj e => by
   obtain ⟨q, hq, hk⟩ := e
   rcases R3.out.f j (.inr (.inr (.inr (.inl ⟨q, hq, hk⟩)))) with h | h
   ·exact HXF.out j hj h
   ·have := hj.elim HX0.out.r.blk_lt HX0.out.s.blk_lt
    omega)⟩
 have HO := Lib.hid ho
 have HG := Lib.hid hg
 have HL2 := Lib.hid hl2
 clear ho hg hl2 hbp hrd
 go_wp2_with fail
 refine ⟨SX.out, canonG_nil ?_⟩
 refine tailJ_last (t := 19) (by kernel_rfl) rfl ?_
 intro W5 hb
 have HO5 := Lib.hid (row_on HO.out hb)
 have HG5 := Lib.hid (grown_on HG.out hb)
 have S5 := Lib.hid (S4.out.below hb)
 clear hb HO HG S4
 have fr := S5.out.fz
 have cr : W5.cell? ⟨p, 3, none⟩ = some (.slice v2.B v2.ws.length v2.cb) := At.cell S5.out 3
 go_wp2_with fail
 refine NoPanic.normal ?_
 go_wp2_with fail
 go_ret
 obtain ⟨r1, r2, r3, r4⟩ := V3.out.addW (x := ⟨newW a b c len, none, 0, 0⟩) ⟨Reads.nil, Nat.le_refl _⟩ (fun k hk => absurd rfl hk.1) HO5.out HG5.out HL2.out
 rw [HL0.out]
 refine ⟨rfl, _, ?_, r1, R3.out.step r2 (fun x _ e => ?_) (fun j hj => (r3 j hj).imp id fun h => Nat.le_trans R3.out.kp.size h) (fun j hj => (r4 j hj).imp id fun h => absurd rfl h.1)⟩
 ·have : ({ v2 with B := A', cb := c', ws := v2.ws ++ [⟨newW a b c len, none, 0, 0⟩] } : RV).rm = { v2.rm with ws := v2.rm.ws ++ [newW a b c len] } := by simp [RV.rm]
  rw [this, HV2.out]
  rfl
 ·rcases e with e | e
  ·exact .inl e
  ·exact .inr (.inr (.inr (.inl e)))
end Go.Proofs.YtihhclhpjgeniaaGreatDoor
