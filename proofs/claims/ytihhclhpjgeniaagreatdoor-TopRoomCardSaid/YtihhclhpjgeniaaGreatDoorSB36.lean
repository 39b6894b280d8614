/- Merged texts: Gr -/
import Derived.Test.YtihhclhpjgeniaaGreatDoorSB21
import Derived.Test.YtihhclhpjgeniaaGreatDoorSB22
import Derived.Test.YtihhclhpjgeniaaGreatDoorSB32
import Derived.Test.YtihhclhpjgeniaaGreatDoorSB35
namespace Go.Proofs.YtihhclhpjgeniaaGreatDoor
open Go.RowKit Go.Sort
theorem chg_fin {v : RV} {st : Int} {p : Nat} {w W : World} {gb k : Nat} {y2 : NB} {c : BV} (l m : Int) (h0 : v.In st p w) (h : v.In st p W) (hb : Below w.heap.size w W) (hgb : v.A = some ⟨gb, 0, none⟩) (hy2 : v.bs[k]? = some y2) (hc : c.In W) (hcn : c.New w.heap.size) :
  ({ v with bs := v.bs.set k ⟨y2.name, c⟩, lost := v.lost + l, bought := v.bought + m } : RV).In st p ((((W.setCell ⟨gb, k * 3 + 1, none⟩ (.slice c.A c.n c.c)).setCell ⟨gb, k * 3 + 1 + 1, none⟩ (.slice c.B c.m c.d)).setCell ⟨p, 6, none⟩ (.int .i64 (v.lost + l))).setCell ⟨p, 5, none⟩ (.int .i64 (v.bought + m))) ∧
  Rs p v w { v with bs := v.bs.set k ⟨y2.name, c⟩, lost := v.lost + l, bought := v.bought + m } ((((W.setCell ⟨gb, k * 3 + 1, none⟩ (.slice c.A c.n c.c)).setCell ⟨gb, k * 3 + 1 + 1, none⟩ (.slice c.B c.m c.d)).setCell ⟨p, 6, none⟩ (.int .i64 (v.lost + l))).setCell ⟨p, 5, none⟩ (.int .i64 (v.bought + m))) := by
 obtain ⟨a1, a2⟩ := bun_end h0 h hb hgb hy2 hc hcn
 obtain ⟨b1, b2⟩ := a1.setN (v' := { v with bs := v.bs.set k ⟨y2.name, c⟩, lost := v.lost + l }) (s' := st) 6 (.int .i64 (v.lost + l)) (by simp [RV.cells]) ⟨rfl, rfl, rfl, rfl⟩ ⟨rfl, rfl, rfl, rfl⟩ ⟨rfl, rfl, rfl⟩
 obtain ⟨c1, c2⟩ := b1.setN (v' := { v with bs := v.bs.set k ⟨y2.name, c⟩, lost := v.lost + l, bought := v.bought + m }) (s' := st) 5 (.int .i64 (v.bought + m)) (by simp [RV.cells]) ⟨rfl, rfl, rfl, rfl⟩ ⟨rfl, rfl, rfl, rfl⟩ ⟨rfl, rfl, rfl⟩
 exact ⟨c1, (a2.trans b2).trans c2⟩
structure HS (st : Int) (p K : Nat) (v : RV) (x : OV) (q r : Nat) (c e : BV) (W : World) : Prop where
 s : OS st p K v x W
 q : At W q c.arr 56
 r : At W r e.arr 56
theorem HS.below {st : Int} {p K : Nat} {v : RV} {x : OV} {q r : Nat} {c e : BV} {W W' : World} (h : HS st p K v x q r c e W) (hb : Below W.heap.size W W') : HS st p K v x q r c e W' := ⟨h.s.below hb, h.q.below hb, h.r.below hb⟩
theorem HS.new {st : Int} {p K : Nat} {v : RV} {x : OV} {W : World} (h : OS st p K v x W) (c : BV) : HS st p K v x W.heap.size (W.heap.size + 1) c noB ((W.alloc (.cells c.arr 56)).alloc (.cells noArr 56)) :=
 ⟨h.below (bel2 W _ _), (At.new W _ 56).al _, at_n1 W _ _ 56⟩
theorem OS.putq {v : RV} {st : Int} {p : Nat} {x : OV} {w W : World} {q : Nat} (h : OS st p w.heap.size v x W) (h0 : v.In st p w) (hb : Below w.heap.size w W) (hq : w.heap.size ≤ q) (a b : Value) (hK : q ≠ w.heap.size) (hx : x.In w) (ht : Tab w) :
  OS st p w.heap.size v x ((W.setCell ⟨q, 0, none⟩ a).setCell ⟨q, 1, none⟩ b) := by
 have hb2 := below_put (below_put hb (p := ⟨q, 0, none⟩) hq a) (p := ⟨q, 1, none⟩) hq b
 exact ⟨h0.below hb2, hx.below hb2, (h.k.far (p := ⟨q, 0, none⟩) (fun e => hK e.symm) a).far (p := ⟨q, 1, none⟩) (fun e => hK e.symm) b, tab_below ht hb2⟩
set_option maxRecDepth 100000 in
set_option maxHeartbeats 1000000 in
theorem hackO_any (v : RV) (st : Int) (p : Nat) (x : OV) (a : List UInt8) (n : Int) (w : World) (h : v.In st p w) (hx : x.In w) (hk : x.o.kind = 3) (han : x.o.names[0]? = some a) (ha : x.o.nums = [n]) (h_n : inN n) (ht : Tab w) (hlb : v.bs.length ≤ 12) (hlost : 0 ≤ v.lost ∧ v.lost ≤ 1000000000) (hbo : 0 ≤ v.bought ∧ v.bought ≤ 1000000000) :
  Calls Tryz.prog 159 #[.pointer (some ⟨p, 0, none⟩), .agg x.arr] w (RetO v st p w (hackR v.rm a n)) := by
 have hkk : ((x.o.kind : Nat) : Int) = 3 := by rw [hk]; rfl
 have H0 := Lib.hid h
 have HW := Lib.hid (OS.box h hx ht)
 have HB := Lib.hid (belowA w (.cells x.arr 114))
 have N_n : Hid (0 ≤ n ∧ n ≤ 1000000) := Lib.hid h_n
 clear h_n
 obtain ⟨ad, e1, -, hk1, -⟩ := hx.name han
 have hkn : (0 : Int) < (x.n : Int) := by omega
 obtain ⟨ae, e2, -, hk2, -⟩ := hx.num (k := 0) (by rw [ha]; rfl)
 have hm : x.m = 1 := by rw [hx.m, ha]; rfl
 have hm0 : (0 : Int) < (x.m : Int) := by rw [hm]; decide
 clear hm
 have HX0 := Lib.hid hx
 have HT0 := Lib.hid ht
 clear h hx ht hk
 obtain ⟨e, hee⟩ : ∃ e : BV, e = noB := ⟨_, rfl⟩
 have HNO := Lib.hid hee
 clear hee
 have ck := HW.out.k.cell
 obtain ⟨ad4, e4, hc4, -, -⟩ := HW.out.o.name (k := 0) han
 have z4 : ad4 = ad := by rw [e1] at e4; injection e4 with e4; exact e4.symm
 rw [z4, show ad.add 0 = ad from rfl] at hc4
 have c3 : (w.alloc (.cells x.arr 114)).cell? ⟨w.heap.size, 3, none⟩ = some (.slice (some ad) x.n x.c) := by rw [← e1]; exact HW.out.k.cell 3
 clear e4 z4
 go_enter Tryz.func159, Tryz.ntmps159
 go_wp2_with fail
 clear ck hc4 c3
 with_reducible refine (bundleR_any v st p a _ HW.out.a hlb).mono ?_
 rintro _ w2 ⟨rfl, hb⟩
 have HS2 := Lib.hid (HW.out.below hb)
 have HB2' := Lib.hid (below_trans' HB.out hb)
 clear hb HW HB
 cases hbb : v.rm.bun a with
 | none =>
  have HL : Hid (hackR v.rm a n = (5, v.rm)) := Lib.hid (by unfold hackR; rw [hbb])
  rw [show idxI none = -1 from rfl]
  go_wp2_with fail
  go_ret
  exact retO_no HL.out HS2.out.a HB2'.out
 | some k =>
 rw [show idxI (some k) = (k : Int) from rfl]
 have hkn0 : ¬ ((k : Int) < 0) := by omega
 obtain ⟨y2, hy2, gb, hgb⟩ : ∃ y2 : NB, v.bs[k]? = some y2 ∧ ∃ gb, v.A = some ⟨gb, 0, none⟩ := by
  rw [bun_idx] at hbb
  obtain ⟨hk, _⟩ := List.findIdx?_eq_some_iff_getElem.1 hbb
  refine ⟨v.bs[k], List.getElem?_eq_getElem hk, ?_⟩
  exact own_form HS2.out.a.rb (by omega)
 have HB2 := Lib.hid hy2
 have HGB := Lib.hid hgb
 have hkl : k < v.bs.length := (List.getElem?_eq_some_iff.1 hy2).1
 have hkl' : (k : Int) < (v.bs.length : Int) := by omega
 have hhr : v.rm.hr k = y2.v.h := by rw [bs_at, hy2]; rfl
 have HL0 : Hid (hackR v.rm a n = if (hackH y2.v.h n).1 ≠ 0 then ((hackH y2.v.h n).1, v.rm) else (0, { v.rm.setH k (hackH y2.v.h n).2.1 with lost := v.rm.lost + cntH (hackH y2.v.h n).2.2.op })) := Lib.hid (by unfold hackR; rw [hbb]; dsimp only; rw [hhr])
 clear hy2 hgb hhr hbb
 have hrob := HS2.out.a.rb
 have c2 : w2.cell? ⟨p, 2, none⟩ = some (.slice v.A v.bs.length v.ca) := At.cell HS2.out.a.room 2
 rw [HGB.out] at c2 hrob
 have b1 : w2.cell? ⟨gb, k * 3 + 1, none⟩ = some (.slice y2.v.A y2.v.n y2.v.c) := own_cell nb_len (by omega) hrob HB2.out (j := 1) (by omega)
 have b2 : w2.cell? ⟨gb, k * 3 + 1 + 1, none⟩ = some (.slice y2.v.B y2.v.m y2.v.d) := own_cell nb_len (by omega) hrob HB2.out (j := 2) (by omega)
 have ck : w2.cell? ⟨w.heap.size, 0, none⟩ = some (.int .i64 x.o.kind) := HS2.out.k.cell 0
 rw [hkk] at ck
 have hlt := HS2.out.k.lt
 clear hrob
 go_wp2_with fail
 refine gen_at (M := fun W => Code.wp Tryz.prog _ _ _ W) (fun W => HS st p w.heap.size v x w2.heap.size (w2.heap.size + 1) y2.v e W ∧ Below w.heap.size w W) ⟨?_, below_trans' HB2'.out (bel2 w2 _ _)⟩ ?_
 ·rw [HNO.out]; exact HS.new HS2.out y2.v
 have HQ : Hid (w.heap.size ≤ w2.heap.size) := Lib.hid HB2'.out.size
 have HQ1 : Hid (w.heap.size < w2.heap.size) := Lib.hid HS2.out.k.lt
 clear HS2 HB2'
 generalize w2.heap.size = q at HQ HQ1 ⊢
 rintro w3 ⟨h3, hb3⟩
 have HS3 := Lib.hid h3
 have HB3 := Lib.hid hb3
 clear h3 hb3 c2 b1 b2 ck hlt
 refine wp_region_hk [0, 1, 2, 3, 4] [6, 7, 8, 9] [5, 10, 11, 12] (fun W => HS st p w.heap.size v x q (q + 1) y2.v e W) mixed (by kernel_rfl) (fun W W' h hb => h.below hb) (HS3.out.below (below_drew _)) ?_
 iterate 5
  refine canonG_read (v := ?_) rfl (by rfl) ?_ ?_
  rotate_left
  ·intro W hS
   have cq := hS.q.cell
   have c5 : W.cell? ⟨w.heap.size, 5, none⟩ = some (.slice x.B x.m x.d) := hS.s.k.cell 5
   rw [e2] at c5
   obtain ⟨ad0, e0, hd0, -, -⟩ := hS.s.o.num (k := 0) (a := n) (by rw [ha]; rfl)
   have z0 : ad0 = ae := by rw [e2] at e0; injection e0 with e0; exact e0.symm
   rw [z0, show ae.add 0 = ae from rfl] at hd0
   clear e0 z0
   go_simp <;> with_reducible rfl
  simp only [List.getElem_toArray, List.getElem_cons_zero, List.getElem_cons_succ, Act.put, List.setIfInBounds_toArray, List.set_cons_succ, List.set_cons_zero]
 refine canonG_nil ?_
 refine tailK_one (t := 5) (ts' := [10, 11, 12]) (ps' := []) (ns := [6, 7, 8, 9]) (by kernel_rfl) rfl (by kernel_rfl) (by kernel_rfl) rfl (by kernel_rfl) ?_
 intro W1 hb
 have HS4 := Lib.hid (HS3.out.below (undrew hb))
 have HB4 := Lib.hid (below_trans' HB3.out (undrew hb))
 clear hb HS3 HB3
 have hy2 := HS4.out.s.a.hb y2 (List.mem_of_getElem? HB2.out)
 go_wp2_with fail
 with_reducible refine (hack_any y2.v n W1 hy2 N_n.out).mono ?_
 rintro _ W2 ⟨c, e3, hc, he, rfl, hci, hei, hcn, hen, hb⟩
 have HSW2 := Lib.hid (HS4.out.below hb)
 have BW2 := Lib.hid (below_trans' HB4.out hb)
 have HC := Lib.hid hc
 have HE := Lib.hid he
 have C_cW2 := Lib.hid hci
 have C_eW2 := Lib.hid hei
 have N_c : Hid (c.New w.heap.size) := Lib.hid (hcn.mono HB4.out.size)
 have X_c : Hid (∀ j, blk c.A c.n j ∨ blk c.B c.m j → j ≠ q ∧ j ≠ q + 1) := Lib.hid (fun j hj => by have h1 := hcn j hj; have h2 := HS4.out.q.lt; have h3 := HS4.out.r.lt; omega)
 have X_e : Hid (∀ j, blk e3.A e3.n j ∨ blk e3.B e3.m j → j ≠ q ∧ j ≠ q + 1) := Lib.hid (fun j hj => by have h1 := hen j hj; have h2 := HS4.out.q.lt; have h3 := HS4.out.r.lt; omega)
 clear hc he hci hei hcn hen hb HS4 HB4 hy2
 go_wp2_with fail
 refine ⟨HSW2.out, ?_⟩
 iterate 4
  refine canonG_read (v := ?_) rfl (by rfl) ?_ ?_
  rotate_left
  ·intro W hS
   go_simp <;> with_reducible rfl
  simp only [List.getElem_toArray, List.getElem_cons_zero, List.getElem_cons_succ, Act.put, List.setIfInBounds_toArray, List.set_cons_succ, List.set_cons_zero]
 refine canonG_nil ?_
 refine tailK_close (t := 10) (ts' := [11, 12]) (by kernel_rfl) rfl rfl (by kernel_rfl) ?_
 intro W3 hb
 have S3 := Lib.hid (HSW2.out.s.below hb)
 have Q3 := Lib.hid (HSW2.out.q.below hb)
 have R3 := Lib.hid (HSW2.out.r.below hb)
 have B3 := Lib.hid (below_trans' BW2.out hb)
 have C3 := Lib.hid (C_cW2.out.below hb)
 have E3 := Lib.hid (C_eW2.out.below hb)
 clear hb HSW2 BW2 C_cW2 C_eW2
 have cr := Q3.out.cell
 have fr := Q3.out.fz
 have BA : Hid (Below w.heap.size w _) := Lib.hid (below_put (below_put B3.out (p := ⟨q, 0, none⟩) HQ.out (.slice c.A c.n c.c)) (p := ⟨q, 1, none⟩) HQ.out (.slice c.B c.m c.d))
 have SA : Hid (OS st p w.heap.size v x _) := Lib.hid (S3.out.putq H0.out B3.out HQ.out (.slice c.A c.n c.c) (.slice c.B c.m c.d) (by have := HQ1.out; omega) HX0.out HT0.out)
 have KA : Hid (At _ (q) c.arr 56) := Lib.hid ((Q3.out.set 0 (.slice c.A c.n c.c)).set 1 (.slice c.B c.m c.d))
 have OA : Hid (At _ (q + 1) e.arr 56) := Lib.hid ((R3.out.far (p := ⟨q, 0, none⟩) (show q + 1 ≠ q by omega) (.slice c.A c.n c.c)).far (p := ⟨q, 1, none⟩) (show q + 1 ≠ q by omega) (.slice c.B c.m c.d))
 have CA : Hid (c.In _) := Lib.hid (C3.out.kb (S := fun x => x = q) (((Kp.refl (fun x => x = q) W3).set (p := ⟨q, 0, none⟩) (fun _ => rfl) (.slice c.A c.n c.c)).set (p := ⟨q, 1, none⟩) (fun _ => rfl) (.slice c.B c.m c.d)) (fun j hj => (X_c.out j (.inl hj)).1) (fun j hj => (X_c.out j (.inr hj)).1))
 have EA : Hid (e3.In _) := Lib.hid (E3.out.kb (S := fun x => x = q) (((Kp.refl (fun x => x = q) W3).set (p := ⟨q, 0, none⟩) (fun _ => rfl) (.slice c.A c.n c.c)).set (p := ⟨q, 1, none⟩) (fun _ => rfl) (.slice c.B c.m c.d)) (fun j hj => (X_e.out j (.inl hj)).1) (fun j hj => (X_e.out j (.inr hj)).1))
 go_wp2_with fail
 refine thn ?_
 generalize (W3.setCell ⟨q, 0, none⟩ (.slice c.A c.n c.c)).setCell ⟨q, 1, none⟩ (.slice c.B c.m c.d) = W4 at BA SA KA OA CA EA ⊢
 have B4 := BA
 have S4 := SA
 have Q4 := KA
 have R4 := OA
 have C4 := CA
 have E4 := EA
 clear BA SA KA OA CA EA cr fr B3 S3 Q3 R3 C3 E3
 refine tails_one (t := 11) (ts' := [12]) (by kernel_rfl) rfl rfl ?_
 intro W5 hb
 have B5 := Lib.hid (below_trans' B4.out hb)
 have S5 := Lib.hid (S4.out.below hb)
 have Q5 := Lib.hid (Q4.out.below hb)
 have R5 := Lib.hid (R4.out.below hb)
 have C5 := Lib.hid (C4.out.below hb)
 have E5 := Lib.hid (E4.out.below hb)
 clear hb B4 S4 Q4 R4 C4 E4
 have cr := R5.out.cell
 have fr := R5.out.fz
 have BA : Hid (Below w.heap.size w _) := Lib.hid (below_put (below_put B5.out (p := ⟨q + 1, 0, none⟩) (show w.heap.size ≤ q + 1 by have := HQ.out; omega) (.slice e3.A e3.n e3.c)) (p := ⟨q + 1, 1, none⟩) (show w.heap.size ≤ q + 1 by have := HQ.out; omega) (.slice e3.B e3.m e3.d))
 have SA : Hid (OS st p w.heap.size v x _) := Lib.hid (S5.out.putq H0.out B5.out (show w.heap.size ≤ q + 1 by have := HQ.out; omega) (.slice e3.A e3.n e3.c) (.slice e3.B e3.m e3.d) (by have := HQ1.out; omega) HX0.out HT0.out)
 have KA : Hid (At _ (q + 1) e3.arr 56) := Lib.hid ((R5.out.set 0 (.slice e3.A e3.n e3.c)).set 1 (.slice e3.B e3.m e3.d))
 have OA : Hid (At _ q c.arr 56) := Lib.hid ((Q5.out.far (p := ⟨q + 1, 0, none⟩) (show q ≠ q + 1 by omega) (.slice e3.A e3.n e3.c)).far (p := ⟨q + 1, 1, none⟩) (show q ≠ q + 1 by omega) (.slice e3.B e3.m e3.d))
 have CA : Hid (c.In _) := Lib.hid (C5.out.kb (S := fun x => x = q + 1) (((Kp.refl (fun x => x = q + 1) W5).set (p := ⟨q + 1, 0, none⟩) (fun _ => rfl) (.slice e3.A e3.n e3.c)).set (p := ⟨q + 1, 1, none⟩) (fun _ => rfl) (.slice e3.B e3.m e3.d)) (fun j hj => (X_c.out j (.inl hj)).2) (fun j hj => (X_c.out j (.inr hj)).2))
 have EA : Hid (e3.In _) := Lib.hid (E5.out.kb (S := fun x => x = q + 1) (((Kp.refl (fun x => x = q + 1) W5).set (p := ⟨q + 1, 0, none⟩) (fun _ => rfl) (.slice e3.A e3.n e3.c)).set (p := ⟨q + 1, 1, none⟩) (fun _ => rfl) (.slice e3.B e3.m e3.d)) (fun j hj => (X_e.out j (.inl hj)).2) (fun j hj => (X_e.out j (.inr hj)).2))
 go_wp2_with fail
 refine thn ?_
 generalize (W5.setCell ⟨q + 1, 0, none⟩ (.slice e3.A e3.n e3.c)).setCell ⟨q + 1, 1, none⟩ (.slice e3.B e3.m e3.d) = W6 at BA SA KA OA CA EA ⊢
 have B6 := BA
 have S6 := SA
 have R6 := KA
 have Q6 := OA
 have C6 := CA
 have E6 := EA
 clear BA SA KA OA CA EA cr fr B5 S5 Q5 R5 C5 E5
 refine tailJ_last (t := 12) (by kernel_rfl) rfl ?_
 intro W7 hb
 have B7 := Lib.hid (below_trans' B6.out hb)
 have S7 := Lib.hid (S6.out.below hb)
 have Q7 := Lib.hid (Q6.out.below hb)
 have R7 := Lib.hid (R6.out.below hb)
 have C7 := Lib.hid (C6.out.below hb)
 have E7 := Lib.hid (E6.out.below hb)
 clear hb B6 S6 Q6 R6 C6 E6
 go_wp2_with fail
 refine NoPanic.normal ?_
 have HS5 := S7
 have HB5 := B7
 have C_c5 := C7
 have C_e5 := E7
 have K_q5 := Q7
 have K_r5 := R7
 clear S7 B7 C7 E7 Q7 R7 HNO
 have HE2 : Hid (cntH (hackH y2.v.h n).2.2.op = e3.h.cnt) := Lib.hid (by rw [← HE.out]; rfl)
 rw [HE2.out] at HL0
 clear HE HE2
 generalize hhr : (hackH y2.v.h n).2.1 = hr at HC HL0
 clear hhr
 generalize (hackH y2.v.h n).1 = er at HL0 ⊢
 by_cases hz : er = 0
 rotate_left
 ·have HL : Hid (hackR v.rm a n = (er, v.rm)) := Lib.hid (by rw [HL0.out, if_pos hz])
  have h1 : (er != 0) = true := by simpa using hz
  go_wp2_with fail
  go_ret
  exact retO_no HL.out HS5.out.a HB5.out
 subst hz
 rw [if_neg (by simp)] at HL0
 have cr := K_r5.out.cell
 go_wp2_with fail
 clear cr
 with_reducible refine (countB_any e3 W7 C_e5.out).mono ?_
 rintro _ w6 ⟨rfl, hb⟩
 have HS6 := Lib.hid (HS5.out.below hb)
 have HB6 := Lib.hid (below_trans' HB5.out hb)
 have C_c6 := Lib.hid (C_c5.out.below hb)
 have K_q6 := Lib.hid (K_q5.out.below hb)
 have HCN := Lib.hid  C_e5.out.ok.cnt
 clear hb HS5 HB5 C_c5 K_q5 K_r5
 go_wp2_with fail
 refine wp_region_hj [0, 1, 2, 3, 4, 5, 6, 7] [] [8] (fun W => OS st p w.heap.size v x W ∧ At W q c.arr 56) mixed (by kernel_rfl) (fun W W' h hb => ⟨h.1.below hb, h.2.below hb⟩) ⟨HS6.out.below (below_drew _), K_q6.out.below (below_drew _)⟩ ?_
 iterate 8
  refine canonG_read (v := ?_) rfl (by rfl) ?_ ?_
  rotate_left
  ·intro W hS
   have c2 : W.cell? ⟨p, 2, none⟩ = some (.slice v.A v.bs.length v.ca) := At.cell hS.1.a.room 2
   rw [HGB.out] at c2
   have cq := hS.2.cell
   go_simp <;> with_reducible rfl
  simp only [List.getElem_toArray, List.getElem_cons_zero, List.getElem_cons_succ, Act.put, List.setIfInBounds_toArray, List.set_cons_succ, List.set_cons_zero]
 refine canonG_nil ?_
 refine tailJ_last (t := 8) (by kernel_rfl) rfl ?_
 intro w7 hb
 have HI := Lib.hid (HS6.out.below (undrew hb)).a
 have HB7 := Lib.hid (below_trans' HB6.out (undrew hb))
 have C_c7 := Lib.hid (C_c6.out.below (undrew hb))
 clear hb HS6 HB6 C_c6 K_q6
 have hrob := HI.out.rb
 rw [HGB.out] at hrob
 have b1 : w7.cell? ⟨gb, k * 3 + 1, none⟩ = some (.slice y2.v.A y2.v.n y2.v.c) := own_cell nb_len (by omega) hrob HB2.out (j := 1) (by omega)
 have b2 : w7.cell? ⟨gb, k * 3 + 1 + 1, none⟩ = some (.slice y2.v.B y2.v.m y2.v.d) := own_cell nb_len (by omega) hrob HB2.out (j := 2) (by omega)
 have fb : ∀ j, w7.frozen? ⟨gb, j, none⟩ = false := fun j => hrob.frozenAt j
 have c6 : w7.cell? ⟨p, 6, none⟩ = some (.int .i64 v.lost) := At.cell HI.out.room 6
 have c5 : w7.cell? ⟨p, 5, none⟩ = some (.int .i64 v.bought) := At.cell HI.out.room 5
 have fp := HI.out.room.fz
 have hne : gb ≠ p := (HI.out.ne_b HGB.out).1
 have hne2 : p ≠ gb := fun e => hne e.symm
 have v1 : IntKind.i64.wrap (v.lost + e3.h.cnt) = v.lost + e3.h.cnt := IntWalk.i64_in _ (by have := HCN.out; omega)
 have v2 : IntKind.i64.wrap (v.bought + 0) = v.bought + 0 := IntWalk.i64_in _ (by omega)
 obtain ⟨r1, r2⟩ := chg_fin e3.h.cnt 0 H0.out HI.out HB7.out HGB.out HB2.out C_c7.out N_c.out
 simp only [Int.add_zero] at r1 r2 v2
 have R1 := Lib.hid r1
 have R2 := Lib.hid r2
 clear hrob r1 r2
 go_wp2_with fail
 refine NoPanic.normal ?_
 go_wp2_with fail
 go_ret
 rw [HL0.out]
 refine ⟨rfl, _, ?_, R1.out, R2.out⟩
 have hb := rm_setB v k y2 c HB2.out
 rw [← HC.out, ← hb]
 show Rm.mk _ _ _ _ _ _ _ = Rm.mk _ _ _ _ _ _ _
 simp [RV.rm]
end Go.Proofs.YtihhclhpjgeniaaGreatDoor
