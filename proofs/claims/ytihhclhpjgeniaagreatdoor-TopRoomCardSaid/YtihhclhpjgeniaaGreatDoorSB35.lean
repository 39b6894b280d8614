/- Merged texts: Gq -/
import Derived.Test.YtihhclhpjgeniaaGreatDoorSB23
import Derived.Test.YtihhclhpjgeniaaGreatDoorSB34
namespace Go.Proofs.YtihhclhpjgeniaaGreatDoor
open Go.RowKit Go.Sort
set_option maxRecDepth 100000 in
set_option maxHeartbeats 1000000 in
theorem drawO_any (v : RV) (st : Int) (p : Nat) (x : OV) (a b : List UInt8) (n : Int) (w : World) (h : v.In st p w) (hx : x.In w) (han : x.o.names[0]? = some a) (hbn : x.o.names[1]? = some b) (hnn : x.o.nums[0]? = some n) (hn : inN n) (hnl : b.length ≤ 1000000) (ht : Tab w) (hul : v.used.length ≤ 1000000) (hlb : v.bs.length ≤ 12) :
  Calls Tryz.prog 158 #[.pointer (some ⟨p, 0, none⟩), .agg x.arr] w (RetO v st p w (drawR v.rm a b n)) := by
 have H0 := Lib.hid h
 have HS := Lib.hid (OS.box h hx ht)
 have HB := Lib.hid (belowA w (.cells x.arr 114))
 have HNN : Hid (0 ≤ n ∧ n ≤ 1000000) := Lib.hid hn
 obtain ⟨ad, e1, -, hk1, -⟩ := hx.name hbn
 obtain ⟨ae, e2, -, hk2, -⟩ := hx.num hnn
 have hk0 : (0 : Int) < (x.n : Int) := by omega
 have hk3 : (1 : Int) < (x.n : Int) := by omega
 have hk4 : (0 : Int) < (x.m : Int) := by omega
 have hkn0 : 0 < x.n := by omega
 have hkm0 : 0 < x.m := by omega
 clear h hx hn ht hk1 hk2
 go_enter Tryz.func158, Tryz.ntmps158
 go_wp2_with fail
 refine gen_at (M := fun W => Code.wp Tryz.prog _ _ _ W) (fun W => OS st p w.heap.size v x W ∧ Below w.heap.size w W) ⟨HS.out, HB.out⟩ ?_
 clear HS HB
 rintro w1 ⟨hs, hb⟩
 have HS := Lib.hid hs
 have HB := Lib.hid hb
 clear hs hb
 refine wp_region_hj [0, 1, 2, 3, 4, 5, 6, 7, 8, 9] [] [10, 11] (fun W => OS st p w.heap.size v x W) mixed (by kernel_rfl) (fun W W' h hb => h.below hb) (HS.out.below (below_drew _)) ?_
 iterate 5
  refine canonG_read (v := ?_) rfl (by rfl) ?_ ?_
  rotate_left
  ·intro W hS
   have ck := hS.k.cell
   have c3 : W.cell? ⟨w.heap.size, 3, none⟩ = some (.slice x.A x.n x.c) := hS.k.cell 3
   rw [e1] at c3
   obtain ⟨ad4, e4, hc4, -, -⟩ := hS.o.name (k := 0) han
   have z4 : ad4 = ad := by rw [e1] at e4; injection e4 with e4; exact e4.symm
   rw [z4, show ad.add 0 = ad from rfl] at hc4
   clear e4 z4
   go_simp <;> with_reducible rfl
  simp only [List.getElem_toArray, List.getElem_cons_zero, List.getElem_cons_succ, Act.put, List.setIfInBounds_toArray, List.set_cons_succ, List.set_cons_zero]
 refine canonG_call (v := .int .i64 (idxI (v.rm.bun a))) (f := 68) (args := #[.pointer (some ⟨p, 0, none⟩), .string (mkB a)]) rfl (by rfl) ?_ ?_ ?_
 ·intro W hS
  go_simp
 ·intro W hS
  exact bundleR_any v st p a W hS.a hlb
 simp only [List.getElem_toArray, List.getElem_cons_zero, List.getElem_cons_succ, Act.put, List.setIfInBounds_toArray, List.set_cons_succ, List.set_cons_zero]
 iterate 4
  refine canonG_read (v := ?_) rfl (by rfl) ?_ ?_
  rotate_left
  ·intro W hS
   have ck := hS.k.cell
   have c3 : W.cell? ⟨w.heap.size, 3, none⟩ = some (.slice x.A x.n x.c) := hS.k.cell 3
   rw [e1] at c3
   obtain ⟨ad4, e4, hc4, -, -⟩ := hS.o.name (k := 1) hbn
   have z4 : ad4 = ad := by rw [e1] at e4; injection e4 with e4; exact e4.symm
   rw [z4, show ad.add 1 = ⟨ad.block, ad.off + 1, none⟩ from rfl] at hc4
   clear e4 z4
   go_simp <;> with_reducible rfl
  simp only [List.getElem_toArray, List.getElem_cons_zero, List.getElem_cons_succ, Act.put, List.setIfInBounds_toArray, List.set_cons_succ, List.set_cons_zero]
 refine canonG_nil ?_
 refine tailJ_one (t := 10) (ts' := [11]) (ps' := []) (ns := []) (by kernel_rfl) rfl (by kernel_rfl) (by kernel_rfl) rfl ?_
 intro W2 hb
 have BW2 : Hid (Below w1.heap.size w1 W2) := Lib.hid (undrew hb)
 clear hb
 go_wp2_with fail
 refine ⟨HS.out.below BW2.out, canonG_nil ?_⟩
 refine tailJ_last (t := 11) (by kernel_rfl) rfl ?_
 intro W3 hb
 have BW3 := Lib.hid (below_trans' BW2.out hb)
 clear hb
 have HS3 := Lib.hid (HS.out.below BW3.out)
 have HB3 := Lib.hid (below_trans' HB.out BW3.out)
 clear HS HB BW2 BW3
 go_wp2_with fail
 refine NoPanic.normal ?_
 cases hbb : v.rm.bun a with
 | none =>
  have HL : Hid (drawR v.rm a b n = (5, v.rm)) := Lib.hid (by unfold drawR; rw [hbb])
  rw [show idxI none = -1 from rfl]
  go_wp2_with fail
  go_ret
  exact retO_no HL.out HS3.out.a HB3.out
 | some k =>
 rw [show idxI (some k) = (k : Int) from rfl]
 have hkn : ¬ ((k : Int) < 0) := by omega
 have HL0 : Hid (drawR v.rm a b n = if v.rm.fresh b = false then (2, v.rm)
   else if 12 ≤ v.rm.bs.length then (4, v.rm)
   else if (drawH (v.rm.hr k) n).1 ≠ 0 then ((drawH (v.rm.hr k) n).1, v.rm)
   else (0, (v.rm.setH k (drawH (v.rm.hr k) n).2.2).put b (drawH (v.rm.hr k) n).2.1)) := Lib.hid (by unfold drawR; rw [hbb])
 go_wp2_with fail
 with_reducible refine (freshR_any v st p b W3 HS3.out.a hnl).mono ?_
 rintro _ w4 ⟨rfl, rfl⟩
 obtain ⟨f, hf⟩ : ∃ f, v.rm.fresh b = f := ⟨_, rfl⟩
 rw [hf] at HL0 ⊢
 clear hf
 cases f with
 | false =>
  rw [if_pos rfl] at HL0
  go_wp2_with fail
  go_ret
  exact retO_no HL0.out HS3.out.a HB3.out
 | true =>
 rw [if_neg (by simp)] at HL0
 have c2 : w4.cell? ⟨p, 2, none⟩ = some (.slice v.A v.bs.length v.ca) := At.cell HS3.out.a.room 2
 have hlen : v.rm.bs.length = v.bs.length := by show (v.bs.map _).length = _; simp
 rw [hlen] at HL0
 by_cases h4 : 12 ≤ v.bs.length
 ·have h4' : (12 : Int) ≤ (v.bs.length : Int) := by omega
  rw [if_pos h4] at HL0
  go_wp2_with fail
  go_ret
  exact retO_no HL0.out HS3.out.a HB3.out
 have h4' : ¬ (12 : Int) ≤ (v.bs.length : Int) := by omega
 rw [if_neg h4] at HL0
 go_wp2_with fail
 clear c2 h4 h4' hlen
 obtain ⟨y2, hy2, gb, hgb⟩ : ∃ y2 : NB, v.bs[k]? = some y2 ∧ ∃ gb, v.A = some ⟨gb, 0, none⟩ := by
  rw [bun_idx] at hbb
  obtain ⟨hk, _⟩ := List.findIdx?_eq_some_iff_getElem.1 hbb
  refine ⟨v.bs[k], List.getElem?_eq_getElem hk, ?_⟩
  exact own_form HS3.out.a.rb (by omega)
 have HB2 := Lib.hid hy2
 have HGB := Lib.hid hgb
 have hkl : k < v.bs.length := (List.getElem?_eq_some_iff.1 hy2).1
 have hkl' : (k : Int) < (v.bs.length : Int) := by omega
 have hhr : v.rm.hr k = y2.v.h := by rw [bs_at, hy2]; rfl
 rw [hhr] at HL0
 clear hy2 hgb hhr hbb
 refine wp_region_hj [0, 1, 2, 3, 4, 5, 6, 7, 8, 9, 10, 11] [13, 14, 15, 16] [12, 17, 18, 19, 20, 21] (fun W => OS st p w.heap.size v x W) mixed (by kernel_rfl) (fun W W' h hb => h.below hb) (HS3.out.below (below_drew _)) ?_
 iterate 12
  refine canonG_read (v := ?_) rfl (by rfl) ?_ ?_
  rotate_left
  ·intro W hS
   have hrob := hS.a.rb
   have c2 : W.cell? ⟨p, 2, none⟩ = some (.slice v.A v.bs.length v.ca) := At.cell hS.a.room 2
   rw [HGB.out] at c2 hrob
   have b1 : W.cell? ⟨gb, k * 3 + 1, none⟩ = some (.slice y2.v.A y2.v.n y2.v.c) := own_cell nb_len (by omega) hrob HB2.out (j := 1) (by omega)
   have b2 : W.cell? ⟨gb, k * 3 + 1 + 1, none⟩ = some (.slice y2.v.B y2.v.m y2.v.d) := own_cell nb_len (by omega) hrob HB2.out (j := 2) (by omega)
   have c5 : W.cell? ⟨w.heap.size, 5, none⟩ = some (.slice x.B x.m x.d) := hS.k.cell 5
   rw [e2] at c5
   obtain ⟨ae', e4, hc4, -, -⟩ := hS.o.num hnn
   have z4 : ae' = ae := by rw [e2] at e4; injection e4 with e4; exact e4.symm
   rw [z4, show ae.add 0 = ae from rfl] at hc4
   clear hrob e4 z4
   go_simp <;> with_reducible rfl
  simp only [List.getElem_toArray, List.getElem_cons_zero, List.getElem_cons_succ, Act.put, List.setIfInBounds_toArray, List.set_cons_succ, List.set_cons_zero]
 refine canonG_nil ?_
 apply later
 ·intro fin
  refine tailJ_three (t1 := 12) (ts1 := [17, 18, 19, 20, 21]) (ps1 := []) (ns1 := [13, 14, 15, 16]) (t2 := 17) (ts2 := [12, 18, 19, 20, 21]) (ps2 := [13, 14, 15, 16]) (ns2 := []) (t3 := 18) (ts3 := [12, 17, 19, 20, 21]) (ps3 := [13, 14, 15, 16]) (ns3 := []) (by kernel_rfl) rfl (by kernel_rfl) (by kernel_rfl) rfl (by kernel_rfl) (by kernel_rfl) rfl (by kernel_rfl) (by kernel_rfl) rfl rfl rfl ?_ ?_ ?_
  ·skip
   intro W6 hb
   have BW6 : Hid (Below w4.heap.size w4 W6) := Lib.hid (undrew hb)
   clear hb
   have hy2 := (HS3.out.below BW6.out).a.hb y2 (List.mem_of_getElem? HB2.out)
   go_wp2_with fail
   with_reducible refine (drawB_any y2.v n W6 hy2 HNN.out).mono ?_
   rintro _ W7 ⟨c, e, hc, he, rfl, hci, hei, hcn, hen, hb⟩
   have HC := Lib.hid hc
   have HE := Lib.hid he
   have BW7 := Lib.hid (below_trans' BW6.out hb)
   have C_cW7 := Lib.hid hci
   have N_c : Hid (c.New w4.heap.size) := Lib.hid (hcn.mono BW6.out.size)
   have C_eW7 := Lib.hid hei
   have N_e : Hid (e.New w4.heap.size) := Lib.hid (hen.mono BW6.out.size)
   clear hb hci hcn hei hen hc he hy2
   try clear BW6
   go_wp2_with fail
   refine ⟨HS3.out.below BW7.out, ?_⟩
   iterate 4
    refine canonG_read (v := ?_) rfl (by rfl) ?_ ?_
    rotate_left
    ·intro W hS
     go_simp <;> with_reducible rfl
    simp only [List.getElem_toArray, List.getElem_cons_zero, List.getElem_cons_succ, Act.put, List.setIfInBounds_toArray, List.set_cons_succ, List.set_cons_zero]
   refine canonG_nil ?_
   refine tailJ_two (t := 17) (t' := 18) (ts1 := [18, 19, 20, 21]) (ps1 := []) (ns1 := []) (ts2 := [17, 19, 20, 21]) (ps2 := []) (ns2 := []) (by kernel_rfl) rfl (by kernel_rfl) (by kernel_rfl) rfl (by kernel_rfl) (by kernel_rfl) rfl rfl ?_ ?_
   ·skip
    intro W8 hb
    have BW8 := Lib.hid (below_trans' BW7.out hb)
    have C_cW8 := Lib.hid (C_cW7.out.below hb)
    have C_eW8 := Lib.hid (C_eW7.out.below hb)
    clear hb
    try clear BW7 C_cW7 C_eW7
    go_wp2_with fail
    have hb := belowA W8 (.cells noArr 56)
    have k := At.new W8 noArr 56
    have BA := Lib.hid (below_trans' BW8.out hb)
    have KA := Lib.hid k
    have L_q := BW8.out.size
    have C_cA := Lib.hid (C_cW8.out.below hb)
    have C_eA := Lib.hid (C_eW8.out.below hb)
    clear hb k
    refine ⟨HS3.out.below BA.out, canonG_nil ?_⟩
    generalize hQ : W8.heap.size = q at KA L_q ⊢
    generalize W8.alloc (.cells noArr 56) = W9 at BA KA C_cA C_eA ⊢
    have X_c_q : Hid (∀ k, blk c.A c.n k ∨ blk c.B c.m k → k ≠ q) := Lib.hid (fun k hk => by have := hk.elim C_cW8.out.r.blk_lt C_cW8.out.s.blk_lt; omega)
    have X_e_q : Hid (∀ k, blk e.A e.n k ∨ blk e.B e.m k → k ≠ q) := Lib.hid (fun k hk => by have := hk.elim C_eW8.out.r.blk_lt C_eW8.out.s.blk_lt; omega)
    clear hQ
    have BW9 := BA
    have K_qW9 := KA
    have C_cW9 := C_cA
    have C_eW9 := C_eA
    clear BA KA C_cA C_eA
    try clear BW8 C_cW8 C_eW8
    refine tailJ_one (t := 18) (ts' := [19, 20, 21]) (ps' := []) (ns := []) (by kernel_rfl) rfl (by kernel_rfl) (by kernel_rfl) rfl ?_
    intro W10 hb
    have BW10 := Lib.hid (below_trans' BW9.out hb)
    have C_cW10 := Lib.hid (C_cW9.out.below hb)
    have C_eW10 := Lib.hid (C_eW9.out.below hb)
    have K_qW10 := Lib.hid (K_qW9.out.below hb)
    clear hb
    try clear BW9 C_cW9 C_eW9 K_qW9
    go_wp2_with fail
    have hb := belowA W10 (.cells noArr 56)
    have k := At.new W10 noArr 56
    have BA := Lib.hid (below_trans' BW10.out hb)
    have KA := Lib.hid k
    have L_r := BW10.out.size
    have C_cA := Lib.hid (C_cW10.out.below hb)
    have C_eA := Lib.hid (C_eW10.out.below hb)
    have K_qA := Lib.hid (K_qW10.out.below hb)
    clear hb k
    refine ⟨HS3.out.below BA.out, canonG_nil ?_⟩
    generalize hQ : W10.heap.size = r at KA L_r ⊢
    generalize W10.alloc (.cells noArr 56) = W11 at BA KA C_cA C_eA K_qA ⊢
    have X_c_r : Hid (∀ k, blk c.A c.n k ∨ blk c.B c.m k → k ≠ r) := Lib.hid (fun k hk => by have := hk.elim C_cW10.out.r.blk_lt C_cW10.out.s.blk_lt; omega)
    have X_e_r : Hid (∀ k, blk e.A e.n k ∨ blk e.B e.m k → k ≠ r) := Lib.hid (fun k hk => by have := hk.elim C_eW10.out.r.blk_lt C_eW10.out.s.blk_lt; omega)
    have Y_q_r : Hid (q ≠ r) := Lib.hid (by have h1 := K_qW10.out.lt; omega)
    clear hQ
    have BW11 := BA
    have K_rW11 := KA
    have C_cW11 := C_cA
    have C_eW11 := C_eA
    have K_qW11 := K_qA
    clear BA KA C_cA C_eA K_qA
    try clear BW10 C_cW10 C_eW10 K_qW10
    revert BW11
    revert C_cW11
    revert C_eW11
    revert K_qW11
    revert K_rW11
    revert L_q
    revert L_r
    revert N_c
    revert N_e
    revert X_c_q
    revert X_c_r
    revert X_e_q
    revert X_e_r
    revert Y_q_r
    revert HC
    revert HE
    revert q
    revert r
    revert c
    revert e
    revert W11
    exact fin
   ·skip
    intro W8 hb
    have BW8 := Lib.hid (below_trans' BW7.out hb)
    have C_cW8 := Lib.hid (C_cW7.out.below hb)
    have C_eW8 := Lib.hid (C_eW7.out.below hb)
    clear hb
    try clear BW7 C_cW7 C_eW7
    go_wp2_with fail
    have hb := belowA W8 (.cells noArr 56)
    have k := At.new W8 noArr 56
    have BA := Lib.hid (below_trans' BW8.out hb)
    have KA := Lib.hid k
    have L_r := BW8.out.size
    have C_cA := Lib.hid (C_cW8.out.below hb)
    have C_eA := Lib.hid (C_eW8.out.below hb)
    clear hb k
    refine ⟨HS3.out.below BA.out, canonG_nil ?_⟩
    generalize hQ : W8.heap.size = r at KA L_r ⊢
    generalize W8.alloc (.cells noArr 56) = W9 at BA KA C_cA C_eA ⊢
    have X_c_r : Hid (∀ k, blk c.A c.n k ∨ blk c.B c.m k → k ≠ r) := Lib.hid (fun k hk => by have := hk.elim C_cW8.out.r.blk_lt C_cW8.out.s.blk_lt; omega)
    have X_e_r : Hid (∀ k, blk e.A e.n k ∨ blk e.B e.m k → k ≠ r) := Lib.hid (fun k hk => by have := hk.elim C_eW8.out.r.blk_lt C_eW8.out.s.blk_lt; omega)
    clear hQ
    have BW9 := BA
    have K_rW9 := KA
    have C_cW9 := C_cA
    have C_eW9 := C_eA
    clear BA KA C_cA C_eA
    try clear BW8 C_cW8 C_eW8
    refine tailJ_one (t := 17) (ts' := [19, 20, 21]) (ps' := []) (ns := []) (by kernel_rfl) rfl (by kernel_rfl) (by kernel_rfl) rfl ?_
    intro W10 hb
    have BW10 := Lib.hid (below_trans' BW9.out hb)
    have C_cW10 := Lib.hid (C_cW9.out.below hb)
    have C_eW10 := Lib.hid (C_eW9.out.below hb)
    have K_rW10 := Lib.hid (K_rW9.out.below hb)
    clear hb
    try clear BW9 C_cW9 C_eW9 K_rW9
    go_wp2_with fail
    have hb := belowA W10 (.cells noArr 56)
    have k := At.new W10 noArr 56
    have BA := Lib.hid (below_trans' BW10.out hb)
    have KA := Lib.hid k
    have L_q := BW10.out.size
    have C_cA := Lib.hid (C_cW10.out.below hb)
    have C_eA := Lib.hid (C_eW10.out.below hb)
    have K_rA := Lib.hid (K_rW10.out.below hb)
    clear hb k
    refine ⟨HS3.out.below BA.out, canonG_nil ?_⟩
    generalize hQ : W10.heap.size = q at KA L_q ⊢
    generalize W10.alloc (.cells noArr 56) = W11 at BA KA C_cA C_eA K_rA ⊢
    have X_c_q : Hid (∀ k, blk c.A c.n k ∨ blk c.B c.m k → k ≠ q) := Lib.hid (fun k hk => by have := hk.elim C_cW10.out.r.blk_lt C_cW10.out.s.blk_lt; omega)
    have X_e_q : Hid (∀ k, blk e.A e.n k ∨ blk e.B e.m k → k ≠ q) := Lib.hid (fun k hk => by have := hk.elim C_eW10.out.r.blk_lt C_eW10.out.s.blk_lt; omega)
    have Y_q_r : Hid (q ≠ r) := Lib.hid (by have h1 := K_rW10.out.lt; omega)
    clear hQ
    have BW11 := BA
    have K_qW11 := KA
    have C_cW11 := C_cA
    have C_eW11 := C_eA
    have K_rW11 := K_rA
    clear BA KA C_cA C_eA K_rA
    try clear BW10 C_cW10 C_eW10 K_rW10
    revert BW11
    revert C_cW11
    revert C_eW11
    revert K_qW11
    revert K_rW11
    revert L_q
    revert L_r
    revert N_c
    revert N_e
    revert X_c_q
    revert X_c_r
    revert X_e_q
    revert X_e_r
    revert Y_q_r
    revert HC
    revert HE
    revert q
    revert r
    revert c
    revert e
    revert W11
    exact fin
  ·skip
   intro W6 hb
   have BW6 : Hid (Below w4.heap.size w4 W6) := Lib.hid (undrew hb)
   clear hb
   go_wp2_with fail
   have hb := belowA W6 (.cells noArr 56)
   have k := At.new W6 noArr 56
   have BA := Lib.hid (below_trans' BW6.out hb)
   have KA := Lib.hid k
   have L_q := BW6.out.size
   clear hb k
   refine ⟨HS3.out.below BA.out, canonG_nil ?_⟩
   generalize hQ : W6.heap.size = q at KA L_q ⊢
   generalize W6.alloc (.cells noArr 56) = W7 at BA KA  ⊢
   clear hQ
   have BW7 := BA
   have K_qW7 := KA
   clear BA KA 
   try clear BW6
   refine tailJ_two (t := 12) (t' := 18) (ts1 := [18, 19, 20, 21]) (ps1 := []) (ns1 := [13, 14, 15, 16]) (ts2 := [12, 19, 20, 21]) (ps2 := [13, 14, 15, 16]) (ns2 := []) (by kernel_rfl) rfl (by kernel_rfl) (by kernel_rfl) rfl (by kernel_rfl) (by kernel_rfl) rfl rfl ?_ ?_
   ·skip
    intro W8 hb
    have BW8 := Lib.hid (below_trans' BW7.out hb)
    have K_qW8 := Lib.hid (K_qW7.out.below hb)
    clear hb
    try clear BW7 K_qW7
    have hy2 := (HS3.out.below BW8.out).a.hb y2 (List.mem_of_getElem? HB2.out)
    go_wp2_with fail
    with_reducible refine (drawB_any y2.v n W8 hy2 HNN.out).mono ?_
    rintro _ W9 ⟨c, e, hc, he, rfl, hci, hei, hcn, hen, hb⟩
    have HC := Lib.hid hc
    have HE := Lib.hid he
    have BW9 := Lib.hid (below_trans' BW8.out hb)
    have K_qW9 := Lib.hid (K_qW8.out.below hb)
    have C_cW9 := Lib.hid hci
    have N_c : Hid (c.New w4.heap.size) := Lib.hid (hcn.mono BW8.out.size)
    have X_c_q : Hid (∀ k, blk c.A c.n k ∨ blk c.B c.m k → k ≠ q) := Lib.hid (fun k hk e => by have h1 := hcn k hk; have h2 := K_qW8.out.lt; omega)
    have C_eW9 := Lib.hid hei
    have N_e : Hid (e.New w4.heap.size) := Lib.hid (hen.mono BW8.out.size)
    have X_e_q : Hid (∀ k, blk e.A e.n k ∨ blk e.B e.m k → k ≠ q) := Lib.hid (fun k hk e => by have h1 := hen k hk; have h2 := K_qW8.out.lt; omega)
    clear hb hci hcn hei hen hc he hy2
    try clear BW8 K_qW8
    go_wp2_with fail
    refine ⟨HS3.out.below BW9.out, ?_⟩
    iterate 4
     refine canonG_read (v := ?_) rfl (by rfl) ?_ ?_
     rotate_left
     ·intro W hS
      go_simp <;> with_reducible rfl
     simp only [List.getElem_toArray, List.getElem_cons_zero, List.getElem_cons_succ, Act.put, List.setIfInBounds_toArray, List.set_cons_succ, List.set_cons_zero]
    refine canonG_nil ?_
    refine tailJ_one (t := 18) (ts' := [19, 20, 21]) (ps' := []) (ns := []) (by kernel_rfl) rfl (by kernel_rfl) (by kernel_rfl) rfl ?_
    intro W10 hb
    have BW10 := Lib.hid (below_trans' BW9.out hb)
    have K_qW10 := Lib.hid (K_qW9.out.below hb)
    have C_cW10 := Lib.hid (C_cW9.out.below hb)
    have C_eW10 := Lib.hid (C_eW9.out.below hb)
    clear hb
    try clear BW9 K_qW9 C_cW9 C_eW9
    go_wp2_with fail
    have hb := belowA W10 (.cells noArr 56)
    have k := At.new W10 noArr 56
    have BA := Lib.hid (below_trans' BW10.out hb)
    have KA := Lib.hid k
    have L_r := BW10.out.size
    have K_qA := Lib.hid (K_qW10.out.below hb)
    have C_cA := Lib.hid (C_cW10.out.below hb)
    have C_eA := Lib.hid (C_eW10.out.below hb)
    clear hb k
    refine ⟨HS3.out.below BA.out, canonG_nil ?_⟩
    generalize hQ : W10.heap.size = r at KA L_r ⊢
    generalize W10.alloc (.cells noArr 56) = W11 at BA KA K_qA C_cA C_eA ⊢
    have Y_q_r : Hid (q ≠ r) := Lib.hid (by have h1 := K_qW10.out.lt; omega)
    have X_c_r : Hid (∀ k, blk c.A c.n k ∨ blk c.B c.m k → k ≠ r) := Lib.hid (fun k hk => by have := hk.elim C_cW10.out.r.blk_lt C_cW10.out.s.blk_lt; omega)
    have X_e_r : Hid (∀ k, blk e.A e.n k ∨ blk e.B e.m k → k ≠ r) := Lib.hid (fun k hk => by have := hk.elim C_eW10.out.r.blk_lt C_eW10.out.s.blk_lt; omega)
    clear hQ
    have BW11 := BA
    have K_rW11 := KA
    have K_qW11 := K_qA
    have C_cW11 := C_cA
    have C_eW11 := C_eA
    clear BA KA K_qA C_cA C_eA
    try clear BW10 K_qW10 C_cW10 C_eW10
    revert BW11
    revert C_cW11
    revert C_eW11
    revert K_qW11
    revert K_rW11
    revert L_q
    revert L_r
    revert N_c
    revert N_e
    revert X_c_q
    revert X_c_r
    revert X_e_q
    revert X_e_r
    revert Y_q_r
    revert HC
    revert HE
    revert q
    revert r
    revert c
    revert e
    revert W11
    exact fin
   ·skip
    intro W8 hb
    have BW8 := Lib.hid (below_trans' BW7.out hb)
    have K_qW8 := Lib.hid (K_qW7.out.below hb)
    clear hb
    try clear BW7 K_qW7
    go_wp2_with fail
    have hb := belowA W8 (.cells noArr 56)
    have k := At.new W8 noArr 56
    have BA := Lib.hid (below_trans' BW8.out hb)
    have KA := Lib.hid k
    have L_r := BW8.out.size
    have K_qA := Lib.hid (K_qW8.out.below hb)
    clear hb k
    refine ⟨HS3.out.below BA.out, canonG_nil ?_⟩
    generalize hQ : W8.heap.size = r at KA L_r ⊢
    generalize W8.alloc (.cells noArr 56) = W9 at BA KA K_qA ⊢
    have Y_q_r : Hid (q ≠ r) := Lib.hid (by have h1 := K_qW8.out.lt; omega)
    clear hQ
    have BW9 := BA
    have K_rW9 := KA
    have K_qW9 := K_qA
    clear BA KA K_qA
    try clear BW8 K_qW8
    refine tailJ_one (t := 12) (ts' := [19, 20, 21]) (ps' := []) (ns := [13, 14, 15, 16]) (by kernel_rfl) rfl (by kernel_rfl) (by kernel_rfl) rfl ?_
    intro W10 hb
    have BW10 := Lib.hid (below_trans' BW9.out hb)
    have K_qW10 := Lib.hid (K_qW9.out.below hb)
    have K_rW10 := Lib.hid (K_rW9.out.below hb)
    clear hb
    try clear BW9 K_qW9 K_rW9
    have hy2 := (HS3.out.below BW10.out).a.hb y2 (List.mem_of_getElem? HB2.out)
    go_wp2_with fail
    with_reducible refine (drawB_any y2.v n W10 hy2 HNN.out).mono ?_
    rintro _ W11 ⟨c, e, hc, he, rfl, hci, hei, hcn, hen, hb⟩
    have HC := Lib.hid hc
    have HE := Lib.hid he
    have BW11 := Lib.hid (below_trans' BW10.out hb)
    have K_qW11 := Lib.hid (K_qW10.out.below hb)
    have K_rW11 := Lib.hid (K_rW10.out.below hb)
    have C_cW11 := Lib.hid hci
    have N_c : Hid (c.New w4.heap.size) := Lib.hid (hcn.mono BW10.out.size)
    have X_c_q : Hid (∀ k, blk c.A c.n k ∨ blk c.B c.m k → k ≠ q) := Lib.hid (fun k hk e => by have h1 := hcn k hk; have h2 := K_qW10.out.lt; omega)
    have X_c_r : Hid (∀ k, blk c.A c.n k ∨ blk c.B c.m k → k ≠ r) := Lib.hid (fun k hk e => by have h1 := hcn k hk; have h2 := K_rW10.out.lt; omega)
    have C_eW11 := Lib.hid hei
    have N_e : Hid (e.New w4.heap.size) := Lib.hid (hen.mono BW10.out.size)
    have X_e_q : Hid (∀ k, blk e.A e.n k ∨ blk e.B e.m k → k ≠ q) := Lib.hid (fun k hk e => by have h1 := hen k hk; have h2 := K_qW10.out.lt; omega)
    have X_e_r : Hid (∀ k, blk e.A e.n k ∨ blk e.B e.m k → k ≠ r) := Lib.hid (fun k hk e => by have h1 := hen k hk; have h2 := K_rW10.out.lt; omega)
    clear hb hci hcn hei hen hc he hy2
    try clear BW10 K_qW10 K_rW10
    go_wp2_with fail
    refine ⟨HS3.out.below BW11.out, ?_⟩
    iterate 4
     refine canonG_read (v := ?_) rfl (by rfl) ?_ ?_
     rotate_left
     ·intro W hS
      go_simp <;> with_reducible rfl
     simp only [List.getElem_toArray, List.getElem_cons_zero, List.getElem_cons_succ, Act.put, List.setIfInBounds_toArray, List.set_cons_succ, List.set_cons_zero]
    refine canonG_nil ?_
    revert BW11
    revert C_cW11
    revert C_eW11
    revert K_qW11
    revert K_rW11
    revert L_q
    revert L_r
    revert N_c
    revert N_e
    revert X_c_q
    revert X_c_r
    revert X_e_q
    revert X_e_r
    revert Y_q_r
    revert HC
    revert HE
    revert q
    revert r
    revert c
    revert e
    revert W11
    exact fin
  ·skip
   intro W6 hb
   have BW6 : Hid (Below w4.heap.size w4 W6) := Lib.hid (undrew hb)
   clear hb
   go_wp2_with fail
   have hb := belowA W6 (.cells noArr 56)
   have k := At.new W6 noArr 56
   have BA := Lib.hid (below_trans' BW6.out hb)
   have KA := Lib.hid k
   have L_r := BW6.out.size
   clear hb k
   refine ⟨HS3.out.below BA.out, canonG_nil ?_⟩
   generalize hQ : W6.heap.size = r at KA L_r ⊢
   generalize W6.alloc (.cells noArr 56) = W7 at BA KA  ⊢
   clear hQ
   have BW7 := BA
   have K_rW7 := KA
   clear BA KA 
   try clear BW6
   refine tailJ_two (t := 12) (t' := 17) (ts1 := [17, 19, 20, 21]) (ps1 := []) (ns1 := [13, 14, 15, 16]) (ts2 := [12, 19, 20, 21]) (ps2 := [13, 14, 15, 16]) (ns2 := []) (by kernel_rfl) rfl (by kernel_rfl) (by kernel_rfl) rfl (by kernel_rfl) (by kernel_rfl) rfl rfl ?_ ?_
   ·skip
    intro W8 hb
    have BW8 := Lib.hid (below_trans' BW7.out hb)
    have K_rW8 := Lib.hid (K_rW7.out.below hb)
    clear hb
    try clear BW7 K_rW7
    have hy2 := (HS3.out.below BW8.out).a.hb y2 (List.mem_of_getElem? HB2.out)
    go_wp2_with fail
    with_reducible refine (drawB_any y2.v n W8 hy2 HNN.out).mono ?_
    rintro _ W9 ⟨c, e, hc, he, rfl, hci, hei, hcn, hen, hb⟩
    have HC := Lib.hid hc
    have HE := Lib.hid he
    have BW9 := Lib.hid (below_trans' BW8.out hb)
    have K_rW9 := Lib.hid (K_rW8.out.below hb)
    have C_cW9 := Lib.hid hci
    have N_c : Hid (c.New w4.heap.size) := Lib.hid (hcn.mono BW8.out.size)
    have X_c_r : Hid (∀ k, blk c.A c.n k ∨ blk c.B c.m k → k ≠ r) := Lib.hid (fun k hk e => by have h1 := hcn k hk; have h2 := K_rW8.out.lt; omega)
    have C_eW9 := Lib.hid hei
    have N_e : Hid (e.New w4.heap.size) := Lib.hid (hen.mono BW8.out.size)
    have X_e_r : Hid (∀ k, blk e.A e.n k ∨ blk e.B e.m k → k ≠ r) := Lib.hid (fun k hk e => by have h1 := hen k hk; have h2 := K_rW8.out.lt; omega)
    clear hb hci hcn hei hen hc he hy2
    try clear BW8 K_rW8
    go_wp2_with fail
    refine ⟨HS3.out.below BW9.out, ?_⟩
    iterate 4
     refine canonG_read (v := ?_) rfl (by rfl) ?_ ?_
     rotate_left
     ·intro W hS
      go_simp <;> with_reducible rfl
     simp only [List.getElem_toArray, List.getElem_cons_zero, List.getElem_cons_succ, Act.put, List.setIfInBounds_toArray, List.set_cons_succ, List.set_cons_zero]
    refine canonG_nil ?_
    refine tailJ_one (t := 17) (ts' := [19, 20, 21]) (ps' := []) (ns := []) (by kernel_rfl) rfl (by kernel_rfl) (by kernel_rfl) rfl ?_
    intro W10 hb
    have BW10 := Lib.hid (below_trans' BW9.out hb)
    have K_rW10 := Lib.hid (K_rW9.out.below hb)
    have C_cW10 := Lib.hid (C_cW9.out.below hb)
    have C_eW10 := Lib.hid (C_eW9.out.below hb)
    clear hb
    try clear BW9 K_rW9 C_cW9 C_eW9
    go_wp2_with fail
    have hb := belowA W10 (.cells noArr 56)
    have k := At.new W10 noArr 56
    have BA := Lib.hid (below_trans' BW10.out hb)
    have KA := Lib.hid k
    have L_q := BW10.out.size
    have K_rA := Lib.hid (K_rW10.out.below hb)
    have C_cA := Lib.hid (C_cW10.out.below hb)
    have C_eA := Lib.hid (C_eW10.out.below hb)
    clear hb k
    refine ⟨HS3.out.below BA.out, canonG_nil ?_⟩
    generalize hQ : W10.heap.size = q at KA L_q ⊢
    generalize W10.alloc (.cells noArr 56) = W11 at BA KA K_rA C_cA C_eA ⊢
    have Y_q_r : Hid (q ≠ r) := Lib.hid (by have h1 := K_rW10.out.lt; omega)
    have X_c_q : Hid (∀ k, blk c.A c.n k ∨ blk c.B c.m k → k ≠ q) := Lib.hid (fun k hk => by have := hk.elim C_cW10.out.r.blk_lt C_cW10.out.s.blk_lt; omega)
    have X_e_q : Hid (∀ k, blk e.A e.n k ∨ blk e.B e.m k → k ≠ q) := Lib.hid (fun k hk => by have := hk.elim C_eW10.out.r.blk_lt C_eW10.out.s.blk_lt; omega)
    clear hQ
    have BW11 := BA
    have K_qW11 := KA
    have K_rW11 := K_rA
    have C_cW11 := C_cA
    have C_eW11 := C_eA
    clear BA KA K_rA C_cA C_eA
    try clear BW10 K_rW10 C_cW10 C_eW10
    revert BW11
    revert C_cW11
    revert C_eW11
    revert K_qW11
    revert K_rW11
    revert L_q
    revert L_r
    revert N_c
    revert N_e
    revert X_c_q
    revert X_c_r
    revert X_e_q
    revert X_e_r
    revert Y_q_r
    revert HC
    revert HE
    revert q
    revert r
    revert c
    revert e
    revert W11
    exact fin
   ·skip
    intro W8 hb
    have BW8 := Lib.hid (below_trans' BW7.out hb)
    have K_rW8 := Lib.hid (K_rW7.out.below hb)
    clear hb
    try clear BW7 K_rW7
    go_wp2_with fail
    have hb := belowA W8 (.cells noArr 56)
    have k := At.new W8 noArr 56
    have BA := Lib.hid (below_trans' BW8.out hb)
    have KA := Lib.hid k
    have L_q := BW8.out.size
    have K_rA := Lib.hid (K_rW8.out.below hb)
    clear hb k
    refine ⟨HS3.out.below BA.out, canonG_nil ?_⟩
    generalize hQ : W8.heap.size = q at KA L_q ⊢
    generalize W8.alloc (.cells noArr 56) = W9 at BA KA K_rA ⊢
    have Y_q_r : Hid (q ≠ r) := Lib.hid (by have h1 := K_rW8.out.lt; omega)
    clear hQ
    have BW9 := BA
    have K_qW9 := KA
    have K_rW9 := K_rA
    clear BA KA K_rA
    try clear BW8 K_rW8
    refine tailJ_one (t := 12) (ts' := [19, 20, 21]) (ps' := []) (ns := [13, 14, 15, 16]) (by kernel_rfl) rfl (by kernel_rfl) (by kernel_rfl) rfl ?_
    intro W10 hb
    have BW10 := Lib.hid (below_trans' BW9.out hb)
    have K_rW10 := Lib.hid (K_rW9.out.below hb)
    have K_qW10 := Lib.hid (K_qW9.out.below hb)
    clear hb
    try clear BW9 K_rW9 K_qW9
    have hy2 := (HS3.out.below BW10.out).a.hb y2 (List.mem_of_getElem? HB2.out)
    go_wp2_with fail
    with_reducible refine (drawB_any y2.v n W10 hy2 HNN.out).mono ?_
    rintro _ W11 ⟨c, e, hc, he, rfl, hci, hei, hcn, hen, hb⟩
    have HC := Lib.hid hc
    have HE := Lib.hid he
    have BW11 := Lib.hid (below_trans' BW10.out hb)
    have K_rW11 := Lib.hid (K_rW10.out.below hb)
    have K_qW11 := Lib.hid (K_qW10.out.below hb)
    have C_cW11 := Lib.hid hci
    have N_c : Hid (c.New w4.heap.size) := Lib.hid (hcn.mono BW10.out.size)
    have X_c_r : Hid (∀ k, blk c.A c.n k ∨ blk c.B c.m k → k ≠ r) := Lib.hid (fun k hk e => by have h1 := hcn k hk; have h2 := K_rW10.out.lt; omega)
    have X_c_q : Hid (∀ k, blk c.A c.n k ∨ blk c.B c.m k → k ≠ q) := Lib.hid (fun k hk e => by have h1 := hcn k hk; have h2 := K_qW10.out.lt; omega)
    have C_eW11 := Lib.hid hei
    have N_e : Hid (e.New w4.heap.size) := Lib.hid (hen.mono BW10.out.size)
    have X_e_r : Hid (∀ k, blk e.A e.n k ∨ blk e.B e.m k → k ≠ r) := Lib.hid (fun k hk e => by have h1 := hen k hk; have h2 := K_rW10.out.lt; omega)
    have X_e_q : Hid (∀ k, blk e.A e.n k ∨ blk e.B e.m k → k ≠ q) := Lib.hid (fun k hk e => by have h1 := hen k hk; have h2 := K_qW10.out.lt; omega)
    clear hb hci hcn hei hen hc he hy2
    try clear BW10 K_rW10 K_qW10
    go_wp2_with fail
    refine ⟨HS3.out.below BW11.out, ?_⟩
    iterate 4
     refine canonG_read (v := ?_) rfl (by rfl) ?_ ?_
     rotate_left
     ·intro W hS
      go_simp <;> with_reducible rfl
     simp only [List.getElem_toArray, List.getElem_cons_zero, List.getElem_cons_succ, Act.put, List.setIfInBounds_toArray, List.set_cons_succ, List.set_cons_zero]
    refine canonG_nil ?_
    revert BW11
    revert C_cW11
    revert C_eW11
    revert K_qW11
    revert K_rW11
    revert L_q
    revert L_r
    revert N_c
    revert N_e
    revert X_c_q
    revert X_c_r
    revert X_e_q
    revert X_e_r
    revert Y_q_r
    revert HC
    revert HE
    revert q
    revert r
    revert c
    revert e
    revert W11
    exact fin
 ·intro W5 e c r q HE HC Y_q_r X_e_r X_e_q X_c_r X_c_q N_e N_c L_r L_q K_rW5 K_qW5 C_eW5 C_cW5 BW5
  refine tailJ_one (t := 19) (ts' := [20, 21]) (ps' := []) (ns := []) (by kernel_rfl) rfl (by kernel_rfl) (by kernel_rfl) rfl ?_
  intro W6 hb
  have BW6 := Lib.hid (below_trans' BW5.out hb)
  have C_cW6 := Lib.hid (C_cW5.out.below hb)
  have C_eW6 := Lib.hid (C_eW5.out.below hb)
  have K_qW6 := Lib.hid (K_qW5.out.below hb)
  have K_rW6 := Lib.hid (K_rW5.out.below hb)
  clear hb
  have fr := K_qW6.out.fz
  have cr := K_qW6.out.cell
  have BA := Lib.hid (below_put (below_put BW6.out (p := ⟨q, 0, none⟩) L_q (.slice c.A c.n c.c)) (p := ⟨q, 1, none⟩) L_q (.slice c.B c.m c.d))
  have K_qA : Hid (At _ q c.arr 56) := Lib.hid ((K_qW6.out.set 0 (.slice c.A c.n c.c)).set 1 (.slice c.B c.m c.d))
  have C_cA := Lib.hid ((C_cW6.out.kb (S := fun x => x = q) (((Kp.refl (fun x => x = q) W6).set (p := ⟨q, 0, none⟩) (fun _ => rfl) (.slice c.A c.n c.c)).set (p := ⟨q, 1, none⟩) (fun _ => rfl) (.slice c.B c.m c.d))) (fun j hj => X_c_q.out j (.inl hj)) (fun j hj => X_c_q.out j (.inr hj)))
  have C_eA := Lib.hid ((C_eW6.out.kb (S := fun x => x = q) (((Kp.refl (fun x => x = q) W6).set (p := ⟨q, 0, none⟩) (fun _ => rfl) (.slice c.A c.n c.c)).set (p := ⟨q, 1, none⟩) (fun _ => rfl) (.slice c.B c.m c.d))) (fun j hj => X_e_q.out j (.inl hj)) (fun j hj => X_e_q.out j (.inr hj)))
  have K_rA := Lib.hid ((K_rW6.out.far (p := ⟨q, 0, none⟩) (fun e => Y_q_r.out e.symm) (.slice c.A c.n c.c)).far (p := ⟨q, 1, none⟩) (fun e => Y_q_r.out e.symm) (.slice c.B c.m c.d))
  go_wp2_with fail
  refine ⟨HS3.out.below BA.out, canonG_nil ?_⟩
  generalize (W6.setCell ⟨q, 0, none⟩ (.slice c.A c.n c.c)).setCell ⟨q, 1, none⟩ (.slice c.B c.m c.d) = W7 at BA K_qA C_cA C_eA K_rA ⊢
  have BW7 := BA
  have K_qW7 := K_qA
  have C_cW7 := C_cA
  have C_eW7 := C_eA
  have K_rW7 := K_rA
  clear BA K_qA C_cA C_eA K_rA fr cr
  try clear BW6 K_qW6 C_cW6 C_eW6 K_rW6
  refine tailJ_one (t := 20) (ts' := [21]) (ps' := []) (ns := []) (by kernel_rfl) rfl (by kernel_rfl) (by kernel_rfl) rfl ?_
  intro W8 hb
  have BW8 := Lib.hid (below_trans' BW7.out hb)
  have C_cW8 := Lib.hid (C_cW7.out.below hb)
  have C_eW8 := Lib.hid (C_eW7.out.below hb)
  have K_qW8 := Lib.hid (K_qW7.out.below hb)
  have K_rW8 := Lib.hid (K_rW7.out.below hb)
  clear hb
  have fr := K_rW8.out.fz
  have cr := K_rW8.out.cell
  have BA := Lib.hid (below_put (below_put BW8.out (p := ⟨r, 0, none⟩) L_r (.slice e.A e.n e.c)) (p := ⟨r, 1, none⟩) L_r (.slice e.B e.m e.d))
  have K_rA : Hid (At _ r e.arr 56) := Lib.hid ((K_rW8.out.set 0 (.slice e.A e.n e.c)).set 1 (.slice e.B e.m e.d))
  have C_cA := Lib.hid ((C_cW8.out.kb (S := fun x => x = r) (((Kp.refl (fun x => x = r) W8).set (p := ⟨r, 0, none⟩) (fun _ => rfl) (.slice e.A e.n e.c)).set (p := ⟨r, 1, none⟩) (fun _ => rfl) (.slice e.B e.m e.d))) (fun j hj => X_c_r.out j (.inl hj)) (fun j hj => X_c_r.out j (.inr hj)))
  have C_eA := Lib.hid ((C_eW8.out.kb (S := fun x => x = r) (((Kp.refl (fun x => x = r) W8).set (p := ⟨r, 0, none⟩) (fun _ => rfl) (.slice e.A e.n e.c)).set (p := ⟨r, 1, none⟩) (fun _ => rfl) (.slice e.B e.m e.d))) (fun j hj => X_e_r.out j (.inl hj)) (fun j hj => X_e_r.out j (.inr hj)))
  have K_qA := Lib.hid ((K_qW8.out.far (p := ⟨r, 0, none⟩) Y_q_r.out (.slice e.A e.n e.c)).far (p := ⟨r, 1, none⟩) Y_q_r.out (.slice e.B e.m e.d))
  go_wp2_with fail
  refine ⟨HS3.out.below BA.out, canonG_nil ?_⟩
  generalize (W8.setCell ⟨r, 0, none⟩ (.slice e.A e.n e.c)).setCell ⟨r, 1, none⟩ (.slice e.B e.m e.d) = W9 at BA K_rA C_cA C_eA K_qA ⊢
  have BW9 := BA
  have K_rW9 := K_rA
  have C_cW9 := C_cA
  have C_eW9 := C_eA
  have K_qW9 := K_qA
  clear BA K_rA C_cA C_eA K_qA fr cr
  try clear BW8 K_rW8 C_cW8 C_eW8 K_qW8
  refine tailJ_last (t := 21) (by kernel_rfl) rfl ?_
  intro W10 hb
  have BW10 := Lib.hid (below_trans' BW9.out hb)
  have C_cW10 := Lib.hid (C_cW9.out.below hb)
  have C_eW10 := Lib.hid (C_eW9.out.below hb)
  have K_qW10 := Lib.hid (K_qW9.out.below hb)
  have K_rW10 := Lib.hid (K_rW9.out.below hb)
  clear hb
  go_wp2_with fail
  refine NoPanic.normal ?_
  have HI := Lib.hid (HS3.out.below BW10.out)
  have HBB := Lib.hid (below_trans' HB3.out BW10.out)
  rw [← HC.out, ← HE.out] at HL0
  generalize (drawH y2.v.h n).1 = er at HL0 ⊢
  by_cases hz : er = 0
  rotate_left
  ·have HL : Hid (drawR v.rm a b n = (er, v.rm)) := Lib.hid (by rw [HL0.out, if_pos hz])
   have h1 : (er != 0) = true := by simpa using hz
   go_wp2_with fail
   go_ret
   exact retO_no HL.out HI.out.a HBB.out
  subst hz
  rw [if_neg (by simp)] at HL0
  go_wp2_with fail
  refine wp_region_hj [0, 1, 2, 3, 4, 5, 6, 7] [] [8] (fun W => v.In st p W ∧ At W r e.arr 56) mixed (by kernel_rfl) (fun W W' h hb => ⟨h.1.below hb, h.2.below hb⟩) ⟨HI.out.a.below (below_drew _), K_rW10.out.below (below_drew _)⟩ ?_
  iterate 8
   refine canonG_read (v := ?_) rfl (by rfl) ?_ ?_
   rotate_left
   ·intro W hS
    have c2 : W.cell? ⟨p, 2, none⟩ = some (.slice v.A v.bs.length v.ca) := At.cell hS.1.room 2
    rw [HGB.out] at c2
    have cq := hS.2.cell
    go_simp <;> with_reducible rfl
   simp only [List.getElem_toArray, List.getElem_cons_zero, List.getElem_cons_succ, Act.put, List.setIfInBounds_toArray, List.set_cons_succ, List.set_cons_zero]
  refine canonG_nil ?_
  refine tailJ_last (t := 8) (by kernel_rfl) rfl ?_
  intro W11 hb
  have HB11 := Lib.hid (below_trans' HBB.out (undrew hb))
  have HI11 := Lib.hid (HI.out.a.below (undrew hb))
  have HC11 := Lib.hid (C_cW10.out.below (undrew hb))
  have HE11 := Lib.hid (C_eW10.out.below (undrew hb))
  have HK11 := Lib.hid (K_qW10.out.below (undrew hb))
  clear hb
  have hrob := HI11.out.rb
  rw [HGB.out] at hrob
  have b1 : W11.cell? ⟨gb, k * 3 + 1, none⟩ = some (.slice y2.v.A y2.v.n y2.v.c) := own_cell nb_len (by omega) hrob HB2.out (j := 1) (by omega)
  have b2 : W11.cell? ⟨gb, k * 3 + 1 + 1, none⟩ = some (.slice y2.v.B y2.v.m y2.v.d) := own_cell nb_len (by omega) hrob HB2.out (j := 2) (by omega)
  have fb : ∀ j, W11.frozen? ⟨gb, j, none⟩ = false := fun j => hrob.frozenAt j
  have hgF : v.F p gb := .inr (.inr (.inl ⟨_, HGB.out, rfl⟩))
  have NCw : Hid (c.New w.heap.size) := Lib.hid (N_c.out.mono HB3.out.size)
  have NEw : Hid (e.New w.heap.size) := Lib.hid (N_e.out.mono HB3.out.size)
  obtain ⟨r1, r2⟩ := bun_end H0.out HI11.out HB11.out HGB.out HB2.out HE11.out NEw.out
  have hq : w.heap.size ≤ q := Nat.le_trans HB3.out.size L_q
  have hqgb : q ≠ gb := fun e => by have := H0.out.lt (.inl hgF); omega
  have HK12 := Lib.hid ((HK11.out.far (p := ⟨gb, k * 3 + 1, none⟩) hqgb (.slice e.A e.n e.c)).far (p := ⟨gb, k * 3 + 1 + 1, none⟩) hqgb (.slice e.B e.m e.d))
  have hcg : ∀ j, blk c.A c.n j ∨ blk c.B c.m j → j ≠ gb := fun j hj e => by have h1 := NCw.out j hj; have h2 := H0.out.lt (.inl hgF); omega
  have HC12 := Lib.hid (HC11.out.kb (S := fun x => x = gb) (((Kp.refl (fun x => x = gb) W11).set (p := ⟨gb, k * 3 + 1, none⟩) (fun _ => rfl) (.slice e.A e.n e.c)).set (p := ⟨gb, k * 3 + 1 + 1, none⟩) (fun _ => rfl) (.slice e.B e.m e.d)) (fun j hj => hcg j (.inl hj)) (fun j hj => hcg j (.inr hj)))
  have R1 := Lib.hid r1
  have R2 := Lib.hid r2
  clear hrob r1 r2 hcg hqgb hq hgF
  go_wp2_with fail
  refine NoPanic.normal ?_
  clear b1 b2 fb
  generalize (W11.setCell ⟨gb, k * 3 + 1, none⟩ (.slice e.A e.n e.c)).setCell ⟨gb, k * 3 + 1 + 1, none⟩ (.slice e.B e.m e.d) = W12 at R1 R2 HK12 HC12 ⊢
  have cq := HK12.out.cell
  go_wp2_with fail
  clear cq
  have hfar : ∀ j, blk c.A c.n j ∨ blk c.B c.m j → ¬ ({ v with bs := v.bs.set k ⟨y2.name, e⟩ } : RV).F p j ∧ 8 ≤ j := fun j hj => H0.out.far (.inr (NCw.out j hj))
  have hbl : ({ v with bs := v.bs.set k ⟨y2.name, e⟩ } : RV).bs.length ≤ 1000 := by show (v.bs.set k _).length ≤ 1000; rw [List.length_set]; omega
  with_reducible refine (addR_any _ st p b c W12 R1.out HC12.out hnl hul hfar hbl).mono ?_
  rintro _ W13 ⟨rfl, A', c', hi, hr⟩
  have HI13 := Lib.hid hi
  have R13 := Lib.hid (hr v w R2.out NCw.out)
  clear hi hr hfar hbl
  go_wp2_with fail
  go_ret
  rw [HL0.out]
  refine ⟨rfl, _, ?_, HI13.out, R13.out⟩
  have := rm_put ({ v with bs := v.bs.set k ⟨y2.name, e⟩ } : RV) A' c' b c
  rw [this, rm_setB v k y2 e HB2.out]
end Go.Proofs.YtihhclhpjgeniaaGreatDoor
