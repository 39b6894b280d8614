/- Merged texts: Gj -/
import Derived.Test.YtihhclhpjgeniaaGreatDoorSB27
namespace Go.Proofs.YtihhclhpjgeniaaGreatDoor
open Go.RowKit Go.Sort
structure OS (st : Int) (p K : Nat) (v : RV) (x : OV) (W : World) : Prop where
 a : v.In st p W
 o : x.In W
 k : At W K x.arr 114
 t : Tab W
theorem OS.below {st : Int} {p K : Nat} {v : RV} {x : OV} {W W' : World} (h : OS st p K v x W) (hb : Below W.heap.size W W') : OS st p K v x W' := ⟨h.a.below hb, h.o.below hb, h.k.below hb, tab_below h.t hb⟩
theorem rm_setB (v : RV) (k : Nat) (y : NB) (c : BV) (h : v.bs[k]? = some y) : ({ v with bs := v.bs.set k ⟨y.name, c⟩ } : RV).rm = v.rm.setH k c.h := by
 have e : (v.bs.set k ⟨y.name, c⟩).map (fun b => (b.name, b.v.h)) = (v.bs.map fun b => (b.name, b.v.h)).modify k fun b => (b.1, c.h) := by
  apply List.ext_getElem?
  intro j
  rw [List.getElem?_modify, List.getElem?_map, List.getElem?_map, List.getElem?_set]
  by_cases hj : k = j
  ·subst hj
   have hl := (List.getElem?_eq_some_iff.1 h).1
   have e2 : v.bs[k] = y := (List.getElem?_eq_some_iff.1 h).2
   simp [hl, e2]
  ·simp [hj]
 show Rm.mk _ _ _ _ _ _ _ = Rm.mk _ _ _ _ _ _ _
 rw [e]
 rfl
theorem mend_rm (v : RV) (k i : Nat) (y : NB) {c : BV} {z : NW} (h : v.bs[k]? = some y) : ({ v with bs := v.bs.set k ⟨y.name, c⟩, ws := v.ws.set i z } : RV).rm = (v.rm.setH k c.h).setW i z.w := by
 rw [← rm_setB v k y c h, ← rm_setW]
theorem mend_fin {v : RV} {st : Int} {p : Nat} {w W : World} {g gb i k : Nat} {y : NW} {y2 : NB} {c : BV} {es : List Ent} {B : Option Addr} {d N : Nat} (n : Int) (h0 : v.In st p w) (h : v.In st p W) (hb : Below w.heap.size w W) (hg : v.B = some ⟨g, 0, none⟩) (hy : v.ws[i]? = some y) (hgb : v.A = some ⟨gb, 0, none⟩) (hy2 : v.bs[k]? = some y2)
  (hc : c.In W) (hcn : c.New w.heap.size) (ho : W.ownsRow N 47 6 (.slice B es.length d) es.length (ents es)) (hN : w.heap.size ≤ N) :
  ({ v with bs := v.bs.set k ⟨y2.name, c⟩, ws := v.ws.set i ⟨{ y.w with shed := y.w.shed - n, card := es }, B, es.length, d⟩ } : RV).In st p ((((W.setCell ⟨gb, k * 3 + 1, none⟩ (.slice c.A c.n c.c)).setCell ⟨gb, k * 3 + 1 + 1, none⟩ (.slice c.B c.m c.d)).setCell ⟨g, i * 13 + 4, none⟩ (.int .i64 (y.w.shed - n))).setCell ⟨g, i * 13 + 12, none⟩ (.slice B es.length d)) ∧
  Rs p v w { v with bs := v.bs.set k ⟨y2.name, c⟩, ws := v.ws.set i ⟨{ y.w with shed := y.w.shed - n, card := es }, B, es.length, d⟩ } ((((W.setCell ⟨gb, k * 3 + 1, none⟩ (.slice c.A c.n c.c)).setCell ⟨gb, k * 3 + 1 + 1, none⟩ (.slice c.B c.m c.d)).setCell ⟨g, i * 13 + 4, none⟩ (.int .i64 (y.w.shed - n))).setCell ⟨g, i * 13 + 12, none⟩ (.slice B es.length d)) := by
 have hil : i < v.ws.length := (List.getElem?_eq_some_iff.1 hy).1
 have hnew : ∀ k, blk B es.length k → w.heap.size ≤ k := by
  rintro k ⟨_, a, rfl, rfl⟩
  exact Nat.le_trans hN (ho.lt a.block rfl).1
 have hr0 : Reads W W.heap.size 6 B es.length (ents es) := Reads.of_own ho
 have hc0 := (row_cap ho).1
 have hgF : v.F p g := .inr (.inr (.inr (.inl ⟨_, hg, rfl⟩)))
 have hbF : v.F p gb := .inr (.inr (.inl ⟨_, hgb, rfl⟩))
 obtain ⟨a1, a2, a3⟩ := h.putB hgb hy2 hc fun j hj => h0.far (.inr (hcn j hj))
 have a4 : Rs p v w { v with bs := v.bs.set k ⟨y2.name, c⟩ } _ := (Rs.below hb).step a2 (fun x _ e => by rw [e]; exact hbF) (fun j hj => .inl hj) fun j hj => (a3 j hj).imp id (hcn j)
 obtain ⟨b1, b2⟩ := wig_end h0 a1 a4 (fun _ k => k) hg hy (z := { y with w := { y.w with shed := y.w.shed - n } }) (j := 4) (vs := [.int .i64 (y.w.shed - n)]) (by simp) rfl (a1.hw y (List.mem_of_getElem? hy)) (fun k hk => .inl (.inr ⟨y, List.mem_of_getElem? hy, hk⟩))
 have kp2 : Kp (v.F p) W ((W.setCells gb (k * 3 + 1) [.slice c.A c.n c.c, .slice c.B c.m c.d]).setCells g (i * 13 + 4) [.int .i64 (y.w.shed - n)]) := (a2.mono fun x e => by rw [e]; exact hbF).set (p := ⟨g, i * 13 + 4, none⟩) (fun _ => hgF) _
 have hr1 := hr0.kb kp2 fun k hk => (h0.far (.inr (hnew k hk))).1
 obtain ⟨c1, c2⟩ := wig_end h0 b1 b2 (fun _ k => k) hg (y := { y with w := { y.w with shed := y.w.shed - n } }) (by show (v.ws.set i _)[i]? = _; rw [List.getElem?_set_self hil]) (z := ⟨{ y.w with shed := y.w.shed - n, card := es }, B, es.length, d⟩) (j := 12) (vs := [.slice B es.length d]) (by simp) rfl ⟨hr1, hc0⟩ (fun k hk => .inr (hnew k hk))
 rw [List.set_set] at c1 c2
 exact ⟨c1, c2⟩
theorem later {G P : Prop} (h : G → P) (g : G) : P := h g
set_option maxRecDepth 100000 in
set_option maxHeartbeats 1000000 in
theorem mendO_any (v : RV) (st : Int) (p : Nat) (x : OV) (a : List UInt8) (b : List UInt8) (n : Int) (w : World) (h : v.In st p w) (hx : x.In w) (ha : x.o.names[0]? = some a) (hbn : x.o.names[1]? = some b) (hnn : x.o.nums[0]? = some n) (hn : inN n) (hok : ∀ y ∈ v.ws, y.w.Ok) (ht : Tab w) (hlb : v.bs.length ≤ 12) (hl : v.ws.length ≤ 12) :
  Calls Tryz.prog 165 #[.pointer (some ⟨p, 0, none⟩), .agg x.arr] w (RetO v st p w (mendR v.rm a b n)) := by
 have H0 := Lib.hid h
 have H := Lib.hid (h.below (belowA w (.cells x.arr 114)))
 have HX := Lib.hid (hx.below (belowA w (.cells x.arr 114)))
 have KB := Lib.hid (At.new w x.arr 114)
 have HNN : Hid (0 ≤ n ∧ n ≤ 1000000) := Lib.hid hn
 clear h hx
 go_enter Tryz.func165, Tryz.ntmps165
 go_wp2_with fail
 with_reducible refine (inR_any v st p x a 1 _ H.out HX.out ha hl).mono ?_
 rintro _ w2 ⟨⟨q, rfl, hq⟩, hb⟩
 have H2 := Lib.hid (H.out.below hb)
 have HX2 := Lib.hid (HX.out.below hb)
 have KB2 := Lib.hid (KB.out.below hb)
 have HB := Lib.hid (below1 _ hb)
 have HQ := Lib.hid hq
 clear hb hq H HX KB
 obtain ⟨e, he⟩ : ∃ e, (inW v.rm a 1).1 = e := ⟨_, rfl⟩
 have HE := Lib.hid he
 rw [he]
 clear he
 by_cases h0 : e = 0
 rotate_left
 ·have HL : Hid (mendR v.rm a b n = (e, v.rm)) := Lib.hid (by unfold mendR; rw [if_pos (by rw [HE.out]; exact h0), HE.out])
  have h1 : (e != 0) = true := by simpa using h0
  go_wp2_with fail
  go_ret
  exact retO_no HL.out H2.out HB.out
 obtain ⟨g, hg, rfl⟩ := HQ.out (by rw [HE.out, h0])
 obtain ⟨y, hy, hyw⟩ := wig_nw (show (inW v.rm a 1).1 = 0 by rw [HE.out, h0])
 have HY := Lib.hid hy
 have HG := Lib.hid hg
 have hrow := H2.out.rw
 rw [hg] at hrow
 have HL0 : Hid (mendR v.rm a b n = match v.rm.bun b with
   | none => (5, v.rm)
   | some k => if y.w.shed < n then (6, v.rm)
    else if (cutH (v.rm.hr k) (ofH n y.w.len)).1 ≠ 0 then ((cutH (v.rm.hr k) (ofH n y.w.len)).1, v.rm)
    else if addE y.w.card 0 (mkB (tMe ++ Lib.itoa n)) ≠ 0 then (addE y.w.card 0 (mkB (tMe ++ Lib.itoa n)), v.rm)
    else (0, (v.rm.setH k (cutH (v.rm.hr k) (ofH n y.w.len)).2).setW (inW v.rm a 1).2.1 { y.w with shed := y.w.shed - n, card := addR y.w.card 0 (mkB (tMe ++ Lib.itoa n)) })) := Lib.hid (by
  unfold mendR; rw [if_neg (by rw [HE.out, h0]; simp), ← hyw]
  cases v.rm.bun b <;> rfl)
 have HK := Lib.hid (hok y (List.mem_of_getElem? hy))
 have HT := Lib.hid (tab_below ht HB.out)
 clear hy hyw hrow hg ht
 generalize (inW v.rm a 1).2.1 = i at HY HL0 ⊢
 subst h0
 obtain ⟨ad, e1, _, hk1, _⟩ := HX2.out.name hbn
 obtain ⟨ae, e2, _, hk2, _⟩ := HX2.out.num hnn
 have hk3 : (1 : Int) < (x.n : Int) := by omega
 have hk4 : (0 : Int) < (x.m : Int) := by omega
 go_wp2_with fail
 refine wp_region_hv [0, 1, 2, 3, 4, 5, 6, 7, 8, 9] [10, 11] (fun W => OS st p w.heap.size v x W) mixed (by kernel_rfl) (fun W W' h hb => h.below hb) ⟨H2.out.below (below_drew _), HX2.out.below (below_drew _), KB2.out.below (below_drew _), tab_below HT.out (below_drew _)⟩ ?_
 iterate 5
  refine canonG_read (v := ?_) rfl (by rfl) ?_ ?_
  rotate_left
  ·intro W hS
   obtain ⟨ad', e1', hc1, _, _⟩ := hS.o.name hbn
   have e9 : ad' = ad := by rw [e1] at e1'; injection e1' with e1'; exact e1'.symm
   rw [e9, show ad.add 1 = ⟨ad.block, ad.off + 1, none⟩ from rfl] at hc1
   clear e1' e9
   have c1 : W.cell? ⟨w.heap.size, 3, none⟩ = some (.slice x.A x.n x.c) := hS.k.cell 3
   go_simp <;> with_reducible rfl
  simp only [List.getElem_toArray, List.getElem_cons_zero, List.getElem_cons_succ, Act.put, List.setIfInBounds_toArray, List.set_cons_succ, List.set_cons_zero]
 refine canonG_call (v := .int .i64 (idxI (v.rm.bun b))) (f := 68) (args := #[.pointer (some ⟨p, 0, none⟩), .string (mkB b)]) rfl (by rfl) ?_ ?_ ?_
 ·intro W hS
  go_simp
 ·intro W hS
  exact bundleR_any v st p b W hS.a hlb
 simp only [List.getElem_toArray, List.getElem_cons_zero, List.getElem_cons_succ, Act.put, List.setIfInBounds_toArray, List.set_cons_succ, List.set_cons_zero]
 iterate 4
  refine canonG_read (v := ?_) rfl (by rfl) ?_ ?_
  rotate_left
  ·intro W hS
   obtain ⟨ae', e2', hc1, _, _⟩ := hS.o.num hnn
   have e9 : ae' = ae := by rw [e2] at e2'; injection e2' with e2'; exact e2'.symm
   rw [e9, show ae.add 0 = ae from rfl] at hc1
   clear e2' e9
   have c1 : W.cell? ⟨w.heap.size, 5, none⟩ = some (.slice x.B x.m x.d) := hS.k.cell 5
   go_simp <;> with_reducible rfl
  simp only [List.getElem_toArray, List.getElem_cons_zero, List.getElem_cons_succ, Act.put, List.setIfInBounds_toArray, List.set_cons_succ, List.set_cons_zero]
 refine canonG_nil ?_
 refine tailG_one (t := 10) (ts' := [11]) (by kernel_rfl) rfl rfl ?_
 intro W3 hb3
 have HS3 : Hid (OS st p w.heap.size v x W3) := Lib.hid ⟨H2.out.below (undrew hb3), HX2.out.below (undrew hb3), KB2.out.below (undrew hb3), tab_below HT.out (undrew hb3)⟩
 have HB3 := Lib.hid (below_trans' HB.out (undrew hb3))
 clear H2 HX2 KB2 HT HB hb3
 go_wp2_with fail
 refine ⟨HS3.out, ?_⟩
 refine tailG_last (t := 11) (by kernel_rfl) rfl ?_
 intro W4 hb4
 have HS4 := Lib.hid (HS3.out.below hb4)
 have HB4 := Lib.hid (below_trans' HB3.out hb4)
 clear HS3 HB3 hb4
 go_wp2_with fail
 refine NoPanic.normal ?_
 cases hbb : v.rm.bun b with
 | none =>
  rw [hbb] at HL0
  have HL : Hid (mendR v.rm a b n = (5, v.rm)) := HL0
  rw [show idxI none = -1 from rfl]
  go_wp2_with fail
  go_ret
  exact retO_no HL.out HS4.out.a HB4.out
 | some k =>
  rw [hbb] at HL0
  rw [show idxI (some k) = (k : Int) from rfl]
  simp only [] at HL0
  have hrow := HS4.out.a.rw
  rw [HG.out] at hrow
  have d4 : W4.cell? ⟨g, i * 13 + 4, none⟩ = some (.int .i64 y.w.shed) := own_cell nw_len (by omega) hrow HY.out (j := 4) (by omega)
  have hk0 : ¬ ((k : Int) < 0) := by omega
  clear hrow
  by_cases hs : y.w.shed < n
  ·have HL : Hid (mendR v.rm a b n = (6, v.rm)) := Lib.hid (by rw [HL0.out, if_pos hs])
   go_wp2_with fail
   go_ret
   exact retO_no HL.out HS4.out.a HB4.out
  ·rw [if_neg hs] at HL0
   go_wp2_with fail
   obtain ⟨y2, hy2, gb, hgb⟩ : ∃ y2 : NB, v.bs[k]? = some y2 ∧ ∃ gb, v.A = some ⟨gb, 0, none⟩ := by
    rw [bun_idx] at hbb
    obtain ⟨hk, _⟩ := List.findIdx?_eq_some_iff_getElem.1 hbb
    refine ⟨v.bs[k], List.getElem?_eq_getElem hk, ?_⟩
    exact own_form HS4.out.a.rb (by omega)
   have HB2 := Lib.hid hy2
   have HGB := Lib.hid hgb
   have hkl : k < v.bs.length := (List.getElem?_eq_some_iff.1 hy2).1
   have hkl' : (k : Int) < (v.bs.length : Int) := by omega
   have hhr : v.rm.hr k = y2.v.h := by rw [bs_at, hy2]; rfl
   rw [hhr] at HL0
   clear hy2 hgb d4 hhr
   refine wp_region_hj [0, 1, 2, 3, 4, 5, 6, 7, 8, 9, 10, 11, 12, 13] [16, 17, 18, 19] [14, 15, 20, 21, 22, 23] (fun W => OS st p w.heap.size v x W) mixed (by kernel_rfl) (fun W W' h hb => h.below hb) (HS4.out.below (below_drew _)) ?_
   iterate 14
    refine canonG_read (v := ?_) rfl (by rfl) ?_ ?_
    rotate_left
    ·intro W hS
     have hrow := hS.a.rw
     rw [HG.out] at hrow
     have d5 : W.cell? ⟨g, i * 13 + 5, none⟩ = some (.int .i64 y.w.len) := own_cell nw_len (by omega) hrow HY.out (j := 5) (by omega)
     have hrob := hS.a.rb
     have c2 : W.cell? ⟨p, 2, none⟩ = some (.slice v.A v.bs.length v.ca) := At.cell hS.a.room 2
     rw [HGB.out] at c2 hrob
     have b1 : W.cell? ⟨gb, k * 3 + 1, none⟩ = some (.slice y2.v.A y2.v.n y2.v.c) := own_cell nb_len (by omega) hrob HB2.out (j := 1) (by omega)
     have b2 : W.cell? ⟨gb, k * 3 + 1 + 1, none⟩ = some (.slice y2.v.B y2.v.m y2.v.d) := own_cell nb_len (by omega) hrob HB2.out (j := 2) (by omega)
     clear hrow hrob
     go_simp <;> with_reducible rfl
    simp only [List.getElem_toArray, List.getElem_cons_zero, List.getElem_cons_succ, Act.put, List.setIfInBounds_toArray, List.set_cons_succ, List.set_cons_zero]
   refine canonG_nil ?_
   apply later
   ·intro fin
    refine tailJ_two (t := 14) (t' := 20) (ts1 := [15, 20, 21, 22, 23]) (ps1 := [16, 17, 18, 19]) (ns1 := []) (ts2 := [14, 15, 21, 22, 23]) (ps2 := [16, 17, 18, 19]) (ns2 := []) (by kernel_rfl) rfl (by kernel_rfl) (by kernel_rfl) rfl (by kernel_rfl) (by kernel_rfl) rfl rfl ?_ ?_
    ·skip
     intro W5 hb
     have BW5 : Hid (Below W4.heap.size W4 W5) := Lib.hid (undrew hb)
     clear hb
     go_wp2_with fail
     with_reducible refine (of2_any n y.w.len W5 HNN.out HK.out.len).mono ?_
     rintro _ W6 ⟨u, hu, rfl, hin, hnew, hb⟩
     have BW6 := Lib.hid (below_trans' BW5.out hb)
     have HU := Lib.hid hu
     have UW6 := Lib.hid hin
     clear hu hin hnew hb
     go_wp2_with fail
     refine ⟨HS4.out.below BW6.out, ?_⟩
     refine canonG_nil ?_
     refine tailJ_two (t := 15) (t' := 20) (ts1 := [20, 21, 22, 23]) (ps1 := []) (ns1 := [16, 17, 18, 19]) (ts2 := [15, 21, 22, 23]) (ps2 := [16, 17, 18, 19]) (ns2 := []) (by kernel_rfl) rfl (by kernel_rfl) (by kernel_rfl) rfl (by kernel_rfl) (by kernel_rfl) rfl rfl ?_ ?_
     ·skip
      intro W7 hb
      have BW7 := Lib.hid (below_trans' BW6.out hb)
      have UW7 := Lib.hid (UW6.out.below hb)
      clear hb
      have hy2 := (HS4.out.below BW7.out).a.hb y2 (List.mem_of_getElem? HB2.out)
      go_wp2_with fail
      with_reducible refine (cutB_any y2.v u W7 hy2 UW7.out).mono ?_
      rw [HU.out]
      rintro _ W8 ⟨c, z, hc, rfl, hci, hcn, hb⟩
      have BW8 := Lib.hid (below_trans' BW7.out hb)
      have HC := Lib.hid hc
      have CW8 := Lib.hid hci
      have CN : Hid (c.New W4.heap.size) := Lib.hid (hcn.mono BW7.out.size)
      clear hc hci hcn hb hy2
      go_wp2_with fail
      refine ⟨HS4.out.below BW8.out, ?_⟩
      iterate 4
       refine canonG_read (v := ?_) rfl (by rfl) ?_ ?_
       rotate_left
       ·intro W hS
        go_simp <;> with_reducible rfl
       simp only [List.getElem_toArray, List.getElem_cons_zero, List.getElem_cons_succ, Act.put, List.setIfInBounds_toArray, List.set_cons_succ, List.set_cons_zero]
      refine canonG_nil ?_
      refine tailJ_one (t := 20) (ts' := [21, 22, 23]) (ps' := []) (ns := []) (by kernel_rfl) rfl (by kernel_rfl) (by kernel_rfl) rfl ?_
      intro W9 hb
      have BW9 := Lib.hid (below_trans' BW8.out hb)
      have CW9 := Lib.hid (CW8.out.below hb)
      clear hb
      go_wp2_with fail
      have hb := belowA W9 (.cells noArr 56)
      have k := At.new W9 noArr 56
      have BA := Lib.hid (below_trans' BW9.out hb)
      have KA := Lib.hid k
      have CA := Lib.hid (CW9.out.below hb)
      have hq := BW9.out.size
      clear hb k
      refine ⟨HS4.out.below BA.out, ?_⟩
      generalize hQ : W9.heap.size = q at KA hq ⊢
      generalize W9.alloc (.cells noArr 56) = W10 at BA KA CA ⊢
      have BW10 := BA
      have KW10 := KA
      have CW10 := CA
      clear BA KA CA
      refine canonG_nil ?_
      refine tailJ_one (t := 21) (ts' := [22, 23]) (ps' := []) (ns := []) (by kernel_rfl) rfl (by kernel_rfl) (by kernel_rfl) rfl ?_
      intro W11 hb
      have BW11 := Lib.hid (below_trans' BW10.out hb)
      have CW11 := Lib.hid (CW10.out.below hb)
      have KW11 := Lib.hid (KW10.out.below hb)
      clear hb
      have fr := KW11.out.fz
      have cr := KW11.out.cell
      have hne : ∀ k, blk c.A c.n k ∨ blk c.B c.m k → k ≠ q := fun k hk => by have := hk.elim CW9.out.r.blk_lt CW9.out.s.blk_lt; omega
      have BA := Lib.hid (below_put (below_put BW11.out (p := ⟨q, 0, none⟩) hq (.slice c.A c.n c.c)) (p := ⟨q, 1, none⟩) hq (.slice c.B c.m c.d))
      have KA : Hid (At _ q c.arr 56) := Lib.hid ((KW11.out.set 0 (.slice c.A c.n c.c)).set 1 (.slice c.B c.m c.d))
      have CA := Lib.hid ((CW11.out.kb (S := fun x => x = q) (((Kp.refl (fun x => x = q) W11).set (p := ⟨q, 0, none⟩) (fun _ => rfl) (.slice c.A c.n c.c)).set (p := ⟨q, 1, none⟩) (fun _ => rfl) (.slice c.B c.m c.d))) (fun b hb => hne b (.inl hb)) (fun b hb => hne b (.inr hb)))
      go_wp2_with fail
      refine ⟨HS4.out.below BA.out, canonG_nil ?_⟩
      generalize (W11.setCell ⟨q, 0, none⟩ (.slice c.A c.n c.c)).setCell ⟨q, 1, none⟩ (.slice c.B c.m c.d) = W12 at BA KA CA ⊢
      have BW12 := BA
      have KW12 := KA
      have CW12 := CA
      clear BA KA CA fr cr
      refine tailJ_one (t := 22) (ts' := [23]) (ps' := []) (ns := []) (by kernel_rfl) rfl (by kernel_rfl) (by kernel_rfl) rfl ?_
      intro W13 hb
      have BW13 := Lib.hid (below_trans' BW12.out hb)
      have CW13 := Lib.hid (CW12.out.below hb)
      have KW13 := Lib.hid (KW12.out.below hb)
      clear hb
      go_wp2_with fail
      refine ⟨HS4.out.below BW13.out, canonG_nil ?_⟩
      refine tailJ_last (t := 23) (by kernel_rfl) rfl ?_
      intro W14 hb
      have BW14 := Lib.hid (below_trans' BW13.out hb)
      have CW14 := Lib.hid (CW13.out.below hb)
      have KW14 := Lib.hid (KW13.out.below hb)
      clear hb
      go_wp2_with fail
      refine NoPanic.normal ?_
      try clear hQ
      try clear hne
      try clear HN
      try clear HU
      try clear UW14
      try clear BW13
      try clear UW13
      try clear CW13
      try clear KW13
      try clear BW12
      try clear UW12
      try clear CW12
      try clear KW12
      try clear BW11
      try clear UW11
      try clear CW11
      try clear KW11
      try clear BW10
      try clear UW10
      try clear CW10
      try clear KW10
      try clear BW9
      try clear UW9
      try clear CW9
      try clear KW9
      try clear BW8
      try clear UW8
      try clear CW8
      try clear KW8
      try clear BW7
      try clear UW7
      try clear CW7
      try clear KW7
      try clear BW6
      try clear UW6
      try clear CW6
      try clear KW6
      try clear BW5
      try clear UW5
      try clear CW5
      try clear KW5
      revert hq
      revert CN
      revert HC
      revert KW14
      revert CW14
      revert BW14
      revert u
      revert c
      revert z
      revert q
      revert W14
      exact fin
     ·skip
      intro W7 hb
      have BW7 := Lib.hid (below_trans' BW6.out hb)
      have UW7 := Lib.hid (UW6.out.below hb)
      clear hb
      go_wp2_with fail
      have hb := belowA W7 (.cells noArr 56)
      have k := At.new W7 noArr 56
      have BA := Lib.hid (below_trans' BW7.out hb)
      have KA := Lib.hid k
      have UA := Lib.hid (UW7.out.below hb)
      have hq := BW7.out.size
      clear hb k
      refine ⟨HS4.out.below BA.out, ?_⟩
      generalize hQ : W7.heap.size = q at KA hq ⊢
      generalize W7.alloc (.cells noArr 56) = W8 at BA KA UA ⊢
      have BW8 := BA
      have KW8 := KA
      have UW8 := UA
      clear BA KA UA
      refine canonG_nil ?_
      refine tailJ_one (t := 15) (ts' := [21, 22, 23]) (ps' := []) (ns := [16, 17, 18, 19]) (by kernel_rfl) rfl (by kernel_rfl) (by kernel_rfl) rfl ?_
      intro W9 hb
      have BW9 := Lib.hid (below_trans' BW8.out hb)
      have UW9 := Lib.hid (UW8.out.below hb)
      have KW9 := Lib.hid (KW8.out.below hb)
      clear hb
      have hy2 := (HS4.out.below BW9.out).a.hb y2 (List.mem_of_getElem? HB2.out)
      go_wp2_with fail
      with_reducible refine (cutB_any y2.v u W9 hy2 UW9.out).mono ?_
      rw [HU.out]
      rintro _ W10 ⟨c, z, hc, rfl, hci, hcn, hb⟩
      have BW10 := Lib.hid (below_trans' BW9.out hb)
      have KW10 := Lib.hid (KW9.out.below hb)
      have HC := Lib.hid hc
      have CW10 := Lib.hid hci
      have CN : Hid (c.New W4.heap.size) := Lib.hid (hcn.mono BW9.out.size)
      have HN : Hid (∀ k, blk c.A c.n k ∨ blk c.B c.m k → k ≠ q) := Lib.hid (fun k hk e => by have h1 := hcn k hk; have h2 := KW9.out.lt; omega)
      clear hc hci hcn hb hy2
      go_wp2_with fail
      refine ⟨HS4.out.below BW10.out, ?_⟩
      iterate 4
       refine canonG_read (v := ?_) rfl (by rfl) ?_ ?_
       rotate_left
       ·intro W hS
        go_simp <;> with_reducible rfl
       simp only [List.getElem_toArray, List.getElem_cons_zero, List.getElem_cons_succ, Act.put, List.setIfInBounds_toArray, List.set_cons_succ, List.set_cons_zero]
      refine canonG_nil ?_
      refine tailJ_one (t := 21) (ts' := [22, 23]) (ps' := []) (ns := []) (by kernel_rfl) rfl (by kernel_rfl) (by kernel_rfl) rfl ?_
      intro W11 hb
      have BW11 := Lib.hid (below_trans' BW10.out hb)
      have CW11 := Lib.hid (CW10.out.below hb)
      have KW11 := Lib.hid (KW10.out.below hb)
      clear hb
      have fr := KW11.out.fz
      have cr := KW11.out.cell
      have hne : ∀ k, blk c.A c.n k ∨ blk c.B c.m k → k ≠ q := HN.out
      have BA := Lib.hid (below_put (below_put BW11.out (p := ⟨q, 0, none⟩) hq (.slice c.A c.n c.c)) (p := ⟨q, 1, none⟩) hq (.slice c.B c.m c.d))
      have KA : Hid (At _ q c.arr 56) := Lib.hid ((KW11.out.set 0 (.slice c.A c.n c.c)).set 1 (.slice c.B c.m c.d))
      have CA := Lib.hid ((CW11.out.kb (S := fun x => x = q) (((Kp.refl (fun x => x = q) W11).set (p := ⟨q, 0, none⟩) (fun _ => rfl) (.slice c.A c.n c.c)).set (p := ⟨q, 1, none⟩) (fun _ => rfl) (.slice c.B c.m c.d))) (fun b hb => hne b (.inl hb)) (fun b hb => hne b (.inr hb)))
      go_wp2_with fail
      refine ⟨HS4.out.below BA.out, canonG_nil ?_⟩
      generalize (W11.setCell ⟨q, 0, none⟩ (.slice c.A c.n c.c)).setCell ⟨q, 1, none⟩ (.slice c.B c.m c.d) = W12 at BA KA CA ⊢
      have BW12 := BA
      have KW12 := KA
      have CW12 := CA
      clear BA KA CA fr cr
      refine tailJ_one (t := 22) (ts' := [23]) (ps' := []) (ns := []) (by kernel_rfl) rfl (by kernel_rfl) (by kernel_rfl) rfl ?_
      intro W13 hb
      have BW13 := Lib.hid (below_trans' BW12.out hb)
      have CW13 := Lib.hid (CW12.out.below hb)
      have KW13 := Lib.hid (KW12.out.below hb)
      clear hb
      go_wp2_with fail
      refine ⟨HS4.out.below BW13.out, canonG_nil ?_⟩
      refine tailJ_last (t := 23) (by kernel_rfl) rfl ?_
      intro W14 hb
      have BW14 := Lib.hid (below_trans' BW13.out hb)
      have CW14 := Lib.hid (CW13.out.below hb)
      have KW14 := Lib.hid (KW13.out.below hb)
      clear hb
      go_wp2_with fail
      refine NoPanic.normal ?_
      try clear hQ
      try clear hne
      try clear HN
      try clear HU
      try clear UW14
      try clear BW13
      try clear UW13
      try clear CW13
      try clear KW13
      try clear BW12
      try clear UW12
      try clear CW12
      try clear KW12
      try clear BW11
      try clear UW11
      try clear CW11
      try clear KW11
      try clear BW10
      try clear UW10
      try clear CW10
      try clear KW10
      try clear BW9
      try clear UW9
      try clear CW9
      try clear KW9
      try clear BW8
      try clear UW8
      try clear CW8
      try clear KW8
      try clear BW7
      try clear UW7
      try clear CW7
      try clear KW7
      try clear BW6
      try clear UW6
      try clear CW6
      try clear KW6
      try clear BW5
      try clear UW5
      try clear CW5
      try clear KW5
      revert hq
      revert CN
      revert HC
      revert KW14
      revert CW14
      revert BW14
      revert u
      revert c
      revert z
      revert q
      revert W14
      exact fin
    ·skip
     intro W5 hb
     have BW5 : Hid (Below W4.heap.size W4 W5) := Lib.hid (undrew hb)
     clear hb
     go_wp2_with fail
     have hb := belowA W5 (.cells noArr 56)
     have k := At.new W5 noArr 56
     have BA := Lib.hid (below_trans' BW5.out hb)
     have KA := Lib.hid k
     have hq := BW5.out.size
     clear hb k
     refine ⟨HS4.out.below BA.out, ?_⟩
     generalize hQ : W5.heap.size = q at KA hq ⊢
     generalize W5.alloc (.cells noArr 56) = W6 at BA KA  ⊢
     have BW6 := BA
     have KW6 := KA
     clear BA KA 
     refine canonG_nil ?_
     refine tailJ_one (t := 14) (ts' := [15, 21, 22, 23]) (ps' := [16, 17, 18, 19]) (ns := []) (by kernel_rfl) rfl (by kernel_rfl) (by kernel_rfl) rfl ?_
     intro W7 hb
     have BW7 := Lib.hid (below_trans' BW6.out hb)
     have KW7 := Lib.hid (KW6.out.below hb)
     clear hb
     go_wp2_with fail
     with_reducible refine (of2_any n y.w.len W7 HNN.out HK.out.len).mono ?_
     rintro _ W8 ⟨u, hu, rfl, hin, hnew, hb⟩
     have BW8 := Lib.hid (below_trans' BW7.out hb)
     have KW8 := Lib.hid (KW7.out.below hb)
     have HU := Lib.hid hu
     have UW8 := Lib.hid hin
     clear hu hin hnew hb
     go_wp2_with fail
     refine ⟨HS4.out.below BW8.out, ?_⟩
     refine canonG_nil ?_
     refine tailJ_one (t := 15) (ts' := [21, 22, 23]) (ps' := []) (ns := [16, 17, 18, 19]) (by kernel_rfl) rfl (by kernel_rfl) (by kernel_rfl) rfl ?_
     intro W9 hb
     have BW9 := Lib.hid (below_trans' BW8.out hb)
     have UW9 := Lib.hid (UW8.out.below hb)
     have KW9 := Lib.hid (KW8.out.below hb)
     clear hb
     have hy2 := (HS4.out.below BW9.out).a.hb y2 (List.mem_of_getElem? HB2.out)
     go_wp2_with fail
     with_reducible refine (cutB_any y2.v u W9 hy2 UW9.out).mono ?_
     rw [HU.out]
     rintro _ W10 ⟨c, z, hc, rfl, hci, hcn, hb⟩
     have BW10 := Lib.hid (below_trans' BW9.out hb)
     have KW10 := Lib.hid (KW9.out.below hb)
     have HC := Lib.hid hc
     have CW10 := Lib.hid hci
     have CN : Hid (c.New W4.heap.size) := Lib.hid (hcn.mono BW9.out.size)
     have HN : Hid (∀ k, blk c.A c.n k ∨ blk c.B c.m k → k ≠ q) := Lib.hid (fun k hk e => by have h1 := hcn k hk; have h2 := KW9.out.lt; omega)
     clear hc hci hcn hb hy2
     go_wp2_with fail
     refine ⟨HS4.out.below BW10.out, ?_⟩
     iterate 4
      refine canonG_read (v := ?_) rfl (by rfl) ?_ ?_
      rotate_left
      ·intro W hS
       go_simp <;> with_reducible rfl
      simp only [List.getElem_toArray, List.getElem_cons_zero, List.getElem_cons_succ, Act.put, List.setIfInBounds_toArray, List.set_cons_succ, List.set_cons_zero]
     refine canonG_nil ?_
     refine tailJ_one (t := 21) (ts' := [22, 23]) (ps' := []) (ns := []) (by kernel_rfl) rfl (by kernel_rfl) (by kernel_rfl) rfl ?_
     intro W11 hb
     have BW11 := Lib.hid (below_trans' BW10.out hb)
     have CW11 := Lib.hid (CW10.out.below hb)
     have KW11 := Lib.hid (KW10.out.below hb)
     clear hb
     have fr := KW11.out.fz
     have cr := KW11.out.cell
     have hne : ∀ k, blk c.A c.n k ∨ blk c.B c.m k → k ≠ q := HN.out
     have BA := Lib.hid (below_put (below_put BW11.out (p := ⟨q, 0, none⟩) hq (.slice c.A c.n c.c)) (p := ⟨q, 1, none⟩) hq (.slice c.B c.m c.d))
     have KA : Hid (At _ q c.arr 56) := Lib.hid ((KW11.out.set 0 (.slice c.A c.n c.c)).set 1 (.slice c.B c.m c.d))
     have CA := Lib.hid ((CW11.out.kb (S := fun x => x = q) (((Kp.refl (fun x => x = q) W11).set (p := ⟨q, 0, none⟩) (fun _ => rfl) (.slice c.A c.n c.c)).set (p := ⟨q, 1, none⟩) (fun _ => rfl) (.slice c.B c.m c.d))) (fun b hb => hne b (.inl hb)) (fun b hb => hne b (.inr hb)))
     go_wp2_with fail
     refine ⟨HS4.out.below BA.out, canonG_nil ?_⟩
     generalize (W11.setCell ⟨q, 0, none⟩ (.slice c.A c.n c.c)).setCell ⟨q, 1, none⟩ (.slice c.B c.m c.d) = W12 at BA KA CA ⊢
     have BW12 := BA
     have KW12 := KA
     have CW12 := CA
     clear BA KA CA fr cr
     refine tailJ_one (t := 22) (ts' := [23]) (ps' := []) (ns := []) (by kernel_rfl) rfl (by kernel_rfl) (by kernel_rfl) rfl ?_
     intro W13 hb
     have BW13 := Lib.hid (below_trans' BW12.out hb)
     have CW13 := Lib.hid (CW12.out.below hb)
     have KW13 := Lib.hid (KW12.out.below hb)
     clear hb
     go_wp2_with fail
     refine ⟨HS4.out.below BW13.out, canonG_nil ?_⟩
     refine tailJ_last (t := 23) (by kernel_rfl) rfl ?_
     intro W14 hb
     have BW14 := Lib.hid (below_trans' BW13.out hb)
     have CW14 := Lib.hid (CW13.out.below hb)
     have KW14 := Lib.hid (KW13.out.below hb)
     clear hb
     go_wp2_with fail
     refine NoPanic.normal ?_
     try clear hQ
     try clear hne
     try clear HN
     try clear HU
     try clear UW14
     try clear BW13
     try clear UW13
     try clear CW13
     try clear KW13
     try clear BW12
     try clear UW12
     try clear CW12
     try clear KW12
     try clear BW11
     try clear UW11
     try clear CW11
     try clear KW11
     try clear BW10
     try clear UW10
     try clear CW10
     try clear KW10
     try clear BW9
     try clear UW9
     try clear CW9
     try clear KW9
     try clear BW8
     try clear UW8
     try clear CW8
     try clear KW8
     try clear BW7
     try clear UW7
     try clear CW7
     try clear KW7
     try clear BW6
     try clear UW6
     try clear CW6
     try clear KW6
     try clear BW5
     try clear UW5
     try clear CW5
     try clear KW5
     revert hq
     revert CN
     revert HC
     revert KW14
     revert CW14
     revert BW14
     revert u
     revert c
     revert z
     revert q
     revert W14
     exact fin
   ·intro W5 q z c u HB5 HC5 HK5 HC HCN HQ5
    rw [← HC.out] at HL0
    generalize (cutH y2.v.h (ofH n y.w.len)).1 = er at HL0 ⊢
    clear HC HQ5
    by_cases hz : er = 0
    rotate_left
    ·have HL : Hid (mendR v.rm a b n = (er, v.rm)) := Lib.hid (by rw [HL0.out, if_pos hz])
     have h1 : (er != 0) = true := by simpa using hz
     have HI := Lib.hid (HS4.out.below HB5.out).a
     have HBB := Lib.hid (below_trans' HB4.out HB5.out)
     go_wp2_with fail
     go_ret
     exact retO_no HL.out HI.out HBB.out
    subst hz
    rw [if_neg (by simp)] at HL0
    have hfit : fits n := by unfold fits inN at *; omega
    have HN2 := Lib.hid hn
    go_wp2_with fail
    refine wp_region_hj [0, 1, 2, 3, 4, 5, 6] [8, 9, 10] [7, 11, 12] (fun W => OS st p w.heap.size v x W) mixed (by kernel_rfl) (fun W W' h hb => h.below hb) ((HS4.out.below HB5.out).below (below_drew _)) ?_
    iterate 5
     refine canonG_read (v := ?_) rfl (by rfl) ?_ ?_
     rotate_left
     ·intro W hS
      have hrow := hS.a.rw
      rw [HG.out] at hrow
      have d12 : W.cell? ⟨g, i * 13 + 12, none⟩ = some (.slice y.A y.n y.c) := own_cell nw_len (by omega) hrow HY.out (j := 12) (by omega)
      clear hrow
      go_simp <;> with_reducible rfl
     simp only [List.getElem_toArray, List.getElem_cons_zero, List.getElem_cons_succ, Act.put, List.setIfInBounds_toArray, List.set_cons_succ, List.set_cons_zero]
    refine canonG_call (v := .string (mkB (Lib.itoa n))) (f := 25) (args := #[.int .i64 n]) rfl (by rfl) ?_ ?_ ?_
    ·intro W hS
     go_simp
    ·intro W hS
     exact itoa_any n W hfit hS.t
    simp only [List.getElem_toArray, List.getElem_cons_zero, List.getElem_cons_succ, Act.put, List.setIfInBounds_toArray, List.set_cons_succ, List.set_cons_zero]
    refine canonG_read (v := .string (mkB (tMe ++ Lib.itoa n))) rfl (by rfl) ?_ ?_
    ·intro W hS
     have hln := itoa_len hfit
     have hno : ¬ 9223372036854775807 < 5 + (Lib.itoa n).length := by omega
     have happ : (ByteArray.mk #[109, 101, 110, 100, 32] ++ mkB (Lib.itoa n)) = mkB (tMe ++ Lib.itoa n) := mk_append tMe (Lib.itoa n)
     go_simp
    simp only [List.getElem_toArray, List.getElem_cons_zero, List.getElem_cons_succ, Act.put, List.setIfInBounds_toArray, List.set_cons_succ, List.set_cons_zero]
    refine canonG_nil ?_
    refine tailJ_one (t := 7) (ts' := [11, 12]) (ps' := []) (ns := [8, 9, 10]) (by kernel_rfl) rfl (by kernel_rfl) (by kernel_rfl) rfl ?_
    intro W6 hb6
    have HB6 := Lib.hid (below_trans' HB5.out (undrew hb6))
    have HC6 := Lib.hid (HC5.out.below (undrew hb6))
    have HK6 := Lib.hid (HK5.out.below (undrew hb6))
    clear hb6
    have hcd := (HS4.out.below HB6.out).a.hw y (List.mem_of_getElem? HY.out)
    have HCD := Lib.hid hcd
    have hn60 : y.n ≤ 60 := by rw [nw_n hcd.1]; exact HK.out.card.len
    have hsz : (mkB (tMe ++ Lib.itoa n)).size ≤ 1000000 := by
     have := itoa_len hfit
     rw [size_mk]; simp [tMe]; omega
    clear hcd
    go_wp2_with fail
    with_reducible refine (add_any y.A y.n y.c y.w.card 0 (mkB (tMe ++ Lib.itoa n)) W6 HCD.out.1 (by omega) (card_short HK.out.card) hsz).mono ?_
    rintro _ W7 ⟨B7, d7, rfl, ho7, hb7⟩
    have HB7 := Lib.hid (below_trans' HB6.out hb7)
    have HC7 := Lib.hid (HC6.out.below hb7)
    have HK7 := Lib.hid (HK6.out.below hb7)
    have HO7 := Lib.hid ho7
    have HZ7 : Hid (w.heap.size ≤ W6.heap.size) := Lib.hid (Nat.le_trans HB4.out.size HB6.out.size)
    have HAL : Hid (addE y.w.card 0 (mkB (tMe ++ Lib.itoa n)) = 0 → addL' y.w.card 0 (mkB (tMe ++ Lib.itoa n)) = addR y.w.card 0 (mkB (tMe ++ Lib.itoa n))) := Lib.hid (fun h => if_pos h)
    clear hb7 ho7 HCD hsz HB6 HC6 HK6 hn60
    generalize mkB (tMe ++ Lib.itoa n) = tx at HL0 HO7 HAL ⊢
    generalize addL' y.w.card 0 tx = es at HO7 HAL ⊢
    generalize addE y.w.card 0 tx = er at HL0 HAL ⊢
    go_wp2_with fail
    refine ⟨HS4.out.below HB7.out, ?_⟩
    iterate 3
     refine canonG_read (v := ?_) rfl (by rfl) ?_ ?_
     rotate_left
     ·intro W hS
      go_simp <;> with_reducible rfl
     simp only [List.getElem_toArray, List.getElem_cons_zero, List.getElem_cons_succ, Act.put, List.setIfInBounds_toArray, List.set_cons_succ, List.set_cons_zero]
    refine canonG_nil ?_
    refine tailJ_one (t := 11) (ts' := [12]) (ps' := []) (ns := []) (by kernel_rfl) rfl (by kernel_rfl) (by kernel_rfl) rfl ?_
    intro W8 hb8
    have HB8 := Lib.hid (below_trans' HB7.out hb8)
    have HC8 := Lib.hid (HC7.out.below hb8)
    have HK8 := Lib.hid (HK7.out.below hb8)
    have HO8 := Lib.hid (row_on HO7.out hb8)
    clear hb8
    go_wp2_with fail
    refine ⟨HS4.out.below HB8.out, canonG_nil ?_⟩
    refine tailJ_last (t := 12) (by kernel_rfl) rfl ?_
    intro W9 hb9
    have HB9 := Lib.hid (below_trans' HB8.out hb9)
    have HC9 := Lib.hid (HC8.out.below hb9)
    have HK9 := Lib.hid (HK8.out.below hb9)
    have HO9 := Lib.hid (row_on HO8.out hb9)
    clear hb9 HB7 HC7 HK7 HO7 HB8 HC8 HK8 HO8
    go_wp2_with fail
    refine NoPanic.normal ?_
    by_cases her : er = 0
    rotate_left
    ·have HL : Hid (mendR v.rm a b n = (er, v.rm)) := Lib.hid (by rw [HL0.out, if_pos her])
     have h1 : (er != 0) = true := by simpa using her
     have HI := Lib.hid (HS4.out.below HB9.out).a
     have HBB := Lib.hid (below_trans' HB4.out HB9.out)
     go_wp2_with fail
     go_ret
     exact retO_no HL.out HI.out HBB.out
    subst her
    rw [if_neg (by simp)] at HL0
    go_wp2_with fail
    refine wp_region_hj [0, 1, 2, 3, 4, 5, 6, 7] [] [8] (fun W => OS st p w.heap.size v x W ∧ At W q c.arr 56) mixed (by kernel_rfl) (fun W W' h hb => ⟨h.1.below hb, h.2.below hb⟩) ⟨(HS4.out.below HB9.out).below (below_drew _), HK9.out.below (below_drew _)⟩ ?_
    iterate 8
     refine canonG_read (v := ?_) rfl (by rfl) ?_ ?_
     rotate_left
     ·intro W hS
      have c2 : W.cell? ⟨p, 2, none⟩ = some (.slice v.A v.bs.length v.ca) := At.cell hS.1.a.room 2
      rw [HGB.out] at c2
      have cq := hS.2.cell
      go_simp <;> with_reducible rfl
     simp only [List.getElem_toArray, List.getElem_cons_zero, List.getElem_cons_succ, Act.put, List.setIfInBounds_toArray, List.set_cons_succ, List.set_cons_zero]
    refine canonG_nil ?_
    refine tailJ_last (t := 8) (by kernel_rfl) rfl ?_
    intro W10 hb
    have HB10 := Lib.hid (below_trans' HB9.out (undrew hb))
    have HC10 := Lib.hid (HC9.out.below (undrew hb))
    have HO10 := Lib.hid (row_on HO9.out (undrew hb))
    clear hb HB9 HC9 HO9 HK9
    have HI := Lib.hid (HS4.out.below HB10.out).a
    have HBB := Lib.hid (below_trans' HB4.out HB10.out)
    have hrob := HI.out.rb
    rw [HGB.out] at hrob
    have b1 : W10.cell? ⟨gb, k * 3 + 1, none⟩ = some (.slice y2.v.A y2.v.n y2.v.c) := own_cell nb_len (by omega) hrob HB2.out (j := 1) (by omega)
    have b2 : W10.cell? ⟨gb, k * 3 + 1 + 1, none⟩ = some (.slice y2.v.B y2.v.m y2.v.d) := own_cell nb_len (by omega) hrob HB2.out (j := 2) (by omega)
    have fb : ∀ j, W10.frozen? ⟨gb, j, none⟩ = false := fun j => hrob.frozenAt j
    have hrow := HI.out.rw
    rw [HG.out] at hrow
    have d12 : W10.cell? ⟨g, i * 13 + 12, none⟩ = some (.slice y.A y.n y.c) := own_cell nw_len (by omega) hrow HY.out (j := 12) (by omega)
    have d4 : W10.cell? ⟨g, i * 13 + 4, none⟩ = some (.int .i64 y.w.shed) := own_cell nw_len (by omega) hrow HY.out (j := 4) (by omega)
    have fg : ∀ j, W10.frozen? ⟨g, j, none⟩ = false := fun j => hrow.frozenAt j
    have hne : g ≠ gb := (HI.out.ne_b HGB.out).2.2.1 _ HG.out
    have hne2 : gb ≠ g := fun e => hne e.symm
    have hsd := HK.out.shed
    have v1 : IntKind.i64.wrap (y.w.shed - n) = y.w.shed - n := IntWalk.i64_in _ (by have := HN2.out; have := HK.out.hairs; unfold inN at *; omega)
    obtain ⟨r1, r2⟩ := mend_fin n H0.out HI.out HBB.out HG.out HY.out HGB.out HB2.out HC10.out (HCN.out.mono HB4.out.size) HO10.out HZ7.out
    have R1 := Lib.hid r1
    have R2 := Lib.hid r2
    clear hrow hrob r1 r2
    go_wp2_with fail
    refine NoPanic.normal ?_
    go_wp2_with fail
    go_ret
    rw [HL0.out, ← HAL.out trivial]
    refine ⟨rfl, _, ?_, R1.out, R2.out⟩
    rw [mend_rm _ _ _ _ HB2.out]
end Go.Proofs.YtihhclhpjgeniaaGreatDoor
