/- Merged texts: Gn -/
import Derived.Test.YtihhclhpjgeniaaGreatDoorSB28
import Derived.Test.YtihhclhpjgeniaaGreatDoorSB32
namespace Go.Proofs.YtihhclhpjgeniaaGreatDoor
open Go.RowKit Go.Sort
theorem wok_of {o : Ordr} (h : OrdS o) (hs : o.style.length ≤ 400) (hk : 8 ≤ o.kind ∧ o.kind ≤ 13) : WOk o := by
 cases h with
 | nccc k n a b c hk' => simp only at hk; omega
 | nn => simp only at hk; omega
 | ncn => simp only at hk; omega
 | nc k n a hk' hn ha => simp only at hk; exact .inr (.inr (.inr (.inr (.inl ⟨by show k = 12; omega, a, rfl, ha⟩))))
 | n k n hk' hn =>
  simp only at hk
  rcases hk' with h | h | h | h | h | h
  ·omega
  ·exact .inl h
  ·exact .inr (.inr (.inr (.inl h)))
  ·exact .inr (.inr (.inr (.inr (.inr h))))
  ·omega
  ·omega
 | nncc => simp only at hk; omega
 | ncc n a b hn ha hb => exact .inr (.inl ⟨rfl, a, b, rfl, ha, hb⟩)
 | ns n s hn hs' => exact .inr (.inr (.inl ⟨rfl, hs⟩))
 | nnc => simp only at hk; omega
theorem dress_txt {o : Ordr} (h : WOk o) (y : Wg) : (dressW o y).2.length ≤ 1000 := by
 have hf : ∀ n, inN n → (Lib.itoa n).length ≤ 21 := fun n hn => itoa_len (by unfold fits; unfold inN at hn; omega)
 rcases h with h | ⟨h, a, b, hn, ha, hb⟩ | ⟨h, hs⟩ | h | ⟨h, a, hn, ha⟩ | h
 ·unfold dressW; rw [h]; show tBl.length ≤ 1000; decide
 ·unfold dressW; rw [h, hn]; show (dyeT a b).length ≤ 1000
  have h1 := hf a ha; have h2 := hf b hb
  simp only [dyeT, List.length_append, tDy, List.length_cons, List.length_nil]; omega
 ·unfold dressW; rw [h]; show (tPl ++ o.style).length ≤ 1000
  simp only [List.length_append, tPl, List.length_cons, List.length_nil]; omega
 ·unfold dressW; rw [h]; show tCo.length ≤ 1000; decide
 ·unfold dressW; rw [h, hn]; show (tCu ++ Lib.itoa a).length ≤ 1000
  have h1 := hf a ha
  simp only [List.length_append, tCu, List.length_cons, List.length_nil]; omega
 ·unfold dressW; rw [h]; show tWa.length ≤ 1000; decide
theorem work_fin {v : RV} {st : Int} {p : Nat} {w W : World} {g i : Nat} {y : NW} {z : Wg} {es : List Ent} {B : Option Addr} {d N : Nat} (h0 : v.In st p w) (h : v.In st p W) (hb : Below w.heap.size w W) (hg : v.B = some ⟨g, 0, none⟩) (hy : v.ws[i]? = some y)
  (ho : W.ownsRow N 47 6 (.slice B es.length d) es.length (ents es)) (hN : w.heap.size ≤ N) :
  ({ v with ws := v.ws.set i ⟨{ z with card := es }, B, es.length, d⟩ } : RV).In st p (((((((((((((W.setCell ⟨g, i * 13, none⟩ (.string (mkB z.name))).setCell ⟨g, i * 13 + 1, none⟩ (.string (mkB z.bun))).setCell ⟨g, i * 13 + 2, none⟩ (.int .i64 z.hairs)).setCell ⟨g, i * 13 + 3, none⟩ (.int .i64 z.done)).setCell ⟨g, i * 13 + 4, none⟩ (.int .i64 z.shed)).setCell ⟨g, i * 13 + 5, none⟩ (.int .i64 z.len)).setCell ⟨g, i * 13 + 6, none⟩ (.int .i64 z.lvl)).setCell ⟨g, i * 13 + 7, none⟩ (.int .i64 z.tone)).setCell ⟨g, i * 13 + 8, none⟩ (.int .i64 z.bl)).setCell ⟨g, i * 13 + 9, none⟩ (.string (mkB z.plait))).setCell ⟨g, i * 13 + 10, none⟩ (.int .i64 z.state)).setCell ⟨g, i * 13 + 11, none⟩ (.int .i64 z.price)).setCell ⟨g, i * 13 + 12, none⟩ (.slice B es.length d)) ∧
  Rs p v w { v with ws := v.ws.set i ⟨{ z with card := es }, B, es.length, d⟩ } (((((((((((((W.setCell ⟨g, i * 13, none⟩ (.string (mkB z.name))).setCell ⟨g, i * 13 + 1, none⟩ (.string (mkB z.bun))).setCell ⟨g, i * 13 + 2, none⟩ (.int .i64 z.hairs)).setCell ⟨g, i * 13 + 3, none⟩ (.int .i64 z.done)).setCell ⟨g, i * 13 + 4, none⟩ (.int .i64 z.shed)).setCell ⟨g, i * 13 + 5, none⟩ (.int .i64 z.len)).setCell ⟨g, i * 13 + 6, none⟩ (.int .i64 z.lvl)).setCell ⟨g, i * 13 + 7, none⟩ (.int .i64 z.tone)).setCell ⟨g, i * 13 + 8, none⟩ (.int .i64 z.bl)).setCell ⟨g, i * 13 + 9, none⟩ (.string (mkB z.plait))).setCell ⟨g, i * 13 + 10, none⟩ (.int .i64 z.state)).setCell ⟨g, i * 13 + 11, none⟩ (.int .i64 z.price)).setCell ⟨g, i * 13 + 12, none⟩ (.slice B es.length d)) := by
 have hnew : ∀ k, blk B es.length k → w.heap.size ≤ k := by
  rintro k ⟨_, a, rfl, rfl⟩
  exact Nat.le_trans hN (ho.lt a.block rfl).1
 have hr0 : Reads W W.heap.size 6 B es.length (ents es) := Reads.of_own ho
 have hc0 := (row_cap ho).1
 exact wig_end h0 h (Rs.below hb) (fun _ k => k) hg hy (z := ⟨{ z with card := es }, B, es.length, d⟩) (j := 0) (vs := [.string (mkB z.name), .string (mkB z.bun), .int .i64 z.hairs, .int .i64 z.done, .int .i64 z.shed, .int .i64 z.len, .int .i64 z.lvl, .int .i64 z.tone, .int .i64 z.bl, .string (mkB z.plait), .int .i64 z.state, .int .i64 z.price, .slice B es.length d]) (by simp) rfl ⟨hr0, hc0⟩ (fun k hk => .inr (hnew k hk))
set_option maxRecDepth 100000 in
set_option maxHeartbeats 1000000 in
theorem workO_any (v : RV) (st : Int) (p : Nat) (x : OV) (a : List UInt8) (w : World) (h : v.In st p w) (hx : x.In w) (ha : x.o.names[0]? = some a) (ho : OrdS x.o) (hs : x.o.style.length ≤ 400) (hk : 8 ≤ x.o.kind ∧ x.o.kind ≤ 13) (hok : ∀ y ∈ v.ws, y.w.Ok) (ht : Tab w) (hl : v.ws.length ≤ 12) :
  Calls Tryz.prog 162 #[.pointer (some ⟨p, 0, none⟩), .agg x.arr] w (RetO v st p w (workR v.rm x.o a)) := by
 have H0 := Lib.hid h
 have H := Lib.hid (h.below (belowA w (.cells x.arr 114)))
 have HX := Lib.hid (hx.below (belowA w (.cells x.arr 114)))
 have KB := Lib.hid (At.new w x.arr 114)
 have HO := Lib.hid ho
 have HWO := Lib.hid (wok_of ho hs hk)
 clear h hx ho hs hk
 go_enter Tryz.func162, Tryz.ntmps162
 go_wp2_with fail
 with_reducible refine (inR_any v st p x a 1 _ H.out HX.out ha hl).mono ?_
 rintro _ w2 ⟨⟨q, rfl, hq⟩, hb⟩
 have H2 := Lib.hid (H.out.below hb)
 have HX2 := Lib.hid (HX.out.below hb)
 have KB2 := Lib.hid (KB.out.below hb)
 have HB := Lib.hid (below1 _ hb)
 have HQ := Lib.hid hq
 clear hb hq H HX KB
 obtain ⟨e, he⟩ : ∃ e, (inW v.rm a 1).1 = e := ⟨_, rfl⟩
 have HE := Lib.hid he
 rw [he]
 clear he
 by_cases h0 : e = 0
 rotate_left
 ·have HL : Hid (workR v.rm x.o a = (e, v.rm)) := Lib.hid (by unfold workR; rw [if_pos (by rw [HE.out]; exact h0), HE.out])
  have h1 : (e != 0) = true := by simpa using h0
  go_wp2_with fail
  go_ret
  exact retO_no HL.out H2.out HB.out
 obtain ⟨g, hg, rfl⟩ := HQ.out (by rw [HE.out, h0])
 obtain ⟨y, hy, hyw⟩ := wig_nw (show (inW v.rm a 1).1 = 0 by rw [HE.out, h0])
 have HY := Lib.hid hy
 have HG := Lib.hid hg
 have HL0 : Hid (workR v.rm x.o a = if (dressW x.o y.w).1.1 ≠ 0 then ((dressW x.o y.w).1.1, v.rm) else writeR v.rm (inW v.rm a 1).2.1 (dressW x.o y.w).1.2 0 (dressW x.o y.w).2) := Lib.hid (by
  unfold workR; rw [if_neg (by rw [HE.out, h0]; simp), ← hyw])
 have HK := Lib.hid (hok y (List.mem_of_getElem? hy))
 have HT := Lib.hid (tab_below ht HB.out)
 clear hy hyw hg ht
 generalize (inW v.rm a 1).2.1 = i at HY HL0 ⊢
 subst h0
 have HS2 : Hid (OS st p w.heap.size v x w2) := Lib.hid ⟨H2.out, HX2.out, KB2.out, HT.out⟩
 clear H2 HX2 KB2 HT
 go_wp2_with fail
 refine wp_region_hj [0, 1, 2, 3, 4] [6, 7, 8, 9] [5, 10, 11, 12, 13] (fun W => OS st p w.heap.size v x W) mixed (by kernel_rfl) (fun W W' h hb => h.below hb) (HS2.out.below (below_drew _)) ?_
 iterate 5
  refine canonG_read (v := ?_) rfl (by rfl) ?_ ?_
  rotate_left
  ·intro W hS
   have hrow := hS.a.rw
   rw [HG.out] at hrow
   have d0 : W.cell? ⟨g, i * 13, none⟩ = _ := own_cell nw_len (by omega) hrow HY.out (j := 0) (by omega)
   have d1 : W.cell? ⟨g, i * 13 + 1, none⟩ = _ := own_cell nw_len (by omega) hrow HY.out (j := 1) (by omega)
   have d2 : W.cell? ⟨g, i * 13 + 2, none⟩ = _ := own_cell nw_len (by omega) hrow HY.out (j := 2) (by omega)
   have d3 : W.cell? ⟨g, i * 13 + 3, none⟩ = _ := own_cell nw_len (by omega) hrow HY.out (j := 3) (by omega)
   have d4 : W.cell? ⟨g, i * 13 + 4, none⟩ = _ := own_cell nw_len (by omega) hrow HY.out (j := 4) (by omega)
   have d5 : W.cell? ⟨g, i * 13 + 5, none⟩ = _ := own_cell nw_len (by omega) hrow HY.out (j := 5) (by omega)
   have d6 : W.cell? ⟨g, i * 13 + 6, none⟩ = _ := own_cell nw_len (by omega) hrow HY.out (j := 6) (by omega)
   have d7 : W.cell? ⟨g, i * 13 + 7, none⟩ = _ := own_cell nw_len (by omega) hrow HY.out (j := 7) (by omega)
   have d8 : W.cell? ⟨g, i * 13 + 8, none⟩ = _ := own_cell nw_len (by omega) hrow HY.out (j := 8) (by omega)
   have d9 : W.cell? ⟨g, i * 13 + 9, none⟩ = _ := own_cell nw_len (by omega) hrow HY.out (j := 9) (by omega)
   have d10 : W.cell? ⟨g, i * 13 + 10, none⟩ = _ := own_cell nw_len (by omega) hrow HY.out (j := 10) (by omega)
   have d11 : W.cell? ⟨g, i * 13 + 11, none⟩ = _ := own_cell nw_len (by omega) hrow HY.out (j := 11) (by omega)
   simp only [NW.cells, wgL, List.cons_append, List.getElem?_cons_zero, List.getElem?_cons_succ] at d0 d1 d2 d3 d4 d5 d6 d7 d8 d9 d10 d11
   have ck := hS.k.cell
   clear hrow
   go_simp <;> with_reducible rfl
  simp only [List.getElem_toArray, List.getElem_cons_zero, List.getElem_cons_succ, Act.put, List.setIfInBounds_toArray, List.set_cons_succ, List.set_cons_zero]
 refine canonG_nil ?_
 apply later
 ·intro fin
  refine tailJ_two (t := 5) (t' := 10) (ts1 := [10, 11, 12, 13]) (ps1 := []) (ns1 := [6, 7, 8, 9]) (ts2 := [5, 11, 12, 13]) (ps2 := [6, 7, 8, 9]) (ns2 := []) (by kernel_rfl) rfl (by kernel_rfl) (by kernel_rfl) rfl (by kernel_rfl) (by kernel_rfl) rfl rfl ?_ ?_
  ·skip
   intro W4 hb
   have BW4 : Hid (Below w2.heap.size w2 W4) := Lib.hid (undrew hb)
   clear hb
   have hs := HS2.out.below BW4.out
   go_wp2_with fail
   with_reducible refine (changed_any y.w x W4 HWO.out hs.o HK.out hs.t).mono ?_
   rintro _ W5 ⟨⟨z, t, rfl, hz⟩, hb⟩
   have BW5 := Lib.hid (below_trans' BW4.out hb)
   have HZ := Lib.hid hz
   clear hz hb hs
   go_wp2_with fail
   refine ⟨HS2.out.below BW5.out, ?_⟩
   iterate 4
    refine canonG_read (v := ?_) rfl (by rfl) ?_ ?_
    rotate_left
    ·intro W hS
     go_simp <;> with_reducible rfl
    simp only [List.getElem_toArray, List.getElem_cons_zero, List.getElem_cons_succ, Act.put, List.setIfInBounds_toArray, List.set_cons_succ, List.set_cons_zero]
   refine canonG_nil ?_
   refine tailJ_one (t := 10) (ts' := [11, 12, 13]) (ps' := []) (ns := []) (by kernel_rfl) rfl (by kernel_rfl) (by kernel_rfl) rfl ?_
   intro W6 hb
   have BW6 := Lib.hid (below_trans' BW5.out hb)
   clear hb
   go_wp2_with fail
   have hb := belowA W6 (.cells wgZ 49)
   have k := At.new W6 wgZ 49
   have BA := Lib.hid (below_trans' BW6.out hb)
   have KA := Lib.hid k
   have hq := BW6.out.size
   clear hb k
   refine ⟨HS2.out.below BA.out, canonG_nil ?_⟩
   generalize hQ : W6.heap.size = q at KA hq ⊢
   generalize W6.alloc (.cells _ 49) = W7 at BA KA ⊢
   have BW7 := BA
   have KW7 := KA
   clear BA KA
   refine tailJ_one (t := 11) (ts' := [12, 13]) (ps' := []) (ns := []) (by kernel_rfl) rfl (by kernel_rfl) (by kernel_rfl) rfl ?_
   intro W8 hb
   have BW8 := Lib.hid (below_trans' BW7.out hb)
   have KW8 := Lib.hid (KW7.out.below hb)
   clear hb
   have fr := KW8.out.fz
   have cr := KW8.out.cell
   have BA := Lib.hid (below_put12 BW8.out hq (.string (mkB z.name)) (.string (mkB z.bun)) (.int .i64 z.hairs) (.int .i64 z.done) (.int .i64 z.shed) (.int .i64 z.len) (.int .i64 z.lvl) (.int .i64 z.tone) (.int .i64 z.bl) (.string (mkB z.plait)) (.int .i64 z.state) (.int .i64 z.price))
   have KA := Lib.hid (KW8.out.set12 (.string (mkB z.name)) (.string (mkB z.bun)) (.int .i64 z.hairs) (.int .i64 z.done) (.int .i64 z.shed) (.int .i64 z.len) (.int .i64 z.lvl) (.int .i64 z.tone) (.int .i64 z.bl) (.string (mkB z.plait)) (.int .i64 z.state) (.int .i64 z.price))
   go_wp2_with fail
   refine ⟨HS2.out.below BA.out, canonG_nil ?_⟩
   generalize (((((((((((W8.setCell ⟨q, 0, none⟩ (.string (mkB z.name))).setCell ⟨q, 1, none⟩ (.string (mkB z.bun))).setCell ⟨q, 2, none⟩ (.int .i64 z.hairs)).setCell ⟨q, 3, none⟩ (.int .i64 z.done)).setCell ⟨q, 4, none⟩ (.int .i64 z.shed)).setCell ⟨q, 5, none⟩ (.int .i64 z.len)).setCell ⟨q, 6, none⟩ (.int .i64 z.lvl)).setCell ⟨q, 7, none⟩ (.int .i64 z.tone)).setCell ⟨q, 8, none⟩ (.int .i64 z.bl)).setCell ⟨q, 9, none⟩ (.string (mkB z.plait))).setCell ⟨q, 10, none⟩ (.int .i64 z.state)).setCell ⟨q, 11, none⟩ (.int .i64 z.price) = W9 at BA KA ⊢
   have BW9 := BA
   have KW9 := KA
   clear BA KA fr cr
   refine tailJ_one (t := 12) (ts' := [13]) (ps' := []) (ns := []) (by kernel_rfl) rfl (by kernel_rfl) (by kernel_rfl) rfl ?_
   intro W10 hb
   have BW10 := Lib.hid (below_trans' BW9.out hb)
   have KW10 := Lib.hid (KW9.out.below hb)
   clear hb
   go_wp2_with fail
   refine ⟨HS2.out.below BW10.out, canonG_nil ?_⟩
   refine tailJ_last (t := 13) (by kernel_rfl) rfl ?_
   intro W11 hb
   have BW11 := Lib.hid (below_trans' BW10.out hb)
   have KW11 := Lib.hid (KW10.out.below hb)
   clear hb
   go_wp2_with fail
   refine NoPanic.normal ?_
   try clear hQ
   try clear BW10
   try clear KW10
   try clear BW9
   try clear KW9
   try clear BW8
   try clear KW8
   try clear BW7
   try clear KW7
   try clear BW6
   try clear KW6
   try clear BW5
   try clear KW5
   try clear BW4
   try clear KW4
   revert hq
   revert HZ
   revert KW11
   revert BW11
   revert t
   revert z
   revert q
   revert W11
   exact fin
  ·skip
   intro W4 hb
   have BW4 : Hid (Below w2.heap.size w2 W4) := Lib.hid (undrew hb)
   clear hb
   go_wp2_with fail
   have hb := belowA W4 (.cells wgZ 49)
   have k := At.new W4 wgZ 49
   have BA := Lib.hid (below_trans' BW4.out hb)
   have KA := Lib.hid k
   have hq := BW4.out.size
   clear hb k
   refine ⟨HS2.out.below BA.out, canonG_nil ?_⟩
   generalize hQ : W4.heap.size = q at KA hq ⊢
   generalize W4.alloc (.cells _ 49) = W5 at BA KA ⊢
   have BW5 := BA
   have KW5 := KA
   clear BA KA
   refine tailJ_one (t := 5) (ts' := [11, 12, 13]) (ps' := []) (ns := [6, 7, 8, 9]) (by kernel_rfl) rfl (by kernel_rfl) (by kernel_rfl) rfl ?_
   intro W6 hb
   have BW6 := Lib.hid (below_trans' BW5.out hb)
   have KW6 := Lib.hid (KW5.out.below hb)
   clear hb
   have hs := HS2.out.below BW6.out
   go_wp2_with fail
   with_reducible refine (changed_any y.w x W6 HWO.out hs.o HK.out hs.t).mono ?_
   rintro _ W7 ⟨⟨z, t, rfl, hz⟩, hb⟩
   have BW7 := Lib.hid (below_trans' BW6.out hb)
   have HZ := Lib.hid hz
   have KW7 := Lib.hid (KW6.out.below hb)
   clear hz hb hs
   go_wp2_with fail
   refine ⟨HS2.out.below BW7.out, ?_⟩
   iterate 4
    refine canonG_read (v := ?_) rfl (by rfl) ?_ ?_
    rotate_left
    ·intro W hS
     go_simp <;> with_reducible rfl
    simp only [List.getElem_toArray, List.getElem_cons_zero, List.getElem_cons_succ, Act.put, List.setIfInBounds_toArray, List.set_cons_succ, List.set_cons_zero]
   refine canonG_nil ?_
   refine tailJ_one (t := 11) (ts' := [12, 13]) (ps' := []) (ns := []) (by kernel_rfl) rfl (by kernel_rfl) (by kernel_rfl) rfl ?_
   intro W8 hb
   have BW8 := Lib.hid (below_trans' BW7.out hb)
   have KW8 := Lib.hid (KW7.out.below hb)
   clear hb
   have fr := KW8.out.fz
   have cr := KW8.out.cell
   have BA := Lib.hid (below_put12 BW8.out hq (.string (mkB z.name)) (.string (mkB z.bun)) (.int .i64 z.hairs) (.int .i64 z.done) (.int .i64 z.shed) (.int .i64 z.len) (.int .i64 z.lvl) (.int .i64 z.tone) (.int .i64 z.bl) (.string (mkB z.plait)) (.int .i64 z.state) (.int .i64 z.price))
   have KA := Lib.hid (KW8.out.set12 (.string (mkB z.name)) (.string (mkB z.bun)) (.int .i64 z.hairs) (.int .i64 z.done) (.int .i64 z.shed) (.int .i64 z.len) (.int .i64 z.lvl) (.int .i64 z.tone) (.int .i64 z.bl) (.string (mkB z.plait)) (.int .i64 z.state) (.int .i64 z.price))
   go_wp2_with fail
   refine ⟨HS2.out.below BA.out, canonG_nil ?_⟩
   generalize (((((((((((W8.setCell ⟨q, 0, none⟩ (.string (mkB z.name))).setCell ⟨q, 1, none⟩ (.string (mkB z.bun))).setCell ⟨q, 2, none⟩ (.int .i64 z.hairs)).setCell ⟨q, 3, none⟩ (.int .i64 z.done)).setCell ⟨q, 4, none⟩ (.int .i64 z.shed)).setCell ⟨q, 5, none⟩ (.int .i64 z.len)).setCell ⟨q, 6, none⟩ (.int .i64 z.lvl)).setCell ⟨q, 7, none⟩ (.int .i64 z.tone)).setCell ⟨q, 8, none⟩ (.int .i64 z.bl)).setCell ⟨q, 9, none⟩ (.string (mkB z.plait))).setCell ⟨q, 10, none⟩ (.int .i64 z.state)).setCell ⟨q, 11, none⟩ (.int .i64 z.price) = W9 at BA KA ⊢
   have BW9 := BA
   have KW9 := KA
   clear BA KA fr cr
   refine tailJ_one (t := 12) (ts' := [13]) (ps' := []) (ns := []) (by kernel_rfl) rfl (by kernel_rfl) (by kernel_rfl) rfl ?_
   intro W10 hb
   have BW10 := Lib.hid (below_trans' BW9.out hb)
   have KW10 := Lib.hid (KW9.out.below hb)
   clear hb
   go_wp2_with fail
   refine ⟨HS2.out.below BW10.out, canonG_nil ?_⟩
   refine tailJ_last (t := 13) (by kernel_rfl) rfl ?_
   intro W11 hb
   have BW11 := Lib.hid (below_trans' BW10.out hb)
   have KW11 := Lib.hid (KW10.out.below hb)
   clear hb
   go_wp2_with fail
   refine NoPanic.normal ?_
   try clear hQ
   try clear BW10
   try clear KW10
   try clear BW9
   try clear KW9
   try clear BW8
   try clear KW8
   try clear BW7
   try clear KW7
   try clear BW6
   try clear KW6
   try clear BW5
   try clear KW5
   try clear BW4
   try clear KW4
   revert hq
   revert HZ
   revert KW11
   revert BW11
   revert t
   revert z
   revert q
   revert W11
   exact fin
 ·intro W3 q z t HB3 HK3 HZ hq
  clear hq
  have HS3 := Lib.hid (HS2.out.below HB3.out)
  have HBB := Lib.hid (below_trans' HB.out HB3.out)
  have HTL := Lib.hid (dress_txt HWO.out y.w)
  have HCD : Hid ((dressW x.o y.w).1.1 = 0 → z.card = y.w.card) := Lib.hid (fun h => by rw [(HZ.out h).1]; exact (dress_ok HK.out HO.out h).card)
  generalize dressW x.o y.w = D at HZ HL0 HTL HCD ⊢
  obtain ⟨⟨e, z'⟩, t'⟩ := D
  dsimp only at HZ HL0 HTL HCD ⊢
  by_cases he : e = 0
  rotate_left
  ·have HL : Hid (workR v.rm x.o a = (e, v.rm)) := Lib.hid (by rw [HL0.out, if_pos he])
   have h1 : (e != 0) = true := by simpa using he
   go_wp2_with fail
   go_ret
   exact retO_no HL.out HS3.out.a HBB.out
  subst he
  obtain ⟨rfl, rfl⟩ := HZ.out rfl
  rw [if_neg (by simp)] at HL0
  have hrow := HS3.out.a.rw
  rw [HG.out] at hrow
  have d12 : W3.cell? ⟨g, i * 13 + 12, none⟩ = some (.slice y.A y.n y.c) := own_cell nw_len (by omega) hrow HY.out (j := 12) (by omega)
  have hcd := HS3.out.a.hw y (List.mem_of_getElem? HY.out)
  have hn60 : y.n ≤ 60 := by rw [nw_n hcd.1]; exact HK.out.card.len
  have HC := Lib.hid hcd.1
  have hsz : (mkB t).size ≤ 1000000 := by rw [size_mk]; exact Nat.le_trans HTL.out (by decide)
  have hcz := HCD.out rfl
  clear hrow hcd HTL HCD HZ
  go_wp2_with fail
  clear d12
  with_reducible refine (add_any y.A y.n y.c y.w.card 0 (mkB t) W3 HC.out (by omega) (card_short HK.out.card) hsz).mono ?_
  rintro _ W4 ⟨B4, d4, rfl, ho4, hb4⟩
  have HS4 := Lib.hid (HS3.out.below hb4)
  have HK4 := Lib.hid (HK3.out.below hb4)
  have HB4 := Lib.hid (below_trans' HBB.out hb4)
  have HO4 := Lib.hid ho4
  have HZ4 : Hid (w.heap.size ≤ W3.heap.size) := Lib.hid HBB.out.size
  have HAL : Hid (addE y.w.card 0 (mkB t) = 0 → addL' y.w.card 0 (mkB t) = addR y.w.card 0 (mkB t)) := Lib.hid (fun h => if_pos h)
  have HL1 : Hid (workR v.rm x.o a = if addE y.w.card 0 (mkB t) ≠ 0 then (addE y.w.card 0 (mkB t), v.rm) else (0, v.rm.setW i { z with card := addR y.w.card 0 (mkB t) })) := Lib.hid (by rw [HL0.out]; unfold writeR; rw [hcz])
  clear hb4 ho4 hsz HS3 HK3 HB3 HBB hcz HL0 HC hn60
  generalize mkB t = tx at HL1 HO4 HAL ⊢
  generalize addL' y.w.card 0 tx = es at HO4 HAL ⊢
  generalize addE y.w.card 0 tx = er at HL1 HAL ⊢
  by_cases her : er = 0
  rotate_left
  ·have HL : Hid (workR v.rm x.o a = (er, v.rm)) := Lib.hid (by rw [HL1.out, if_pos her])
   have h1 : (er != 0) = true := by simpa using her
   go_wp2_with fail
   go_ret
   exact retO_no HL.out HS4.out.a HB4.out
  subst her
  rw [if_neg (by simp)] at HL1
  have hrow := HS4.out.a.rw
  rw [HG.out] at hrow
  have d0 : W4.cell? ⟨g, i * 13, none⟩ = _ := own_cell nw_len (by omega) hrow HY.out (j := 0) (by omega)
  have d1 : W4.cell? ⟨g, i * 13 + 1, none⟩ = _ := own_cell nw_len (by omega) hrow HY.out (j := 1) (by omega)
  have d2 : W4.cell? ⟨g, i * 13 + 2, none⟩ = _ := own_cell nw_len (by omega) hrow HY.out (j := 2) (by omega)
  have d3 : W4.cell? ⟨g, i * 13 + 3, none⟩ = _ := own_cell nw_len (by omega) hrow HY.out (j := 3) (by omega)
  have d4 : W4.cell? ⟨g, i * 13 + 4, none⟩ = _ := own_cell nw_len (by omega) hrow HY.out (j := 4) (by omega)
  have d5 : W4.cell? ⟨g, i * 13 + 5, none⟩ = _ := own_cell nw_len (by omega) hrow HY.out (j := 5) (by omega)
  have d6 : W4.cell? ⟨g, i * 13 + 6, none⟩ = _ := own_cell nw_len (by omega) hrow HY.out (j := 6) (by omega)
  have d7 : W4.cell? ⟨g, i * 13 + 7, none⟩ = _ := own_cell nw_len (by omega) hrow HY.out (j := 7) (by omega)
  have d8 : W4.cell? ⟨g, i * 13 + 8, none⟩ = _ := own_cell nw_len (by omega) hrow HY.out (j := 8) (by omega)
  have d9 : W4.cell? ⟨g, i * 13 + 9, none⟩ = _ := own_cell nw_len (by omega) hrow HY.out (j := 9) (by omega)
  have d10 : W4.cell? ⟨g, i * 13 + 10, none⟩ = _ := own_cell nw_len (by omega) hrow HY.out (j := 10) (by omega)
  have d11 : W4.cell? ⟨g, i * 13 + 11, none⟩ = _ := own_cell nw_len (by omega) hrow HY.out (j := 11) (by omega)
  have d12 : W4.cell? ⟨g, i * 13 + 12, none⟩ = _ := own_cell nw_len (by omega) hrow HY.out (j := 12) (by omega)
  simp only [NW.cells, wgL, List.cons_append, List.getElem?_cons_zero, List.getElem?_cons_succ] at d0 d1 d2 d3 d4 d5 d6 d7 d8 d9 d10 d11 d12
  have fg : ∀ j, W4.frozen? ⟨g, j, none⟩ = false := fun j => hrow.frozenAt j
  have cq := HK4.out.cell
  obtain ⟨r1, r2⟩ := work_fin (z := z) H0.out HS4.out.a HB4.out HG.out HY.out HO4.out HZ4.out
  have R1 := Lib.hid r1
  have R2 := Lib.hid r2
  clear hrow r1 r2
  go_wp2_with fail
  go_ret
  rw [HL1.out, ← HAL.out trivial]
  refine ⟨rfl, _, ?_, R1.out, R2.out⟩
  rw [rm_setW]
end Go.Proofs.YtihhclhpjgeniaaGreatDoor
