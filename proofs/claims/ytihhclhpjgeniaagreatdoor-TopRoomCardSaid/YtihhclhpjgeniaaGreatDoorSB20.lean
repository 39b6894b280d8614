/- Merged texts: H7 H8 -/
import Derived.Test.YtihhclhpjgeniaaGreatDoorSB19
namespace Go.Proofs.YtihhclhpjgeniaaGreatDoor
open Go.RowKit Go.Sort
theorem row1 {w0 W : World} {N n c : Nat} {h : Lck} {x y : Int} {A : Option Addr} {v : Value} {xs ys : List Int} (hn : n = xs.length) (t : TS w0 N h x y (.slice A n c) v xs ys W) : W.ownsRow (w0.heap.size + 2) 3 1 (.slice A n c) n (ints xs) := by have := t.two.r; rwa [← hn] at this
theorem row2 {w0 W : World} {N n c : Nat} {h : Lck} {x y : Int} {A : Option Addr} {u : Value} {xs ys : List Int} (hn : n = ys.length) (t : TS w0 N h x y u (.slice A n c) xs ys W) : W.ownsRow (w0.heap.size + 2) 3 1 (.slice A n c) n (ints ys) := by have := t.two.s; rwa [← hn] at this
theorem retBE {fn : Func} {tmps : Array Value} {w : World} (p u : _root_.Go.Tmp) (g : Nat) (cs : Array Value) (h : fn.results = #[.cell p 56, .tmp u]) (hp : tmps.getD p undef = .pointer (some ⟨g, 0, none⟩)) (hg : At w g cs 56) (hc : cs.size = 2) :
  (results fn tmps).run Tryz.prog w = .ok (.tuple #[.agg cs, tmps.getD u undef]) w := by
 rw [results_cell_tmp h, hp]
 simp [asAddr, run_loadVar_row w g 56 56 cs (0, 0) _ hg Tryz.underlying56 rfl (by rw [hc]; kernel_rfl)]
set_option maxRecDepth 100000 in
set_option maxHeartbeats 1000000 in
theorem tie_any (h : Lck) (w : World) (hh : h.In 200000000) :
  Calls Tryz.prog 269 #[.agg (arrI (flatP h))] w (RetB (fin h).2 (fin h).1 w) := by
 go_enter Tryz.func269, Tryz.ntmps269
 go_wp2_with fail
 have k1 := (At.new w (arrI (flatP h)) 217).below (belowA _ (.cells #[.slice none 0 0, .slice none 0 0] 56))
 have k2 := At.new (w.alloc (.cells (arrI (flatP h)) 217)) #[.slice none 0 0, .slice none 0 0] 56
 rw [World.size_alloc] at k2
 refine wp_gen (fun w1 => LkP w1 w.heap.size h ∧ At w1 (w.heap.size + 1) #[.slice none 0 0, .slice none 0 0] 56 ∧ Below w.heap.size w w1 ∧ w.heap.size + 2 ≤ w1.heap.size) ⟨k1, k2, belowAA _ _ _, by simp⟩ ?_
 clear k1 k2
 rintro w1 ⟨k1, k2, hw, hz⟩
 go_loopw [12, 4, 5] (fun i u v wr => ∃ (j : Nat) (A B : Option Addr) (c d : Nat), j ≤ 24 ∧ i = .int .i64 j ∧ u = .slice A j c ∧ v = .slice B j d ∧ Two (w.heap.size + 2) (.slice A j c) (.slice B j d) ((lens h 0).take j) ((lens h 1).take j) wr ∧
  LkP wr w.heap.size h ∧ At wr (w.heap.size + 1) #[.slice none 0 0, .slice none 0 0] 56 ∧ Below w.heap.size w wr) (fun i _ _ _ => 24 - (intOf i).toNat)
 case atStart => exact ⟨0, none, none, 0, 0, by omega, rfl, rfl, rfl, Two.nil _ _ hz, k1, k2, hw⟩
 case round =>
  obtain ⟨j, A, B, c, d, hj, rfl, rfl, rfl, ht, k3, k4, hw2⟩ := hrel
  have HT := Lib.hid ht
  have HK := Lib.hid k3
  have HR := Lib.hid k4
  have HW := Lib.hid hw2
  clear ht k3 k4 hw2 k1 k2 hw hz
  by_cases hlt : j < 24
  ·have g0 := HK.out.get0 (n := j + 1) (by omega)
   have g1 := HK.out.get1 (n := j + 1) (by omega)
   rw [show (j + 1) * 2 = 2 + j * 2 by omega] at g0 g1
   go_wp2_with fail
   have k5 := At.new wr #[.int .i64 (h 0 (j + 1)), .int .i64 (h 1 (j + 1))] 215
   have HT1 := Lib.hid (HT.out.below (belowA _ (.cells #[.int .i64 (h 0 (j + 1)), .int .i64 (h 1 (j + 1))] 215)))
   have HK1 := Lib.hid (HK.out.below (belowA _ (.cells #[.int .i64 (h 0 (j + 1)), .int .i64 (h 1 (j + 1))] 215)))
   have HR1 := Lib.hid (HR.out.below (belowA _ (.cells #[.int .i64 (h 0 (j + 1)), .int .i64 (h 1 (j + 1))] 215)))
   have HW1 := Lib.hid (below_trans' HW.out (belowA _ (.cells #[.int .i64 (h 0 (j + 1)), .int .i64 (h 1 (j + 1))] 215)))
   have HX := Lib.hid (lens_get h 0 hlt)
   have HY := Lib.hid (lens_get h 1 hlt)
   have K5 := Lib.hid k5
   have hN : ∀ k, (Value.slice A j c).ownBlock = some k → k ≠ wr.heap.size := fun k hk e => by have := own_lt HT.out.r k hk; omega
   have hM : ∀ k, (Value.slice B j d).ownBlock = some k → k ≠ wr.heap.size := fun k hk e => by have := own_lt HT.out.s k hk; omega
   generalize wr.alloc (.cells #[.int .i64 (h 0 (j + 1)), .int .i64 (h 1 (j + 1))] 215) = W1 at HT1 HK1 HR1 HW1 K5 ⊢
   generalize wr.heap.size = N at K5 hN hM ⊢
   generalize h 0 (j + 1) = x at K5 HX ⊢
   generalize h 1 (j + 1) = y at K5 HY ⊢
   clear g0 g1 k5 HT HK HR HW
   refine wp_region_hv [0, 1, 2, 5, 6, 7] [3, 4, 8, 9, 10, 11] (fun W => At W N #[.int .i64 x, .int .i64 y] 215) mixed (by kernel_rfl) (fun W W' h hb => At.below h hb) K5.out ?_
   iterate 6
    refine canonG_read (v := ?_) rfl (by rfl) ?_ ?_
    rotate_left
    ·intro W hS
     have q0 := At.cell hS 0
     have q1 := At.cell hS 1
     go_simp <;> with_reducible rfl
    simp only [List.getElem_toArray, List.getElem_cons_zero, List.getElem_cons_succ, Act.put, List.setIfInBounds_toArray, List.set_cons_succ, List.set_cons_zero]
   refine canonG_nil ?_
   have H0 : Hid (TS w N h x y (.slice A j c) (.slice B j d) ((lens h 0).take j) ((lens h 1).take j) W1) := Lib.hid ⟨HT1.out, HK1.out, HR1.out, HW1.out, K5.out, fun e => hN N e rfl, fun e => hM N e rfl⟩
   have hx0 : Hid (j = ((lens h 0).take j).length) := Lib.hid (by rw [List.length_take, lens_length]; omega)
   have hy0 : Hid (j = ((lens h 1).take j).length) := Lib.hid (by rw [List.length_take, lens_length]; omega)
   have HX0 : Hid ((lens h 0).take (j + 1) = (lens h 0).take j ++ [x]) := Lib.hid (take_succ_of HX.out)
   have HY0 : Hid ((lens h 1).take (j + 1) = (lens h 1).take j ++ [y]) := Lib.hid (take_succ_of HY.out)
   clear HT1 HK1 HR1 HW1 K5 hN hM
   refine tailG_two (t := 3) (t' := 8) (ts1 := [4, 8, 9, 10, 11]) (ts2 := [3, 4, 9, 10, 11]) (by kernel_rfl) rfl rfl rfl rfl ?_ ?_
   ·intro W1_ hb1
    have S1 := Lib.hid (H0.out.below (undrew hb1))
    clear hb1
    go_wp2_with fail
    have N1 := S1.out.new x
    have U1 := Lib.hid N1.1
    have V1_3 := Lib.hid N1.2
    generalize W1_.alloc (.cells #[.int .i64 x] 3) = X1 at U1 V1_3 ⊢
    clear N1 S1 
    generalize W1_.heap.size = M1 at V1_3 ⊢
    refine ⟨U1.out.nn, ?_⟩
    refine tailG_two (t := 4) (t' := 8) (ts1 := [8, 9, 10, 11]) (ts2 := [4, 9, 10, 11]) (by kernel_rfl) rfl rfl rfl rfl ?_ ?_
    ·intro W2_ hb2
     have S2 := Lib.hid (U1.out.below (hb2))
     have T2_3 := Lib.hid (V1_3.out.below (by exact hb2))
     clear hb2
     refine wpList_pushXm rfl _ _ 54 3 rfl Tryz.underlying54 info3h rfl (by decide) (by decide) (w.heap.size + 2) _ A j c (ints ((lens h 0).take j)) (some ⟨M1, 0, none⟩) 1 1 (ints [x]) rfl (row1 hx0.out S2.out) S2.out.two.b rfl T2_3.out.reads (ints_one _) (by omega) ?_
     intro A2 c2 X2 ho2 hg2 hl2
     have U2 := Lib.hid (S2.out.one (z := x) hx0.out ho2 hg2 hl2)
     clear ho2 hg2 hl2 S2 T2_3
     go_wp2_with fail
     refine ⟨U2.out.nn, ?_⟩
     refine tailG_one (t := 8) (ts' := [9, 10, 11]) (by kernel_rfl) rfl rfl ?_
     intro W3_ hb3
     have S3 := Lib.hid (U2.out.below (hb3))
     clear hb3
     go_wp2_with fail
     have N3 := S3.out.new y
     have U3 := Lib.hid N3.1
     have V3_8 := Lib.hid N3.2
     generalize W3_.alloc (.cells #[.int .i64 y] 3) = X3 at U3 V3_8 ⊢
     clear N3 S3 
     generalize W3_.heap.size = M3 at V3_8 ⊢
     refine ⟨U3.out.nn, ?_⟩
     refine tailG_one (t := 9) (ts' := [10, 11]) (by kernel_rfl) rfl rfl ?_
     intro W4_ hb4
     have S4 := Lib.hid (U3.out.below (hb4))
     have T4_8 := Lib.hid (V3_8.out.below (by exact hb4))
     clear hb4
     refine wpList_pushXm rfl _ _ 54 3 rfl Tryz.underlying54 info3h rfl (by decide) (by decide) (w.heap.size + 2) _ B j d (ints ((lens h 1).take j)) (some ⟨M3, 0, none⟩) 1 1 (ints [y]) rfl (row2 hy0.out S4.out) S4.out.two.b rfl T4_8.out.reads (ints_one _) (by omega) ?_
     intro A4 c4 X4 ho4 hg4 hl4
     have U4 := Lib.hid (S4.out.two' (z := y) hy0.out ho4 hg4 hl4)
     clear ho4 hg4 hl4 S4 T4_8
     go_wp2_with fail
     refine ⟨U4.out.nn, ?_⟩
     refine tailG_one (t := 10) (ts' := [11]) (by kernel_rfl) rfl rfl ?_
     intro W5_ hb5
     have S5 := Lib.hid (U4.out.below (hb5))
     clear hb5
     go_wp2_with fail
     refine ⟨S5.out.nn, ?_⟩
     refine tailG_last (t := 11) (by kernel_rfl) rfl ?_
     intro W6_ hb6
     have S6 := Lib.hid (S5.out.below hb6)
     clear hb6
     go_wp2_with fail
     refine NoPanic.normal ?_
     go_wp2_with fail
     go_roundw
     case rel => exact ⟨j + 1, A2, A4, c2, c4, by omega, by go_num, rfl, rfl, by have h7 := S6.out.two; rw [← HX0.out, ← HY0.out] at h7; exact h7, S6.out.lk, S6.out.rs, S6.out.bl⟩
     case measure => simp [intOf]; omega
    ·intro W7_ hb7
     have S7 := Lib.hid (U1.out.below (hb7))
     have T7_3 := Lib.hid (V1_3.out.below (by exact hb7))
     clear hb7
     go_wp2_with fail
     have N7 := S7.out.new y
     have U7 := Lib.hid N7.1
     have V7_8 := Lib.hid N7.2
     have V7_3 := Lib.hid (T7_3.out.below (belowA _ (.cells #[.int .i64 y] 3)))
     generalize W7_.alloc (.cells #[.int .i64 y] 3) = X7 at U7 V7_3 V7_8 ⊢
     clear N7 S7 T7_3
     generalize W7_.heap.size = M7 at V7_8 ⊢
     refine ⟨U7.out.nn, ?_⟩
     refine tailG_one (t := 4) (ts' := [9, 10, 11]) (by kernel_rfl) rfl rfl ?_
     intro W8_ hb8
     have S8 := Lib.hid (U7.out.below (hb8))
     have T8_3 := Lib.hid (V7_3.out.below (by exact hb8))
     have T8_8 := Lib.hid (V7_8.out.below (by exact hb8))
     clear hb8
     refine wpList_pushXm rfl _ _ 54 3 rfl Tryz.underlying54 info3h rfl (by decide) (by decide) (w.heap.size + 2) _ A j c (ints ((lens h 0).take j)) (some ⟨M1, 0, none⟩) 1 1 (ints [x]) rfl (row1 hx0.out S8.out) S8.out.two.b rfl T8_3.out.reads (ints_one _) (by omega) ?_
     intro A8 c8 X8 ho8 hg8 hl8
     have U8 := Lib.hid (S8.out.one (z := x) hx0.out ho8 hg8 hl8)
     have V8_8 := Lib.hid (T8_8.out.one (n' := j + 1) (c' := c8) hg8 hl8)
     clear ho8 hg8 hl8 S8 T8_3 T8_8
     go_wp2_with fail
     refine ⟨U8.out.nn, ?_⟩
     refine tailG_one (t := 9) (ts' := [10, 11]) (by kernel_rfl) rfl rfl ?_
     intro W9_ hb9
     have S9 := Lib.hid (U8.out.below (hb9))
     have T9_8 := Lib.hid (V8_8.out.below (by exact hb9))
     clear hb9
     refine wpList_pushXm rfl _ _ 54 3 rfl Tryz.underlying54 info3h rfl (by decide) (by decide) (w.heap.size + 2) _ B j d (ints ((lens h 1).take j)) (some ⟨M7, 0, none⟩) 1 1 (ints [y]) rfl (row2 hy0.out S9.out) S9.out.two.b rfl T9_8.out.reads (ints_one _) (by omega) ?_
     intro A9 c9 X9 ho9 hg9 hl9
     have U9 := Lib.hid (S9.out.two' (z := y) hy0.out ho9 hg9 hl9)
     clear ho9 hg9 hl9 S9 T9_8
     go_wp2_with fail
     refine ⟨U9.out.nn, ?_⟩
     refine tailG_one (t := 10) (ts' := [11]) (by kernel_rfl) rfl rfl ?_
     intro W10_ hb10
     have S10 := Lib.hid (U9.out.below (hb10))
     clear hb10
     go_wp2_with fail
     refine ⟨S10.out.nn, ?_⟩
     refine tailG_last (t := 11) (by kernel_rfl) rfl ?_
     intro W11_ hb11
     have S11 := Lib.hid (S10.out.below hb11)
     clear hb11
     go_wp2_with fail
     refine NoPanic.normal ?_
     go_wp2_with fail
     go_roundw
     case rel => exact ⟨j + 1, A8, A9, c8, c9, by omega, by go_num, rfl, rfl, by have h7 := S11.out.two; rw [← HX0.out, ← HY0.out] at h7; exact h7, S11.out.lk, S11.out.rs, S11.out.bl⟩
     case measure => simp [intOf]; omega
   ·intro W12_ hb12
    have S12 := Lib.hid (H0.out.below (undrew hb12))
    clear hb12
    go_wp2_with fail
    have N12 := S12.out.new y
    have U12 := Lib.hid N12.1
    have V12_8 := Lib.hid N12.2
    generalize W12_.alloc (.cells #[.int .i64 y] 3) = X12 at U12 V12_8 ⊢
    clear N12 S12 
    generalize W12_.heap.size = M12 at V12_8 ⊢
    refine ⟨U12.out.nn, ?_⟩
    refine tailG_one (t := 3) (ts' := [4, 9, 10, 11]) (by kernel_rfl) rfl rfl ?_
    intro W13_ hb13
    have S13 := Lib.hid (U12.out.below (hb13))
    have T13_8 := Lib.hid (V12_8.out.below (by exact hb13))
    clear hb13
    go_wp2_with fail
    have N13 := S13.out.new x
    have U13 := Lib.hid N13.1
    have V13_3 := Lib.hid N13.2
    have V13_8 := Lib.hid (T13_8.out.below (belowA _ (.cells #[.int .i64 x] 3)))
    generalize W13_.alloc (.cells #[.int .i64 x] 3) = X13 at U13 V13_8 V13_3 ⊢
    clear N13 S13 T13_8
    generalize W13_.heap.size = M13 at V13_3 ⊢
    refine ⟨U13.out.nn, ?_⟩
    refine tailG_one (t := 4) (ts' := [9, 10, 11]) (by kernel_rfl) rfl rfl ?_
    intro W14_ hb14
    have S14 := Lib.hid (U13.out.below (hb14))
    have T14_8 := Lib.hid (V13_8.out.below (by exact hb14))
    have T14_3 := Lib.hid (V13_3.out.below (by exact hb14))
    clear hb14
    refine wpList_pushXm rfl _ _ 54 3 rfl Tryz.underlying54 info3h rfl (by decide) (by decide) (w.heap.size + 2) _ A j c (ints ((lens h 0).take j)) (some ⟨M13, 0, none⟩) 1 1 (ints [x]) rfl (row1 hx0.out S14.out) S14.out.two.b rfl T14_3.out.reads (ints_one _) (by omega) ?_
    intro A14 c14 X14 ho14 hg14 hl14
    have U14 := Lib.hid (S14.out.one (z := x) hx0.out ho14 hg14 hl14)
    have V14_8 := Lib.hid (T14_8.out.one (n' := j + 1) (c' := c14) hg14 hl14)
    clear ho14 hg14 hl14 S14 T14_8 T14_3
    go_wp2_with fail
    refine ⟨U14.out.nn, ?_⟩
    refine tailG_one (t := 9) (ts' := [10, 11]) (by kernel_rfl) rfl rfl ?_
    intro W15_ hb15
    have S15 := Lib.hid (U14.out.below (hb15))
    have T15_8 := Lib.hid (V14_8.out.below (by exact hb15))
    clear hb15
    refine wpList_pushXm rfl _ _ 54 3 rfl Tryz.underlying54 info3h rfl (by decide) (by decide) (w.heap.size + 2) _ B j d (ints ((lens h 1).take j)) (some ⟨M12, 0, none⟩) 1 1 (ints [y]) rfl (row2 hy0.out S15.out) S15.out.two.b rfl T15_8.out.reads (ints_one _) (by omega) ?_
    intro A15 c15 X15 ho15 hg15 hl15
    have U15 := Lib.hid (S15.out.two' (z := y) hy0.out ho15 hg15 hl15)
    clear ho15 hg15 hl15 S15 T15_8
    go_wp2_with fail
    refine ⟨U15.out.nn, ?_⟩
    refine tailG_one (t := 10) (ts' := [11]) (by kernel_rfl) rfl rfl ?_
    intro W16_ hb16
    have S16 := Lib.hid (U15.out.below (hb16))
    clear hb16
    go_wp2_with fail
    refine ⟨S16.out.nn, ?_⟩
    refine tailG_last (t := 11) (by kernel_rfl) rfl ?_
    intro W17_ hb17
    have S17 := Lib.hid (S16.out.below hb17)
    clear hb17
    go_wp2_with fail
    refine NoPanic.normal ?_
    go_wp2_with fail
    go_roundw
    case rel => exact ⟨j + 1, A14, A15, c14, c15, by omega, by go_num, rfl, rfl, by have h7 := S17.out.two; rw [← HX0.out, ← HY0.out] at h7; exact h7, S17.out.lk, S17.out.rs, S17.out.bl⟩
    case measure => simp [intOf]; omega
  ·obtain rfl : j = 24 := by omega
   have HT2 : Hid (Two (w.heap.size + 2) (.slice A 24 c) (.slice B 24 d) (lens h 0) (lens h 1) wr) := Lib.hid (by have := HT.out; rwa [List.take_of_length_le (by rw [lens_length]; omega), List.take_of_length_le (by rw [lens_length]; omega)] at this)
   have HA : Hid (Reads wr wr.heap.size 1 A 24 (ints (lens h 0))) := Lib.hid (by have := HT2.out.r; rw [lens_length] at this; exact Reads.of_own this)
   have HB : Hid (Reads wr wr.heap.size 1 B 24 (ints (lens h 1))) := Lib.hid (by have := HT2.out.s; rw [lens_length] at this; exact Reads.of_own this)
   have hc : 24 ≤ c := by have := HT2.out.r; rw [lens_length] at this; exact (row_cap this).1
   have hd : 24 ≤ d := by have := HT2.out.s; rw [lens_length] at this; exact (row_cap this).1
   clear HT
   go_wp2_with fail
   with_reducible refine (trimmed_any A 24 c (lens h 0) _ HA.out hc (by omega)).mono ?_
   rintro _ w2 ⟨A2, c2, rfl, ho2, hb2⟩
   have HO2 := Lib.hid ho2
   have HB2 := Lib.hid hb2
   clear ho2 hb2
   go_wp2_with fail
   with_reducible refine (trimmed_any B 24 d (lens h 1) _ (HB.out.on HB2.out) hd (by omega)).mono ?_
   rintro _ w3 ⟨A3, c3, rfl, ho3, hb3⟩
   have HX3 := Lib.hid (Reads.of_own (row_on HO2.out hb3))
   have HY3 := Lib.hid (Reads.of_own ho3)
   have HC2 := Lib.hid (row_cap HO2.out)
   have hz2 := HT2.out.b
   have hz3 := HB2.out.size
   have NA : Hid (∀ a : Addr, A2 = some a → a.block ≠ w.heap.size + 1) := Lib.hid (fun a e k => by have := (HO2.out.lt a.block (by rw [e]; rfl)).1; omega)
   have NB : Hid (∀ a : Addr, A3 = some a → a.block ≠ w.heap.size + 1) := Lib.hid (fun a e k => by have := (ho3.lt a.block (by rw [e]; rfl)).1; omega)
   have NA2 : Hid (∀ a : Addr, A2 = some a → w.heap.size ≤ a.block) := Lib.hid (fun a e => by have := (HO2.out.lt a.block (by rw [e]; rfl)).1; omega)
   have NB2 : Hid (∀ a : Addr, A3 = some a → w.heap.size ≤ a.block) := Lib.hid (fun a e => by have := (ho3.lt a.block (by rw [e]; rfl)).1; omega)
   clear hz2 hz3
   have HC3 := Lib.hid (row_cap ho3)
   have HW3 := Lib.hid (below_trans' (below_trans' HW.out HB2.out) hb3)
   have HR3 := Lib.hid (At.below (At.below HR.out HB2.out) hb3)
   clear ho3 hb3 HO2 HB2 HT2 HA HB HK HR HW
   obtain ⟨p, hp⟩ : ∃ p, (trimL (lens h 0)).length = p := ⟨_, rfl⟩
   obtain ⟨q, hq⟩ : ∃ q, (trimL (lens h 1)).length = q := ⟨_, rfl⟩
   rw [hp] at HX3 HC2 ⊢
   rw [hq] at HY3 HC3 ⊢
   clear hp hq
   go_wp2_with fail
   have k6 := At.new w3 #[.slice A2 p c2, .slice A3 q c3] 56
   have hwk : (tieH h).Wk := ⟨Nat.le_trans (trimL_len _) (by rw [lens_length]; omega), Nat.le_trans (trimL_len _) (by rw [lens_length]; omega), fun z hz => by obtain ⟨i, _, _, rfl⟩ := lens_mem (trimL_mem hz); exact hh 0 i, fun z hz => by obtain ⟨i, _, _, rfl⟩ := lens_mem (trimL_mem hz); exact hh 1 i⟩
   have K6 := Lib.hid k6
   have HX4 := Lib.hid (HX3.out.on (belowA _ (.cells #[.slice A2 p c2, .slice A3 q c3] 56)))
   have HY4 := Lib.hid (HY3.out.on (belowA _ (.cells #[.slice A2 p c2, .slice A3 q c3] 56)))
   have HR4 := Lib.hid (At.below HR3.out (belowA _ (.cells #[.slice A2 p c2, .slice A3 q c3] 56)))
   have HW4 := Lib.hid (below_trans' HW3.out (belowA _ (.cells #[.slice A2 p c2, .slice A3 q c3] 56)))
   clear k6
   with_reducible refine (validH_any A2 A3 p c2 q c3 (tieH h) _ HX4.out HY4.out hwk).mono ?_
   rintro _ w5 ⟨rfl, hb5⟩
   have HX5 := Lib.hid (HX4.out.on hb5)
   have HY5 := Lib.hid (HY4.out.on hb5)
   have HR5 := Lib.hid (At.below HR4.out hb5)
   have K65 := Lib.hid (At.below K6.out hb5)
   have HW5 := Lib.hid (below_trans' HW4.out hb5)
   clear hb5
   generalize w3.heap.size = g at K65 ⊢
   have cg := K65.out.cell
   have cr := HR5.out.cell
   have fr := HR5.out.fz
   obtain ⟨e, he⟩ : ∃ e, valN (tieH h) = e := ⟨_, rfl⟩
   have HE := Lib.hid he
   rw [he]
   clear he
   by_cases h0 : e = 0
   ·subst h0
    go_wp2_with fail
    refine bodyPost_ret (retBE 2 3 (w.heap.size + 1) #[.slice A2 p c2, .slice A3 q c3] rfl rfl ((At.set HR5.out 0 (.slice A2 p c2)).set 1 (.slice A3 q c3)) rfl) rfl ?_
    have hf : fin h = (0, tieH h) := by
     have h1 := fin_val h
     rw [HE.out] at h1
     unfold fin at h1 ⊢
     split at h1
     ·simp at h1
     ·rename_i hb; rw [if_neg hb]
    have hok : (tieH h).Ok := tie_ok fun k hk n a b => ⟨(hh k n).1, by
     have hb : big h = false := by
      unfold fin at hf
      split at hf
      ·simp at hf
      ·rename_i hb; simpa using hb
     exact big_no hb k hk n a b⟩
    have hw6 := below_put (below_put HW5.out (p := ⟨w.heap.size + 1, 0, none⟩) (by show w.heap.size ≤ w.heap.size + 1; omega) (.slice A2 p c2)) (p := ⟨w.heap.size + 1, 1, none⟩) (by show w.heap.size ≤ w.heap.size + 1; omega) (.slice A3 q c3)
    refine ⟨⟨tieH h, A2, A3, p, c2, q, c3⟩, by rw [hf], by rw [hf]; rfl, ⟨?_, ?_, HC2.out.1, HC3.out.1, hok⟩, ?_, hw6⟩
    ·have := (HX5.out.far (q := ⟨w.heap.size + 1, 0, none⟩) NA.out (.slice A2 p c2)).far (q := ⟨w.heap.size + 1, 1, none⟩) NA.out (.slice A3 q c3)
     rw [size_set, size_set]
     exact this
    ·have := (HY5.out.far (q := ⟨w.heap.size + 1, 0, none⟩) NB.out (.slice A2 p c2)).far (q := ⟨w.heap.size + 1, 1, none⟩) NB.out (.slice A3 q c3)
     rw [size_set, size_set]
     exact this
    ·rintro k (⟨_, a, ha, rfl⟩ | ⟨_, a, ha, rfl⟩)
     ·exact NA2.out a ha
     ·exact NB2.out a ha
   ·have h1 : (e != 0) = true := by simpa using h0
    go_wp2_with fail
    refine bodyPost_ret (retBE 2 3 (w.heap.size + 1) #[.slice none 0 0, .slice none 0 0] rfl rfl ((At.set HR5.out 0 (.slice none 0 0)).set 1 (.slice none 0 0)) rfl) rfl ?_
    have hf : fin h = (e, noH) := by
     have h1 := fin_val h
     rw [HE.out] at h1
     unfold fin at h1 ⊢
     split at h1
     ·rename_i hb; rw [if_pos hb, h1]
     ·exact absurd h1 h0
    have hw6 := below_put (below_put HW5.out (p := ⟨w.heap.size + 1, 0, none⟩) (by show w.heap.size ≤ w.heap.size + 1; omega) (.slice none 0 0)) (p := ⟨w.heap.size + 1, 1, none⟩) (by show w.heap.size ≤ w.heap.size + 1; omega) (.slice none 0 0)
    exact ⟨noB, by rw [hf]; rfl, by rw [hf]; rfl, noB_in _, noB_new _, hw6⟩
end Go.Proofs.YtihhclhpjgeniaaGreatDoor
namespace Go.Proofs.YtihhclhpjgeniaaGreatDoor
open Go.RowKit Go.Sort
theorem validB_any (v : BV) (w : World) (hv : v.In w) : Calls Tryz.prog 144 #[.agg #[.slice v.A v.n v.c, .slice v.B v.m v.d]] w fun r w' => r = .returned (.int .i64 0) ∧ Below w.heap.size w w' := by
 refine (validH_any v.A v.B v.n v.c v.m v.d v.h w hv.r hv.s hv.ok.wk).mono ?_
 rintro r w' ⟨rfl, hb⟩
 exact ⟨by rw [valN_ok hv.ok], hb⟩
theorem openB_any (v : BV) (w : World) (hv : v.In w) : Calls Tryz.prog 145 #[.agg #[.slice v.A v.n v.c, .slice v.B v.m v.d]] w fun r w' => r = .returned (.agg (arrI (flatP v.h.op))) ∧ Below w.heap.size w w' := open_any v w hv
theorem ext2 (f : Nat → Int) {j : Nat} (hj : j + 2 ≤ 50) : (arrI f).extract j (j + 2) = #[.int .i64 (f j), .int .i64 (f (j + 1))] := by
 apply Array.ext_getElem?
 intro k
 rw [Array.getElem?_extract, arrI_size]
 rcases (show k = 0 ∨ k = 1 ∨ 2 ≤ k by omega) with rfl | rfl | hk
 ·rw [if_pos (by omega), Nat.add_zero, arrI_get _ (by omega)]; rfl
 ·rw [if_pos (by omega), arrI_get _ (by omega)]; rfl
 ·rw [if_neg (by omega), Array.getElem?_eq_none (by simp; omega)]
theorem idxP (h : Lck) {i : Nat} (hi : i < 25) (w : World) : (Instr.index 217 (.agg (arrI (flatP h))) (.int .i64 (i : Int))).run Tryz.prog w = .ok (.agg #[.int .i64 (h 0 i), .int .i64 (h 1 i)]) w := by
 have e0 : flatP h (i * 2) = h 0 i := by have := flatP_at h i (k := 0) (by omega); rwa [Nat.add_zero] at this
 have e1 : flatP h (i * 2 + 1) = h 1 i := flatP_at h i (by omega)
 have hx := ext2 (flatP h) (j := i * 2) (by omega)
 rw [e0, e1] at hx
 simp [Instr.index, asIntOf, run_underlying Tryz.underlying217, part, hi, hx, Result.andThen]
theorem LkP.put2 {w : World} {q : Nat} {h : Lck} (k : LkP w q h) (n : Nat) (x y : Int) : LkP (w.setCells q (n * 2) [.int .i64 x, .int .i64 y]) q (setH (setH h 0 n x) 1 n y) := (k.put0 n x).put1 n y
theorem results_cct {fn : Func} {p q u : _root_.Go.Tmp} {ty ty' : TypeId} (h : fn.results = #[.cell p ty, .cell q ty', .tmp u]) (tmps : Array Value) (P : Program) (w : World) :
  (results fn tmps).run P w = ((asAddr (tmps.getD p undef)).run P w).andThen fun a w₁ => ((loadVar ty a).run P w₁).andThen fun v w₂ => ((asAddr (tmps.getD q undef)).run P w₂).andThen fun b w₃ => ((loadVar ty' b).run P w₃).andThen fun x w₄ => .ok (.tuple #[v, x, tmps.getD u undef]) w₄ := by
 simp only [results, h]
 simp [Sem.run_bind, Result.andThen]
theorem retPP {fn : Func} {tmps : Array Value} {w : World} (p q u : _root_.Go.Tmp) (g g' : Nat) (f f' : Nat → Int) (h : fn.results = #[.cell p 217, .cell q 217, .tmp u]) (hp : tmps.getD p undef = .pointer (some ⟨g, 0, none⟩)) (hq : tmps.getD q undef = .pointer (some ⟨g', 0, none⟩))
  (hg : At w g (arrI f) 217) (hg' : At w g' (arrI f') 217) : (results fn tmps).run Tryz.prog w = .ok (.tuple #[.agg (arrI f), .agg (arrI f'), tmps.getD u undef]) w := by
 rw [results_cct h, hp, hq]
 simp [asAddr, run_loadVar_row w g 217 217 (arrI f) (0, 0) _ hg Tryz.underlying217 rfl (size217 f), run_loadVar_row w g' 217 217 (arrI f') (0, 0) _ hg' Tryz.underlying217 rfl (size217 f')]
theorem retBBE {fn : Func} {tmps : Array Value} {w : World} (p q u : _root_.Go.Tmp) (g g' : Nat) (cs cs' : Array Value) (h : fn.results = #[.cell p 56, .cell q 56, .tmp u]) (hp : tmps.getD p undef = .pointer (some ⟨g, 0, none⟩)) (hq : tmps.getD q undef = .pointer (some ⟨g', 0, none⟩))
  (hg : At w g cs 56) (hc : cs.size = 2) (hg' : At w g' cs' 56) (hc' : cs'.size = 2) : (results fn tmps).run Tryz.prog w = .ok (.tuple #[.agg cs, .agg cs', tmps.getD u undef]) w := by
 rw [results_cct h, hp, hq]
 simp [asAddr, run_loadVar_row w g 56 56 cs (0, 0) _ hg Tryz.underlying56 rfl (by rw [hc]; kernel_rfl), run_loadVar_row w g' 56 56 cs' (0, 0) _ hg' Tryz.underlying56 rfl (by rw [hc']; kernel_rfl)]
theorem At.al {w : World} {q : Nat} {cs : Array Value} {t : TypeId} (h : At w q cs t) (o : Obj) : At (w.alloc o) q cs t := h.below (belowA _ _)
theorem at_n1 (w : World) (o : Obj) (cs : Array Value) (t : TypeId) : At ((w.alloc o).alloc (.cells cs t)) (w.heap.size + 1) cs t := by
 have := At.new (w.alloc o) cs t
 rwa [World.size_alloc] at this
theorem at_n2 (w : World) (o o' : Obj) (cs : Array Value) (t : TypeId) : At (((w.alloc o).alloc o').alloc (.cells cs t)) (w.heap.size + 1 + 1) cs t := by
 have := at_n1 (w.alloc o) o' cs t
 rwa [World.size_alloc] at this
theorem at_n3 (w : World) (o o' o'' : Obj) (cs : Array Value) (t : TypeId) : At ((((w.alloc o).alloc o').alloc o'').alloc (.cells cs t)) (w.heap.size + 1 + 1 + 1) cs t := by
 have := at_n2 (w.alloc o) o' o'' cs t
 rwa [World.size_alloc] at this
theorem below_al {B : Nat} {w0 w : World} (h : Below B w0 w) (hB : B ≤ w.heap.size) (o : Obj) : Below B w0 (w.alloc o) := h.trans ((belowA w o).mono hB)
theorem bel2 (w : World) (a b : Obj) : Below w.heap.size w ((w.alloc a).alloc b) := below_trans' (belowA _ _) (belowA _ _)
theorem bel3 (w : World) (a b c : Obj) : Below w.heap.size w (((w.alloc a).alloc b).alloc c) := below_trans' (bel2 w a b) (belowA _ _)
theorem bel4 (w : World) (a b c d : Obj) : Below w.heap.size w ((((w.alloc a).alloc b).alloc c).alloc d) := below_trans' (bel3 w a b c) (belowA _ _)
theorem zero217 : ∀ w, (zeroValue 217).run Tryz.prog w = .ok (.agg (arrI (flatP zeroH))) w := fun w => by
 have : (zeroValue 217).run Tryz.prog w = .ok (.agg #[.int .i64 0, .int .i64 0, .int .i64 0, .int .i64 0, .int .i64 0, .int .i64 0, .int .i64 0, .int .i64 0, .int .i64 0, .int .i64 0, .int .i64 0, .int .i64 0, .int .i64 0, .int .i64 0, .int .i64 0, .int .i64 0, .int .i64 0, .int .i64 0, .int .i64 0, .int .i64 0, .int .i64 0, .int .i64 0, .int .i64 0, .int .i64 0, .int .i64 0, .int .i64 0, .int .i64 0, .int .i64 0, .int .i64 0, .int .i64 0, .int .i64 0, .int .i64 0, .int .i64 0, .int .i64 0, .int .i64 0, .int .i64 0, .int .i64 0, .int .i64 0, .int .i64 0, .int .i64 0, .int .i64 0, .int .i64 0, .int .i64 0, .int .i64 0, .int .i64 0, .int .i64 0, .int .i64 0, .int .i64 0, .int .i64 0, .int .i64 0]) w := by kernel_rfl
 rwa [lit50] at this
theorem wpList_alloc50 {ops : Array Oper} {rest : List Oper} {o : Oper} {a : Act} {w : World} {Q : Exit → Act → World → Prop} (hgd : o.guard = none) (ho : o.op = .alloc 217) {N : Nat} (hN : w.heap.size = N)
  (h : wpList Tryz.prog ops Q rest (a.put o.dst (.pointer (some ⟨N, 0, none⟩))) (w.alloc (.cells (arrI (flatP zeroH)) 217))) : wpList Tryz.prog ops Q (o :: rest) a w := by
 subst hN
 refine wpList_plain hgd fun K hK => ?_
 unfold Oper.wp execOp
 simp only [ho]
 have hn : (newVar 217 (.agg (arrI (flatP zeroH)))).run Tryz.prog w = .ok ⟨w.heap.size, 0, none⟩ (w.alloc (.cells (arrI (flatP zeroH)) 217)) := by
  unfold newVar
  simp [newRow, Value.cells]
 simp only [Instr.alloc, zero217, Sem.run_bind, Sem.run_pure, Result.andThen_ok, hn]
 exact hK _ _ h
theorem wpList_locks {ops : Array Oper} {rest : List Oper} {o1 o2 o3 o4 : Oper} {a : Act} {w : World} {Q : Exit → Act → World → Prop} (g1 : o1.guard = none) (g2 : o2.guard = none) (g3 : o3.guard = none) (g4 : o4.guard = none)
  (h1 : o1.op = .alloc 217) (h2 : o2.op = .alloc 217) (p x q y : Operand) (h3 : o3.op = .store 217 p x) (h4 : o4.op = .store 217 q y) (f g : Lck)
  (e1 : ((a.put o1.dst (.pointer (some ⟨w.heap.size, 0, none⟩))).put o2.dst (.pointer (some ⟨w.heap.size + 1, 0, none⟩))).eval p = .pointer (some ⟨w.heap.size, 0, none⟩))
  (e2 : ((a.put o1.dst (.pointer (some ⟨w.heap.size, 0, none⟩))).put o2.dst (.pointer (some ⟨w.heap.size + 1, 0, none⟩))).eval x = .agg (arrI (flatP f)))
  (e3 : (((a.put o1.dst (.pointer (some ⟨w.heap.size, 0, none⟩))).put o2.dst (.pointer (some ⟨w.heap.size + 1, 0, none⟩))).put o3.dst undef).eval q = .pointer (some ⟨w.heap.size + 1, 0, none⟩))
  (e4 : (((a.put o1.dst (.pointer (some ⟨w.heap.size, 0, none⟩))).put o2.dst (.pointer (some ⟨w.heap.size + 1, 0, none⟩))).put o3.dst undef).eval y = .agg (arrI (flatP g)))
  (h : ∀ W, LkP W w.heap.size f → LkP W (w.heap.size + 1) g → Below w.heap.size w W → w.heap.size + 2 ≤ W.heap.size →
   wpList Tryz.prog ops Q rest ((((a.put o1.dst (.pointer (some ⟨w.heap.size, 0, none⟩))).put o2.dst (.pointer (some ⟨w.heap.size + 1, 0, none⟩))).put o3.dst undef).put o4.dst undef) W) :
  wpList Tryz.prog ops Q (o1 :: o2 :: o3 :: o4 :: rest) a w := by
 refine wpList_alloc50 g1 h1 rfl ?_
 refine wpList_alloc50 (N := w.heap.size + 1) g2 h2 (World.size_alloc _ _) ?_
 refine wpList_store50 g3 _ _ h3 w.heap.size (flatP f) (flatP zeroH) e1 e2 ((At.new w _ 217).al _) ?_
 refine wpList_store50 g4 _ _ h4 (w.heap.size + 1) (flatP g) (flatP zeroH) e3 e4 ((at_n1 w _ _ 217).rowFar (by omega) _) ?_
 refine h _ ((((At.new w _ 217).al _).row _).rowFar (by omega) _) (((at_n1 w _ (arrI (flatP zeroH)) 217).rowFar (by omega) _).row _) (below_row (below_row (bel2 w _ _) (Nat.le_refl _) _) (by omega) _) ?_
 rw [size_row, size_row, World.size_alloc, World.size_alloc]; omega
theorem wpList_lock {ops : Array Oper} {rest : List Oper} {o1 o3 : Oper} {a : Act} {w : World} {Q : Exit → Act → World → Prop} (g1 : o1.guard = none) (g3 : o3.guard = none)
  (h1 : o1.op = .alloc 217) (p x : Operand) (h3 : o3.op = .store 217 p x) (f : Lck)
  (e1 : (a.put o1.dst (.pointer (some ⟨w.heap.size, 0, none⟩))).eval p = .pointer (some ⟨w.heap.size, 0, none⟩))
  (e2 : (a.put o1.dst (.pointer (some ⟨w.heap.size, 0, none⟩))).eval x = .agg (arrI (flatP f)))
  (h : ∀ W, LkP W w.heap.size f → Below w.heap.size w W → w.heap.size + 1 ≤ W.heap.size → wpList Tryz.prog ops Q rest ((a.put o1.dst (.pointer (some ⟨w.heap.size, 0, none⟩))).put o3.dst undef) W) :
  wpList Tryz.prog ops Q (o1 :: o3 :: rest) a w := by
 refine wpList_alloc50 g1 h1 rfl ?_
 refine wpList_store50 g3 _ _ h3 w.heap.size (flatP f) (flatP zeroH) e1 e2 (At.new w _ 217) ?_
 refine h _ ((At.new w _ 217).row _) (below_row (belowA w _) (Nat.le_refl _) _) ?_
 rw [size_row, World.size_alloc]; omega
theorem wpList_lock0 {ops : Array Oper} {rest : List Oper} {o1 : Oper} {a : Act} {w : World} {Q : Exit → Act → World → Prop} (g1 : o1.guard = none) (h1 : o1.op = .alloc 217)
  (h : ∀ W, LkP W w.heap.size zeroH → Below w.heap.size w W → w.heap.size + 1 ≤ W.heap.size → wpList Tryz.prog ops Q rest (a.put o1.dst (.pointer (some ⟨w.heap.size, 0, none⟩))) W) :
  wpList Tryz.prog ops Q (o1 :: rest) a w := by
 refine wpList_alloc50 g1 h1 rfl ?_
 refine h _ (At.new w _ 217) (belowA w _) ?_
 rw [World.size_alloc]; omega
structure PS (w0 : World) (u v : BV) (f g : Lck) (W : World) : Prop where
 a : At W w0.heap.size u.arr 56
 b : At W (w0.heap.size + 1) v.arr 56
 x : LkP W (w0.heap.size + 1 + 1) f
 y : LkP W (w0.heap.size + 1 + 1 + 1) g
 l : Below w0.heap.size w0 W
theorem PS.below {w0 W W' : World} {u v : BV} {f g : Lck} (h : PS w0 u v f g W) (hb : Below W.heap.size W W') : PS w0 u v f g W' := ⟨h.a.below hb, h.b.below hb, h.x.below hb, h.y.below hb, below_trans' h.l hb⟩
theorem PS.drew {w0 W : World} {u v : BV} {f g : Lck} (h : PS w0 u v f g W) : PS w0 u v f g W.drew := ⟨h.a, h.b, h.x, h.y, ⟨h.l.os, h.l.tape, h.l.output, h.l.size, h.l.block⟩⟩
theorem PS.setx {w0 W : World} {u v : BV} {f g : Lck} (h : PS w0 u v f g W) (f' : Lck) : PS w0 u v f' g (W.setRow (w0.heap.size + 1 + 1) (arrI (flatP f'))) :=
 ⟨h.a.rowFar (by omega) _, h.b.rowFar (by omega) _, h.x.row _, h.y.rowFar (by omega) _, below_row h.l (by omega) _⟩
theorem PS.sety {w0 W : World} {u v : BV} {f g : Lck} (h : PS w0 u v f g W) (g' : Lck) : PS w0 u v f g' (W.setRow (w0.heap.size + 1 + 1 + 1) (arrI (flatP g'))) :=
 ⟨h.a.rowFar (by omega) _, h.b.rowFar (by omega) _, h.x.rowFar (by omega) _, h.y.row _, below_row h.l (by omega) _⟩
set_option maxRecDepth 100000 in
set_option maxHeartbeats 1000000 in
theorem pair_any (u v : BV) (w : World) (hu : u.In w) (hv : v.In w) :
  Calls Tryz.prog 267 #[.agg u.arr, .agg v.arr] w fun r w' => r = .returned (.tuple #[.agg (arrI (flatP u.h.op)), .agg (arrI (flatP v.h.op)), .int .i64 0]) ∧ Below w.heap.size w w' := by
 have HU := Lib.hid hu
 have HV := Lib.hid hv
 clear hu hv
 go_enter Tryz.func267, Tryz.ntmps267
 go_wp2_with fail
 rw [lit50]
 refine gen_at (M := fun W => Calls Tryz.prog 144 _ W _) (PS w u v zeroH zeroH) ⟨?_, ?_, ?_, ?_, ?_⟩ ?_
 ·exact (((At.new w _ 56).al _).al _).al _
 ·exact ((at_n1 w _ _ 56).al _).al _
 ·exact (at_n2 w _ _ _ 217).al _
 ·exact at_n3 w _ _ _ _ 217
 ·exact bel4 w _ _ _ _
 rintro w1 hp
 with_reducible refine (validB_any u w1 (HU.out.below hp.l)).mono ?_
 rintro _ w2 ⟨rfl, hb2⟩
 have HP := Lib.hid (hp.below hb2)
 have b1 := HP.out.b.cell
 clear hp hb2
 go_wp2_with fail
 with_reducible refine (validB_any v w2 (HV.out.below HP.out.l)).mono ?_
 rintro _ w3 ⟨rfl, hb3⟩
 have HP3 := Lib.hid (HP.out.below hb3)
 clear hb3 HP b1
 go_wp2_with fail
 refine wp_region_hv [0, 1, 2, 3] [4, 5, 6] (fun W => ∃ f g, PS w u v f g W) mixed (by kernel_rfl) (fun W W' ⟨f, g, h⟩ hb => ⟨f, g, h.below hb⟩) ⟨_, _, HP3.out.drew⟩ ?_
 refine canonG_read (v := .agg u.arr) rfl (by rfl) ?_ ?_
 ·rintro W ⟨f, g, hS⟩
  have q0 := At.cell hS.a
  go_simp
 simp only [List.getElem_toArray, List.getElem_cons_zero, Act.put, List.setIfInBounds_toArray, List.set_cons_succ, List.set_cons_zero]
 refine canonG_call (v := .agg (arrI (flatP u.h.op))) (f := 145) (args := #[.agg u.arr]) rfl (by rfl) ?_ ?_ ?_
 ·rintro W ⟨f, g, hS⟩
  go_simp
 ·rintro W ⟨f, g, hS⟩
  exact openB_any u W (HU.out.below hS.l)
 simp only [List.getElem_toArray, List.getElem_cons_zero, List.getElem_cons_succ, Act.put, List.setIfInBounds_toArray, List.set_cons_succ, List.set_cons_zero]
 refine canonG_read (v := .agg v.arr) rfl (by rfl) ?_ ?_
 ·rintro W ⟨f, g, hS⟩
  have q0 := At.cell hS.b
  go_simp
 simp only [List.getElem_toArray, List.getElem_cons_zero, List.getElem_cons_succ, Act.put, List.setIfInBounds_toArray, List.set_cons_succ, List.set_cons_zero]
 refine canonG_call (v := .agg (arrI (flatP v.h.op))) (f := 145) (args := #[.agg v.arr]) rfl (by rfl) ?_ ?_ ?_
 ·rintro W ⟨f, g, hS⟩
  go_simp
 ·rintro W ⟨f, g, hS⟩
  exact openB_any v W (HV.out.below hS.l)
 simp only [List.getElem_toArray, List.getElem_cons_zero, List.getElem_cons_succ, Act.put, List.setIfInBounds_toArray, List.set_cons_succ, List.set_cons_zero]
 refine canonG_nil ?_
 refine tailG_one (t := 4) (ts' := [5, 6]) (by kernel_rfl) rfl rfl ?_
 intro W4 hb4
 have H4 := Lib.hid (HP3.out.drew.below hb4)
 clear hb4 HP3
 go_wp2_with (refine wpList_store50 rfl _ _ rfl (w.heap.size + 1 + 1) _ _ rfl rfl H4.out.x ?_)
 have H5 := Lib.hid (H4.out.setx u.h.op)
 clear H4
 generalize W4.setRow (w.heap.size + 1 + 1) (arrI (flatP u.h.op)) = W5 at H5 ⊢
 refine ⟨⟨_, _, H5.out⟩, ?_⟩
 refine tailG_one (t := 5) (ts' := [6]) (by kernel_rfl) rfl rfl ?_
 intro W6 hb6
 have H6 := Lib.hid (H5.out.below hb6)
 clear hb6 H5
 go_wp2_with (refine wpList_store50 rfl _ _ rfl (w.heap.size + 1 + 1 + 1) _ _ rfl rfl H6.out.y ?_)
 have H7 := Lib.hid (H6.out.sety v.h.op)
 clear H6
 generalize W6.setRow (w.heap.size + 1 + 1 + 1) (arrI (flatP v.h.op)) = W7 at H7 ⊢
 refine ⟨⟨_, _, H7.out⟩, ?_⟩
 refine tailG_last (t := 6) (by kernel_rfl) rfl ?_
 intro W8 hb8
 have H8 := Lib.hid (H7.out.below hb8)
 clear hb8 H7
 go_wp2_with fail
 refine NoPanic.normal ?_
 go_wp2_with fail
 refine bodyPost_ret (retPP 4 5 6 (w.heap.size + 1 + 1) (w.heap.size + 1 + 1 + 1) _ _ rfl rfl rfl H8.out.x H8.out.y) rfl ?_
 exact ⟨rfl, H8.out.l⟩
end Go.Proofs.YtihhclhpjgeniaaGreatDoor
