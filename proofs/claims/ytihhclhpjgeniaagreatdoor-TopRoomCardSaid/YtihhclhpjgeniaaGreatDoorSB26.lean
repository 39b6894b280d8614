/- Merged texts: C11 Gh -/
import Derived.Test.YtihhclhpjgeniaaGreatDoorSB4
import Derived.Test.YtihhclhpjgeniaaGreatDoorSB5
import Derived.Test.YtihhclhpjgeniaaGreatDoorSB6
import Derived.Test.YtihhclhpjgeniaaGreatDoorSB7
import Derived.Test.YtihhclhpjgeniaaGreatDoorSB25
namespace Go.Proofs.YtihhclhpjgeniaaGreatDoor
open Go.RowKit Go.Sort
def RetE (es : List Ent) (e : Int) (w : World) (r : Ending) (w' : World) : Prop :=
 ∃ B d, r = .returned (.tuple #[.slice B es.length d, .int .i64 e]) ∧ w'.ownsRow w.heap.size 47 6 (.slice B es.length d) es.length (ents es) ∧ Below w.heap.size w w'
theorem RetE.nil {e e' : Int} {w w' : World} (h : e' = e) (hb : Below w.heap.size w w') : RetE [] e w (.returned (.tuple #[.slice none 0 0, .int .i64 e'])) w' := ⟨none, 0, by rw [h]; rfl, World.ownsRow_nil _ _ _ _, hb⟩
def addL' (c : List Ent) (p : Int) (t : ByteArray) : List Ent := if addE c p t = 0 then addR c p t else []
structure Clk4 (es : List Ent) (b k : Nat) (w : World) : Prop where
 c0 : w.cell? ⟨b, 0, none⟩ = some (.int .i64 (clk es 0 : Nat))
 c1 : w.cell? ⟨b, 1, none⟩ = some (.int .i64 (clk es 1 : Nat))
 c2 : w.cell? ⟨b, 2, none⟩ = some (.int .i64 (clk es 2 : Nat))
 ck : w.cell? ⟨b, k, none⟩ = some (.int .i64 (clk es k : Nat))
theorem Clk4.of {es : List Ent} {b k : Nat} {w : World} (h : Box w b #[.int .i64 (clk es 0 : Nat), .int .i64 (clk es 1 : Nat), .int .i64 (clk es 2 : Nat)]) (hk : k < 3) : Clk4 es b k w := ⟨h.at 0, h.at 1, h.at 2, clk_cell h hk⟩
theorem Clk4.drew {es : List Ent} {b k : Nat} {w : World} (h : Clk4 es b k w) : Clk4 es b k w.drew := ⟨h.c0, h.c1, h.c2, h.ck⟩
theorem Clk4.grown {es : List Ent} {b k : Nat} {w w' : World} {row : Option Nat} (h : Clk4 es b k w) (hb : b < w.heap.size) (hg : w.grownBy w' row) (hne : ∀ j, row = some j → j ≠ b) : Clk4 es b k w' := by
 have e : ∀ i, w'.cell? ⟨b, i, none⟩ = w.cell? ⟨b, i, none⟩ := fun i => World.cell?_of_block (a := ⟨b, i, none⟩) (hg.block b hb fun e => hne b e.symm rfl)
 exact ⟨(e 0).trans h.c0, (e 1).trans h.c1, (e 2).trans h.c2, (e k).trans h.ck⟩
theorem Clk4.below {es : List Ent} {b k : Nat} {w w' : World} (hb : b < w.heap.size) (h : Clk4 es b k w) (hw : Below w.heap.size w w') : Clk4 es b k w' :=
 ⟨(hw.cell (p := ⟨b, 0, none⟩) hb).trans h.c0, (hw.cell (p := ⟨b, 1, none⟩) hb).trans h.c1, (hw.cell (p := ⟨b, 2, none⟩) hb).trans h.c2, (hw.cell (p := ⟨b, k, none⟩) hb).trans h.ck⟩
set_option maxRecDepth 100000 in
set_option maxHeartbeats 4000000 in
theorem add_any (A : Option Addr) (n c : Nat) (es : List Ent) (p : Int) (t : ByteArray) (w : World) (hl : Reads w w.heap.size 6 A n (ents es)) (hn : n ≤ 1000000) (ht : shortT es) (hs : t.size ≤ 1000000) :
  Calls Tryz.prog 229 #[.slice A n c, .int .i64 p, .string t] w (RetE (addL' es p t) (addE es p t) w) := by
 have hlen := hl.1
 rw [ents_length] at hlen
 have l1 : n ≤ es.length := by omega
 have l2 : es.length ≤ n := by omega
 have HL := Lib.hid hl
 have HS := Lib.hid ht
 clear hl ht hlen
 go_enter Tryz.func229, Tryz.ntmps229
 go_wp2_with fail
 with_reducible refine (validate_any A n c es _ HL.out hn HS.out).mono ?_
 rintro _ w2 ⟨rfl, hb2⟩
 have HW2 := Lib.hid hb2
 clear hb2
 by_cases hv : val es = 0
 case neg =>
  have HV : Hid (addE es p t = val es) := Lib.hid (if_pos hv)
  have HV2 : Hid (addL' es p t = []) := Lib.hid (by unfold addL'; rw [HV.out, if_neg hv])
  have g := neB hv
  clear hv
  go_wp2_with fail
  go_ret2
  rw [HV2.out]
  exact RetE.nil HV.out.symm HW2.out
 have HV := Lib.hid hv
 have g := neBf hv
 have HPL := Lib.hid (pl_of hv)
 have hsm : es.length ≤ 60 := (val_zero.1 hv).len
 have hn60 : n ≤ 60 := by omega
 clear hv
 by_cases hp : 0 ≤ p ∧ p ≤ 2 ∧ right t = true
 case neg =>
  have HV1 : Hid (addE es p t = 1) := Lib.hid (by
   unfold addE
   rw [if_neg (fun h => h HV.out), if_pos]
   cases hr : right t
   ·exact .inr (.inr rfl)
   ·rw [hr] at hp
    simp at hp
    omega)
  have HV2 : Hid (addL' es p t = []) := Lib.hid (by unfold addL'; rw [HV1.out]; rfl)
  have hc : p < 0 ∨ (0 ≤ p ∧ (2 < p ∨ (p ≤ 2 ∧ right t = false))) := by
   rcases Int.lt_or_le p 0 with h1 | h1
   ·exact .inl h1
   rcases Int.lt_or_le 2 p with h2 | h2
   ·exact .inr ⟨h1, .inl h2⟩
   refine .inr ⟨h1, .inr ⟨h2, ?_⟩⟩
   cases hr : right t
   ·rfl
   ·exact (hp ⟨h1, h2, hr⟩).elim
  clear hp
  rcases hc with h1 | ⟨h1, h2 | ⟨h2, h3⟩⟩
  ·go_wp2_with fail
   go_ret2
   rw [HV2.out]
   exact RetE.nil HV1.out.symm HW2.out
  ·go_wp2_with fail
   go_ret2
   rw [HV2.out]
   exact RetE.nil HV1.out.symm HW2.out
  ·have H3 := Lib.hid h3
   clear h3
   go_wp2_with fail
   with_reducible refine (rightText_any t _ hs).mono ?_
   rintro _ w3 ⟨rfl, hb3⟩
   have HW3 := Lib.hid (below_trans' HW2.out hb3)
   rw [H3.out]
   clear hb3
   go_wp2_with fail
   go_ret2
   rw [HV2.out]
   exact RetE.nil HV1.out.symm HW3.out
 obtain ⟨p0, p1, hr⟩ := hp
 obtain ⟨k, rfl⟩ := Int.eq_ofNat_of_zero_le p0
 have HR := Lib.hid hr
 clear hr
 go_wp2_with fail
 with_reducible refine (rightText_any t _ hs).mono ?_
 rintro _ w3 ⟨rfl, hb3⟩
 have HW3 := Lib.hid (below_trans' HW2.out hb3)
 rw [HR.out]
 clear hb3
 by_cases h60 : n = 60
 ·have HV1 : Hid (addE es k t = 4) := Lib.hid (by
   unfold addE
   rw [if_neg (fun h => h HV.out), if_neg (by rw [HR.out]; simp; omega), if_pos (by omega)])
  have HV2 : Hid (addL' es k t = []) := Lib.hid (by unfold addL'; rw [HV1.out]; rfl)
  have g60 : ((n : Int) == 60) = true := by simp; omega
  clear h60
  go_wp2_with fail
  go_ret2
  rw [HV2.out]
  exact RetE.nil HV1.out.symm HW3.out
 have HV1 : Hid (addE es k t = 0) := Lib.hid (addE_zero.2 ⟨val_zero.1 HV.out, p0, p1, HR.out, by omega⟩)
 have HV2 : Hid (addL' es k t = addR es k t) := Lib.hid (if_pos HV1.out)
 have HAL := Lib.hid (addR_length (val_zero.1 HV.out) p0 p1 (t := t))
 have g60 : ((n : Int) == 60) = false := by simp; omega
 have hn59 : n < 60 := by omega
 clear h60
 go_wp2_with fail
 with_reducible refine (clock_any A n c es _ (HL.out.on HW3.out) hn HPL.out).mono ?_
 rintro _ w4 ⟨rfl, hb4⟩
 go_wp2_with fail
 have hk3 : k < 3 := by omega
 refine wp_gen (fun W => Box W w4.heap.size #[.int .i64 (clk es 0 : Nat), .int .i64 (clk es 1 : Nat), .int .i64 (clk es 2 : Nat)] ∧ Below w.heap.size w W) ⟨Box.new _ _ _, below_trans' (below_trans' HW3.out hb4) (belowA _ _)⟩ ?_
 rintro w5 ⟨b5, hw5⟩
 have HW5 := Lib.hid hw5
 generalize w4.heap.size = bs at b5 ⊢
 clear hb4 hw5
 have ck := clk_cell b5 hk3
 have cl := clk_le es k
 have ck60 : clk es k ≤ 60 := by omega
 have hnk : (0 : Int) ≤ (clk es k : Nat) := by omega
 clear ck cl
 have Z := fun w => ix35z bs k hk3 w
 have vk : IntKind.i64.wrap ((clk es k : Nat) + 1) = (clk es k : Nat) + 1 := IntWalk.i64_in _ (by omega)
 refine wp_region_hu [0, 2, 3, 4, 5, 6, 7, 8, 9] [1, 10, 11, 12] (fun W => Clk4 es bs k W) mixed (by kernel_rfl) ((Clk4.of b5 hk3).drew) ?_
 repeat
  refine canonH_step (v := ?_) rfl (by rfl) ?_ ?_
  rotate_left
  ·intro w hSw
   obtain ⟨s1_, s2_, s3_, s4_⟩ := hSw
   go_simp <;> with_reducible rfl
  simp only [List.getElem_toArray, List.getElem_cons_zero, List.getElem_cons_succ, Act.put, List.setIfInBounds_toArray, List.set_cons_succ, List.set_cons_zero]
 refine canonH_nil ?_
 have hD : Below w5.drew.heap.size w5.drew w5.drew := Below.refl _ _
 have HCLK := Lib.hid ((Clk4.of b5 hk3).drew)
 have HLD := Lib.hid ((HL.out.on HW5.out).drew)
 have hbs : bs < w5.drew.heap.size := b5.1
 have HW5D := Lib.hid (below_drewN' HW5.out 1)
 obtain ⟨q, hq⟩ : ∃ q, q = w5.drew.heap.size := ⟨_, rfl⟩
 have hbq : bs < q := by omega
 have hwq : w.heap.size ≤ q := Nat.le_trans HW5D.out.size (Nat.le_of_eq hq.symm)
 have HQ := Lib.hid hq
 clear hq
 refine tailA_two (t := 1) (t' := 10) (ts1 := [10, 11, 12]) (ts2 := [1, 11, 12]) (by kernel_rfl) rfl rfl rfl rfl ?_ ?_
 ·go_wp2_with fail
  with_reducible refine (clone_any A n c es _ HLD.out hn).mono ?_
  rintro _ w6 ⟨B, d, rfl, hr6, hb6⟩
  have HR6 := Lib.hid hr6
  have HB6 := Lib.hid hb6
  clear hr6 hb6
  go_wp2_with fail
  refine ⟨HCLK.out.below hbs HB6.out, ?_⟩
  refine tailA_one (t := 10) (ts' := [11, 12]) (by kernel_rfl) rfl rfl ?_
  go_wp2_with fail
  refine gen_at (fun W => Clk4 es bs k W ∧ W.ownsRow q 47 6 (.slice B n d) n (ents es) ∧ Reads W W.heap.size 6 (some ⟨w6.heap.size, 0, none⟩) 1 (ents [newE es k t]) ∧ Below w.heap.size w W ∧ q ≤ W.heap.size) ⟨(HCLK.out.below hbs HB6.out).below (Nat.lt_of_lt_of_le hbs HB6.out.size) (belowA _ _), row_on (row_mono HR6.out (Nat.le_of_eq HQ.out)) (belowA _ _), reads_new w6 (ents [newE es k t]) 47 6 1 rfl, below_trans' (below_trans' HW5D.out HB6.out) (belowA _ _), by have := HB6.out.size; have := HQ.out; rw [World.size_alloc]; omega⟩ ?_
  generalize w6.heap.size = bN
  clear HR6 HB6 w6
  rintro w7 ⟨hc7, hr7, he7, hb7, hq7⟩
  have HC7 := Lib.hid hc7
  have HR7 := Lib.hid hr7
  have HE7 := Lib.hid he7
  have HB7 := Lib.hid hb7
  clear hc7 hr7 he7 hb7
  refine ⟨HC7.out, ?_⟩
  refine tailA_one (t := 11) (ts' := [12]) (by kernel_rfl) rfl rfl ?_
  refine wpList_pushXn rfl _ _ 44 47 rfl Tryz.underlying44 info53b rfl (Nat.succ_pos _) (by decide) q _ B n d (ents es) _ 1 1 (ents [newE es k t]) rfl HR7.out hq7 rfl HE7.out (fun h => by cases h) (ents_one _) (by omega) ?_
  intro A' c' w8 hr8 hg8 _
  rw [← ents_append] at hr8
  have HR8 := Lib.hid hr8
  have HC8 := Lib.hid (HC7.out)
  have HB8 := Lib.hid (HB7.out.grown hg8 HB7.out.size fun k hk => Nat.le_trans hwq (HR7.out.lt k hk).1)
  clear hr8
  have hC9 : Clk4 es bs k w8 := HC7.out.grown (Nat.lt_of_lt_of_le hbq hq7) hg8 fun j hj e => by have := (HR7.out.lt j hj).1; omega
  have HC9 := Lib.hid hC9
  clear hC9 hg8
  go_wp2_with fail
  refine ⟨HC9.out, ?_⟩
  refine tailA_last (t := 12) (by kernel_rfl) rfl ?_
  go_wp2_with fail
  refine NoPanic.normal ?_
  go_wp2_with fail
  with_reducible refine (sort_any (bl := q) A' (n + 1) c' (es ++ [newE es k t]) _ HR8.out (by omega)).mono ?_
  rintro _ w9 ⟨rfl, es', hp, hsort, hr9, hg9⟩
  have HSRT := Lib.hid (add_sort (val_zero.1 HV.out) p0 p1 hp hsort)
  have HR9 := Lib.hid hr9
  have HB9 := Lib.hid (HB8.out.grown hg9 HB8.out.size fun k hk => Nat.le_trans hwq (HR8.out.lt k hk).1)
  clear hp hsort hr9 hg9
  go_wp2_with fail
  go_ret2
  rw [HV2.out, HV1.out]
  refine ⟨A', c', ?_, ?_, HB9.out⟩
  ·rw [HAL.out, show n = es.length by omega]; rfl
  ·have := row_mono HR9.out hwq
   rw [HSRT.out] at this
   rwa [HAL.out, show es.length = n by omega]
 ·go_wp2_with fail
  refine gen_at (fun W => Clk4 es bs k W ∧ Reads W W.heap.size 6 (some ⟨w5.heap.size, 0, none⟩) 1 (ents [newE es k t]) ∧ Below w5.drew.heap.size w5.drew W) ⟨(HCLK.out.below hbs (belowA _ _)), reads_new w5.drew (ents [newE es k t]) 47 6 1 rfl, belowA _ _⟩ ?_
  generalize w5.heap.size = bN
  rintro w6 ⟨hc6, he6, hb6⟩
  have HC6 := Lib.hid hc6
  have HE6 := Lib.hid he6
  have HB6 := Lib.hid hb6
  have HL6 := Lib.hid (HLD.out.on hb6)
  have hbs6 : bs < w6.heap.size := Nat.lt_of_lt_of_le hbs hb6.size
  clear hc6 he6 hb6
  refine ⟨HC6.out, ?_⟩
  refine tailA_one (t := 1) (ts' := [11, 12]) (by kernel_rfl) rfl rfl ?_
  go_wp2_with fail
  with_reducible refine (clone_any A n c es _ HL6.out hn).mono ?_
  rintro _ w7 ⟨B, d, rfl, hr7, hb7⟩
  have HC7 := Lib.hid (HC6.out.below hbs6 hb7)
  have HR7 := Lib.hid (row_mono hr7 (Nat.le_trans (Nat.le_of_eq HQ.out) HB6.out.size))
  have HE7 := Lib.hid (HE6.out.on hb7)
  have HB7 := Lib.hid (below_trans' (below_trans' HW5D.out HB6.out) hb7)
  have hq7 : q ≤ w7.heap.size := by have := HB6.out.size; have := hb7.size; have := HQ.out; omega
  clear hr7 hb7
  go_wp2_with fail
  refine ⟨HC7.out, ?_⟩
  refine tailA_one (t := 11) (ts' := [12]) (by kernel_rfl) rfl rfl ?_
  refine wpList_pushXn rfl _ _ 44 47 rfl Tryz.underlying44 info53b rfl (Nat.succ_pos _) (by decide) q _ B n d (ents es) _ 1 1 (ents [newE es k t]) rfl HR7.out hq7 rfl HE7.out (fun h => by cases h) (ents_one _) (by omega) ?_
  intro A' c' w8 hr8 hg8 _
  rw [← ents_append] at hr8
  have HR8 := Lib.hid hr8
  have HC8 := Lib.hid (HC7.out)
  have HB8 := Lib.hid (HB7.out.grown hg8 HB7.out.size fun k hk => Nat.le_trans hwq (HR7.out.lt k hk).1)
  clear hr8
  have hC9 : Clk4 es bs k w8 := HC7.out.grown (Nat.lt_of_lt_of_le hbq hq7) hg8 fun j hj e => by have := (HR7.out.lt j hj).1; omega
  have HC9 := Lib.hid hC9
  clear hC9 hg8
  go_wp2_with fail
  refine ⟨HC9.out, ?_⟩
  refine tailA_last (t := 12) (by kernel_rfl) rfl ?_
  go_wp2_with fail
  refine NoPanic.normal ?_
  go_wp2_with fail
  with_reducible refine (sort_any (bl := q) A' (n + 1) c' (es ++ [newE es k t]) _ HR8.out (by omega)).mono ?_
  rintro _ w9 ⟨rfl, es', hp, hsort, hr9, hg9⟩
  have HSRT := Lib.hid (add_sort (val_zero.1 HV.out) p0 p1 hp hsort)
  have HR9 := Lib.hid hr9
  have HB9 := Lib.hid (HB8.out.grown hg9 HB8.out.size fun k hk => Nat.le_trans hwq (HR8.out.lt k hk).1)
  clear hp hsort hr9 hg9
  go_wp2_with fail
  go_ret2
  rw [HV2.out, HV1.out]
  refine ⟨A', c', ?_, ?_, HB9.out⟩
  ·rw [HAL.out, show n = es.length by omega]; rfl
  ·have := row_mono HR9.out hwq
   rw [HSRT.out] at this
   rwa [HAL.out, show es.length = n by omega]
end Go.Proofs.YtihhclhpjgeniaaGreatDoor
namespace Go.Proofs.YtihhclhpjgeniaaGreatDoor
open Go.RowKit Go.Sort
structure BS (st : Int) (p : Nat) (v : RV) (W : World) : Prop where
 a : v.In st p W
 t : Tab W
theorem BS.below {st : Int} {p : Nat} {v : RV} {W W' : World} (h : BS st p v W) (hb : Below W.heap.size W W') : BS st p v W' := ⟨h.a.below hb, tab_below h.t hb⟩
theorem back_fin {v : RV} {st : Int} {p : Nat} {w W : World} {g i : Nat} {y : NW} {es : List Ent} {B : Option Addr} {d N : Nat} (n : Int) (h0 : v.In st p w) (h : v.In st p W) (hb : Below w.heap.size w W) (hg : v.B = some ⟨g, 0, none⟩) (hy : v.ws[i]? = some y)
  (ho : W.ownsRow N 47 6 (.slice B es.length d) es.length (ents es)) (hN : w.heap.size ≤ N) :
  ({ v with ws := v.ws.set i ⟨{ y.w with state := 1, shed := y.w.shed + n, card := es }, B, es.length, d⟩, lost := v.lost + n } : RV).In st p ((((W.setCell ⟨g, i * 13 + 10, none⟩ (.int .i64 1)).setCell ⟨g, i * 13 + 12, none⟩ (.slice B es.length d)).setCell ⟨g, i * 13 + 4, none⟩ (.int .i64 (y.w.shed + n))).setCell ⟨p, 6, none⟩ (.int .i64 (v.lost + n))) ∧
  Rs p v w { v with ws := v.ws.set i ⟨{ y.w with state := 1, shed := y.w.shed + n, card := es }, B, es.length, d⟩, lost := v.lost + n } ((((W.setCell ⟨g, i * 13 + 10, none⟩ (.int .i64 1)).setCell ⟨g, i * 13 + 12, none⟩ (.slice B es.length d)).setCell ⟨g, i * 13 + 4, none⟩ (.int .i64 (y.w.shed + n))).setCell ⟨p, 6, none⟩ (.int .i64 (v.lost + n))) := by
 have hil : i < v.ws.length := (List.getElem?_eq_some_iff.1 hy).1
 have hnew : ∀ k, blk B es.length k → w.heap.size ≤ k := by
  rintro k ⟨_, a, rfl, rfl⟩
  exact Nat.le_trans hN (ho.lt a.block rfl).1
 have hr0 : Reads W W.heap.size 6 B es.length (ents es) := Reads.of_own ho
 have hc0 := (row_cap ho).1
 have hgW : ∀ (x : Nat) u, Kp (fun k => k = g) W (W.setCell ⟨g, x, none⟩ u) := fun x u => (Kp.refl (fun k => k = g) W).set (p := ⟨g, x, none⟩) (fun _ => rfl) u
 obtain ⟨a1, a2⟩ := wig_end h0 h (Rs.below hb) (fun _ k => k) hg hy (z := { y with w := { y.w with state := 1 } }) (j := 10) (vs := [.int .i64 1]) (by simp) rfl (h.hw y (List.mem_of_getElem? hy)) (fun k hk => .inl (.inr ⟨y, List.mem_of_getElem? hy, hk⟩))
 have hgF : v.F p g := .inr (.inr (.inr (.inl ⟨_, hg, rfl⟩)))
 have hr1 : Reads (W.setCells g (i * 13 + 10) [.int .i64 1]) (W.setCells g (i * 13 + 10) [.int .i64 1]).heap.size 6 B es.length (ents es) := hr0.kb (hgW _ _) fun k hk e => (h0.far (.inr (hnew k hk))).1 (by rw [e]; exact hgF)
 obtain ⟨b1, b2⟩ := wig_end h0 a1 a2 (fun _ k => k) hg (y := { y with w := { y.w with state := 1 } }) (by show (v.ws.set i _)[i]? = _; rw [List.getElem?_set_self hil]) (z := ⟨{ y.w with state := 1, card := es }, B, es.length, d⟩) (j := 12) (vs := [.slice B es.length d]) (by simp) rfl ⟨hr1, hc0⟩ (fun k hk => .inr (hnew k hk))
 have hr2 := b1.hw ⟨{ y.w with state := 1, card := es }, B, es.length, d⟩ (by show _ ∈ (v.ws.set i _).set i _; rw [List.set_set]; exact List.mem_set hil _)
 obtain ⟨c1, c2⟩ := wig_end h0 b1 b2 (fun _ k => k) hg (y := ⟨{ y.w with state := 1, card := es }, B, es.length, d⟩) (by show ((v.ws.set i _).set i _)[i]? = _; rw [List.getElem?_set_self (by simpa using hil)]) (z := ⟨{ y.w with state := 1, shed := y.w.shed + n, card := es }, B, es.length, d⟩) (j := 4) (vs := [.int .i64 (y.w.shed + n)]) (by simp) rfl hr2 (fun k hk => .inr (hnew k hk))
 rw [List.set_set, List.set_set] at c1 c2
 obtain ⟨d1, d2⟩ := c1.setN (v' := { v with ws := v.ws.set i ⟨{ y.w with state := 1, shed := y.w.shed + n, card := es }, B, es.length, d⟩, lost := v.lost + n }) (s' := st) 6 (.int .i64 (v.lost + n)) rfl ⟨rfl, rfl, rfl, rfl⟩ ⟨rfl, rfl, rfl, rfl⟩ ⟨rfl, rfl, rfl⟩
 exact ⟨d1, c2.trans d2⟩
set_option maxRecDepth 100000 in
set_option maxHeartbeats 1000000 in
theorem backO_any (v : RV) (st : Int) (p : Nat) (x : OV) (a : List UInt8) (n : Int) (w : World) (h : v.In st p w) (hx : x.In w) (ha : x.o.names[0]? = some a) (hnn : x.o.nums[0]? = some n) (hn : inN n) (hok : ∀ y ∈ v.ws, y.w.Ok) (hlost : 0 ≤ v.lost ∧ v.lost ≤ 1000000000) (ht : Tab w) (hl : v.ws.length ≤ 12) :
  Calls Tryz.prog 164 #[.pointer (some ⟨p, 0, none⟩), .agg x.arr] w (RetO v st p w (backR v.rm a n)) := by
 have H0 := Lib.hid h
 have H := Lib.hid (h.below (belowA w (.cells x.arr 114)))
 have HX := Lib.hid (hx.below (belowA w (.cells x.arr 114)))
 have KB := Lib.hid (At.new w x.arr 114)
 clear h hx
 go_enter Tryz.func164, Tryz.ntmps164
 go_wp2_with fail
 with_reducible refine (inR_any v st p x a 2 _ H.out HX.out ha hl).mono ?_
 rintro _ w2 ⟨⟨q, rfl, hq⟩, hb⟩
 have H2 := Lib.hid (H.out.below hb)
 have HX2 := Lib.hid (HX.out.below hb)
 have KB2 := Lib.hid (KB.out.below hb)
 have HB := Lib.hid (below1 _ hb)
 have HQ := Lib.hid hq
 clear hb hq H HX KB
 obtain ⟨e, he⟩ : ∃ e, (inW v.rm a 2).1 = e := ⟨_, rfl⟩
 have HE := Lib.hid he
 rw [he]
 clear he
 by_cases h0 : e = 0
 rotate_left
 ·have HL : Hid (backR v.rm a n = (e, v.rm)) := Lib.hid (by unfold backR; rw [if_pos (by rw [HE.out]; exact h0), HE.out])
  have h1 : (e != 0) = true := by simpa using h0
  go_wp2_with fail
  go_ret
  exact retO_no HL.out H2.out HB.out
 obtain ⟨g, hg, rfl⟩ := HQ.out (by rw [HE.out, h0])
 obtain ⟨y, hy, hyw⟩ := wig_nw (show (inW v.rm a 2).1 = 0 by rw [HE.out, h0])
 have HY := Lib.hid hy
 have HG := Lib.hid hg
 have hrow := H2.out.rw
 rw [hg] at hrow
 have d2 : w2.cell? ⟨g, (inW v.rm a 2).2.1 * 13 + 2, none⟩ = some (.int .i64 y.w.hairs) := own_cell nw_len (by omega) hrow hy (j := 2) (by omega)
 have d4 : w2.cell? ⟨g, (inW v.rm a 2).2.1 * 13 + 4, none⟩ = some (.int .i64 y.w.shed) := own_cell nw_len (by omega) hrow hy (j := 4) (by omega)
 have HL0 : Hid (backR v.rm a n = if y.w.hairs - y.w.shed < n then (6, v.rm) else if addE y.w.card 1 (mkB (tSh ++ Lib.itoa n)) ≠ 0 then (addE y.w.card 1 (mkB (tSh ++ Lib.itoa n)), v.rm)
   else (0, { v.rm.setW (inW v.rm a 2).2.1 { y.w with state := 1, shed := y.w.shed + n, card := addR y.w.card 1 (mkB (tSh ++ Lib.itoa n)) } with lost := v.rm.lost + n })) := Lib.hid (by
  unfold backR; rw [if_neg (by rw [HE.out, h0]; simp), ← hyw])
 have ky := hok y (List.mem_of_getElem? hy)
 have hd := ky.shed
 have hh := ky.hairs
 have HK := Lib.hid ky
 obtain ⟨ad, e1, hc, hk, _⟩ := HX2.out.num hnn
 rw [show ad.add 0 = ad from rfl] at hc
 have HT := Lib.hid (tab_below ht HB.out)
 have b0 := KB2.out.cell
 clear hy hyw hrow hg ky ht
 generalize (inW v.rm a 2).2.1 = i at HY HL0 d2 d4 ⊢
 subst h0
 have g0 : ∀ d os, (grow (redrawn w2 d) os).cell? ⟨g, i * 13 + 2, none⟩ = some (.int .i64 y.w.hairs) := rg_cell d2
 have g1 : ∀ d os, (grow (redrawn w2 d) os).cell? ⟨g, i * 13 + 4, none⟩ = some (.int .i64 y.w.shed) := rg_cell d4
 have v1 : IntKind.i64.wrap (y.w.hairs - y.w.shed) = y.w.hairs - y.w.shed := IntWalk.i64_in _ (by omega)
 go_wp2_with fail
 clear d2 d4 b0 hc
 refine wp_region_qb mixed (by kernel_rfl) ?_
 repeat (go_big_quiet_step (fail))
 refine wpQuiet_nil ?_
 intro w3 hb3
 have H3 := Lib.hid (H2.out.below hb3)
 have HT3 := Lib.hid (tab_below HT.out hb3)
 have HB3 := Lib.hid (below_trans' HB.out hb3)
 clear H2 KB2 HX2 HB HT hb3 g0 g1 v1
 by_cases hs : y.w.hairs - y.w.shed < n
 ·have HL : Hid (backR v.rm a n = (6, v.rm)) := Lib.hid (by rw [HL0.out, if_pos hs])
  go_wp2_with fail
  go_ret
  exact retO_no HL.out H3.out HB3.out
 ·rw [if_neg hs] at HL0
  go_wp2_with fail
  have hfit : fits n := by unfold fits inN at *; omega
  refine wp_region_hv [0, 1, 2, 3, 4, 5, 6] [7, 8, 9, 10, 11, 12] (fun W => BS st p v W) mixed (by kernel_rfl) (fun W W' h hb => h.below hb) ⟨H3.out.below (below_drew _), tab_below HT3.out (below_drew _)⟩ ?_
  iterate 5
   refine canonG_read (v := ?_) rfl (by rfl) ?_ ?_
   rotate_left
   ·intro W hS
    have hrow := hS.a.rw
    rw [HG.out] at hrow
    have d12 : W.cell? ⟨g, i * 13 + 12, none⟩ = some (.slice y.A y.n y.c) := own_cell nw_len (by omega) hrow HY.out (j := 12) (by omega)
    go_simp <;> with_reducible rfl
   simp only [List.getElem_toArray, List.getElem_cons_zero, List.getElem_cons_succ, Act.put, List.setIfInBounds_toArray, List.set_cons_succ, List.set_cons_zero]
  refine canonG_call (v := .string (mkB (Lib.itoa n))) (f := 25) (args := #[.int .i64 n]) rfl (by rfl) ?_ ?_ ?_
  ·intro W hS
   go_simp
  ·intro W hS
   exact itoa_any n W hfit hS.t
  simp only [List.getElem_toArray, List.getElem_cons_zero, List.getElem_cons_succ, Act.put, List.setIfInBounds_toArray, List.set_cons_succ, List.set_cons_zero]
  refine canonG_read (v := .string (mkB (tSh ++ Lib.itoa n))) rfl (by rfl) ?_ ?_
  ·intro W hS
   have hln := itoa_len hfit
   have hno : ¬ 9223372036854775807 < 5 + (Lib.itoa n).length := by omega
   have happ : (ByteArray.mk #[115, 104, 101, 100, 32] ++ mkB (Lib.itoa n)) = mkB (tSh ++ Lib.itoa n) := mk_append tSh (Lib.itoa n)
   go_simp
  simp only [List.getElem_toArray, List.getElem_cons_zero, List.getElem_cons_succ, Act.put, List.setIfInBounds_toArray, List.set_cons_succ, List.set_cons_zero]
  refine canonG_nil ?_
  refine tailG_one (t := 7) (ts' := [8, 9, 10, 11, 12]) (by kernel_rfl) rfl rfl ?_
  intro W4 hb4
  have H4 := Lib.hid (H3.out.below (undrew hb4))
  have HB4 := Lib.hid (below_trans' HB3.out (undrew hb4))
  have HT4 := Lib.hid (tab_below HT3.out (undrew hb4))
  have hcd := H4.out.hw y (List.mem_of_getElem? HY.out)
  have HCD := Lib.hid hcd
  have hn60 : y.n ≤ 60 := by rw [nw_n hcd.1]; exact HK.out.card.len
  have hsz : (mkB (tSh ++ Lib.itoa n)).size ≤ 1000000 := by
   have := itoa_len hfit
   rw [size_mk]; simp [tSh]; omega
  clear hcd
  go_wp2_with fail
  with_reducible refine (add_any y.A y.n y.c y.w.card 1 (mkB (tSh ++ Lib.itoa n)) W4 HCD.out.1 (by omega) (card_short HK.out.card) hsz).mono ?_
  rintro _ w5 ⟨B5, d5, rfl, ho5, hb5⟩
  have H5 := Lib.hid (H4.out.below hb5)
  have hb6 := below_trans' HB3.out (undrew hb4)
  have HB5 := Lib.hid (below_trans' hb6 hb5)
  have HO5 := Lib.hid ho5
  have HZ5 := Lib.hid (Nat.le_trans hb6.size (Nat.le_refl W4.heap.size))
  have HT5 := Lib.hid (tab_below HT4.out hb5)
  have HAL : Hid (addE y.w.card 1 (mkB (tSh ++ Lib.itoa n)) = 0 → addL' y.w.card 1 (mkB (tSh ++ Lib.itoa n)) = addR y.w.card 1 (mkB (tSh ++ Lib.itoa n))) := Lib.hid (fun h => if_pos h)
  clear hb4 hb5 hb6 ho5 H4 HB4 HT4 H3 HB3 HT3 hsz
  generalize mkB (tSh ++ Lib.itoa n) = tx at HL0 HO5 HAL ⊢
  generalize addL' y.w.card 1 tx = es at HO5 HAL ⊢
  generalize addE y.w.card 1 tx = er at HL0 HAL ⊢
  go_wp2_with fail
  refine ⟨⟨H5.out, HT5.out⟩, ?_⟩
  refine tailG_one (t := 8) (ts' := [9, 10, 11, 12]) (by kernel_rfl) rfl rfl ?_
  intro W6 hb6
  have H6 := Lib.hid (H5.out.below hb6)
  have HB6 := Lib.hid (below_trans' HB5.out hb6)
  have HT6 := Lib.hid (tab_below HT5.out hb6)
  have HO6 := Lib.hid (row_on HO5.out hb6)
  clear hb6
  go_wp2_with fail
  refine ⟨⟨H6.out, HT6.out⟩, ?_⟩
  refine tailG_two (t := 9) (t' := 10) (ts1 := [10, 11, 12]) (ts2 := [9, 11, 12]) (by kernel_rfl) rfl rfl rfl rfl ?_ ?_
  ·intro Wa hba
   have Ha := Lib.hid (H6.out.below hba)
   have HBa := Lib.hid (below_trans' HB6.out hba)
   have HTa := Lib.hid (tab_below HT6.out hba)
   have HOa := Lib.hid (row_on HO6.out hba)
   clear hba
   go_wp2_with fail
   refine ⟨⟨Ha.out, HTa.out⟩, ?_⟩
   refine tailG_two (t := 10) (t' := 11) (ts1 := [11, 12]) (ts2 := [10, 12]) (by kernel_rfl) rfl rfl rfl rfl ?_ ?_
   ·intro Wc hbc
    have Hc := Lib.hid (Ha.out.below hbc)
    have HBc := Lib.hid (below_trans' HBa.out hbc)
    have HTc := Lib.hid (tab_below HTa.out hbc)
    have HOc := Lib.hid (row_on HOa.out hbc)
    clear hbc
    go_wp2_with fail
    refine ⟨⟨Hc.out, HTc.out⟩, ?_⟩
    refine tailG_one (t := 11) (ts' := [12]) (by kernel_rfl) rfl rfl ?_
    intro Wc1 hbc1
    have Hc1 := Lib.hid (Hc.out.below hbc1)
    have HBc1 := Lib.hid (below_trans' HBc.out hbc1)
    have HTc1 := Lib.hid (tab_below HTc.out hbc1)
    have HOc1 := Lib.hid (row_on HOc.out hbc1)
    clear hbc1
    go_wp2_with fail
    refine ⟨⟨Hc1.out, HTc1.out⟩, ?_⟩
    refine tailG_last (t := 12) (by kernel_rfl) rfl ?_
    intro Wc2 hbc2
    have Hc2 := Lib.hid (Hc1.out.below hbc2)
    have HBc2 := Lib.hid (below_trans' HBc1.out hbc2)
    have HTc2 := Lib.hid (tab_below HTc1.out hbc2)
    have HOc2 := Lib.hid (row_on HOc1.out hbc2)
    clear hbc2
    go_wp2_with fail
    refine NoPanic.normal ?_
    by_cases her : er = 0
    ·subst her
     have hrow := Hc2.out.rw
     rw [HG.out] at hrow
     have d10 : Wc2.cell? ⟨g, i * 13 + 10, none⟩ = some (.int .i64 y.w.state) := own_cell nw_len (by omega) hrow HY.out (j := 10) (by omega)
     have d12 : Wc2.cell? ⟨g, i * 13 + 12, none⟩ = some (.slice y.A y.n y.c) := own_cell nw_len (by omega) hrow HY.out (j := 12) (by omega)
     have d4 : Wc2.cell? ⟨g, i * 13 + 4, none⟩ = some (.int .i64 y.w.shed) := own_cell nw_len (by omega) hrow HY.out (j := 4) (by omega)
     have f10 : ∀ j, Wc2.frozen? ⟨g, j, none⟩ = false := fun j => hrow.frozenAt j
     have c6 : Wc2.cell? ⟨p, 6, none⟩ = some (.int .i64 v.lost) := At.cell Hc2.out.room 6
     have fp := Hc2.out.room.fz
     have hne : g ≠ p := (Hc2.out.ne_w HG.out).1
     have hne2 : p ≠ g := fun e => hne e.symm
     have v1 : IntKind.i64.wrap (y.w.shed + n) = y.w.shed + n := IntWalk.i64_in _ (by unfold inN at hn; omega)
     have v2 : IntKind.i64.wrap (v.lost + n) = v.lost + n := IntWalk.i64_in _ (by unfold inN at hn; omega)
     obtain ⟨r1, r2⟩ := back_fin n H0.out Hc2.out HBc2.out HG.out HY.out HOc2.out HZ5.out
     have R1 := Lib.hid r1
     have R2 := Lib.hid r2
     clear hrow r1 r2
     go_wp2_with fail
     go_ret
     have hb0 := HL0.out
     rw [if_neg (by simp)] at hb0
     rw [hb0, ← HAL.out trivial]
     refine ⟨rfl, _, ?_, R1.out, R2.out⟩
     rw [← rm_setW v i ⟨{ y.w with state := 1, shed := y.w.shed + n, card := es }, B5, es.length, d5⟩]
     rfl
    ·have hb0 : backR v.rm a n = (er, v.rm) := by rw [HL0.out, if_pos her]
     have HB0 := Lib.hid hb0
     have h1 : (er != 0) = true := by simpa using her
     clear hb0
     go_wp2_with fail
     go_ret
     exact retO_no HB0.out Hc2.out HBc2.out
   ·intro Wd hbd
    have Hd := Lib.hid (Ha.out.below hbd)
    have HBd := Lib.hid (below_trans' HBa.out hbd)
    have HTd := Lib.hid (tab_below HTa.out hbd)
    have HOd := Lib.hid (row_on HOa.out hbd)
    clear hbd
    go_wp2_with fail
    refine ⟨⟨Hd.out, HTd.out⟩, ?_⟩
    refine tailG_one (t := 10) (ts' := [12]) (by kernel_rfl) rfl rfl ?_
    intro Wd1 hbd1
    have Hd1 := Lib.hid (Hd.out.below hbd1)
    have HBd1 := Lib.hid (below_trans' HBd.out hbd1)
    have HTd1 := Lib.hid (tab_below HTd.out hbd1)
    have HOd1 := Lib.hid (row_on HOd.out hbd1)
    clear hbd1
    go_wp2_with fail
    refine ⟨⟨Hd1.out, HTd1.out⟩, ?_⟩
    refine tailG_last (t := 12) (by kernel_rfl) rfl ?_
    intro Wd2 hbd2
    have Hd2 := Lib.hid (Hd1.out.below hbd2)
    have HBd2 := Lib.hid (below_trans' HBd1.out hbd2)
    have HTd2 := Lib.hid (tab_below HTd1.out hbd2)
    have HOd2 := Lib.hid (row_on HOd1.out hbd2)
    clear hbd2
    go_wp2_with fail
    refine NoPanic.normal ?_
    by_cases her : er = 0
    ·subst her
     have hrow := Hd2.out.rw
     rw [HG.out] at hrow
     have d10 : Wd2.cell? ⟨g, i * 13 + 10, none⟩ = some (.int .i64 y.w.state) := own_cell nw_len (by omega) hrow HY.out (j := 10) (by omega)
     have d12 : Wd2.cell? ⟨g, i * 13 + 12, none⟩ = some (.slice y.A y.n y.c) := own_cell nw_len (by omega) hrow HY.out (j := 12) (by omega)
     have d4 : Wd2.cell? ⟨g, i * 13 + 4, none⟩ = some (.int .i64 y.w.shed) := own_cell nw_len (by omega) hrow HY.out (j := 4) (by omega)
     have f10 : ∀ j, Wd2.frozen? ⟨g, j, none⟩ = false := fun j => hrow.frozenAt j
     have c6 : Wd2.cell? ⟨p, 6, none⟩ = some (.int .i64 v.lost) := At.cell Hd2.out.room 6
     have fp := Hd2.out.room.fz
     have hne : g ≠ p := (Hd2.out.ne_w HG.out).1
     have hne2 : p ≠ g := fun e => hne e.symm
     have v1 : IntKind.i64.wrap (y.w.shed + n) = y.w.shed + n := IntWalk.i64_in _ (by unfold inN at hn; omega)
     have v2 : IntKind.i64.wrap (v.lost + n) = v.lost + n := IntWalk.i64_in _ (by unfold inN at hn; omega)
     obtain ⟨r1, r2⟩ := back_fin n H0.out Hd2.out HBd2.out HG.out HY.out HOd2.out HZ5.out
     have R1 := Lib.hid r1
     have R2 := Lib.hid r2
     clear hrow r1 r2
     go_wp2_with fail
     go_ret
     have hb0 := HL0.out
     rw [if_neg (by simp)] at hb0
     rw [hb0, ← HAL.out trivial]
     refine ⟨rfl, _, ?_, R1.out, R2.out⟩
     rw [← rm_setW v i ⟨{ y.w with state := 1, shed := y.w.shed + n, card := es }, B5, es.length, d5⟩]
     rfl
    ·have hb0 : backR v.rm a n = (er, v.rm) := by rw [HL0.out, if_pos her]
     have HB0 := Lib.hid hb0
     have h1 : (er != 0) = true := by simpa using her
     clear hb0
     go_wp2_with fail
     go_ret
     exact retO_no HB0.out Hd2.out HBd2.out
  ·intro Wb hbb
   have Hb := Lib.hid (H6.out.below hbb)
   have HBb := Lib.hid (below_trans' HB6.out hbb)
   have HTb := Lib.hid (tab_below HT6.out hbb)
   have HOb := Lib.hid (row_on HO6.out hbb)
   clear hbb
   go_wp2_with fail
   refine ⟨⟨Hb.out, HTb.out⟩, ?_⟩
   refine tailG_one (t := 9) (ts' := [11, 12]) (by kernel_rfl) rfl rfl ?_
   intro Wb0 hbb0
   have Hb0 := Lib.hid (Hb.out.below hbb0)
   have HBb0 := Lib.hid (below_trans' HBb.out hbb0)
   have HTb0 := Lib.hid (tab_below HTb.out hbb0)
   have HOb0 := Lib.hid (row_on HOb.out hbb0)
   clear hbb0
   go_wp2_with fail
   refine ⟨⟨Hb0.out, HTb0.out⟩, ?_⟩
   refine tailG_one (t := 11) (ts' := [12]) (by kernel_rfl) rfl rfl ?_
   intro Wb1 hbb1
   have Hb1 := Lib.hid (Hb0.out.below hbb1)
   have HBb1 := Lib.hid (below_trans' HBb0.out hbb1)
   have HTb1 := Lib.hid (tab_below HTb0.out hbb1)
   have HOb1 := Lib.hid (row_on HOb0.out hbb1)
   clear hbb1
   go_wp2_with fail
   refine ⟨⟨Hb1.out, HTb1.out⟩, ?_⟩
   refine tailG_last (t := 12) (by kernel_rfl) rfl ?_
   intro Wb2 hbb2
   have Hb2 := Lib.hid (Hb1.out.below hbb2)
   have HBb2 := Lib.hid (below_trans' HBb1.out hbb2)
   have HTb2 := Lib.hid (tab_below HTb1.out hbb2)
   have HOb2 := Lib.hid (row_on HOb1.out hbb2)
   clear hbb2
   go_wp2_with fail
   refine NoPanic.normal ?_
   by_cases her : er = 0
   ·subst her
    have hrow := Hb2.out.rw
    rw [HG.out] at hrow
    have d10 : Wb2.cell? ⟨g, i * 13 + 10, none⟩ = some (.int .i64 y.w.state) := own_cell nw_len (by omega) hrow HY.out (j := 10) (by omega)
    have d12 : Wb2.cell? ⟨g, i * 13 + 12, none⟩ = some (.slice y.A y.n y.c) := own_cell nw_len (by omega) hrow HY.out (j := 12) (by omega)
    have d4 : Wb2.cell? ⟨g, i * 13 + 4, none⟩ = some (.int .i64 y.w.shed) := own_cell nw_len (by omega) hrow HY.out (j := 4) (by omega)
    have f10 : ∀ j, Wb2.frozen? ⟨g, j, none⟩ = false := fun j => hrow.frozenAt j
    have c6 : Wb2.cell? ⟨p, 6, none⟩ = some (.int .i64 v.lost) := At.cell Hb2.out.room 6
    have fp := Hb2.out.room.fz
    have hne : g ≠ p := (Hb2.out.ne_w HG.out).1
    have hne2 : p ≠ g := fun e => hne e.symm
    have v1 : IntKind.i64.wrap (y.w.shed + n) = y.w.shed + n := IntWalk.i64_in _ (by unfold inN at hn; omega)
    have v2 : IntKind.i64.wrap (v.lost + n) = v.lost + n := IntWalk.i64_in _ (by unfold inN at hn; omega)
    obtain ⟨r1, r2⟩ := back_fin n H0.out Hb2.out HBb2.out HG.out HY.out HOb2.out HZ5.out
    have R1 := Lib.hid r1
    have R2 := Lib.hid r2
    clear hrow r1 r2
    go_wp2_with fail
    go_ret
    have hb0 := HL0.out
    rw [if_neg (by simp)] at hb0
    rw [hb0, ← HAL.out trivial]
    refine ⟨rfl, _, ?_, R1.out, R2.out⟩
    rw [← rm_setW v i ⟨{ y.w with state := 1, shed := y.w.shed + n, card := es }, B5, es.length, d5⟩]
    rfl
   ·have hb0 : backR v.rm a n = (er, v.rm) := by rw [HL0.out, if_pos her]
    have HB0 := Lib.hid hb0
    have h1 : (er != 0) = true := by simpa using her
    clear hb0
    go_wp2_with fail
    go_ret
    exact retO_no HB0.out Hb2.out HBb2.out
end Go.Proofs.YtihhclhpjgeniaaGreatDoor
