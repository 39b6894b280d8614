/- Walks: how much an entry has seen, and the comparison of two numbers of entries. -/
import Derived.Test.YtpoodhhajghaoaaGreatDoorD1
import Derived.Test.YtpoodhhajghaoaaGreatDoorC10
import Derived.Test.YtpoodhhajghaoaaGreatDoorHw
namespace Go.Proofs.YtpoodhhajghaoaaGreatDoor
open Go.RowKit Go.Sort

/-- How much an entry has seen. -/
def age (e : Ent) : Int := e.2.2.1.1 + e.2.2.1.2.1 + e.2.2.1.2.2
/-- What an entry has seen lies in bounds. -/
def tame (e : Ent) : Prop := (0 ≤ e.2.2.1.1 ∧ e.2.2.1.1 ≤ 60) ∧ (0 ≤ e.2.2.1.2.1 ∧ e.2.2.1.2.1 ≤ 60) ∧ (0 ≤ e.2.2.1.2.2 ∧ e.2.2.1.2.2 ≤ 60)
abbrev ebox (e : Ent) : Obj := .cells #[.int .i64 e.1, .int .i64 e.2.1, .int .i64 e.2.2.1.1, .int .i64 e.2.2.1.2.1, .int .i64 e.2.2.1.2.2, .string e.2.2.2] 38
theorem sum_any (e : Ent) (w : World) (h : tame e) : Calls Tryz.prog 30 #[eval_ e] w fun r w' => r = .returned (.int .i64 (age e)) ∧ w' = w.alloc (ebox e) := by
  obtain ⟨p, q, ⟨a, b, c⟩, t⟩ := e
  obtain ⟨⟨a0, a1⟩, ⟨b0, b1⟩, ⟨c0, c1⟩⟩ := h
  dsimp only at a0 a1 b0 b1 c0 c1
  have v1 : IntKind.i64.wrap (a + b) = a + b := IntWalk.i64_in _ (by omega)
  have v2 : IntKind.i64.wrap (a + b + c) = a + b + c := IntWalk.i64_in _ (by omega)
  clear a0 a1 b0 b1 c0 c1
  go_enter Tryz.func30, Tryz.ntmps30
  dsimp only [eval_]
  have Y0 := fun w' => ix35 w.heap.size 2 0 (by omega) w'
  have Y1 := fun w' => ix35 w.heap.size 2 1 (by omega) w'
  have Y2 := fun w' => ix35 w.heap.size 2 2 (by omega) w'
  have cB := (Box.new w #[.int .i64 p, .int .i64 q, .int .i64 a, .int .i64 b, .int .i64 c, .string t] 38).at
  go_wp2_with fail
  go_ret
  exact ⟨rfl, rfl⟩
theorem age_any (e : Ent) (w : World) (h : tame e) : Calls Tryz.prog 38 #[eval_ e] w fun r w' => r = .returned (.int .i64 (age e)) ∧ w' = w.alloc (ebox e) := by
  obtain ⟨p, q, ⟨a, b, c⟩, t⟩ := e
  obtain ⟨⟨a0, a1⟩, ⟨b0, b1⟩, ⟨c0, c1⟩⟩ := h
  dsimp only at a0 a1 b0 b1 c0 c1
  have v1 : IntKind.i64.wrap (a + b) = a + b := IntWalk.i64_in _ (by omega)
  have v2 : IntKind.i64.wrap (a + b + c) = a + b + c := IntWalk.i64_in _ (by omega)
  clear a0 a1 b0 b1 c0 c1
  go_enter Tryz.func38, Tryz.ntmps38
  dsimp only [eval_]
  have Y0 := fun w' => ix35 w.heap.size 2 0 (by omega) w'
  have Y1 := fun w' => ix35 w.heap.size 2 1 (by omega) w'
  have Y2 := fun w' => ix35 w.heap.size 2 2 (by omega) w'
  have cB := (Box.new w #[.int .i64 p, .int .i64 q, .int .i64 a, .int .i64 b, .int .i64 c, .string t] 38).at
  go_wp2_with fail
  go_ret
  exact ⟨rfl, rfl⟩
/-- The comparison. -/
def cmpO (x y : Ent) : Int := or0 [cmpI (age x) (age y), cmpI x.1 y.1]
/-- What the comparison reads: the list, and the variable that holds it. -/
structure Ord1 (q : Nat) (A : Option Addr) (n c : Nat) (x y : Ent) (i j : Nat) (ad : Addr) (w : World) : Prop where
  box : ∀ k, w.cell? ⟨q, k, none⟩ = (#[Value.slice A n c] : Array Value)[k]?
  x0 : w.cell? (ad.add (i * 6)) = some (.int .i64 x.1)
  x1 : w.cell? ⟨(ad.add (i * 6)).block, (ad.add (i * 6)).off + 1, none⟩ = some (.int .i64 x.2.1)
  x2 : w.cell? ⟨(ad.add (i * 6)).block, (ad.add (i * 6)).off + 2, none⟩ = some (.int .i64 x.2.2.1.1)
  x3 : w.cell? ⟨(ad.add (i * 6)).block, (ad.add (i * 6)).off + 3, none⟩ = some (.int .i64 x.2.2.1.2.1)
  x4 : w.cell? ⟨(ad.add (i * 6)).block, (ad.add (i * 6)).off + 4, none⟩ = some (.int .i64 x.2.2.1.2.2)
  x5 : w.cell? ⟨(ad.add (i * 6)).block, (ad.add (i * 6)).off + 5, none⟩ = some (.string x.2.2.2)
  y0 : w.cell? (ad.add (j * 6)) = some (.int .i64 y.1)
  y1 : w.cell? ⟨(ad.add (j * 6)).block, (ad.add (j * 6)).off + 1, none⟩ = some (.int .i64 y.2.1)
  y2 : w.cell? ⟨(ad.add (j * 6)).block, (ad.add (j * 6)).off + 2, none⟩ = some (.int .i64 y.2.2.1.1)
  y3 : w.cell? ⟨(ad.add (j * 6)).block, (ad.add (j * 6)).off + 3, none⟩ = some (.int .i64 y.2.2.1.2.1)
  y4 : w.cell? ⟨(ad.add (j * 6)).block, (ad.add (j * 6)).off + 4, none⟩ = some (.int .i64 y.2.2.1.2.2)
  y5 : w.cell? ⟨(ad.add (j * 6)).block, (ad.add (j * 6)).off + 5, none⟩ = some (.string y.2.2.2)
theorem Ord1.below {q : Nat} {A : Option Addr} {n c : Nat} {x y : Ent} {i j : Nat} {ad : Addr} {w w' : World} (h : Ord1 q A n c x y i j ad w) (hq : q < w.heap.size) (hb : Below w.heap.size w w') : Ord1 q A n c x y i j ad w' := by
  have k : ∀ (a : Addr) (v : Value), w.cell? a = some v → w'.cell? a = some v := fun a v h => (hb.cell (World.block_lt_of_cell? _ _ h)).trans h
  refine ⟨fun k => ?_, k _ _ h.x0, k _ _ h.x1, k _ _ h.x2, k _ _ h.x3, k _ _ h.x4, k _ _ h.x5, k _ _ h.y0, k _ _ h.y1, k _ _ h.y2, k _ _ h.y3, k _ _ h.y4, k _ _ h.y5⟩
  rw [hb.cell (p := ⟨q, k, none⟩) hq]
  exact h.box k
/-- A world with draws and new memory. -/
def Gr (w w' : World) : Prop := ∃ k os, w' = grow (w.drewN k) os
theorem Gr.refl (w : World) : Gr w w := ⟨0, #[], by rw [grow_empty]; rfl⟩
theorem Gr.trans {u v w : World} : Gr u v → Gr v w → Gr u w := by
  rintro ⟨k, os, rfl⟩ ⟨k', os', rfl⟩
  exact ⟨k + k', os ++ os', by rw [show (grow (u.drewN k) os).drewN k' = grow (u.drewN (k + k')) os from by simp [grow, World.drewN, Nat.add_assoc], grow_grow]⟩
theorem Gr.alloc (w : World) (o : Obj) : Gr w (w.alloc o) := ⟨0, #[o], alloc_eq_grow w o⟩
theorem Gr.drew (w : World) : Gr w w.drew := ⟨1, #[], by rw [grow_empty]; rfl⟩
theorem Gr.below {w w' : World} (h : Gr w w') : Below w.heap.size w w' := by
  obtain ⟨k, os, rfl⟩ := h
  exact below_drewGrow w k os
set_option maxRecDepth 100000 in
set_option maxHeartbeats 8000000 in
theorem order1_grow (q : Nat) (A : Option Addr) (n c : Nat) (es : List Ent) (i j : Nat) (x y : Ent) (w : World) (hb : Box w q #[.slice A n c]) (hl : Reads w w.heap.size 6 A n (ents es)) (hi : i < n) (hj : j < n) (hx : es[i]? = some x) (hy : es[j]? = some y) (tx : tame x) (ty : tame y) :
    Calls Tryz.prog 27 #[.int .i64 i, .int .i64 j, .pointer (some ⟨q, 0, none⟩)] w fun r w' => r = .returned (.int .i64 (cmpO x y)) ∧ ∃ q os', w' = grow (w.drewN q) os' := by
  obtain ⟨ad, x', e1, _, hx', d0, d1, d2, d3, d4, d5⟩ := eat hl (k := i) (List.getElem?_eq_some_iff.1 hx).1
  obtain rfl : x = x' := Option.some.inj (hx.symm.trans hx')
  obtain ⟨ad', y', e1', _, hy', q0, q1, q2, q3, q4, q5⟩ := eat hl (k := j) (List.getElem?_eq_some_iff.1 hy).1
  obtain rfl : y = y' := Option.some.inj (hy.symm.trans hy')
  obtain rfl : ad = ad' := Option.some.inj (e1.symm.trans e1')
  have X := fun w => ix22 (n := n) (c := c) e1 hi w
  have Y := fun w => ix22 (n := n) (c := c) e1 hj w
  have TX := Lib.hid tx
  have TY := Lib.hid ty
  have bq := hb.1
  have c0 := hb.at
  clear hx hy hx' hy' e1 e1' hl hi hj tx ty
  go_enter Tryz.func27, Tryz.ntmps27
  go_wp2_with fail
  have H0 : Ord1 q A n c x y i j ad w := ⟨c0, d0, d1, d2, d3, d4, d5, q0, q1, q2, q3, q4, q5⟩
  clear c0 d0 d1 d2 d3 d4 d5 q0 q1 q2 q3 q4 q5 hb
  refine wp_region_hw [0, 1, 2, 3, 4, 5, 6, 7, 8, 9, 10, 11, 12, 13, 14, 15, 16, 17, 18, 19, 20, 21] [22, 23, 24] (fun W => Ord1 q A n c x y i j ad W ∧ q < W.heap.size) mixed (by kernel_rfl) Gr.refl (fun _ _ _ h1 h2 => h1.trans h2) (fun W W' h hg => ⟨h.1.below h.2 hg.below, Nat.lt_of_lt_of_le h.2 hg.below.size⟩) ⟨H0.below bq (below_drewN' (Below.refl _ _) 1), bq⟩ ?_
  iterate 4
    refine canonR_read (v := ?_) rfl (by rfl) ?_ ?_
    rotate_left
    · intro w hSw
      obtain ⟨⟨s0, s1, s2, s3, s4, s5, s6, s7, s8, s9, sa, sb, sc⟩, _⟩ := hSw
      go_simp <;> with_reducible rfl
    simp only [List.getElem_toArray, List.getElem_cons_zero, List.getElem_cons_succ, Act.put, List.setIfInBounds_toArray, List.set_cons_succ, List.set_cons_zero]
  refine canonR_call (v := .int .i64 (age x)) (f := 30) (args := #[eval_ x]) rfl (by rfl) ?_ ?_ ?_
  · intro w hSw
    go_simp
  · intro w hSw
    exact (sum_any x w TX.out).mono fun r w' ⟨h1, h2⟩ => ⟨h1, h2 ▸ Gr.alloc _ _⟩
  simp only [List.getElem_toArray, List.getElem_cons_zero, List.getElem_cons_succ, Act.put, List.setIfInBounds_toArray, List.set_cons_succ, List.set_cons_zero]
  iterate 4
    refine canonR_read (v := ?_) rfl (by rfl) ?_ ?_
    rotate_left
    · intro w hSw
      obtain ⟨⟨s0, s1, s2, s3, s4, s5, s6, s7, s8, s9, sa, sb, sc⟩, _⟩ := hSw
      go_simp <;> with_reducible rfl
    simp only [List.getElem_toArray, List.getElem_cons_zero, List.getElem_cons_succ, Act.put, List.setIfInBounds_toArray, List.set_cons_succ, List.set_cons_zero]
  refine canonR_call (v := .int .i64 (age y)) (f := 30) (args := #[eval_ y]) rfl (by rfl) ?_ ?_ ?_
  · intro w hSw
    go_simp
  · intro w hSw
    exact (sum_any y w TY.out).mono fun r w' ⟨h1, h2⟩ => ⟨h1, h2 ▸ Gr.alloc _ _⟩
  simp only [List.getElem_toArray, List.getElem_cons_zero, List.getElem_cons_succ, Act.put, List.setIfInBounds_toArray, List.set_cons_succ, List.set_cons_zero]
  refine canonR_call (v := .int .i64 (cmpI (age x) (age y))) (f := 29) (args := #[.int .i64 (age x), .int .i64 (age y)]) rfl (by rfl) ?_ ?_ ?_
  · intro w hSw
    go_simp
  · intro w hSw
    exact (cmpI_any _ _ w).mono fun r w' ⟨h1, h2⟩ => ⟨h1, h2 ▸ Gr.refl _⟩
  simp only [List.getElem_toArray, List.getElem_cons_zero, List.getElem_cons_succ, Act.put, List.setIfInBounds_toArray, List.set_cons_succ, List.set_cons_zero]
  iterate 10
    refine canonR_read (v := ?_) rfl (by rfl) ?_ ?_
    rotate_left
    · intro w hSw
      obtain ⟨⟨s0, s1, s2, s3, s4, s5, s6, s7, s8, s9, sa, sb, sc⟩, _⟩ := hSw
      go_simp <;> with_reducible rfl
    simp only [List.getElem_toArray, List.getElem_cons_zero, List.getElem_cons_succ, Act.put, List.setIfInBounds_toArray, List.set_cons_succ, List.set_cons_zero]
  refine canonR_call (v := .int .i64 (cmpI x.1 y.1)) (f := 29) (args := #[.int .i64 x.1, .int .i64 y.1]) rfl (by rfl) ?_ ?_ ?_
  · intro w hSw
    go_simp
  · intro w hSw
    exact (cmpI_any _ _ w).mono fun r w' ⟨h1, h2⟩ => ⟨h1, h2 ▸ Gr.refl _⟩
  simp only [List.getElem_toArray, List.getElem_cons_zero, List.getElem_cons_succ, Act.put, List.setIfInBounds_toArray, List.set_cons_succ, List.set_cons_zero]
  refine canonR_nil ?_
  refine tailR_one (t := 22) (ts' := [23, 24]) (by kernel_rfl) rfl rfl ?_
  intro w6 hb6
  have HG6 := Lib.hid ((Gr.drew w).trans hb6)
  have HS6 := Lib.hid (H0.below bq HG6.out.below)
  have hq6 : q < w6.heap.size := Nat.lt_of_lt_of_le bq HG6.out.below.size
  clear hb6 H0
  go_wp2_with fail
  have HG7 := Lib.hid (HG6.out.trans (Gr.alloc w6 (.cells #[.int .i64 (cmpI (age x) (age y)), .int .i64 (cmpI x.1 y.1)] 3)))
  have HR7 := Lib.hid (reads_new w6 (ints [cmpI (age x) (age y), cmpI x.1 y.1]) 3 1 2 rfl)
  refine ⟨⟨HS6.out.below hq6 (belowA _ _), by rw [World.size_alloc]; omega⟩, ?_⟩
  refine tailR_one (t := 23) (ts' := [24]) (by kernel_rfl) rfl rfl ?_
  intro w8 hb8
  have HG8 := Lib.hid (HG7.out.trans hb8)
  have HR8 := Lib.hid (HR7.out.on hb8.below)
  have HS8 := Lib.hid (HS6.out.below hq6 (belowA w6 (.cells #[.int .i64 (cmpI (age x) (age y)), .int .i64 (cmpI x.1 y.1)] 3)))
  have HS9 := Lib.hid (HS8.out.below (by rw [World.size_alloc]; omega) hb8.below)
  have hq8 : q < w8.heap.size := Nat.lt_of_lt_of_le (by rw [World.size_alloc]; omega) hb8.below.size
  clear hb8
  go_wp2_with fail
  with_reducible refine (or_any _ 2 2 [cmpI (age x) (age y), cmpI x.1 y.1] _ HR8.out (by omega)).mono ?_
  rintro _ w9 ⟨rfl, rfl⟩
  go_wp2_with fail
  refine ⟨⟨HS9.out, hq8⟩, ?_⟩
  refine tailR_last (t := 24) (by kernel_rfl) rfl ?_
  intro w10 hb10
  have HG10 := Lib.hid (HG8.out.trans hb10)
  clear hb10
  go_wp2_with fail
  refine NoPanic.normal ?_
  go_wp2_with fail
  go_ret
  exact ⟨rfl, HG10.out⟩
end Go.Proofs.YtpoodhhajghaoaaGreatDoor
