/- Walks: comparing edges, reading directions, looking for a parting. -/
import Derived.Test.YtfaleddacmbidaaDoorW1
namespace Go.Proofs.YtfaleddacmbidaaDoor
open Go.RowKit Go.Sort
theorem cmpE_any (a b : Edg) (w : World) :
    Calls Tryd.prog 29 #[eval_ a, eval_ b] w fun r w' => r = .returned (.int .i64 (cmpE a b)) ∧ Below w.heap.size w w' := by
  go_enter Tryd.func29, Tryd.ntmps29
  dsimp only [eval_]
  go_wp2_with fail
  refine wp_gen (fun w1 => Box w1 w.heap.size #[.int .i64 a.1, .int .i64 a.2.1, .int .i64 a.2.2] ∧ Box w1 (w.heap.size + 1) #[.int .i64 b.1, .int .i64 b.2.1, .int .i64 b.2.2] ∧ Below w.heap.size w w1) ⟨(Box.new _ _ _).alloc _, Box.new2 _ _ _ _ _, belowAA _ _ _⟩ ?_
  rintro w1 ⟨b0, b1, hbel⟩
  have c0 := b0.at
  have c1 := b1.at
  go_region_held3 (fun w' => (∀ i, w'.cell? ⟨w.heap.size, i, none⟩ = (#[.int .i64 a.1, .int .i64 a.2.1, .int .i64 a.2.2] : Array Value)[i]?) ∧ (∀ i, w'.cell? ⟨w.heap.size + 1, i, none⟩ = (#[.int .i64 b.1, .int .i64 b.2.1, .int .i64 b.2.2] : Array Value)[i]?)) (first | exact ⟨c0, c1⟩ | exact ⟨(b0.alloc _).at, (b1.alloc _).at⟩)
    (first | (go_at_call 44; refine (cmpI_any _ _ _).mono ?_; rintro e w' ⟨rfl, rfl⟩) | (go_at_call 43; refine (or_any _ 3 3 [cmpI a.1 b.1, cmpI a.2.1 b.2.1, cmpI a.2.2 b.2.2] _ ((reads_new w1 (ints [cmpI a.1 b.1, cmpI a.2.1 b.2.1, cmpI a.2.2 b.2.2]) 3 1 3 rfl).drew) (by omega)).mono ?_; rintro e w' ⟨rfl, rfl⟩))
  go_wp2
  go_ret
  exact ⟨rfl, (below_trans' hbel (belowA _ _)).drew⟩

theorem isEdge_any (v : FV) (e : Edg) (w : World) (h1 : 1 ≤ v.f.W) (h2 : v.f.W ≤ 24) (h3 : 1 ≤ v.f.H) (h4 : v.f.H ≤ 24) :
    Calls Tryd.prog 35 #[v.val, eval_ e] w fun r w' => r = .returned (.bool (isE v.f.W v.f.H e)) ∧ Below w.heap.size w w' := by
  go_enter Tryd.func35, Tryd.ntmps35
  dsimp only [FV.val, eval_]
  go_wp2_with (go_at_call 34; refine (within_any _ _ _ _).mono ?_; rintro e w' ⟨rfl, rfl⟩)
  all_goals go_ret
  all_goals refine ⟨ret_bool ?_, belowAA _ _ _⟩
  all_goals go_light
  all_goals (rw [Bool.eq_iff_iff]; simp only [isE, decide_eq_true_eq, Bool.and_eq_true, Bool.false_eq_true, false_iff, true_iff] at *; omega)

theorem at_any (v : FV) (x y : Int) (w : World) (hv : v.In w) (hs : sizeOk v.f) (x0 : 0 ≤ x) (x1 : x < v.f.W) (y0 : 0 ≤ y) (y1 : y < v.f.H) :
    Calls Tryd.prog 45 #[v.val, .int .i64 x, .int .i64 y] w fun r w' => r = .returned (.int .i64 (v.f.dir x y)) ∧ Below w.heap.size w w' := by
  obtain ⟨w1, w2, h1, h2, hl⟩ := hs
  obtain ⟨i0, i1, i2, i3, i4⟩ := idx_bd w1 w2 h2 x0 x1 y0 y1
  obtain ⟨k, hk⟩ := Int.eq_ofNat_of_zero_le i2
  have hn := hv.nb
  obtain ⟨l1, l2⟩ := hv.l1
  obtain ⟨ad, z, e1, hb, hz, hc⟩ := hv.dsAt (k := k) (by omega)
  have hc1 := fun o => (World.cell?_alloc_lt w o (ad.add k) (by rw [blockAdd]; exact hb)).trans hc
  have hf : v.f.dir x y = z := by unfold Fld.dir; rw [hk]; simp [List.getD_eq_getElem?_getD, hz]
  have hk2 : k < v.n := by omega
  have HF := Lib.hid hf
  clear hf hz hl
  go_enter Tryd.func45, Tryd.ntmps45
  dsimp only [FV.val]
  go_wp2
  go_ret
  exact ⟨ret_int HF.out.symm, belowA _ _⟩

theorem refAt_any (v : FV) (x y : Int) (w : World) (hv : v.In w) (hs : sizeOk v.f) (x0 : 0 ≤ x) (x1 : x < v.f.W) (y0 : 0 ≤ y) (y1 : y < v.f.H) :
    Calls Tryd.prog 50 #[v.val, .int .i64 x, .int .i64 y] w fun r w' => r = .returned (.int .i64 (v.f.dir x y)) ∧ Below w.heap.size w w' := by
  obtain ⟨w1, w2, h1, h2, hl⟩ := hs
  obtain ⟨i0, i1, i2, i3, i4⟩ := idx_bd w1 w2 h2 x0 x1 y0 y1
  obtain ⟨k, hk⟩ := Int.eq_ofNat_of_zero_le i2
  have hn := hv.nb
  obtain ⟨l1, l2⟩ := hv.l1
  obtain ⟨ad, z, e1, hb, hz, hc⟩ := hv.dsAt (k := k) (by omega)
  have hc1 := fun o => (World.cell?_alloc_lt w o (ad.add k) (by rw [blockAdd]; exact hb)).trans hc
  have hf : v.f.dir x y = z := by unfold Fld.dir; rw [hk]; simp [List.getD_eq_getElem?_getD, hz]
  have hk2 : k < v.n := by omega
  have HF := Lib.hid hf
  clear hf hz hl
  go_enter Tryd.func50, Tryd.ntmps50
  dsimp only [FV.val]
  go_wp2
  go_ret
  exact ⟨ret_int HF.out.symm, belowA _ _⟩
end Go.Proofs.YtfaleddacmbidaaDoor
