/- Walks: the matrix of a word; the reference's side. -/
import Derived.Test.YtgkgloafjhiakaaDoorM1
namespace Go.Proofs.YtgkgloafjhiakaaDoor
open Go.RowKit Go.Sort

abbrev mcs (m : Mat) : Array Value := #[.int .i64 m.1, .int .i64 m.2.1, .int .i64 m.2.2.1, .int .i64 m.2.2.2]
/-- A matrix in memory. -/
structure MatAt (w : World) (b : Nat) (m : Mat) : Prop where
  box : Box w b (mcs m)
  fz : ∀ i, w.frozen? ⟨b, i, none⟩ = false
theorem MatAt.new (w : World) (m : Mat) : MatAt (w.alloc (.cells (mcs m) 34)) w.heap.size m := ⟨Box.new _ _ _, fz_new _ _ _⟩
theorem MatAt.below {w w' : World} {b : Nat} {m : Mat} (h : MatAt w b m) (hb : Below w.heap.size w w') : MatAt w' b m := ⟨h.box.below hb, fz_below h.box.1 h.fz hb⟩
theorem MatAt.set {w : World} {b : Nat} {m : Mat} (h : MatAt w b m) (n : Mat) : MatAt ((((w.setCell ⟨b, 0, none⟩ (.int .i64 n.1)).setCell ⟨b, 1, none⟩ (.int .i64 n.2.1)).setCell ⟨b, 2, none⟩ (.int .i64 n.2.2.1)).setCell ⟨b, 3, none⟩ (.int .i64 n.2.2.2)) b n :=
  ⟨(((h.box.set (i := 0) (by simp) _).set (i := 1) (by simp) _).set (i := 2) (by simp) _).set (i := 3) (by simp) _, fun i => by rw [World.frozen?_setCell, World.frozen?_setCell, World.frozen?_setCell, World.frozen?_setCell]; exact h.fz i⟩
theorem below_set4 {w0 w : World} {B b : Nat} (h : Below B w0 w) (hB : B ≤ b) (v0 v1 v2 v3 : Value) : Below B w0 ((((w.setCell ⟨b, 0, none⟩ v0).setCell ⟨b, 1, none⟩ v1).setCell ⟨b, 2, none⟩ v2).setCell ⟨b, 3, none⟩ v3) :=
  below_set (below_set (below_set (below_set h hB _) hB _) hB _) hB _
theorem MatAt.far4 {w : World} {b b' : Nat} {m : Mat} (h : MatAt w b m) (hne : b ≠ b') (v0 v1 v2 v3 : Value) : MatAt ((((w.setCell ⟨b', 0, none⟩ v0).setCell ⟨b', 1, none⟩ v1).setCell ⟨b', 2, none⟩ v2).setCell ⟨b', 3, none⟩ v3) b m :=
  ⟨(((h.box.far (p := ⟨b', 0, none⟩) hne v0).far (p := ⟨b', 1, none⟩) hne v1).far (p := ⟨b', 2, none⟩) hne v2).far (p := ⟨b', 3, none⟩) hne v3, fun i => by rw [World.frozen?_setCell, World.frozen?_setCell, World.frozen?_setCell, World.frozen?_setCell]; exact h.fz i⟩
theorem MatAt.drewN {w : World} {b : Nat} {m : Mat} (h : MatAt w b m) (n : Nat) : MatAt (w.drewN n) b m := ⟨h.box, h.fz⟩
set_option maxRecDepth 100000 in
set_option maxHeartbeats 4000000 in
theorem refMatrix_any (t : ByteArray) (w : World) (ht : t.size ≤ 60) (hW : wordL (liB t)) : Calls Tryd.prog 75 #[.string t] w fun r w' => r = .returned (mval (matL (liB t))) ∧ Below w.heap.size w w' := by
  have hl := li_size t
  have hm0 := MatAt.new w (0, 0, 0, 0)
  have hm1 := MatAt.new (w.alloc (.cells (mcs (0, 0, 0, 0)) 34)) (1, 0, 0, 1)
  have hm00 := hm0.below (belowA _ (.cells (mcs (1, 0, 0, 1)) 34))
  have hb0 := belowAA w (.cells (mcs (0, 0, 0, 0)) 34) (.cells (mcs (1, 0, 0, 1)) 34)
  have hs : (w.alloc (.cells (mcs (0, 0, 0, 0)) 34)).heap.size = w.heap.size + 1 := by simp
  rw [hs] at hm1
  clear hm0 hs
  go_enter Tryd.func75, Tryd.ntmps75
  go_wp2_with fail
  generalize (w.alloc (.cells (mcs (0, 0, 0, 0)) 34)).alloc (.cells (mcs (1, 0, 0, 1)) 34) = w1 at hm1 hm00 hb0 ⊢
  go_loopw [4] (fun i wr => ∃ k : Nat, k ≤ t.size ∧ i = .int .i64 k ∧ Below w.heap.size w wr ∧ MatAt wr w.heap.size (0, 0, 0, 0) ∧ MatAt wr (w.heap.size + 1) (matL ((liB t).take k))) (fun i _ => t.size - (intOf i).toNat)
  case atStart => exact ⟨0, by omega, rfl, hb0, hm00, hm1⟩
  case round =>
    obtain ⟨k, hk, rfl, hb, hf, hg⟩ := hrel
    have HB := Lib.hid hb
    have HF := Lib.hid hf
    have HG := Lib.hid hg
    clear hb hf hg hm1 hm00 hb0
    by_cases hlt : k < t.size
    · have hll : k < (liB t).length := by omega
      have hget := get_li hlt hll
      have hLk : isL t[k] := by rw [← hget]; exact hW _ (List.getElem_mem hll)
      have HT := Lib.hid (matL_take hll)
      rw [hget] at HT
      have hbd := matL_b60 (wordL_take hW k) (by rw [List.length_take]; omega)
      clear hget
      generalize hcc : t[k] = d at HT hLk
      obtain ⟨M, hM⟩ : ∃ M, matL ((liB t).take k) = M := ⟨_, rfl⟩
      rw [hM] at HT HG hbd
      clear hM
      obtain ⟨p, q, r, s⟩ := M
      obtain ⟨⟨a1, a2⟩, ⟨b1, b2⟩, ⟨c1, c2⟩, d1, d2⟩ := hbd
      dsimp only at a1 a2 b1 b2 c1 c2 d1 d2
      have x0 := HG.out.box.2
      have z0 := HG.out.fz
      simp only [mcs] at x0
      rcases hLk with rfl | rfl | rfl | rfl
      · rw [mul_a] at HT
        go_wp2_with fail
        go_quiet (fail)
        go_wp2_with fail
        refine ⟨⟨k + 1, by omega, by go_num, below_set4 (below_drewN' HB.out nq) (Nat.le_succ _) _ _ _ _, (HF.out.drewN nq).far4 (by omega) _ _ _ _, ?_⟩, by simp [intOf]; omega⟩
        rw [HT.out]
        exact (HG.out.drewN nq).set (p, p + q, r, r + s)
      · rw [mul_A] at HT
        go_wp2_with fail
        go_quiet (fail)
        go_wp2_with fail
        refine ⟨⟨k + 1, by omega, by go_num, below_set4 (below_drewN' HB.out nq) (Nat.le_succ _) _ _ _ _, (HF.out.drewN nq).far4 (by omega) _ _ _ _, ?_⟩, by simp [intOf]; omega⟩
        rw [HT.out]
        exact (HG.out.drewN nq).set (p, q - p, r, s - r)
      · rw [mul_b] at HT
        go_wp2_with fail
        go_quiet (fail)
        go_wp2_with fail
        refine ⟨⟨k + 1, by omega, by go_num, below_set4 (below_drewN' HB.out nq) (Nat.le_succ _) _ _ _ _, (HF.out.drewN nq).far4 (by omega) _ _ _ _, ?_⟩, by simp [intOf]; omega⟩
        rw [HT.out]
        exact (HG.out.drewN nq).set (p - q, q, r - s, s)
      · rw [mul_B] at HT
        go_wp2_with fail
        go_quiet (fail)
        go_wp2_with fail
        refine ⟨⟨k + 1, by omega, by go_num, below_set4 (below_drewN' HB.out nq) (Nat.le_succ _) _ _ _ _, (HF.out.drewN nq).far4 (by omega) _ _ _ _, ?_⟩, by simp [intOf]; omega⟩
        rw [HT.out]
        exact (HG.out.drewN nq).set (p + q, q, r + s, s)
    · obtain rfl : k = t.size := by omega
      have HL := Lib.hid (show (liB t).take t.size = liB t by rw [← hl]; exact List.take_length)
      rw [HL.out] at HG
      obtain ⟨M, hM⟩ : ∃ M, matL (liB t) = M := ⟨_, rfl⟩
      rw [hM] at HG
      obtain ⟨p, q, r, s⟩ := M
      have HMM := Lib.hid hM
      clear hM
      have x0 := HG.out.box.2
      have y0 := HF.out.box.2
      have f0 := HF.out.fz
      simp only [mcs] at x0 y0
      have HR := Lib.hid (HF.out.set (p, q, r, s))
      have HB2 := Lib.hid (below_set4 HB.out (b := w.heap.size) (Nat.le_refl _) (.int .i64 p) (.int .i64 q) (.int .i64 r) (.int .i64 s))
      go_wp2_with fail
      have cF := HR.out.box.2
      simp only [mcs] at cF
      refine bodyPost_ret (v := mval (p, q, r, s)) (by simp [results, Tryd.results75, go_sem, cF]) rfl ⟨by rw [HMM.out], HB2.out⟩
end Go.Proofs.YtgkgloafjhiakaaDoor
