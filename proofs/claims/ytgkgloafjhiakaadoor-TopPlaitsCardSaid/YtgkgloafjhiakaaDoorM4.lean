/- Walks: Matrix of the program. -/
import Derived.Test.YtgkgloafjhiakaaDoorM3
namespace Go.Proofs.YtgkgloafjhiakaaDoor
open Go.RowKit Go.Sort

theorem MatAt.belowB {w w' : World} {b B : Nat} {m : Mat} (h : MatAt w b m) (hb : Below B w w') (hB : b < B) : MatAt w' b m :=
  ⟨⟨Nat.lt_of_lt_of_le h.box.1 hb.size, fun i => (hb.cell (p := ⟨b, i, none⟩) hB).trans (h.box.2 i)⟩, fun i => (hb.frozen (p := ⟨b, i, none⟩) hB).trans (h.fz i)⟩
set_option maxRecDepth 100000 in
set_option maxHeartbeats 4000000 in
theorem matrix_any (t : ByteArray) (w : World) (ht : t.size ≤ 1000000) : Calls Tryd.prog 38 #[.string t] w fun r w' => r = .returned (.tuple #[mval (matR t), .int .i64 (ansE t)]) ∧ Below w.heap.size w w' := by
  have hl := li_size t
  have hm0 := MatAt.new w (0, 0, 0, 0)
  have hb0 := belowA w (.cells (mcs (0, 0, 0, 0)) 34)
  have hlt0 : w.heap.size < (w.alloc (.cells (mcs (0, 0, 0, 0)) 34)).heap.size := by simp
  go_enter Tryd.func38, Tryd.ntmps38
  go_wp2_with fail
  generalize w.alloc (.cells (mcs (0, 0, 0, 0)) 34) = w1 at hm0 hb0 hlt0 ⊢
  with_reducible refine (valid_any t _ ht).mono ?_
  rintro _ w2 ⟨rfl, hb2⟩
  have HM := Lib.hid (hm0.below hb2)
  have HB := Lib.hid (hb0.trans (hb2.mono hb0.size))
  have HLT := Lib.hid (Nat.lt_of_lt_of_le hlt0 hb2.size)
  by_cases h : okW t = true
  · have hW := okW_iff.1 h
    have HC := Lib.hid (matR_ok h)
    have HE := Lib.hid (ansE_ok h)
    rw [h]
    clear h hm0 hb0 hb2 hlt0
    have hmm := MatAt.new w2 (1, 0, 0, 1)
    have hmi := hmm.below (belowA _ (.stringIter t 0))
    have hs2 : (w2.alloc (.cells (mcs (1, 0, 0, 1)) 34)).heap.size = w2.heap.size + 1 := by simp
    have hit := World.iter_heap (w2.alloc (.cells (mcs (1, 0, 0, 1)) 34)) t 0
    have hbi := belowAA w2 (.cells (mcs (1, 0, 0, 1)) 34) (.stringIter t 0)
    rw [hs2] at hit
    go_wp2_with fail
    go_loopw [6] (fun _ wr => ∃ k : Nat, k ≤ t.size ∧ wr.heap[w2.heap.size + 1]? = some (.stringIter t k) ∧ Below w2.heap.size w2 wr ∧ MatAt wr w2.heap.size (matL ((liB t).take k))) (fun _ wr => t.size - wr.iterPos (w2.heap.size + 1))
    case atStart => exact ⟨0, by omega, hit, hbi, hmi⟩
    case round =>
      obtain ⟨k, hk, hit, hbw, hmt⟩ := hrel
      have HIT := Lib.hid hit
      have HBW := Lib.hid hbw
      have HG := Lib.hid hmt
      clear hit hbw hmt hmm hmi hbi hs2
      by_cases hlt : k < t.size
      · have hll : k < (liB t).length := by omega
        have hget := get_li hlt hll
        have hLk : isL t[k] := by rw [← hget]; exact hW.2 _ (List.getElem_mem hll)
        have HT := Lib.hid (matL_take hll)
        rw [hget] at HT
        clear hget
        have ha : (t[k]'hlt).toNat < 128 := isL_cases (P := fun c => c.toNat < 128) (by decide) (by decide) (by decide) (by decide) hLk
        have N := fun ty => Lib.run_next_ascii_at (P := Tryd.prog) wr (w2.heap.size + 1) t k ty HIT.out hlt ha
        have hi := Lib.iterAt_heap wr (w2.heap.size + 1) t k (k + 1) HIT.out
        have hb1 := Lib.below_iterAt HBW.out (Nat.le_succ w2.heap.size) t (k + 1)
        have hg1 := HG.out.belowB (Lib.below_iterAt (Below.refl (w2.heap.size + 1) wr) (Nat.le_refl (w2.heap.size + 1)) t (k + 1)) (Nat.lt_succ_self _)
        have hp := iterPos_of HIT.out
        generalize wr.iterAt (w2.heap.size + 1) t (k + 1) = w4 at N hi hb1 hg1
        have HI4 := Lib.hid hi
        have HB4 := Lib.hid hb1
        have HP4 := Lib.hid hp
        have HG4 := Lib.hid hg1
        clear hi hb1 hp ha hg1
        have hbd := matL_b60 (wordL_take hW.2 k) (by rw [List.length_take]; omega)
        generalize hcc : t[k] = d at HT hLk N
        obtain ⟨M, hM⟩ : ∃ M, matL ((liB t).take k) = M := ⟨_, rfl⟩
        rw [hM] at HT HG4 hbd
        clear hM hcc HG
        obtain ⟨p, q, r, s⟩ := M
        obtain ⟨⟨a1, a2⟩, ⟨b1, b2⟩, ⟨c1, c2⟩, d1, d2⟩ := hbd
        dsimp only at a1 a2 b1 b2 c1 c2 d1 d2
        have x0 := HG4.out.box.2
        have z0 := HG4.out.fz
        simp only [mcs] at x0
        rcases hLk with rfl | rfl | rfl | rfl
        · rw [mul_a] at HT
          dsimp only at HT
          rw [Int.add_comm p q, Int.add_comm r s] at HT
          have HS : Hid (MatAt ((w4.setCell ⟨w2.heap.size, 1, none⟩ (.int .i64 (q + p))).setCell ⟨w2.heap.size, 3, none⟩ (.int .i64 (s + r))) w2.heap.size (p, q + p, r, s + r)) := Lib.hid ⟨(HG4.out.box.set (i := 1) (by simp) _).set (i := 3) (by simp) _, fun i => by rw [World.frozen?_setCell, World.frozen?_setCell]; exact HG4.out.fz i⟩
          go_wp2_with fail
          go_roundw
          case rel => exact ⟨k + 1, by omega, (Below.heap_setCell _ _ _ _ (by simp)).trans ((Below.heap_setCell _ _ _ _ (by simp)).trans HI4.out), below_set (below_set HB4.out (Nat.le_refl _) _) (Nat.le_refl _) _, by rw [HT.out]; exact HS.out⟩
          case measure => rw [iterPos_of ((Below.heap_setCell _ _ _ _ (by simp)).trans ((Below.heap_setCell _ _ _ _ (by simp)).trans HI4.out)), HP4.out]; omega
        · rw [mul_A] at HT
          have HS : Hid (MatAt ((w4.setCell ⟨w2.heap.size, 1, none⟩ (.int .i64 (q - p))).setCell ⟨w2.heap.size, 3, none⟩ (.int .i64 (s - r))) w2.heap.size (p, q - p, r, s - r)) := Lib.hid ⟨(HG4.out.box.set (i := 1) (by simp) _).set (i := 3) (by simp) _, fun i => by rw [World.frozen?_setCell, World.frozen?_setCell]; exact HG4.out.fz i⟩
          go_wp2_with fail
          go_roundw
          case rel => exact ⟨k + 1, by omega, (Below.heap_setCell _ _ _ _ (by simp)).trans ((Below.heap_setCell _ _ _ _ (by simp)).trans HI4.out), below_set (below_set HB4.out (Nat.le_refl _) _) (Nat.le_refl _) _, by rw [HT.out]; exact HS.out⟩
          case measure => rw [iterPos_of ((Below.heap_setCell _ _ _ _ (by simp)).trans ((Below.heap_setCell _ _ _ _ (by simp)).trans HI4.out)), HP4.out]; omega
        · rw [mul_b] at HT
          have HS : Hid (MatAt ((w4.setCell ⟨w2.heap.size, 0, none⟩ (.int .i64 (p - q))).setCell ⟨w2.heap.size, 2, none⟩ (.int .i64 (r - s))) w2.heap.size (p - q, q, r - s, s)) := Lib.hid ⟨(HG4.out.box.set (i := 0) (by simp) _).set (i := 2) (by simp) _, fun i => by rw [World.frozen?_setCell, World.frozen?_setCell]; exact HG4.out.fz i⟩
          go_wp2_with fail
          go_roundw
          case rel => exact ⟨k + 1, by omega, (Below.heap_setCell _ _ _ _ (by simp)).trans ((Below.heap_setCell _ _ _ _ (by simp)).trans HI4.out), below_set (below_set HB4.out (Nat.le_refl _) _) (Nat.le_refl _) _, by rw [HT.out]; exact HS.out⟩
          case measure => rw [iterPos_of ((Below.heap_setCell _ _ _ _ (by simp)).trans ((Below.heap_setCell _ _ _ _ (by simp)).trans HI4.out)), HP4.out]; omega
        · rw [mul_B] at HT
          have HS : Hid (MatAt ((w4.setCell ⟨w2.heap.size, 0, none⟩ (.int .i64 (p + q))).setCell ⟨w2.heap.size, 2, none⟩ (.int .i64 (r + s))) w2.heap.size (p + q, q, r + s, s)) := Lib.hid ⟨(HG4.out.box.set (i := 0) (by simp) _).set (i := 2) (by simp) _, fun i => by rw [World.frozen?_setCell, World.frozen?_setCell]; exact HG4.out.fz i⟩
          go_wp2_with fail
          go_roundw
          case rel => exact ⟨k + 1, by omega, (Below.heap_setCell _ _ _ _ (by simp)).trans ((Below.heap_setCell _ _ _ _ (by simp)).trans HI4.out), below_set (below_set HB4.out (Nat.le_refl _) _) (Nat.le_refl _) _, by rw [HT.out]; exact HS.out⟩
          case measure => rw [iterPos_of ((Below.heap_setCell _ _ _ _ (by simp)).trans ((Below.heap_setCell _ _ _ _ (by simp)).trans HI4.out)), HP4.out]; omega
      · obtain rfl : k = t.size := by omega
        have N := fun ty => Lib.run_next_end_at (P := Tryd.prog) wr (w2.heap.size + 1) t t.size ty HIT.out hlt
        have HL := Lib.hid (show (liB t).take t.size = liB t by rw [← hl]; exact List.take_length)
        rw [HL.out] at HG
        obtain ⟨M, hM⟩ : ∃ M, matL (liB t) = M := ⟨_, rfl⟩
        rw [hM] at HG
        obtain ⟨p, q, r, s⟩ := M
        have HMM := Lib.hid hM
        clear hM
        have HM3 := Lib.hid (HM.out.belowB HBW.out HLT.out)
        have x0 := HG.out.box.2
        have y0 := HM3.out.box.2
        have f0 := HM3.out.fz
        simp only [mcs] at x0 y0
        have HR := Lib.hid (HM3.out.set (p, q, r, s))
        have HB4 := Lib.hid (below_set4 (HB.out.trans (HBW.out.mono (Nat.le_of_lt HLT.out))) (b := w.heap.size) (Nat.le_refl _) (.int .i64 p) (.int .i64 q) (.int .i64 r) (.int .i64 s))
        go_wp2_with fail
        have cF := HR.out.box.2
        simp only [mcs] at cF
        refine bodyPost_ret (v := .tuple #[mval (p, q, r, s), .int .i64 0]) (by simp [results, Tryd.results38, go_sem, cF]) rfl ⟨by rw [HC.out, HE.out, HMM.out], HB4.out⟩
  · have h' : okW t = false := by simpa using h
    have HC := Lib.hid (matR_no h')
    have HE := Lib.hid (ansE_no h')
    rw [h']
    clear h h' hm0 hb0
    have y0 := HM.out.box.2
    have f0 := HM.out.fz
    simp only [mcs] at y0
    have HR := Lib.hid (HM.out.set (0, 0, 0, 0))
    have HB4 := Lib.hid (below_set4 HB.out (b := w.heap.size) (Nat.le_refl _) (.int .i64 0) (.int .i64 0) (.int .i64 0) (.int .i64 0))
    go_wp2_with fail
    have cF := HR.out.box.2
    simp only [mcs] at cF
    refine bodyPost_ret (v := .tuple #[mval (0, 0, 0, 0), .int .i64 1]) (by simp [results, Tryd.results38, go_sem, cF]) rfl ⟨by rw [HC.out, HE.out], HB4.out⟩
end Go.Proofs.YtgkgloafjhiakaaDoor
