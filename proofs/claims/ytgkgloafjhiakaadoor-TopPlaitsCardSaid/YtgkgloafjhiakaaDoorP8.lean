/- Walks: the normal form of a word; the program's side. -/
import Derived.Test.YtgkgloafjhiakaaDoorP7
namespace Go.Proofs.YtgkgloafjhiakaaDoor
open Go.RowKit Go.Sort

theorem MX.lt {w : World} (h : MX w) : 0 < w.heap.size := by
  obtain ⟨m, hm⟩ := h
  rcases Nat.eq_zero_or_pos w.heap.size with h0 | h0
  · unfold World.cell? at hm
    rw [Array.getElem?_eq_none (by omega)] at hm
    exact absurd hm (by simp)
  · exact h0
theorem Nf.nil : Nf [] 0 [] := ⟨Nform.nil, fun x y => ⟨fun h => by simp at h, fun h => by simp at h⟩⟩
theorem FormAt.new (w : World) : FormAt (w.alloc (.cells #[.int .i64 0, .string (mkB [])] 56)) w.heap.size 0 [] := ⟨Box.new _ _ _, fz_new _ _ _⟩
theorem wordL_take {l : List UInt8} (h : wordL l) (k : Nat) : wordL (l.take k) := fun c hc => h c (List.mem_of_mem_take hc)
set_option maxRecDepth 100000 in
set_option maxHeartbeats 4000000 in
theorem normal_any (t : ByteArray) (w : World) (hm : MX w) (ht : t.size ≤ 60) (hW : wordL (liB t)) :
    Calls Tryd.prog 55 #[.string t] w fun r w' => ∃ k p, r = .returned (.agg #[.int .i64 k, .string (mkB p)]) ∧ Nf (liB t) k p ∧ Below w.heap.size w w' := by
  have hl := li_size t
  have HM := Lib.hid hm
  clear hm
  have hf0 := FormAt.new w
  have hf1 := FormAt.new (w.alloc (.cells #[.int .i64 0, .string (mkB [])] 56))
  have hf00 := hf0.below (belowA _ (.cells #[.int .i64 0, .string (mkB [])] 56))
  have hb0 := belowAA w (.cells #[.int .i64 0, .string (mkB [])] 56) (.cells #[.int .i64 0, .string (mkB [])] 56)
  have hs : (w.alloc (.cells #[.int .i64 0, .string (mkB [])] 56)).heap.size = w.heap.size + 1 := by simp
  rw [hs] at hf1
  clear hf0 hs
  go_enter Tryd.func55, Tryd.ntmps55
  go_wp2_with fail
  generalize (w.alloc (.cells #[.int .i64 0, .string (mkB [])] 56)).alloc (.cells #[.int .i64 0, .string (mkB [])] 56) = w1 at hf1 hf00 hb0 ⊢
  go_loopw [7] (fun i wr => ∃ j : Nat, j ≤ t.size ∧ i = .int .i64 j ∧ Below w.heap.size w wr ∧ FormAt wr w.heap.size 0 [] ∧ MX wr ∧ ∃ k p, FormAt wr (w.heap.size + 1) k p ∧ Nf ((liB t).take j) k p) (fun i _ => t.size - (intOf i).toNat)
  case atStart => exact ⟨0, by omega, rfl, hb0, hf00, HM.out.below HM.out.lt hb0, 0, [], hf1, Nf.nil⟩
  case round =>
    obtain ⟨j, hj, rfl, hb, hf, hm, k, p, hg, hn⟩ := hrel
    have HB := Lib.hid hb
    have HF := Lib.hid hf
    have HM2 := Lib.hid hm
    have HG := Lib.hid hg
    have HN := Lib.hid hn
    clear hb hf hm hg hn hf1 hf00 hb0
    by_cases hlt : j < t.size
    · have hll : j < (liB t).length := by omega
      have hget := get_li hlt hll
      have hLk : isL t[j] := by rw [← hget]; exact hW _ (List.getElem_mem hll)
      have HT : Hid ((liB t).take (j + 1) = (liB t).take j ++ [t[j]]) := Lib.hid (by rw [← hget]; exact List.take_succ_eq_append_getElem hll)
      clear hget
      go_wp2_with fail
      with_reducible refine (cross_any (w.heap.size + 1) (w.heap.size + 1) k ((liB t).take j) p t[j] _ HG.out (by omega) (Nat.le_refl _) HM2.out HN.out.form ?_ hLk).mono ?_
      · rw [List.length_take]; omega
      rintro _ w2 ⟨hb2, rfl, k', p', hg2, hn2⟩
      have HE : Hid (Below w.heap.size w w2 ∧ FormAt w2 w.heap.size 0 [] ∧ MX w2 ∧ ∃ k p, FormAt w2 (w.heap.size + 1) k p ∧ Nf ((liB t).take (j + 1)) k p) :=
        Lib.hid ⟨HB.out.trans (hb2.mono (Nat.le_succ _)), ⟨⟨Nat.lt_of_lt_of_le HF.out.box.1 hb2.size, fun i => (hb2.cell (p := ⟨w.heap.size, i, none⟩) (Nat.lt_succ_self _)).trans (HF.out.box.2 i)⟩, fun i => (hb2.frozen (p := ⟨w.heap.size, i, none⟩) (Nat.lt_succ_self _)).trans (HF.out.fz i)⟩, HM2.out.below (Nat.succ_pos _) hb2, k', p', hg2, by rw [HT.out]; exact hn2⟩
      clear hb2 hg2 hn2
      go_wp2_with fail
      go_roundw
      case rel => exact ⟨j + 1, by omega, by go_num, HE.out⟩
      case measure => simp [intOf]; omega
    · obtain rfl : j = t.size := by omega
      have HL := Lib.hid (show (liB t).take t.size = liB t by rw [← hl]; exact List.take_length)
      have c0 := HG.out.box.2
      have e0 := HF.out.c0
      have e1 := HF.out.c1
      have f0 := HF.out.fz 0
      have f1 := HF.out.fz 1
      have HR := Lib.hid ((HF.out.setK k).setP p)
      have HB2 := Lib.hid (below_set (below_set HB.out (p := ⟨w.heap.size, 0, none⟩) (Nat.le_refl _) (.int .i64 k)) (p := ⟨w.heap.size, 1, none⟩) (Nat.le_refl _) (.string (mkB p)))
      go_wp2_with fail
      have cF := HR.out.box.2
      refine bodyPost_ret (v := .agg #[.int .i64 k, .string (mkB p)]) (by simp [results, Tryd.results55, go_sem, cF]) rfl ⟨k, p, rfl, ?_, HB2.out⟩
      have := HN.out
      rw [HL.out] at this
      exact this
theorem normalE_any (t : ByteArray) (w : World) (hm : MX w) (ht : t.size ≤ 1000000) :
    Calls Tryd.prog 19 #[.string t] w fun r w' => Below w.heap.size w w' ∧ ((okW t = false ∧ r = .returned (.tuple #[.int .i64 0, .string (mkB []), .int .i64 1])) ∨ (okW t = true ∧ ∃ k p, r = .returned (.tuple #[.int .i64 k, .string (mkB p), .int .i64 0]) ∧ Nf (liB t) k p)) := by
  have HM := Lib.hid hm
  clear hm
  go_enter Tryd.func19, Tryd.ntmps19
  go_wp2_with fail
  with_reducible refine (valid_any t _ ht).mono ?_
  rintro _ w2 ⟨rfl, hb⟩
  have HB := Lib.hid hb
  clear hb
  by_cases h : okW t = true
  · have hW := okW_iff.1 h
    have HO := Lib.hid h
    rw [h]
    clear h
    go_wp2_with fail
    with_reducible refine (normal_any t _ (HM.out.below HM.out.lt HB.out) hW.1 hW.2).mono ?_
    rintro _ w3 ⟨k, p, rfl, hn, hb⟩
    have HN := Lib.hid hn
    have HB2 := Lib.hid (below_trans' HB.out hb)
    have HB3 := Lib.hid hb
    clear hb hn
    have hb0 := Box.new w3 #[.int .i64 k, .string (mkB p)] 56
    have c0 := hb0.at
    go_wp2_with fail
    go_quiet (fail)
    go_wp2_with fail
    go_ret3
    exact ⟨below_trans' HB2.out (below_drewN' (belowA _ _) nq), .inr ⟨HO.out, k, p, rfl, HN.out⟩⟩
  · have h' : okW t = false := by simpa using h
    have HO := Lib.hid h'
    rw [h']
    clear h h'
    go_wp2_with fail
    go_ret3
    exact ⟨HB.out, .inl ⟨HO.out, rfl⟩⟩
end Go.Proofs.YtgkgloafjhiakaaDoor
