/- Walks: half twists are taken out. -/
import Derived.Test.YtgkgloafjhiakaaDoorP5
namespace Go.Proofs.YtgkgloafjhiakaaDoor
open Go.RowKit Go.Sort

/-- The first variable of the run-time's byte search is there. -/
def MX (w : World) : Prop := ∃ m, w.cell? ⟨0, 0, none⟩ = some (.int .i64 m)
theorem MX.below {w w' : World} {B : Nat} (h : MX w) (hB : 0 < B) (hb : Below B w w') : MX w' := by
  obtain ⟨m, hm⟩ := h
  exact ⟨m, (hb.cell (p := ⟨0, 0, none⟩) hB).trans hm⟩
/-- Where a word is cut. -/
theorem cut_cases (p sep : List UInt8) : (Lib.cut p sep = (p, [], false) ∧ ∀ x y, p ≠ x ++ (sep ++ y)) ∨ ∃ x y, p = x ++ (sep ++ y) ∧ Lib.cut p sep = (x, y, true) := by
  rcases Lib.index_spec p sep with ⟨h1, h2⟩ | ⟨i, h1, h2, h3, _⟩
  · refine .inl ⟨by unfold Lib.cut; rw [h1, if_neg (by decide)], fun x y e => ?_⟩
    have := h2 x.length (by rw [e]; simp)
    unfold Lib.occAt at this
    rw [e, List.drop_left] at this
    rw [List.isPrefixOf_iff_prefix.2 (List.prefix_append sep y)] at this
    exact absurd this (by decide)
  · unfold Lib.occAt at h3
    obtain ⟨y, hy⟩ := List.isPrefixOf_iff_prefix.1 h3
    refine .inr ⟨p.take i, y, ?_, ?_⟩
    · rw [hy, List.take_append_drop]
    · unfold Lib.cut
      rw [h1, if_pos (by omega)]
      have : p.drop (i + sep.length) = y := by rw [← List.drop_drop, ← hy, List.drop_left]
      rw [Int.toNat_natCast, this]
/-- A form in memory. -/
structure FormAt (w : World) (b : Nat) (k : Int) (p : List UInt8) : Prop where
  box : Box w b #[.int .i64 k, .string (mkB p)]
  fz : ∀ i, w.frozen? ⟨b, i, none⟩ = false
theorem FormAt.below {w w' : World} {b : Nat} {k : Int} {p : List UInt8} (h : FormAt w b k p) (hb : Below w.heap.size w w') : FormAt w' b k p := ⟨h.box.below hb, fz_below h.box.1 h.fz hb⟩
theorem FormAt.drewN {w : World} {b : Nat} {k : Int} {p : List UInt8} (h : FormAt w b k p) (n : Nat) : FormAt (w.drewN n) b k p := ⟨h.box, h.fz⟩
theorem FormAt.setK {w : World} {b : Nat} {k : Int} {p : List UInt8} (h : FormAt w b k p) (k' : Int) : FormAt (w.setCell ⟨b, 0, none⟩ (.int .i64 k')) b k' p := ⟨h.box.set (i := 0) (by simp) _, fun i => by rw [World.frozen?_setCell]; exact h.fz i⟩
theorem FormAt.setP {w : World} {b : Nat} {k : Int} {p : List UInt8} (h : FormAt w b k p) (p' : List UInt8) : FormAt (w.setCell ⟨b, 1, none⟩ (.string (mkB p'))) b k p' := ⟨h.box.set (i := 1) (by simp) _, fun i => by rw [World.frozen?_setCell]; exact h.fz i⟩
theorem FormAt.c0 {w : World} {b : Nat} {k : Int} {p : List UInt8} (h : FormAt w b k p) : w.cell? ⟨b, 0, none⟩ = some (.int .i64 k) := h.box.2 0
theorem FormAt.c1 {w : World} {b : Nat} {k : Int} {p : List UInt8} (h : FormAt w b k p) : w.cell? ⟨b, 1, none⟩ = some (.string (mkB p)) := h.box.2 1
/-- What taking a half twist out does. -/
def Twisted (k : Int) (p : List UInt8) (k' : Int) (p' : List UInt8) : Prop := ∃ x y m, p = x ++ (m ++ y) ∧ matL m = dM ∧ m.length = 3 ∧ k' = k + 1 ∧ p' = flL x ++ y
theorem noHalf_of {p : List UInt8} (h1 : ∀ x y, p ≠ x ++ ([97, 98, 97] ++ y)) (h2 : ∀ x y, p ≠ x ++ ([98, 97, 98] ++ y)) : noHalf p := fun x y => ⟨h1 x y, h2 x y⟩
set_option maxRecDepth 100000 in
set_option maxHeartbeats 4000000 in
theorem twist_any (B b : Nat) (k : Int) (p : List UInt8) (w : World) (hf : FormAt w b k p) (hBb : B ≤ b) (hm : MX w) (hk : -1000 ≤ k ∧ k ≤ 1000) (hp : p.length ≤ 1000) :
    Calls Tryd.prog 94 #[.pointer (some ⟨b, 0, none⟩)] w fun r w' => Below B w w' ∧ ((r = .returned (.bool false) ∧ noHalf p ∧ FormAt w' b k p) ∨ (r = .returned (.bool true) ∧ ∃ k' p', Twisted k p k' p' ∧ FormAt w' b k' p')) := by
  have HF := Lib.hid hf
  have HM := Lib.hid hm
  clear hf hm
  go_enter Tryd.func94, Tryd.ntmps94
  go_wp2_with fail
  go_loopw [9] (fun i wr => ∃ j : Nat, j ≤ 2 ∧ i = .int .i64 j ∧ (0 < j → ∀ x y, p ≠ x ++ ([97, 98, 97] ++ y)) ∧ (1 < j → ∀ x y, p ≠ x ++ ([98, 97, 98] ++ y)) ∧ FormAt wr b k p ∧ Below B w wr ∧ MX wr) (fun i _ => 2 - (intOf i).toNat)
  case atStart => exact ⟨0, by omega, rfl, fun h => absurd h (by omega), fun h => absurd h (by omega), HF.out, Below.refl _ _, HM.out⟩
  case round =>
    obtain ⟨j, hj, rfl, h1, h2, hf2, hb2, hm2⟩ := hrel
    have H1 := Lib.hid h1
    have H2 := Lib.hid h2
    have HF2 := Lib.hid hf2
    have HB2 := Lib.hid hb2
    have HM2 := Lib.hid hm2
    clear h1 h2 hf2 hb2 hm2
    obtain ⟨m, hm⟩ := HM2.out
    have HMM := Lib.hid hm
    clear hm
    have c1 := HF2.out.c1
    have c0 := HF2.out.c0
    have f0 := HF2.out.fz 0
    have f1 := HF2.out.fz 1
    have I0 : ∀ w, (Instr.index 120 (.agg #[.string { data := #[97, 98, 97] }, .string { data := #[98, 97, 98] }]) (.int .i64 0)).run Tryd.prog w = .ok (.string { data := #[97, 98, 97] }) w := fun _ => by kernel_rfl
    have I1 : ∀ w, (Instr.index 120 (.agg #[.string { data := #[97, 98, 97] }, .string { data := #[98, 97, 98] }]) (.int .i64 1)).run Tryd.prog w = .ok (.string { data := #[98, 97, 98] }) w := fun _ => by kernel_rfl
    rcases (show j = 2 ∨ j = 0 ∨ j = 1 by omega) with rfl | rfl | rfl
    · go_wp2_with fail
      go_ret
      exact ⟨HB2.out, .inl ⟨rfl, noHalf_of (H1.out (by omega)) (H2.out (by omega)), HF2.out⟩⟩
    · rcases cut_cases p [97, 98, 97] with ⟨hc, hno⟩ | ⟨x, y, hxy, hc⟩
      · have HC := Lib.hid hc
        have HNO := Lib.hid hno
        clear hc hno
        go_wp2_with fail
        with_reducible refine (Tryd.strings_Cut _ _ m _ ?_ ?_).mono ?_
        · rw [size_mk]; omega
        · exact HMM.out
        rintro _ w2 ⟨rfl, n2, rfl⟩
        dsimp only
        rw [HC.out]
        have HF3 := Lib.hid (HF2.out.drewN n2)
        have HB3 := Lib.hid (below_drewN' HB2.out n2)
        clear c0 c1 f0 f1
        go_wp2_with fail
        go_roundw
        case rel => exact ⟨1, by omega, by go_num, fun _ => HNO.out, fun h => absurd h (by omega), HF3.out, HB3.out, HM2.out⟩
        case measure => simp [intOf]
      · have HC := Lib.hid hc
        have HXY := Lib.hid hxy
        clear hc
        have hxl : x.length + 3 + y.length = p.length := by rw [hxy]; simp; omega
        clear hxy
        go_wp2_with fail
        with_reducible refine (Tryd.strings_Cut _ _ m _ ?_ ?_).mono ?_
        · rw [size_mk]; omega
        · exact HMM.out
        rintro _ w2 ⟨rfl, n2, rfl⟩
        dsimp only
        rw [HC.out]
        have HF3 := Lib.hid ((HF2.out.drewN n2).setK (k + 1))
        have HB3 := Lib.hid (below_set (below_drewN' HB2.out n2) (p := ⟨b, 0, none⟩) hBb (.int .i64 (k + 1)))
        have f0' : (wr.drewN n2).frozen? ⟨b, 0, none⟩ = false := f0
        have c0' : (wr.drewN n2).cell? ⟨b, 0, none⟩ = some (.int .i64 k) := c0
        clear c0 c1 f0 f1
        generalize wr.drewN n2 = w3 at HF3 HB3 f0' c0' ⊢
        go_wp2_with fail
        generalize w3.setCell ⟨b, 0, none⟩ (.int .i64 (k + 1)) = w4 at HF3 HB3 ⊢
        with_reducible refine (flipped_any _ _ ?_).mono ?_
        · rw [size_mk]; omega
        rintro _ w5 ⟨rfl, hb5⟩
        have HF5 := Lib.hid (HF3.out.below hb5)
        have HB5 := Lib.hid (HB3.out.trans (hb5.mono (Nat.le_trans hBb (Nat.le_of_lt HF3.out.box.1))))
        clear hb5 f0' c0'
        have c1 := HF5.out.c1
        have f1 := HF5.out.fz 1
        have s1 : (mkB (flL (liB (mkB x)))).size = x.length := by rw [size_mk, li_mk]; simp [flL]
        have s2 : (mkB y).size = y.length := size_mk y
        go_wp2_with fail
        go_ret
        refine ⟨below_set HB5.out hBb _, .inr ⟨rfl, k + 1, flL x ++ y, ⟨x, y, [97, 98, 97], HXY.out, by decide, rfl, rfl, rfl⟩, ?_⟩⟩
        have := HF5.out.setP (flL x ++ y)
        rw [← mk_append] at this
        exact this
    · rcases cut_cases p [98, 97, 98] with ⟨hc, hno⟩ | ⟨x, y, hxy, hc⟩
      · have HC := Lib.hid hc
        have HNO := Lib.hid hno
        clear hc hno
        go_wp2_with fail
        with_reducible refine (Tryd.strings_Cut _ _ m _ ?_ ?_).mono ?_
        · rw [size_mk]; omega
        · exact HMM.out
        rintro _ w2 ⟨rfl, n2, rfl⟩
        dsimp only
        rw [HC.out]
        have HF3 := Lib.hid (HF2.out.drewN n2)
        have HB3 := Lib.hid (below_drewN' HB2.out n2)
        clear c0 c1 f0 f1
        go_wp2_with fail
        go_roundw
        case rel => exact ⟨2, by omega, by go_num, fun _ => H1.out (by omega), fun _ => HNO.out, HF3.out, HB3.out, HM2.out⟩
        case measure => simp [intOf]
      · have HC := Lib.hid hc
        have HXY := Lib.hid hxy
        clear hc
        have hxl : x.length + 3 + y.length = p.length := by rw [hxy]; simp; omega
        clear hxy
        go_wp2_with fail
        with_reducible refine (Tryd.strings_Cut _ _ m _ ?_ ?_).mono ?_
        · rw [size_mk]; omega
        · exact HMM.out
        rintro _ w2 ⟨rfl, n2, rfl⟩
        dsimp only
        rw [HC.out]
        have HF3 := Lib.hid ((HF2.out.drewN n2).setK (k + 1))
        have HB3 := Lib.hid (below_set (below_drewN' HB2.out n2) (p := ⟨b, 0, none⟩) hBb (.int .i64 (k + 1)))
        have f0' : (wr.drewN n2).frozen? ⟨b, 0, none⟩ = false := f0
        have c0' : (wr.drewN n2).cell? ⟨b, 0, none⟩ = some (.int .i64 k) := c0
        clear c0 c1 f0 f1
        generalize wr.drewN n2 = w3 at HF3 HB3 f0' c0' ⊢
        go_wp2_with fail
        generalize w3.setCell ⟨b, 0, none⟩ (.int .i64 (k + 1)) = w4 at HF3 HB3 ⊢
        with_reducible refine (flipped_any _ _ ?_).mono ?_
        · rw [size_mk]; omega
        rintro _ w5 ⟨rfl, hb5⟩
        have HF5 := Lib.hid (HF3.out.below hb5)
        have HB5 := Lib.hid (HB3.out.trans (hb5.mono (Nat.le_trans hBb (Nat.le_of_lt HF3.out.box.1))))
        clear hb5 f0' c0'
        have c1 := HF5.out.c1
        have f1 := HF5.out.fz 1
        have s1 : (mkB (flL (liB (mkB x)))).size = x.length := by rw [size_mk, li_mk]; simp [flL]
        have s2 : (mkB y).size = y.length := size_mk y
        go_wp2_with fail
        go_ret
        refine ⟨below_set HB5.out hBb _, .inr ⟨rfl, k + 1, flL x ++ y, ⟨x, y, [98, 97, 98], HXY.out, by decide, rfl, rfl, rfl⟩, ?_⟩⟩
        have := HF5.out.setP (flL x ++ y)
        rw [← mk_append] at this
        exact this
end Go.Proofs.YtgkgloafjhiakaaDoor
