/- Walks: crossings are added; the normal form. -/
import Derived.Test.YtgkgloafjhiakaaDoorP6
namespace Go.Proofs.YtgkgloafjhiakaaDoor
open Go.RowKit Go.Sort

theorem Nform.high {w p : List UInt8} {k : Int} (h : Nform w k p) : k ≤ w.length := by
  have h1 := h.cnt
  have h2 := (cntL_bound w).2
  omega
/-- Length of the text in a form. -/
def lenAt (w : World) (b : Nat) : Nat := match w.cell? ⟨b, 1, none⟩ with | some (.string s) => s.size | _ => 0
theorem lenAt_of {w : World} {b : Nat} {k : Int} {p : List UInt8} (h : FormAt w b k p) : lenAt w b = p.length := by unfold lenAt; rw [h.c1]; exact size_mk p
theorem Twisted.form {w p p' : List UInt8} {k k' : Int} (h : Nform w k p) (ht : Twisted k p k' p') : Nform w k' p' ∧ p'.length < p.length := by
  obtain ⟨x, y, m, rfl, hm, hl, rfl, rfl⟩ := ht
  refine ⟨h.twist hm hl, ?_⟩
  simp [flL, hl]
/-- A crossing added, half twists not yet taken out. -/
theorem cross_form {l p : List UInt8} {k : Int} (h : Nform l k p) {c : UInt8} (hc : isL c) :
    (c = 65 → Nform (l ++ [c]) (k - 1) (flL p ++ [97, 98])) ∧ (c = 66 → Nform (l ++ [c]) (k - 1) (flL p ++ [98, 97])) ∧ (c ≠ 65 → c ≠ 66 → Nform (l ++ [c]) k (p ++ [c])) := by
  refine ⟨?_, ?_, fun h1 h2 => h.small ?_⟩
  · rintro rfl
    exact h.large ltM_A (by decide) (by unfold posL; decide) rfl
  · rintro rfl
    exact h.large ltM_B (by decide) (by unfold posL; decide) rfl
  · rcases hc with hc | hc | hc | hc
    · exact .inl hc
    · exact absurd hc h1
    · exact .inr hc
    · exact absurd hc h2
theorem conv_letter (c : UInt8) (hc : c = 97 ∨ c = 98) (w : World) : (convert 5 9 (.int .u8 (c.toNat : Int))).run Tryd.prog w = .ok (.string (mkB [c])) w := by
  rcases hc with rfl | rfl <;> kernel_rfl
set_option maxRecDepth 100000 in
set_option maxHeartbeats 4000000 in
theorem cross_any (B b : Nat) (k : Int) (l p : List UInt8) (c : UInt8) (w : World) (hf : FormAt w b k p) (hB : 0 < B) (hBb : B ≤ b) (hm : MX w) (hn : Nform l k p) (hl : l.length ≤ 60) (hc : isL c) :
    Calls Tryd.prog 79 #[.pointer (some ⟨b, 0, none⟩), .int .u8 (c.toNat : Int)] w fun r w' => Below B w w' ∧ r = .returned (.tuple #[]) ∧ ∃ k' p', FormAt w' b k' p' ∧ Nf (l ++ [c]) k' p' := by
  have hk : -1000 ≤ k ∧ k ≤ 1000 := by
    have h1 := hn.high; have h2 := hn.low
    omega
  have hp : p.length ≤ 1000 := by have := hn.len; omega
  have HN := Lib.hid (cross_form hn hc)
  have HM := Lib.hid hm
  have c0 := hf.c0
  have c1 := hf.c1
  have f0 := hf.fz 0
  have f1 := hf.fz 1
  have HF := Lib.hid hf
  clear hf hm hn
  have s0 : (mkB p).size = p.length := size_mk p
  go_enter Tryd.func79, Tryd.ntmps79
  by_cases h1 : c = 65
  · have HN5 := Lib.hid (HN.out.1 h1)
    clear HN
    have HN := HN5
    clear HN5
    subst h1
    have HF3 := Lib.hid (HF.out.setK (k - 1))
    have HB3 := Lib.hid (below_set (Below.refl B w) (p := ⟨b, 0, none⟩) hBb (.int .i64 (k - 1)))
    go_wp2_with fail
    clear c0 c1 f0 f1
    generalize w.setCell ⟨b, 0, none⟩ (.int .i64 (k - 1)) = w4 at HF3 HB3 ⊢
    with_reducible refine (flipped_any _ _ ?_).mono ?_
    · rw [size_mk]; omega
    rintro _ w5 ⟨rfl, hb5⟩
    have HF5 := Lib.hid (HF3.out.below hb5)
    have HB5 := Lib.hid (HB3.out.trans (hb5.mono (Nat.le_trans hBb (Nat.le_of_lt HF3.out.box.1))))
    clear hb5
    have c1 := HF5.out.c1
    have f1 := HF5.out.fz 1
    have c0 := HF5.out.c0
    have f0 := HF5.out.fz 0
    have s1 : (mkB (flL (liB (mkB p)))).size = p.length := by rw [size_mk, li_mk]; simp [flL]
    rw [li_mk] at s1 ⊢
    go_wp2_with fail
    have HP : Hid (FormAt (w5.setCell ⟨b, 1, none⟩ (.string (mkB (flL p) ++ { data := #[97, 98] }))) b (k - 1) (flL p ++ [97, 98])) := Lib.hid (by
      have := HF5.out.setP (flL p ++ [97, 98])
      rw [← mk_append] at this
      exact this)
    have HB1 := Lib.hid (below_set HB5.out (p := ⟨b, 1, none⟩) hBb (.string (mkB (flL p) ++ { data := #[97, 98] })))
    have HF1 := Lib.hid (HP.out)
    have HN1 := Lib.hid (HN.out)
    have HM1 := Lib.hid (HM.out.below hB HB1.out)
    clear HN HF HM c0 c1 f0 f1 s0
    generalize w5.setCell ⟨b, 1, none⟩ (.string (mkB (flL p) ++ { data := #[97, 98] })) = w9 at HB1 HF1 HM1 ⊢
    go_loopw [51] (fun _ wr => ∃ k p, FormAt wr b k p ∧ Nform (l ++ [65]) k p ∧ Below B w wr ∧ MX wr) (fun _ wr => lenAt wr b)
    case atStart => exact ⟨_, _, HF1.out, HN1.out, HB1.out, HM1.out⟩
    case round =>
      obtain ⟨k1, p1, hf1, hn1, hb1, hm1⟩ := hrel
      have q1 : -1000 ≤ k1 ∧ k1 ≤ 1000 := by
        have h1 := hn1.high; have h2 := hn1.low
        simp at h1 h2
        omega
      have q2 : p1.length ≤ 1000 := by
        have h2 := hn1.len
        simp at h2
        omega
      have HF2 := Lib.hid hf1
      have HN2 := Lib.hid hn1
      have HB2 := Lib.hid hb1
      have HM2 := Lib.hid hm1
      clear hf1 hn1 hb1 hm1 HB1 HF1 HN1 HM1
      go_wp2_with fail
      with_reducible refine (twist_any B b k1 p1 _ HF2.out hBb HM2.out q1 q2).mono ?_
      rintro _ w2 ⟨hb2, ⟨rfl, hno, hf2⟩ | ⟨rfl, k2, p2, ht, hf2⟩⟩
      · have HE : Hid (Below B w w2 ∧ ∃ k' p', FormAt w2 b k' p' ∧ Nf (l ++ [65]) k' p') := Lib.hid ⟨HB2.out.trans hb2, k1, p1, hf2, HN2.out, hno⟩
        clear hb2 hno hf2
        go_wp2_with fail
        go_end0
        exact ⟨HE.out.1, rfl, HE.out.2⟩
      · have ht2 := ht.form HN2.out
        have HE : Hid (∃ k p, FormAt w2 b k p ∧ Nform (l ++ [65]) k p ∧ Below B w w2 ∧ MX w2) := Lib.hid ⟨k2, p2, hf2, ht2.1, HB2.out.trans hb2, HM2.out.below hB hb2⟩
        have HL : Hid (lenAt w2 b < lenAt wr b) := Lib.hid (by rw [lenAt_of hf2, lenAt_of HF2.out]; exact ht2.2)
        clear hb2 ht hf2 ht2
        go_wp2_with fail
        go_roundw
        case rel => exact HE.out
        case measure => exact HL.out
  have g1 : ((c.toNat : Int) == 65) = false := ne8 (n := 65) h1 (by decide)
  by_cases h2 : c = 66
  · have HN5 := Lib.hid (HN.out.2.1 h2)
    clear HN
    have HN := HN5
    clear HN5
    subst h2
    have HF3 := Lib.hid (HF.out.setK (k - 1))
    have HB3 := Lib.hid (below_set (Below.refl B w) (p := ⟨b, 0, none⟩) hBb (.int .i64 (k - 1)))
    go_wp2_with fail
    clear c0 c1 f0 f1
    generalize w.setCell ⟨b, 0, none⟩ (.int .i64 (k - 1)) = w4 at HF3 HB3 ⊢
    with_reducible refine (flipped_any _ _ ?_).mono ?_
    · rw [size_mk]; omega
    rintro _ w5 ⟨rfl, hb5⟩
    have HF5 := Lib.hid (HF3.out.below hb5)
    have HB5 := Lib.hid (HB3.out.trans (hb5.mono (Nat.le_trans hBb (Nat.le_of_lt HF3.out.box.1))))
    clear hb5
    have c1 := HF5.out.c1
    have f1 := HF5.out.fz 1
    have c0 := HF5.out.c0
    have f0 := HF5.out.fz 0
    have s1 : (mkB (flL (liB (mkB p)))).size = p.length := by rw [size_mk, li_mk]; simp [flL]
    rw [li_mk] at s1 ⊢
    go_wp2_with fail
    have HP : Hid (FormAt (w5.setCell ⟨b, 1, none⟩ (.string (mkB (flL p) ++ { data := #[98, 97] }))) b (k - 1) (flL p ++ [98, 97])) := Lib.hid (by
      have := HF5.out.setP (flL p ++ [98, 97])
      rw [← mk_append] at this
      exact this)
    have HB1 := Lib.hid (below_set HB5.out (p := ⟨b, 1, none⟩) hBb (.string (mkB (flL p) ++ { data := #[98, 97] })))
    have HF1 := Lib.hid (HP.out)
    have HN1 := Lib.hid (HN.out)
    have HM1 := Lib.hid (HM.out.below hB HB1.out)
    clear HN HF HM c0 c1 f0 f1 s0
    generalize w5.setCell ⟨b, 1, none⟩ (.string (mkB (flL p) ++ { data := #[98, 97] })) = w9 at HB1 HF1 HM1 ⊢
    go_loopw [51] (fun _ wr => ∃ k p, FormAt wr b k p ∧ Nform (l ++ [66]) k p ∧ Below B w wr ∧ MX wr) (fun _ wr => lenAt wr b)
    case atStart => exact ⟨_, _, HF1.out, HN1.out, HB1.out, HM1.out⟩
    case round =>
      obtain ⟨k1, p1, hf1, hn1, hb1, hm1⟩ := hrel
      have q1 : -1000 ≤ k1 ∧ k1 ≤ 1000 := by
        have h1 := hn1.high; have h2 := hn1.low
        simp at h1 h2
        omega
      have q2 : p1.length ≤ 1000 := by
        have h2 := hn1.len
        simp at h2
        omega
      have HF2 := Lib.hid hf1
      have HN2 := Lib.hid hn1
      have HB2 := Lib.hid hb1
      have HM2 := Lib.hid hm1
      clear hf1 hn1 hb1 hm1 HB1 HF1 HN1 HM1
      go_wp2_with fail
      with_reducible refine (twist_any B b k1 p1 _ HF2.out hBb HM2.out q1 q2).mono ?_
      rintro _ w2 ⟨hb2, ⟨rfl, hno, hf2⟩ | ⟨rfl, k2, p2, ht, hf2⟩⟩
      · have HE : Hid (Below B w w2 ∧ ∃ k' p', FormAt w2 b k' p' ∧ Nf (l ++ [66]) k' p') := Lib.hid ⟨HB2.out.trans hb2, k1, p1, hf2, HN2.out, hno⟩
        clear hb2 hno hf2
        go_wp2_with fail
        go_end0
        exact ⟨HE.out.1, rfl, HE.out.2⟩
      · have ht2 := ht.form HN2.out
        have HE : Hid (∃ k p, FormAt w2 b k p ∧ Nform (l ++ [66]) k p ∧ Below B w w2 ∧ MX w2) := Lib.hid ⟨k2, p2, hf2, ht2.1, HB2.out.trans hb2, HM2.out.below hB hb2⟩
        have HL : Hid (lenAt w2 b < lenAt wr b) := Lib.hid (by rw [lenAt_of hf2, lenAt_of HF2.out]; exact ht2.2)
        clear hb2 ht hf2 ht2
        go_wp2_with fail
        go_roundw
        case rel => exact HE.out
        case measure => exact HL.out
  have g2 : ((c.toNat : Int) == 66) = false := ne8 (n := 66) h2 (by decide)
  have CV := conv_letter c (hc.elim .inl fun h => h.elim (fun h => absurd h h1) fun h => h.elim .inr fun h => absurd h h2)
  have HN5 := Lib.hid (HN.out.2.2 h1 h2)
  have sc : (mkB [c]).size = 1 := rfl
  clear HN h1 h2 hc
  have HN := HN5
  clear HN5
  go_wp2_with fail
  have HP : Hid (FormAt (w.setCell ⟨b, 1, none⟩ (.string (mkB p ++ mkB [c]))) b k (p ++ [c])) := Lib.hid (by
    have := HF.out.setP (p ++ [c])
    rw [← mk_append] at this
    exact this)
  have HB1 := Lib.hid (below_set (Below.refl B w) (p := ⟨b, 1, none⟩) hBb (.string (mkB p ++ mkB [c])))
  have HF1 := Lib.hid (HP.out)
  have HN1 := Lib.hid (HN.out)
  have HM1 := Lib.hid (HM.out.below hB HB1.out)
  clear HN HF HM c0 c1 f0 f1 s0
  generalize w.setCell ⟨b, 1, none⟩ (.string (mkB p ++ mkB [c])) = w9 at HB1 HF1 HM1 ⊢
  go_loopw [51] (fun _ wr => ∃ k p, FormAt wr b k p ∧ Nform (l ++ [c]) k p ∧ Below B w wr ∧ MX wr) (fun _ wr => lenAt wr b)
  case atStart => exact ⟨_, _, HF1.out, HN1.out, HB1.out, HM1.out⟩
  case round =>
    obtain ⟨k1, p1, hf1, hn1, hb1, hm1⟩ := hrel
    have q1 : -1000 ≤ k1 ∧ k1 ≤ 1000 := by
      have h1 := hn1.high; have h2 := hn1.low
      simp at h1 h2
      omega
    have q2 : p1.length ≤ 1000 := by
      have h2 := hn1.len
      simp at h2
      omega
    have HF2 := Lib.hid hf1
    have HN2 := Lib.hid hn1
    have HB2 := Lib.hid hb1
    have HM2 := Lib.hid hm1
    clear hf1 hn1 hb1 hm1 HB1 HF1 HN1 HM1
    go_wp2_with fail
    with_reducible refine (twist_any B b k1 p1 _ HF2.out hBb HM2.out q1 q2).mono ?_
    rintro _ w2 ⟨hb2, ⟨rfl, hno, hf2⟩ | ⟨rfl, k2, p2, ht, hf2⟩⟩
    · have HE : Hid (Below B w w2 ∧ ∃ k' p', FormAt w2 b k' p' ∧ Nf (l ++ [c]) k' p') := Lib.hid ⟨HB2.out.trans hb2, k1, p1, hf2, HN2.out, hno⟩
      clear hb2 hno hf2
      go_wp2_with fail
      go_end0
      exact ⟨HE.out.1, rfl, HE.out.2⟩
    · have ht2 := ht.form HN2.out
      have HE : Hid (∃ k p, FormAt w2 b k p ∧ Nform (l ++ [c]) k p ∧ Below B w w2 ∧ MX w2) := Lib.hid ⟨k2, p2, hf2, ht2.1, HB2.out.trans hb2, HM2.out.below hB hb2⟩
      have HL : Hid (lenAt w2 b < lenAt wr b) := Lib.hid (by rw [lenAt_of hf2, lenAt_of HF2.out]; exact ht2.2)
      clear hb2 ht hf2 ht2
      go_wp2_with fail
      go_roundw
      case rel => exact HE.out
      case measure => exact HL.out
end Go.Proofs.YtgkgloafjhiakaaDoor
