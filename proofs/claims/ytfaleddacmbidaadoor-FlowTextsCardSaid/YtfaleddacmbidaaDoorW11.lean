/- Walks: two fields compared; a field copied; the one known field. -/
import Derived.Test.YtfaleddacmbidaaDoorW10
namespace Go.Proofs.YtfaleddacmbidaaDoor
open Go.RowKit Go.Sort

def sameF (a b : Fld) : Bool := decide (a.W = b.W ∧ a.H = b.H ∧ a.ds = b.ds ∧ a.ps = b.ps)

theorem same_any (a b : FV) (w : World) (ha : a.In w) (hb : b.In w) :
    Calls Tryd.prog 10 #[a.val, b.val] w fun r w' => r = .returned (.bool (sameF a.f b.f)) ∧ Below w.heap.size w w' := by
  have hna := ha.nb
  have hma := ha.mb
  have hmb := hb.mb
  obtain ⟨l1, l2⟩ := ha.l2
  obtain ⟨l3, l4⟩ := hb.l2
  have HA := Lib.hid ha
  have HB := Lib.hid hb
  clear ha hb
  by_cases h1 : a.f.W = b.f.W
  case neg =>
    have hf := Lib.hid (show sameF a.f b.f = false by unfold sameF; rw [decide_eq_false_iff_not]; rintro ⟨h, _⟩; exact h1 h)
    have g1 : (a.f.W != b.f.W) = true := by simpa using h1
    clear h1
    go_enter Tryd.func10, Tryd.ntmps10
    dsimp only [FV.val]
    go_wp2_with fail
    go_ret
    exact ⟨ret_bool hf.out.symm, belowAA _ _ _⟩
  have g1 : (a.f.W != b.f.W) = false := by simpa using h1
  by_cases h2 : a.f.H = b.f.H
  case neg =>
    have hf := Lib.hid (show sameF a.f b.f = false by unfold sameF; rw [decide_eq_false_iff_not]; rintro ⟨_, h, _⟩; exact h2 h)
    have g2 : (a.f.H != b.f.H) = true := by simpa using h2
    clear h2 h1
    go_enter Tryd.func10, Tryd.ntmps10
    dsimp only [FV.val]
    go_wp2_with fail
    go_ret
    exact ⟨ret_bool hf.out.symm, belowAA _ _ _⟩
  have g2 : (a.f.H != b.f.H) = false := by simpa using h2
  have H12 := Lib.hid (And.intro h1 h2)
  clear h1 h2
  go_enter Tryd.func10, Tryd.ntmps10
  dsimp only [FV.val]
  go_wp2_with fail
  have HA1 := Lib.hid (HA.out.below (belowAA w (.cells #[.int .i64 a.f.W, .int .i64 a.f.H, .slice a.A a.n a.c, .slice a.B a.m a.d] 25) (.cells #[.int .i64 b.f.W, .int .i64 b.f.H, .slice b.A b.n b.c, .slice b.B b.m b.d] 25)))
  have HB1 := Lib.hid (HB.out.below (belowAA w (.cells #[.int .i64 a.f.W, .int .i64 a.f.H, .slice a.A a.n a.c, .slice a.B a.m a.d] 25) (.cells #[.int .i64 b.f.W, .int .i64 b.f.H, .slice b.A b.n b.c, .slice b.B b.m b.d] 25)))
  refine (sameInts_any _ _ _ _ _ _ a.f.ds b.f.ds _ HA1.out.ds HB1.out.ds hna).mono ?_
  rintro r w1 ⟨rfl, hb1⟩
  have b0 := ((Box.new _ _ _).alloc _).below hb1
  have b1 := (Box.new2 _ _ _ _ _).below hb1
  have hw1 := Lib.hid (below2 _ _ hb1)
  clear hb1 HA1 HB1
  have c0 := b0.at
  have c1 := b1.at
  cases h3 : decide (a.f.ds = b.f.ds)
  · have hf := Lib.hid (show sameF a.f b.f = false by unfold sameF; rw [decide_eq_false_iff_not]; rintro ⟨_, _, h, _⟩; exact (of_decide_eq_false h3) h)
    clear h3
    go_wp2_with fail
    go_ret
    exact ⟨ret_bool hf.out.symm, hw1.out⟩
  have H3 := Lib.hid (of_decide_eq_true h3)
  clear h3
  by_cases h4 : a.m = b.m
  case neg =>
    have g4 : ((a.m : Int) != (b.m : Int)) = true := by rw [bne_iff_ne]; omega
    have hf := Lib.hid (show sameF a.f b.f = false by unfold sameF; rw [decide_eq_false_iff_not]; rintro ⟨_, _, _, h⟩; rw [h] at l1 l2; omega)
    clear h4
    go_wp2_with fail
    go_ret
    exact ⟨ret_bool hf.out.symm, hw1.out⟩
  have g4 : ((a.m : Int) != (b.m : Int)) = false := by rw [bne_eq_false_iff_eq]; omega
  have l5 : a.m ≤ b.m := by omega
  have l6 : b.m ≤ a.m := by omega
  clear h4
  go_wp2_with fail
  clear c0 c1
  have HA1 := Lib.hid (HA.out.below hw1.out)
  have HB1 := Lib.hid (HB.out.below hw1.out)
  go_loopw [5] (fun i wr => ∃ k : Nat, k ≤ a.m ∧ i = .int .i64 k ∧ (∀ j, j < k → a.f.ps[j]? = b.f.ps[j]?) ∧ Below w1.heap.size w1 wr) (fun i _ => a.m - (intOf i).toNat)
  case atStart => exact ⟨0, by omega, rfl, fun j hj => absurd hj (by omega), Below.refl _ _⟩
  case round =>
    obtain ⟨k, hk, rfl, heq0, hb0⟩ := hrel
    have heq := Lib.hid heq0
    have hbel := Lib.hid hb0
    have c0 := (b0.below hb0).at
    have c1 := (b1.below hb0).at
    clear heq0
    by_cases hlt : k < a.m
    · obtain ⟨ad, x, e1, hbk, hx0, d0, d1, d2⟩ := psat (HA1.out.ps.on hb0) (k := k) (by omega)
      obtain ⟨ad', x', e1', hbk', hx0', d0', d1', d2'⟩ := psat (HB1.out.ps.on hb0) (k := k) (by omega)
      have hx := Lib.hid hx0
      have hx' := Lib.hid hx0'
      have X := fun w => ix23 (c := a.d) e1 hlt w
      have X' := fun w => ix23 (c := b.d) e1' (show k < b.m by omega) w
      have q1 := eqg33 .neq
      have q2 := neq33 x x'
      clear hx0 hx0' hb0 e1 e1'
      go_wp2_with fail
      go_quiet (fail)
      cases hq : eqE x x'
      · have HQ := Lib.hid (eqE_not.1 hq)
        go_wp2_with fail
        go_ret
        refine ⟨ret_bool ?_, below_trans' hw1.out (below_drewN' hbel.out _)⟩
        symm
        unfold sameF
        rw [decide_eq_false_iff_not]
        rintro ⟨_, _, _, h⟩
        have h1 := hx.out
        rw [h, hx'.out] at h1
        exact HQ.out (Option.some.inj h1).symm
      · have HQ := Lib.hid (eqE_iff.1 hq)
        go_wp2_with fail
        go_roundw
        case rel =>
          refine ⟨k + 1, by omega, by go_num, fun j hj => ?_, below_drewN' hbel.out _⟩
          rcases Nat.lt_or_ge j k with h | h
          · exact heq.out j h
          · obtain rfl : j = k := by omega
            rw [hx.out, hx'.out, HQ.out]
        case measure => simp [intOf]; omega
    · clear hb0
      go_wp2_with fail
      go_ret
      refine ⟨ret_bool ?_, below_trans' hw1.out hbel.out⟩
      symm
      unfold sameF
      rw [decide_eq_true_eq]
      refine ⟨H12.out.1, H12.out.2, H3.out, ?_⟩
      apply List.ext_getElem?
      intro j
      rcases Nat.lt_or_ge j k with h | h
      · exact heq.out j h
      · rw [List.getElem?_eq_none (by omega), List.getElem?_eq_none (by omega)]

/-- A field is returned; the world has only grown. -/
def RetFld (f : Fld) (w : World) (r : Ending) (w' : World) : Prop := ∃ v : FV, v.f = f ∧ r = .returned v.val ∧ v.In w' ∧ Below w.heap.size w w'
def outF : Fld := ⟨2, 2, [5, 7, 3, 1], []⟩
theorem outward_any (w : World) : Calls Tryd.prog 12 #[] w (RetFld outF w) := by
  go_enter Tryd.func12, Tryd.ntmps12
  go_wp2_with fail
  refine bodyPost_ret (v := .agg #[.int .i64 2, .int .i64 2, .slice (some ⟨w.heap.size + 1, 0, none⟩) 4 4, .slice none 0 0]) (by simp [results, Tryd.results12, go_sem]) rfl
    ⟨⟨outF, some ⟨w.heap.size + 1, 0, none⟩, none, 4, 4, 0, 0⟩, rfl, rfl, ⟨?_, Reads.nil, by show (4 : Nat) ≤ _; omega, by show (0 : Nat) ≤ _; omega⟩, belowAA _ _ _⟩
  have := reads_new (w.alloc (.cells #[.int .i64 2, .int .i64 2, .slice (some ⟨w.heap.size + 1, 0, none⟩) 4 4, .slice none 0 0] 25)) (ints [5, 7, 3, 1]) 3 1 4 rfl
  simpa [ints, outF] using this

theorem outF_index : indexR outF 0 0 = (2, 0) := by decide +kernel
theorem known_any (w : World) : Calls Tryd.prog 5 #[] w fun r w' => r = .returned (.bool true) ∧ Below w.heap.size w w' := by
  go_enter Tryd.func5, Tryd.ntmps5
  go_wp2_with fail
  refine (outward_any _).mono ?_
  rintro r w1 ⟨v, hvf, rfl, hin, hb⟩
  have HIN := Lib.hid hin
  have HB := Lib.hid hb
  have HI := Lib.hid (show indexR v.f 0 0 = (2, 0) by rw [hvf]; exact outF_index)
  clear hvf hin hb
  dsimp only [FV.val]
  go_wp2_with fail
  refine (Index_any v 0 0 _ HIN.out).mono ?_
  rintro r w2 ⟨rfl, hb2⟩
  have HB2 := Lib.hid hb2
  clear hb2
  rw [HI.out]
  go_wp2_with fail
  go_ret
  exact ⟨rfl, below_trans' HB.out HB2.out⟩
end Go.Proofs.YtfaleddacmbidaaDoor
