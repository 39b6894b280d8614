/- Walks: clocks of cards, who has seen whom, independent pairs, equal lists; both sides. -/
import Derived.Test.YtlmdmbjdhlgkoaaEq
namespace Go.Proofs.Ytlmdmbjdhlgkoaa
open Go.RowKit Go.Sort

def clkT (es : List Ent) : Int × Int × Int := if val es = 0 then ((clk es 0 : Nat), (clk es 1 : Nat), (clk es 2 : Nat)) else (0, 0, 0)
theorem clkT_ok {es : List Ent} (h : val es = 0) : clkT es = (((clk es 0 : Nat) : Int), ((clk es 1 : Nat) : Int), ((clk es 2 : Nat) : Int)) := if_pos h
theorem clkT_bad {es : List Ent} (h : val es ≠ 0) : clkT es = (0, 0, 0) := if_neg h
theorem pl_of {es : List Ent} (h : val es = 0) : ∀ e ∈ es, 0 ≤ e.1 ∧ e.1 ≤ 2 := fun e he => by
  obtain ⟨q0, q1, _⟩ := (val_zero.1 h).txt e he
  exact ⟨q0, q1⟩
theorem neB {a b : Int} (h : a ≠ b) : (a != b) = true := by simpa using h
theorem neBf {a b : Int} (h : a = b) : (a != b) = false := by simp [h]
theorem Clock_any (A : Option Addr) (n c : Nat) (es : List Ent) (w : World) (hl : Reads w w.heap.size 6 A n (ents es)) (hn : n ≤ 1000000) (ht : shortT es) :
    Calls Try.prog 20 #[.slice A n c] w fun r w' => r = .returned (.tuple #[cval (clkT es), .int .i64 (val es)]) ∧ Below w.heap.size w w' := by
  have HL := Lib.hid hl
  have HS := Lib.hid ht
  clear hl ht
  go_enter Try.func20, Try.ntmps20
  go_wp2_with fail
  with_reducible refine (validate_any A n c es _ (HL.out.on (belowA _ _)) hn HS.out).mono ?_
  rintro _ w2 ⟨rfl, hb2⟩
  have b0 := (Box.new w #[.int .i64 0, .int .i64 0, .int .i64 0] 35).below hb2
  have f0 := fz_below (Box.new w #[.int .i64 0, .int .i64 0, .int .i64 0] 35).1 (fz_new _ _ _) hb2
  have HW2 := Lib.hid (below1 _ hb2)
  clear hb2
  by_cases hv : val es = 0
  · have HV := Lib.hid hv
    have g := neBf hv
    clear hv
    go_wp2_with fail
    have HPL := Lib.hid (pl_of HV.out)
    with_reducible refine (clock_any A n c es _ (HL.out.on HW2.out) hn HPL.out).mono ?_
    rintro _ w3 ⟨rfl, hb3⟩
    have b1 := b0.below hb3
    have f1 := fz_below b0.1 f0 hb3
    have HW3 := Lib.hid (below_trans' HW2.out hb3)
    clear hb3 b0 f0
    have c0 := b1.at
    go_wp2_with fail
    have b2 := ((b1.set (i := 0) (by simp) (.int .i64 (clk es 0 : Nat))).set (i := 1) (by simp) (.int .i64 (clk es 1 : Nat))).set (i := 2) (by simp) (.int .i64 (clk es 2 : Nat))
    have cF := b2.at
    refine bodyPost_ret (v := .tuple #[clkV es, .int .i64 0]) (by simp [results, Try.results20, go_sem, cF]) rfl ⟨?_, ((HW3.out.setCell (p := ⟨w.heap.size, 0, none⟩) (Nat.le_refl _) _).setCell (p := ⟨w.heap.size, 1, none⟩) (Nat.le_refl _) _).setCell (p := ⟨w.heap.size, 2, none⟩) (Nat.le_refl _) _⟩
    rw [clkT_ok HV.out, HV.out]
  · have HV := Lib.hid hv
    have g := neB hv
    clear hv
    have c0 := b0.at
    go_wp2_with fail
    have b2 := ((b0.set (i := 0) (by simp) (.int .i64 0)).set (i := 1) (by simp) (.int .i64 0)).set (i := 2) (by simp) (.int .i64 0)
    have cF := b2.at
    refine bodyPost_ret (v := .tuple #[cval (0, 0, 0), .int .i64 (val es)]) (by simp [results, Try.results20, go_sem, cF]) rfl ⟨?_, ((HW2.out.setCell (p := ⟨w.heap.size, 0, none⟩) (Nat.le_refl _) _).setCell (p := ⟨w.heap.size, 1, none⟩) (Nat.le_refl _) _).setCell (p := ⟨w.heap.size, 2, none⟩) (Nat.le_refl _) _⟩
    rw [clkT_bad HV.out]
theorem refClockE_any (A : Option Addr) (n c : Nat) (es : List Ent) (w : World) (hl : Reads w w.heap.size 6 A n (ents es)) (hn : n ≤ 1000000) (hnc : n ≤ c) (ht : shortT es) :
    Calls Try.prog 21 #[.slice A n c] w fun r w' => r = .returned (.tuple #[cval (clkT es), .int .i64 (val es)]) ∧ Below w.heap.size w w' := by
  have HL := Lib.hid hl
  have HS := Lib.hid ht
  clear hl ht
  go_enter Try.func21, Try.ntmps21
  go_wp2_with fail
  with_reducible refine (refValidate_any A n c es _ (HL.out.on (belowA _ _)) hn hnc HS.out).mono ?_
  rintro _ w2 ⟨rfl, hb2⟩
  have b0 := (Box.new w #[.int .i64 0, .int .i64 0, .int .i64 0] 35).below hb2
  have f0 := fz_below (Box.new w #[.int .i64 0, .int .i64 0, .int .i64 0] 35).1 (fz_new _ _ _) hb2
  have HW2 := Lib.hid (below1 _ hb2)
  clear hb2
  by_cases hv : val es = 0
  · have HV := Lib.hid hv
    have g := neBf hv
    clear hv
    go_wp2_with fail
    have HPL := Lib.hid (pl_of HV.out)
    with_reducible refine (refClock_any A n c es _ (HL.out.on HW2.out) hn HPL.out).mono ?_
    rintro _ w3 ⟨rfl, hb3⟩
    have b1 := b0.below hb3
    have f1 := fz_below b0.1 f0 hb3
    have HW3 := Lib.hid (below_trans' HW2.out hb3)
    clear hb3 b0 f0
    have c0 := b1.at
    go_wp2_with fail
    have b2 := ((b1.set (i := 0) (by simp) (.int .i64 (clk es 0 : Nat))).set (i := 1) (by simp) (.int .i64 (clk es 1 : Nat))).set (i := 2) (by simp) (.int .i64 (clk es 2 : Nat))
    have cF := b2.at
    refine bodyPost_ret (v := .tuple #[clkV es, .int .i64 0]) (by simp [results, Try.results21, go_sem, cF]) rfl ⟨?_, ((HW3.out.setCell (p := ⟨w.heap.size, 0, none⟩) (Nat.le_refl _) _).setCell (p := ⟨w.heap.size, 1, none⟩) (Nat.le_refl _) _).setCell (p := ⟨w.heap.size, 2, none⟩) (Nat.le_refl _) _⟩
    rw [clkT_ok HV.out, HV.out]
  · have HV := Lib.hid hv
    have g := neB hv
    clear hv
    have c0 := b0.at
    go_wp2_with fail
    have b2 := ((b0.set (i := 0) (by simp) (.int .i64 0)).set (i := 1) (by simp) (.int .i64 0)).set (i := 2) (by simp) (.int .i64 0)
    have cF := b2.at
    refine bodyPost_ret (v := .tuple #[cval (0, 0, 0), .int .i64 (val es)]) (by simp [results, Try.results21, go_sem, cF]) rfl ⟨?_, ((HW2.out.setCell (p := ⟨w.heap.size, 0, none⟩) (Nat.le_refl _) _).setCell (p := ⟨w.heap.size, 1, none⟩) (Nat.le_refl _) _).setCell (p := ⟨w.heap.size, 2, none⟩) (Nat.le_refl _) _⟩
    rw [clkT_bad HV.out]
end Go.Proofs.Ytlmdmbjdhlgkoaa
