/- Walks: the law FlowCombs. -/
import Derived.Test.YtahmdnboeenfkaaW20
namespace Go.Proofs.Ytahmdnboeenfkaa
open Go.RowKit Go.Sort

open Classical in
noncomputable def CKB (f : Fld) (p : Plc) : Nat × Bool := if h : ∃ x : Nat × Bool, Stop f p x.1 x.2 then h.choose else (0, false)
theorem CKB_of {f : Fld} {p : Plc} {k : Nat} {b : Bool} (h : Stop f p k b) : CKB f p = (k, b) := by
  unfold CKB
  have hx : ∃ x : Nat × Bool, Stop f p x.1 x.2 := ⟨(k, b), h⟩
  rw [dif_pos hx]
  obtain ⟨e1, e2⟩ := hx.choose_spec.unique h
  exact Prod.ext e1 e2
noncomputable def combK (f : Fld) (p : Plc) : Nat := if valid f = 0 ∧ isPl f p = true then (CKB f p).1 else 0
noncomputable def combB (f : Fld) (p : Plc) : Bool := if valid f = 0 ∧ isPl f p = true then (CKB f p).2 else false
def combN (f : Fld) (p : Plc) : Int := if valid f ≠ 0 then valid f else if isPl f p = true then 0 else 5
/-- The same in one form. -/
theorem RetComb.uni {f : Fld} {p : Plc} {w w' : World} {r : Ending} (h : RetComb f p w r w') :
    ∃ A c, r = .returned (.tuple #[.slice A (combK f p) c, .bool (combB f p), .int .i64 (combN f p)]) ∧ Reads w' w'.heap.size 2 A (combK f p) (plcs (pth f p (combK f p))) ∧ Below w.heap.size w w' ∧ combK f p ≤ 144 := by
  rcases h with ⟨h1, rfl, hb⟩ | ⟨h1, h2, rfl, hb⟩ | ⟨h1, h2, k, b, A, c, hs, rfl, hr, hb⟩
  · have e1 : combK f p = 0 := by unfold combK; rw [if_neg (fun h => h1 h.1)]
    have e2 : combB f p = false := by unfold combB; rw [if_neg (fun h => h1 h.1)]
    have e3 : combN f p = valid f := by unfold combN; rw [if_pos h1]
    rw [e1, e2, e3]
    exact ⟨none, 0, rfl, Reads.nil, hb, by omega⟩
  · have e1 : combK f p = 0 := by unfold combK; rw [if_neg (fun h => by rw [h2] at h; cases h.2)]
    have e2 : combB f p = false := by unfold combB; rw [if_neg (fun h => by rw [h2] at h; cases h.2)]
    have e3 : combN f p = 5 := by unfold combN; rw [if_neg (by simpa using h1), if_neg (by rw [h2]; decide)]
    rw [e1, e2, e3]
    exact ⟨none, 0, rfl, Reads.nil, hb, by omega⟩
  · have e := CKB_of hs
    have e1 : combK f p = k := by unfold combK; rw [if_pos ⟨h1, h2⟩, e]
    have e2 : combB f p = b := by unfold combB; rw [if_pos ⟨h1, h2⟩, e]
    have e3 : combN f p = 0 := by unfold combN; rw [if_neg (by simpa using h1), if_pos h2]
    have hk := okf_of_valid h1
    have hl := hs.goes.len (by have := hk.w1; omega) (by have := hk.h1; omega)
    have := Int.mul_le_mul hk.w2 hk.h2 (by have := hk.h1; omega) (by omega)
    rw [e1, e2, e3]
    exact ⟨A, c, rfl, hr, hb, by omega⟩

theorem lawCombs (v : FV) (x y : Int) (w : World) (hv : v.In w) :
    Calls Try.prog 8 #[v.val, .agg #[.int .i64 x, .int .i64 y]] w fun r w' => r = .returned (.bool true) ∧ Below w.heap.size w w' := by
  have HV := Lib.hid hv
  clear hv
  go_enter Try.func8, Try.ntmps8
  dsimp only [FV.val, eval_]
  go_wp2_with fail
  refine (long_any v _ (HV.out.below (belowAA _ _ _))).mono ?_
  rintro r w1 ⟨rfl, hb1⟩
  have b0 := ((Box.new _ _ _).alloc _).below hb1
  have b1 := (Box.new2 _ _ _ _ _).below hb1
  have hw1 := Lib.hid (below2 _ _ hb1)
  clear hb1
  cases hlong : longF v.f
  case true =>
    go_wp2_with fail
    refine (known_any _).mono ?_
    rintro r w2 ⟨rfl, hb2⟩
    go_wp2_with fail
    go_ret
    exact ⟨rfl, below_trans' hw1.out hb2⟩
  clear hlong
  have c0 := b0.at
  have c1 := b1.at
  have HV1 := Lib.hid (HV.out.below hw1.out)
  go_wp2_with fail
  refine (Comb_any v (x, y) _ HV1.out).mono ?_
  intro r w2 hr
  obtain ⟨A, c, rfl, hr2, hb2, hk⟩ := hr.uni
  clear c0 c1 hr
  replace b0 := b0.below hb2
  replace b1 := b1.below hb2
  replace hw1 := Lib.hid (below_trans' hw1.out hb2)
  replace HV1 := Lib.hid (HV.out.below hw1.out)
  have HR := Lib.hid hr2
  clear hb2 hr2
  have c0 := b0.at
  have c1 := b1.at
  go_wp2_with fail
  refine (refComb_any v (x, y) _ HV1.out).mono ?_
  intro r w3 hr
  obtain ⟨A', c', rfl, hr2, hb2, _⟩ := hr.uni
  clear c0 c1 hr
  replace hw1 := Lib.hid (below_trans' hw1.out hb2)
  have HR' := Lib.hid hr2
  replace HR := Lib.hid (HR.out.on hb2)
  clear hb2 hr2 b0 b1
  obtain ⟨K, hK⟩ : ∃ K, K = combK v.f (x, y) := ⟨_, rfl⟩
  rw [← hK] at hk HR HR' ⊢
  clear hK
  go_wp2_with fail
  go_loopw [11] (fun i wr => ∃ k : Nat, k ≤ K ∧ i = .int .i64 k ∧ Below w3.heap.size w3 wr) (fun i _ => K - (intOf i).toNat)
  case atStart => exact ⟨0, by omega, rfl, Below.refl _ _⟩
  case round =>
    obtain ⟨k, hkk, rfl, hb0⟩ := hrel
    have hbel := Lib.hid hb0
    have HRr := Lib.hid (HR.out.on hb0)
    have HRr' := Lib.hid (HR'.out.on hb0)
    clear hb0
    by_cases hlt : k < K
    · obtain ⟨ad, e, e1, hbk, hx0, d0, d1⟩ := plat HRr.out (k := k) (by rw [pth_length]; exact hlt)
      obtain ⟨ad', e', e1', hbk', hx0', d0', d1'⟩ := plat HRr'.out (k := k) (by rw [pth_length]; exact hlt)
      obtain rfl : e = e' := Option.some.inj (hx0.symm.trans hx0')
      have X := fun w => ix45 (c := c) e1 hlt w
      have X' := fun w => ix45 (c := c') e1' hlt w
      have q1 := eqg35 .neq
      have q2 : ∀ w, (binOp .neq 35 (pval e) (pval e)).run Try.prog w = .ok (.bool false) w := fun w => by rw [neq35 e e w]; simp [eqP]
      clear hx0 hx0' e1 e1'
      go_wp2_with fail
      go_quiet (fail)
      go_wp2_with fail
      go_roundw
      case rel => exact ⟨k + 1, by omega, by go_num, below_drewN' hbel.out _⟩
      case measure => simp [intOf]; omega
    · go_wp2_with fail
      refine (known_any _).mono ?_
      rintro r w6 ⟨rfl, hb2⟩
      have HB := Lib.hid hb2
      clear hb2
      go_wp2_with fail
      go_ret
      exact ⟨rfl, below_trans' hw1.out (below_trans' hbel.out HB.out)⟩
theorem lawCombsR (v : FV) (q : Int × Int) (w : World) (hv : v.In w) {p1 : Prop} (_ : p1) :
    Calls Try.prog 8 #[v.val, .agg #[.int .i64 q.1, .int .i64 q.2]] w fun r w' => r = .returned (.bool true) ∧ Below w.heap.size w w' := lawCombs v q.1 q.2 w hv
end Go.Proofs.Ytahmdnboeenfkaa
