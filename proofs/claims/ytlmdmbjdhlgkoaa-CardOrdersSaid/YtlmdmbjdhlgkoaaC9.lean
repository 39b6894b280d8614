/- Walks: who has seen whom; both sides. -/
import Derived.Test.YtlmdmbjdhlgkoaaC8
namespace Go.Proofs.Ytlmdmbjdhlgkoaa
open Go.RowKit Go.Sort

theorem ix22i {A : Option Addr} {ad : Addr} {n c : Nat} {i : Int} (h : A = some ad) (h0 : 0 ≤ i) (hk : i < n) (w : World) : (Instr.indexAt 22 (.slice A n c) (.int .i64 i)).run Try.prog w = .ok (.pointer (some (ad.add (i.toNat * 6)))) w := by
  have := ix22 (n := n) (c := c) (k := i.toNat) h (by omega) w
  rwa [show ((i.toNat : Nat) : Int) = i by omega] at this
/-- Whether an entry of a card has seen another one, and the error. -/
def hsE (es : List Ent) (i j : Int) : Int := if val es ≠ 0 then val es else if 0 ≤ i ∧ i < es.length ∧ 0 ≤ j ∧ j < es.length then 0 else 5
def hsB (es : List Ent) (i j : Int) : Bool := if hsE es i j = 0 then sawE (es.getD i.toNat default) (es.getD j.toNat default) else false
theorem hs_bad {es : List Ent} {i j : Int} (h : val es ≠ 0) : hsE es i j = val es ∧ hsB es i j = false := by
  have h1 : hsE es i j = val es := if_pos h
  refine ⟨h1, ?_⟩
  unfold hsB
  rw [h1, if_neg h]
theorem hs_none {es : List Ent} {i j : Int} (h : val es = 0) (h2 : ¬ (0 ≤ i ∧ i < es.length ∧ 0 ≤ j ∧ j < es.length)) : hsE es i j = 5 ∧ hsB es i j = false := by
  have h1 : hsE es i j = 5 := by unfold hsE; rw [if_neg (fun hn => hn h), if_neg h2]
  refine ⟨h1, ?_⟩
  unfold hsB
  rw [h1]; rfl
theorem hs_ok {es : List Ent} {i j : Int} (h : val es = 0) (h0 : 0 ≤ i) (h1 : i < es.length) (h2 : 0 ≤ j) (h3 : j < es.length) {x y : Ent} (hx : es[i.toNat]? = some x) (hy : es[j.toNat]? = some y) : hsE es i j = 0 ∧ hsB es i j = sawE x y := by
  have e1 : hsE es i j = 0 := by unfold hsE; rw [if_neg (fun hn => hn h), if_pos ⟨h0, h1, h2, h3⟩]
  refine ⟨e1, ?_⟩
  unfold hsB
  rw [if_pos e1, List.getD_eq_getElem?_getD, hx, List.getD_eq_getElem?_getD, hy]
  rfl
set_option maxRecDepth 100000 in
theorem hasSeen_any (A : Option Addr) (n c : Nat) (es : List Ent) (i j : Int) (w : World) (hl : Reads w w.heap.size 6 A n (ents es)) (hn : n ≤ 1000000) (ht : shortT es) :
    Calls Try.prog 23 #[.slice A n c, .int .i64 i, .int .i64 j] w fun r w' => r = .returned (.tuple #[.bool (hsB es i j), .int .i64 (hsE es i j)]) ∧ Below w.heap.size w w' := by
  have hlen := hl.1
  rw [ents_length] at hlen
  have l1 : n ≤ es.length := by omega
  have l2 : es.length ≤ n := by omega
  have HL := Lib.hid hl
  have HS := Lib.hid ht
  clear hl ht hlen
  go_enter Try.func23, Try.ntmps23
  go_wp2_with fail
  with_reducible refine (validate_any A n c es _ HL.out hn HS.out).mono ?_
  rintro _ w2 ⟨rfl, hb2⟩
  have HW2 := Lib.hid hb2
  clear hb2
  by_cases hv : val es = 0
  · have HV := Lib.hid hv
    have g := neBf hv
    have HPL := Lib.hid (pl_of hv)
    clear hv
    by_cases hin : 0 ≤ i ∧ i < es.length ∧ 0 ≤ j ∧ j < es.length
    · obtain ⟨i0, i1, j0, j1⟩ := hin
      obtain ⟨ad, x, e1, hx, d0, d1, d2, d3, d4, d5⟩ := eat_rg (HL.out.on HW2.out) (k := i.toNat) (by omega)
      obtain ⟨ad', y, e1', hy, q0, q1, q2, q3, q4, q5⟩ := eat_rg (HL.out.on HW2.out) (k := j.toNat) (by omega)
      obtain rfl : ad = ad' := Option.some.inj (e1.symm.trans e1')
      have X := fun w => ix22i (n := n) (c := c) e1 i0 (by omega) w
      have Y := fun w => ix22i (n := n) (c := c) e1 j0 (by omega) w
      have HO := Lib.hid (hs_ok HV.out i0 i1 j0 j1 hx hy)
      obtain ⟨y0, y1⟩ := HPL.out y (List.mem_of_getElem? hy)
      have Q0 : Hid (∀ w4, Below w2.heap.size w2 w4 → Calls Try.prog 49 #[eval_ x, eval_ y] w4 fun r w' => r = .returned (.bool (sawE x y)) ∧ Below w4.heap.size w4 w') := Lib.hid fun w4 _ => saw_any x y w4 y0 y1
      have hi1 : i < n := by omega
      have hj1 : j < n := by omega
      clear hx hy e1 e1' i1 j1
      go_wp2_with fail
      refine wp_region_qb mixed (by kernel_rfl) ?_
      repeat (go_big_quiet_step (first | exact rg_call Q0.out _ _))
      refine wpQuiet_nil ?_
      intro w5 hb5
      have HB5 := Lib.hid (below_trans' HW2.out hb5)
      clear hb5 d0 d1 d2 d3 d4 d5 q0 q1 q2 q3 q4 q5
      go_wp2_with fail
      go_ret2
      exact ⟨by rw [HO.out.1, HO.out.2]; rfl, HB5.out⟩
    · have HO := Lib.hid (hs_none (i := i) (j := j) HV.out hin)
      have hc : i < 0 ∨ (0 ≤ i ∧ ((n : Int) ≤ i ∨ (i < n ∧ (j < 0 ∨ (0 ≤ j ∧ (n : Int) ≤ j))))) := by omega
      clear hin
      rcases hc with h1 | ⟨h1, h2 | ⟨h2, h3 | ⟨h3, h4⟩⟩⟩
      all_goals
        go_wp2_with fail
        all_goals go_ret2
        all_goals exact ⟨by rw [HO.out.1, HO.out.2]; rfl, HW2.out⟩
  · have HV := Lib.hid (hs_bad (i := i) (j := j) hv)
    have g := neB hv
    clear hv
    go_wp2_with fail
    go_ret2
    exact ⟨by rw [HV.out.1, HV.out.2]; rfl, HW2.out⟩
set_option maxRecDepth 100000 in
theorem refHasSeen_any (A : Option Addr) (n c : Nat) (es : List Ent) (i j : Int) (w : World) (hl : Reads w w.heap.size 6 A n (ents es)) (hn : n ≤ 1000000) (hnc : n ≤ c) (ht : shortT es) :
    Calls Try.prog 24 #[.slice A n c, .int .i64 i, .int .i64 j] w fun r w' => r = .returned (.tuple #[.bool (hsB es i j), .int .i64 (hsE es i j)]) ∧ Below w.heap.size w w' := by
  have hlen := hl.1
  rw [ents_length] at hlen
  have l1 : n ≤ es.length := by omega
  have l2 : es.length ≤ n := by omega
  have HL := Lib.hid hl
  have HS := Lib.hid ht
  clear hl ht hlen
  go_enter Try.func24, Try.ntmps24
  go_wp2_with fail
  with_reducible refine (refValidate_any A n c es _ HL.out hn hnc HS.out).mono ?_
  rintro _ w2 ⟨rfl, hb2⟩
  have HW2 := Lib.hid hb2
  clear hb2
  by_cases hv : val es = 0
  · have HV := Lib.hid hv
    have g := neBf hv
    have HPL := Lib.hid (pl_of hv)
    clear hv
    by_cases hin : 0 ≤ i ∧ i < es.length ∧ 0 ≤ j ∧ j < es.length
    · obtain ⟨i0, i1, j0, j1⟩ := hin
      obtain ⟨ad, x, e1, hx, d0, d1, d2, d3, d4, d5⟩ := eat_rg (HL.out.on HW2.out) (k := i.toNat) (by omega)
      obtain ⟨ad', y, e1', hy, q0, q1, q2, q3, q4, q5⟩ := eat_rg (HL.out.on HW2.out) (k := j.toNat) (by omega)
      obtain rfl : ad = ad' := Option.some.inj (e1.symm.trans e1')
      have X := fun w => ix22i (n := n) (c := c) e1 i0 (by omega) w
      have Y := fun w => ix22i (n := n) (c := c) e1 j0 (by omega) w
      have HO := Lib.hid (hs_ok HV.out i0 i1 j0 j1 hx hy)
      obtain ⟨y0, y1⟩ := HPL.out y (List.mem_of_getElem? hy)
      have Q0 : Hid (∀ w4, Below w2.heap.size w2 w4 → Calls Try.prog 52 #[eval_ x, eval_ y] w4 fun r w' => r = .returned (.bool (sawE x y)) ∧ Below w4.heap.size w4 w') := Lib.hid fun w4 _ => seen_any x y w4 y0 y1
      have hi1 : i < n := by omega
      have hj1 : j < n := by omega
      clear hx hy e1 e1' i1 j1
      go_wp2_with fail
      refine wp_region_qb mixed (by kernel_rfl) ?_
      repeat (go_big_quiet_step (first | exact rg_call Q0.out _ _))
      refine wpQuiet_nil ?_
      intro w5 hb5
      have HB5 := Lib.hid (below_trans' HW2.out hb5)
      clear hb5 d0 d1 d2 d3 d4 d5 q0 q1 q2 q3 q4 q5
      go_wp2_with fail
      go_ret2
      exact ⟨by rw [HO.out.1, HO.out.2]; rfl, HB5.out⟩
    · have HO := Lib.hid (hs_none (i := i) (j := j) HV.out hin)
      have hc : i < 0 ∨ (0 ≤ i ∧ ((n : Int) ≤ i ∨ (i < n ∧ (j < 0 ∨ (0 ≤ j ∧ (n : Int) ≤ j))))) := by omega
      clear hin
      rcases hc with h1 | ⟨h1, h2 | ⟨h2, h3 | ⟨h3, h4⟩⟩⟩
      all_goals
        go_wp2_with fail
        all_goals go_ret2
        all_goals exact ⟨by rw [HO.out.1, HO.out.2]; rfl, HW2.out⟩
  · have HV := Lib.hid (hs_bad (i := i) (j := j) hv)
    have g := neB hv
    clear hv
    go_wp2_with fail
    go_ret2
    exact ⟨by rw [HV.out.1, HV.out.2]; rfl, HW2.out⟩
end Go.Proofs.Ytlmdmbjdhlgkoaa
