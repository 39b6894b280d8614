/- Walks: looking for a parting; what turns along an edge. -/
import Derived.Test.YtfaleddacmbidaaDoorW2
namespace Go.Proofs.YtfaleddacmbidaaDoor
open Go.RowKit Go.Sort

theorem parted_any (v : FV) (e : Edg) (w : World) (hv : v.In w) :
    Calls Tryd.prog 51 #[v.val, eval_ e] w fun r w' => r = .returned (.bool (decide (e ∈ v.f.ps))) ∧ Below w.heap.size w w' := by
  have hm := hv.mb
  obtain ⟨hl1, hl2⟩ := hv.l2
  go_enter Tryd.func51, Tryd.ntmps51
  dsimp only [FV.val, eval_]
  go_wp2
  refine wp_gen (fun w1 => Box w1 w.heap.size #[.int .i64 v.f.W, .int .i64 v.f.H, .slice v.A v.n v.c, .slice v.B v.m v.d] ∧ Box w1 (w.heap.size + 1) #[.int .i64 e.1, .int .i64 e.2.1, .int .i64 e.2.2] ∧ Below w.heap.size w w1) ⟨(Box.new _ _ _).alloc _, Box.new2 _ _ _ _ _, belowAA _ _ _⟩ ?_
  rintro w1 ⟨b0, b1, hw1⟩
  have hv1 := hv.below hw1
  go_loopw [5] (fun i wr => ∃ k : Nat, k ≤ v.m ∧ i = .int .i64 k ∧ (∀ j, j < k → v.f.ps[j]? ≠ some e) ∧ Below w1.heap.size w1 wr) (fun i _ => v.m - (intOf i).toNat)
  case atStart => exact ⟨0, by omega, rfl, fun j hj => absurd hj (by omega), Below.refl _ _⟩
  case round =>
    obtain ⟨k, hk, rfl, hno0, hbel0⟩ := hrel
    have hno := Lib.hid hno0
    have hbel := Lib.hid hbel0
    have c0 := (b0.below hbel0).at
    have c1 := (b1.below hbel0).at
    by_cases hlt : k < v.m
    · obtain ⟨ad, x, e1, hbk, hx0, d0, d1, d2⟩ := (hv1.below hbel0).psAt (k := k) (by omega)
      have hx := Lib.hid hx0
      clear hx0 hno0 hbel0
      have q1 := eqg33 .eql
      have q2 := eql33 x e
      go_wp2
      go_quiet (fail)
      go_wp2
      · have hq : eqE x e = true := by assumption
        have hxe := eqE_iff.1 hq
        go_ret
        exact ⟨ret_bool (by have := hx.out; rw [hxe] at this; simpa using List.mem_of_getElem? this), below_trans' hw1 (below_drewN' hbel.out _)⟩
      · have hq : eqE x e = false := by assumption
        have hxe := eqE_not.1 hq
        go_roundw
        case rel =>
          refine ⟨k + 1, by omega, by go_num, fun j hj => ?_, below_drewN' hbel.out _⟩
          rcases Nat.lt_or_ge j k with h | h
          · exact hno.out j h
          · obtain rfl : j = k := by omega
            rw [hx.out]; intro h; exact hxe (Option.some.inj h)
        case measure => simp [intOf]; omega
    · clear hno0 hbel0
      go_wp2
      go_ret
      refine ⟨ret_bool ?_, below_trans' hw1 hbel.out⟩
      symm
      rw [decide_eq_false_iff_not]
      intro hmem
      obtain ⟨j, hj, rfl⟩ := List.getElem_of_mem hmem
      exact hno.out j (by omega) (List.getElem?_eq_getElem hj)

theorem bs_any (A : Option Addr) (m d : Nat) (ps : List Edg) (e : Edg) (w : World) (hr : Reads w w.heap.size 3 A m (edgs ps)) (hm : m ≤ 140737488355328) (hs : ps.Pairwise ltE) :
    Calls Tryd.prog 46 #[.slice A m d, eval_ e, .func (.func 29) #[] #[]] w fun r w' => r = .returned (.tuple #[.int .i64 (lowE ps e), .bool (decide (e ∈ ps))]) ∧ Below w.heap.size w w' := by
  have hl := hr.1
  rw [edgs_length] at hl
  have l1 : m ≤ ps.length := by omega
  have l2 : ps.length ≤ m := by omega
  clear hl
  have hS := Lib.hid hs
  clear hs
  go_enter Tryd.func46, Tryd.ntmps46
  dsimp only [eval_]
  go_wp2
  refine wp_gen (fun w1 => Box w1 w.heap.size #[.int .i64 e.1, .int .i64 e.2.1, .int .i64 e.2.2] ∧ Below w.heap.size w w1) ⟨Box.new _ _ _, belowA _ _⟩ ?_
  rintro w1 ⟨b0, hw1⟩
  have hr1 := hr.on hw1
  go_loopw [9, 10] (fun i j wr => ∃ a b : Nat, a ≤ b ∧ b ≤ m ∧ i = .int .i64 a ∧ j = .int .i64 b ∧ (∀ k x, k < a → ps[k]? = some x → ltE x e) ∧ (∀ k x, b ≤ k → ps[k]? = some x → ¬ ltE x e) ∧ Below w1.heap.size w1 wr) (fun i j _ => (intOf j - intOf i).toNat)
  case atStart => exact ⟨0, m, by omega, by omega, rfl, rfl, fun k x hk => absurd hk (by omega), fun k x hk hx => (by have := (List.getElem?_eq_some_iff.1 hx).1; omega), Below.refl _ _⟩
  case round =>
    obtain ⟨a, b, hab, hbm, rfl, rfl, hlo0, hhi0, hbel0⟩ := hrel
    have hlo := Lib.hid hlo0
    have hhi := Lib.hid hhi0
    have hbel := Lib.hid hbel0
    have c0 := (b0.below hbel0).rg
    by_cases hlt : a < b
    · obtain ⟨ad, x, e1, hbk, hx0, d0, d1, d2⟩ := psat (hr1.on hbel0) (k := (a + b) / 2) (by omega)
      have hx := Lib.hid hx0
      have f0 := rg_cell d0
      have f1 := rg_cell d1
      have f2 := rg_cell d2
      clear hx0 hlo0 hhi0 hbel0
      go_wp2
      refine wp_region_qb mixed (by kernel_rfl) ?_
      repeat (go_big_quiet_step (exact rg_call (fun w1 _ => cmpE_any x e w1) _ _))
      refine wpQuiet_nil ?_
      intro w2 hb20
      have hb2 := Lib.hid hb20
      clear hb20
      go_wp2
      · have hc : cmpE x e < 0 := by assumption
        go_roundw
        case rel =>
          refine ⟨(a + b) / 2 + 1, b, by omega, hbm, by go_num, rfl, fun k y hk hy => ?_, hhi.out, below_trans' hbel.out hb2.out⟩
          rcases Nat.lt_or_ge k a with h | h
          · exact hlo.out k y h hy
          · have hx' := hx.out
            rcases Nat.lt_or_ge k ((a + b) / 2) with h2 | h2
            · have hkl : k < ps.length := by omega
              have hhl : (a + b) / 2 < ps.length := by omega
              rw [List.getElem?_eq_getElem hkl] at hy
              rw [List.getElem?_eq_getElem hhl] at hx'
              have := List.pairwise_iff_getElem.1 hS.out k ((a + b) / 2) hkl hhl h2
              rw [Option.some.inj hy, Option.some.inj hx'] at this
              exact ltE_trans this ((cmpE_neg x e).1 hc)
            · obtain rfl : k = (a + b) / 2 := by omega
              rw [hx'] at hy
              rw [← Option.some.inj hy]
              exact (cmpE_neg x e).1 hc
        case measure => simp [intOf]; omega
      · have hc : 0 ≤ cmpE x e := by assumption
        go_roundw
        case rel =>
          refine ⟨a, (a + b) / 2, by omega, by omega, rfl, by go_num, hlo.out, fun k y hk hy hlt' => ?_, below_trans' hbel.out hb2.out⟩
          have hx' := hx.out
          have hkl : k < ps.length := (List.getElem?_eq_some_iff.1 hy).1
          have hn : ¬ ltE x e := fun h => by have := (cmpE_neg x e).2 h; omega
          rcases Nat.lt_or_ge ((a + b) / 2) k with h2 | h2
          · have hhl : (a + b) / 2 < ps.length := by omega
            rw [List.getElem?_eq_getElem hkl] at hy
            rw [List.getElem?_eq_getElem hhl] at hx'
            have := List.pairwise_iff_getElem.1 hS.out ((a + b) / 2) k hhl hkl h2
            rw [Option.some.inj hy, Option.some.inj hx'] at this
            exact hn (ltE_trans this hlt')
          · obtain rfl : k = (a + b) / 2 := by omega
            rw [hx'] at hy
            rw [← Option.some.inj hy] at hlt'
            exact hn hlt'
        case measure => simp [intOf]; omega
    · have hlow := Lib.hid (show lowE ps e = a from lowE_of (by omega) (fun k x hk hx => hlo0 k x hk hx) (fun k x hk hx => hhi0 k x (by omega) hx))
      by_cases hlt2 : a < m
      · obtain ⟨ad, x, e1, hbk, hx0, d0, d1, d2⟩ := psat (hr1.on hbel0) (k := a) (by omega)
        have hx := Lib.hid hx0
        have f0 := rg_cell d0
        have f1 := rg_cell d1
        have f2 := rg_cell d2
        clear hx0 hlo0 hhi0 hbel0
        go_wp2
        refine wp_region_qb mixed (by kernel_rfl) ?_
        repeat (go_big_quiet_step (exact rg_call (fun w1 _ => cmpE_any x e w1) _ _))
        refine wpQuiet_nil ?_
        intro w2 hb20
        have hb2 := Lib.hid hb20
        clear hb20
        go_wp2
        go_ret2
        refine ⟨?_, below_trans' hw1 (below_trans' hbel.out hb2.out)⟩
        have e2 : (cmpE x e == 0) = decide (e ∈ ps) := by
          rw [Bool.eq_iff_iff, beq_iff_eq, cmpE_zero, decide_eq_true_eq, mem_iff_low hS.out, hlow.out, hx.out]
          simp
        show Ending.returned (.tuple #[.int .i64 a, .bool (cmpE x e == 0)]) = _
        rw [hlow.out, e2]
      · have hd : decide (a < m) = false := decide_eq_false hlt2
        clear hlo0 hhi0 hbel0
        go_wp2
        refine wp_region_qb mixed (by kernel_rfl) ?_
        repeat (go_big_quiet_step (fail))
        refine wpQuiet_nil ?_
        intro w2 hb20
        have hb2 := Lib.hid hb20
        clear hb20
        go_wp2
        go_ret2
        refine ⟨?_, below_trans' hw1 (below_trans' hbel.out hb2.out)⟩
        have e2 : false = decide (e ∈ ps) := by
          symm
          rw [decide_eq_false_iff_not, mem_iff_low hS.out, hlow.out, List.getElem?_eq_none (by omega)]
          simp
        show Ending.returned (.tuple #[.int .i64 a, .bool false]) = _
        rw [hlow.out, ← e2]
end Go.Proofs.YtfaleddacmbidaaDoor
