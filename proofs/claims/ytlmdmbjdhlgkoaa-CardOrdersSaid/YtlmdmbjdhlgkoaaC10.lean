/- Walks: independent pairs, both sides; equal lists. -/
import Derived.Test.YtlmdmbjdhlgkoaaC9
namespace Go.Proofs.Ytlmdmbjdhlgkoaa
open Go.RowKit Go.Sort

def indB (x y : Ent) : Bool := !sawE x y && !sawE y x
def indAt (es : List Ent) (x : Ent) (j : Nat) : Nat := ((es.take j).filter (indB x)).length
theorem indAt_succ {es : List Ent} {x y : Ent} {j : Nat} (h : es.take (j + 1) = es.take j ++ [y]) : indAt es x (j + 1) = indAt es x j + if indB x y = true then 1 else 0 := by
  unfold indAt
  rw [h, List.filter_append, List.length_append]
  by_cases hb : indB x y = true <;> simp [hb]
theorem indAt_le (es : List Ent) (x : Ent) (j : Nat) : indAt es x j ≤ j := by
  unfold indAt
  have := List.length_filter_le (indB x) (es.take j)
  have := List.length_take_le j es
  omega
/-- The number of independent pairs among the first k entries. -/
def indS (es : List Ent) : Nat → Nat
  | 0 => 0
  | k + 1 => indS es k + indAt es (es.getD k default) k
theorem indS_le (es : List Ent) (k : Nat) : indS es k ≤ k * k := by
  induction k with
  | zero => exact Nat.le_refl _
  | succ k ih =>
    have := indAt_le es (es.getD k default) k
    unfold indS
    have e : (k + 1) * (k + 1) = k * k + 2 * k + 1 := by rw [Nat.add_mul, Nat.mul_add]; omega
    omega
theorem indS_succ {es : List Ent} {x : Ent} {k : Nat} (h : es[k]? = some x) : indS es (k + 1) = indS es k + indAt es x k := by
  show indS es k + indAt es (es.getD k default) k = _
  rw [List.getD_eq_getElem?_getD, h]; rfl
def indN (es : List Ent) : Int := if val es = 0 then (indS es es.length : Nat) else 0
theorem sq_le {k : Nat} (h : k ≤ 60) : k * k ≤ 3600 := Nat.le_trans (Nat.mul_le_mul h h) (by omega)
set_option maxRecDepth 100000 in
set_option maxHeartbeats 4000000 in
theorem indep_any (A : Option Addr) (n c : Nat) (es : List Ent) (w : World) (hl : Reads w w.heap.size 6 A n (ents es)) (hn : n ≤ 1000000) (hnc : n ≤ c) (ht : shortT es) :
    Calls Try.prog 25 #[.slice A n c] w fun r w' => r = .returned (.tuple #[.int .i64 (indN es), .int .i64 (val es)]) ∧ Below w.heap.size w w' := by
  have hlen := hl.1
  rw [ents_length] at hlen
  have l1 : n ≤ es.length := by omega
  have l2 : es.length ≤ n := by omega
  have HL := Lib.hid hl
  have HS := Lib.hid ht
  clear hl ht hlen
  go_enter Try.func25, Try.ntmps25
  go_wp2_with fail
  with_reducible refine (validate_any A n c es _ HL.out hn HS.out).mono ?_
  rintro _ w2 ⟨rfl, hb2⟩
  have HW2 := Lib.hid hb2
  clear hb2
  by_cases hv : val es = 0
  case neg =>
    have HV := Lib.hid (show indN es = 0 from if_neg hv)
    have g := neB hv
    clear hv
    go_wp2_with fail
    go_ret2
    exact ⟨by rw [HV.out]; rfl, HW2.out⟩
  have HV := Lib.hid hv
  have g := neBf hv
  have HPL := Lib.hid (pl_of hv)
  have hsm : es.length ≤ 60 := (val_zero.1 hv).len
  have hn60 : n ≤ 60 := by omega
  clear hv
  go_wp2_with fail
  go_loopw [5, 17] (fun s i wr => ∃ k : Nat, k ≤ n ∧ i = .int .i64 k ∧ s = .int .i64 (indS es k : Nat) ∧ Below w.heap.size w wr) (fun _ i _ => n - (intOf i).toNat)
  case atStart => exact ⟨0, by omega, rfl, rfl, HW2.out⟩
  case round =>
    obtain ⟨k, hk, rfl, rfl, hbw⟩ := hrel
    have HBW := Lib.hid hbw
    clear hbw HW2
    by_cases hlt : k < n
    · obtain ⟨ad, x, e1, hbk, hx, d0, d1, d2, d3, d4, d5⟩ := eat (HL.out.below HBW.out) (k := k) (by omega)
      have X := fun w => ix22 (c := c) e1 hlt w
      obtain ⟨x0, x1⟩ := HPL.out x (List.mem_of_getElem? hx)
      have HSX := Lib.hid (indS_succ hx)
      have i1 := indS_le es k
      have i2 := sq_le (show k ≤ 60 by omega)
      have hS : indS es k ≤ 3600 := by omega
      have hkc : k ≤ c := by omega
      clear hx e1 i1 i2
      generalize indS es k = S0 at hS HSX ⊢
      have cb := fun o => (Box.new wr #[.int .i64 x.1, .int .i64 x.2.1, .int .i64 x.2.2.1.1, .int .i64 x.2.2.1.2.1, .int .i64 x.2.2.1.2.2, .string x.2.2.2] o).at
      go_wp2_with fail
      refine gen_at (fun W => Box W wr.heap.size #[.int .i64 x.1, .int .i64 x.2.1, .int .i64 x.2.2.1.1, .int .i64 x.2.2.1.2.1, .int .i64 x.2.2.1.2.2, .string x.2.2.2] ∧ Below w.heap.size w W) ⟨Box.new _ _ _, below_trans' HBW.out (belowA _ _)⟩ ?_
      rintro w4 ⟨bx0, hb4⟩
      have HW4 := Lib.hid hb4
      generalize wr.heap.size = bX at bx0 ⊢
      clear hb4 d0 d1 d2 d3 d4 d5 X cb
      go_loopw [5, 26] (fun s i wr => ∃ j : Nat, j ≤ k ∧ i = .int .i64 j ∧ s = .int .i64 ((S0 : Nat) + (indAt es x j : Nat)) ∧ Box wr bX #[.int .i64 x.1, .int .i64 x.2.1, .int .i64 x.2.2.1.1, .int .i64 x.2.2.1.2.1, .int .i64 x.2.2.1.2.2, .string x.2.2.2] ∧ Below w.heap.size w wr) (fun _ i _ => k - (intOf i).toNat)
      case atStart => exact ⟨0, by omega, rfl, by simp [indAt], bx0, HW4.out⟩
      case round =>
        clear bx0 HW4
        obtain ⟨j, hj, rfl, rfl, bx, hbw⟩ := hrel
        have HBW5 := Lib.hid hbw
        clear hbw
        have hI := indAt_le es x j
        by_cases hltj : j < k
        · obtain ⟨ad, y, e1, hbk, hy, d0, d1, d2, d3, d4, d5⟩ := eat (HL.out.below HBW5.out) (k := j) (by omega)
          have X := fun w => ix22 (n := k) (c := c) e1 hltj w
          obtain ⟨y0, y1⟩ := HPL.out y (List.mem_of_getElem? hy)
          have HIN := Lib.hid (indAt_succ (x := x) (take_succ_of hy))
          clear hy e1
          generalize indAt es x j = I0 at hI HIN ⊢
          have cx := fun o => (bx.alloc (.cells #[.int .i64 y.1, .int .i64 y.2.1, .int .i64 y.2.2.1.1, .int .i64 y.2.2.1.2.1, .int .i64 y.2.2.1.2.2, .string y.2.2.2] o)).at
          have cy := fun o => (Box.new wr #[.int .i64 y.1, .int .i64 y.2.1, .int .i64 y.2.2.1.1, .int .i64 y.2.2.1.2.1, .int .i64 y.2.2.1.2.2, .string y.2.2.2] o).at
          go_wp2_with fail
          with_reducible refine (saw_any x y _ y0 y1).mono ?_
          rintro _ w5 ⟨rfl, hb5⟩
          have bx5 := (bx.alloc _).below hb5
          have by5 := (Box.new wr #[.int .i64 y.1, .int .i64 y.2.1, .int .i64 y.2.2.1.1, .int .i64 y.2.2.1.2.1, .int .i64 y.2.2.1.2.2, .string y.2.2.2] 53).below hb5
          have HW5 := Lib.hid (below_trans' HBW5.out (below1 _ hb5))
          generalize wr.heap.size = bY at by5 ⊢
          clear cx cy d0 d1 d2 d3 d4 d5 X hb5 bx
          by_cases hs : sawE x y = true
          · have HI := Lib.hid (show indB x y = false by unfold indB; rw [hs]; rfl)
            rw [hs]
            clear hs
            go_wp2_with fail
            go_roundw
            case rel => exact ⟨j + 1, by omega, by go_num, by rw [HIN.out, HI.out]; simp, bx5, HW5.out⟩
            case measure => simp [intOf]; omega
          · replace hs : sawE x y = false := by simpa using hs
            rw [hs]
            have HS1 := Lib.hid hs
            clear hs
            have cx := bx5.at
            have cy := by5.at
            go_wp2_with fail
            with_reducible refine (saw_any y x _ x0 x1).mono ?_
            rintro _ w6 ⟨rfl, hb6⟩
            have bx6 := bx5.below hb6
            have HW6 := Lib.hid (below_trans' HW5.out hb6)
            clear cx cy hb6 bx5 by5
            by_cases hs : sawE y x = true
            · have HI := Lib.hid (show indB x y = false by unfold indB; rw [hs, HS1.out]; rfl)
              rw [hs]
              clear hs
              go_wp2_with fail
              go_roundw
              case rel => exact ⟨j + 1, by omega, by go_num, by rw [HIN.out, HI.out]; simp, bx6, HW6.out⟩
              case measure => simp [intOf]; omega
            · replace hs : sawE y x = false := by simpa using hs
              have HI := Lib.hid (show indB x y = true by unfold indB; rw [hs, HS1.out]; rfl)
              rw [hs]
              clear hs
              go_wp2_with fail
              go_roundw
              case rel => exact ⟨j + 1, by omega, by go_num, by rw [HIN.out, HI.out]; simp; omega, bx6, HW6.out⟩
              case measure => simp [intOf]; omega
        · obtain rfl : j = k := by omega
          go_wp2_with fail
          go_roundw
          case rel => exact ⟨j + 1, by omega, by go_num, by rw [HSX.out]; simp, HBW5.out⟩
          case measure => simp [intOf]; omega
    · have HF := Lib.hid (show indN es = (indS es k : Nat) by unfold indN; rw [if_pos HV.out, show es.length = k by omega])
      go_wp2_with fail
      go_ret2
      exact ⟨by rw [HF.out, HV.out]; rfl, HBW.out⟩
set_option maxRecDepth 100000 in
set_option maxHeartbeats 4000000 in
theorem refIndep_any (A : Option Addr) (n c : Nat) (es : List Ent) (w : World) (hl : Reads w w.heap.size 6 A n (ents es)) (hn : n ≤ 1000000) (hnc : n ≤ c) (ht : shortT es) :
    Calls Try.prog 26 #[.slice A n c] w fun r w' => r = .returned (.tuple #[.int .i64 (indN es), .int .i64 (val es)]) ∧ Below w.heap.size w w' := by
  have hlen := hl.1
  rw [ents_length] at hlen
  have l1 : n ≤ es.length := by omega
  have l2 : es.length ≤ n := by omega
  have HL := Lib.hid hl
  have HS := Lib.hid ht
  clear hl ht hlen
  go_enter Try.func26, Try.ntmps26
  go_wp2_with fail
  with_reducible refine (refValidate_any A n c es _ HL.out hn hnc HS.out).mono ?_
  rintro _ w2 ⟨rfl, hb2⟩
  have HW2 := Lib.hid hb2
  clear hb2
  by_cases hv : val es = 0
  case neg =>
    have HV := Lib.hid (show indN es = 0 from if_neg hv)
    have g := neB hv
    clear hv
    go_wp2_with fail
    go_ret2
    exact ⟨by rw [HV.out]; rfl, HW2.out⟩
  have HV := Lib.hid hv
  have g := neBf hv
  have HPL := Lib.hid (pl_of hv)
  have hsm : es.length ≤ 60 := (val_zero.1 hv).len
  have hn60 : n ≤ 60 := by omega
  clear hv
  go_wp2_with fail
  go_loopw [5, 6] (fun s i wr => ∃ k : Nat, k ≤ n ∧ i = .int .i64 k ∧ s = .int .i64 (indS es k : Nat) ∧ Below w.heap.size w wr) (fun _ i _ => n - (intOf i).toNat)
  case atStart => exact ⟨0, by omega, rfl, rfl, HW2.out⟩
  case round =>
    obtain ⟨k, hk, rfl, rfl, hbw⟩ := hrel
    have HBW := Lib.hid hbw
    clear hbw HW2
    by_cases hlt : k < n
    · obtain ⟨x, hx⟩ : ∃ x, es[k]? = some x := ⟨_, List.getElem?_eq_getElem (by omega)⟩
      obtain ⟨x0, x1⟩ := HPL.out x (List.mem_of_getElem? hx)
      have HSX := Lib.hid (indS_succ hx)
      have HX := Lib.hid hx
      have i1 := indS_le es k
      have i2 := sq_le (show k ≤ 60 by omega)
      have hS : indS es k ≤ 3600 := by omega
      clear hx i1 i2
      generalize indS es k = S0 at hS HSX ⊢
      go_wp2_with fail
      go_loopw [5, 7] (fun s i wr => ∃ j : Nat, j ≤ k ∧ i = .int .i64 j ∧ s = .int .i64 ((S0 : Nat) + (indAt es x j : Nat)) ∧ Below w.heap.size w wr) (fun _ i _ => k - (intOf i).toNat)
      case atStart => exact ⟨0, by omega, rfl, by simp [indAt], HBW.out⟩
      case round =>
        clear HBW
        obtain ⟨j, hj, rfl, rfl, hbw⟩ := hrel
        have HBW5 := Lib.hid hbw
        clear hbw
        have hI := indAt_le es x j
        by_cases hltj : j < k
        · obtain ⟨ad, y, e1, hy, d0, d1, d2, d3, d4, d5⟩ := eat_rg (HL.out.on HBW5.out) (k := j) (by omega)
          obtain ⟨ad', x', e1', hx', q0, q1, q2, q3, q4, q5⟩ := eat_rg (HL.out.on HBW5.out) (k := k) (by omega)
          obtain rfl : ad = ad' := Option.some.inj (e1.symm.trans e1')
          obtain rfl : x = x' := Option.some.inj (HX.out.symm.trans hx')
          have X := fun w => ix22 (n := n) (c := c) e1 (show j < n by omega) w
          have Y := fun w => ix22 (n := n) (c := c) e1 hlt w
          obtain ⟨y0, y1⟩ := HPL.out y (List.mem_of_getElem? hy)
          have HIN := Lib.hid (indAt_succ (x := x) (take_succ_of hy))
          have Q0 : Hid (∀ w4, Below wr.heap.size wr w4 → Calls Try.prog 52 #[eval_ x, eval_ y] w4 fun r w' => r = .returned (.bool (sawE x y)) ∧ Below w4.heap.size w4 w') := Lib.hid fun w4 _ => seen_any x y w4 y0 y1
          have Q1 : Hid (∀ w4, Below wr.heap.size wr w4 → Calls Try.prog 52 #[eval_ y, eval_ x] w4 fun r w' => r = .returned (.bool (sawE y x)) ∧ Below w4.heap.size w4 w') := Lib.hid fun w4 _ => seen_any y x w4 x0 x1
          have hjn : j < n := by omega
          clear hy e1 e1' hx'
          generalize indAt es x j = I0 at hI HIN ⊢
          have HII : Hid (indB x y = (!sawE x y && !sawE y x)) := Lib.hid rfl
          rcases Bool.eq_false_or_eq_true (sawE x y) with hs | hs
          all_goals
            rw [hs] at HII Q0
            clear hs
          · have HI := Lib.hid (show indB x y = false by rw [HII.out]; rfl)
            go_wp2_with fail
            refine wp_region_qb mixed (by kernel_rfl) ?_
            repeat (go_big_quiet_step (first | with_reducible exact rg_call Q0.out _ _ | with_reducible exact rg_call Q1.out _ _))
            refine wpQuiet_nil ?_
            intro w5 hb5
            have HW5 := Lib.hid (below_trans' HBW5.out hb5)
            clear hb5 d0 d1 d2 d3 d4 d5 q0 q1 q2 q3 q4 q5 X Y
            go_wp2_with fail
            go_roundw
            case rel => exact ⟨j + 1, by omega, by go_num, by rw [HIN.out, HI.out]; simp, HW5.out⟩
            case measure => simp [intOf]; omega
          · rcases Bool.eq_false_or_eq_true (sawE y x) with hs | hs
            all_goals
              rw [hs] at HII Q1
              clear hs
            · have HI := Lib.hid (show indB x y = false by rw [HII.out]; rfl)
              go_wp2_with fail
              refine wp_region_qb mixed (by kernel_rfl) ?_
              repeat (go_big_quiet_step (first | with_reducible exact rg_call Q0.out _ _ | with_reducible exact rg_call Q1.out _ _))
              refine wpQuiet_nil ?_
              intro w5 hb5
              have HW5 := Lib.hid (below_trans' HBW5.out hb5)
              clear hb5 d0 d1 d2 d3 d4 d5 q0 q1 q2 q3 q4 q5 X Y
              go_wp2_with fail
              go_roundw
              case rel => exact ⟨j + 1, by omega, by go_num, by rw [HIN.out, HI.out]; simp, HW5.out⟩
              case measure => simp [intOf]; omega
            · have HI := Lib.hid (show indB x y = true by rw [HII.out]; rfl)
              go_wp2_with fail
              refine wp_region_qb mixed (by kernel_rfl) ?_
              repeat (go_big_quiet_step (first | with_reducible exact rg_call Q0.out _ _ | with_reducible exact rg_call Q1.out _ _))
              refine wpQuiet_nil ?_
              intro w5 hb5
              have HW5 := Lib.hid (below_trans' HBW5.out hb5)
              clear hb5 d0 d1 d2 d3 d4 d5 q0 q1 q2 q3 q4 q5 X Y
              go_wp2_with fail
              go_roundw
              case rel => exact ⟨j + 1, by omega, by go_num, by rw [HIN.out, HI.out]; simp; omega, HW5.out⟩
              case measure => simp [intOf]; omega
        · obtain rfl : j = k := by omega
          go_wp2_with fail
          go_roundw
          case rel => exact ⟨j + 1, by omega, by go_num, by rw [HSX.out]; simp, HBW5.out⟩
          case measure => simp [intOf]; omega
    · have HF := Lib.hid (show indN es = (indS es k : Nat) by unfold indN; rw [if_pos HV.out, show es.length = k by omega])
      go_wp2_with fail
      go_ret2
      exact ⟨by rw [HF.out, HV.out]; rfl, HBW.out⟩
set_option maxRecDepth 100000 in
/-- The reference's Same: whether two lists are equal. -/
theorem same_any (A B : Option Addr) (n m c d : Nat) (es fs : List Ent) (w : World) (hl : Reads w w.heap.size 6 A n (ents es)) (hm : Reads w w.heap.size 6 B m (ents fs)) (_hn : n ≤ 1000000) :
    Calls Try.prog 16 #[.slice A n c, .slice B m d] w fun r w' => r = .returned (.bool (decide (es = fs))) ∧ Below w.heap.size w w' := by
  have hlen := hl.1
  rw [ents_length] at hlen
  have hlen2 := hm.1
  rw [ents_length] at hlen2
  have l1 : n ≤ es.length := by omega
  have l2 : es.length ≤ n := by omega
  have l3 : m ≤ fs.length := by omega
  have l4 : fs.length ≤ m := by omega
  have HL := Lib.hid hl
  have HM := Lib.hid hm
  clear hl hm hlen hlen2
  go_enter Try.func16, Try.ntmps16
  by_cases hne : n = m
  case neg =>
    have HF := Lib.hid (show decide (es = fs) = false by rw [decide_eq_false_iff_not]; intro h; rw [h] at l1 l2; omega)
    have g : ((n : Int) != (m : Int)) = true := by simp; omega
    clear hne
    go_wp2_with fail
    go_ret
    exact ⟨ret_bool HF.out.symm, Below.refl _ _⟩
  have g : ((n : Int) != (m : Int)) = false := by simp [hne]
  have m1 : n ≤ m := by omega
  have m2 : m ≤ n := by omega
  clear hne
  go_wp2_with fail
  go_loopw [5] (fun i wr => ∃ k : Nat, k ≤ n ∧ i = .int .i64 k ∧ es.take k = fs.take k ∧ Below w.heap.size w wr) (fun i _ => n - (intOf i).toNat)
  case atStart => exact ⟨0, by omega, rfl, by simp, Below.refl _ _⟩
  case round =>
    obtain ⟨k, hk, rfl, hno, hbw⟩ := hrel
    have HNO := Lib.hid hno
    have HBW := Lib.hid hbw
    clear hno hbw
    by_cases hlt : k < n
    · obtain ⟨ad, x, e1, hbk, hx, d0, d1, d2, d3, d4, d5⟩ := eat (HL.out.on HBW.out) (k := k) (by omega)
      obtain ⟨ad', y, e1', hbk', hy, q0, q1, q2, q3, q4, q5⟩ := eat (HM.out.on HBW.out) (k := k) (by omega)
      have X := fun w => ix22 (n := n) (c := c) e1 hlt w
      have Y := fun w => ix22 (n := m) (c := d) e1' (show k < m by omega) w
      have g1 := eqg53 .neq
      have g2 := neq53 x y
      have hkm : k < m := by omega
      have HX := Lib.hid hx
      have HY := Lib.hid hy
      clear hx hy e1 e1'
      by_cases hxy : x = y
      · have HT : Hid (es.take (k + 1) = fs.take (k + 1)) := Lib.hid (by rw [take_succ_of HX.out, take_succ_of HY.out, HNO.out, hxy])
        rw [eqN_iff.2 hxy] at g2
        clear hxy
        go_wp2_with fail
        go_quiet (fail)
        go_wp2_with fail
        go_roundw
        case rel => exact ⟨k + 1, by omega, by go_num, HT.out, below_drewN' HBW.out _⟩
        case measure => simp [intOf]; omega
      · have HF : Hid (decide (es = fs) = false) := Lib.hid (by
          rw [decide_eq_false_iff_not]
          intro h
          rw [h] at HX
          exact hxy (Option.some.inj (HX.out.symm.trans HY.out)))
        rw [eqN_not.2 hxy] at g2
        clear hxy
        go_wp2_with fail
        go_quiet (fail)
        go_wp2_with fail
        go_ret
        exact ⟨ret_bool HF.out.symm, below_drewN' HBW.out _⟩
    · have HF : Hid (decide (es = fs) = true) := Lib.hid (by
        rw [decide_eq_true_eq]
        have := HNO.out
        rwa [List.take_of_length_le (by omega), List.take_of_length_le (by omega)] at this)
      go_wp2_with fail
      go_ret
      exact ⟨ret_bool HF.out.symm, HBW.out⟩
end Go.Proofs.Ytlmdmbjdhlgkoaa
