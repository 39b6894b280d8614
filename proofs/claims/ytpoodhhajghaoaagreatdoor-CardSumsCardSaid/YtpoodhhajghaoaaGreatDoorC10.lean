/- Walks: independent pairs, both sides; equal lists. -/
import Derived.Test.YtpoodhhajghaoaaGreatDoorC9
namespace Go.Proofs.YtpoodhhajghaoaaGreatDoor
open Go.RowKit Go.Sort

def indB (x y : Ent) : Bool := !sawE x y && !sawE y x
def indAt (es : List Ent) (x : Ent) (j : Nat) : Nat := ((es.take j).filter (indB x)).length
theorem indAt_succ {es : List Ent} {x y : Ent} {j : Nat} (h : es.take (j + 1) = es.take j ++ [y]) : indAt es x (j + 1) = indAt es x j + if indB x y = true then 1 else 0 := by
  unfold indAt
  rw [h, List.filter_append, List.length_append]
  by_cases hb : indB x y = true <;> simp [hb]
theorem indAt_le (es : List Ent) (x : Ent) (j : Nat) : indAt es x j ≤ j := by
  unfold indAt
  have := List.length_filter_le (indB x) (es.take j)
  have := List.length_take_le j es
  omega
/-- The number of independent pairs among the first k entries. -/
def indS (es : List Ent) : Nat → Nat
  | 0 => 0
  | k + 1 => indS es k + indAt es (es.getD k default) k
theorem indS_le (es : List Ent) (k : Nat) : indS es k ≤ k * k := by
  induction k with
  | zero => exact Nat.le_refl _
  | succ k ih =>
    have := indAt_le es (es.getD k default) k
    unfold indS
    have e : (k + 1) * (k + 1) = k * k + 2 * k + 1 := by rw [Nat.add_mul, Nat.mul_add]; omega
    omega
theorem indS_succ {es : List Ent} {x : Ent} {k : Nat} (h : es[k]? = some x) : indS es (k + 1) = indS es k + indAt es x k := by
  show indS es k + indAt es (es.getD k default) k = _
  rw [List.getD_eq_getElem?_getD, h]; rfl
def indN (es : List Ent) : Int := if val es = 0 then (indS es es.length : Nat) else 0
theorem sq_le {k : Nat} (h : k ≤ 60) : k * k ≤ 3600 := Nat.le_trans (Nat.mul_le_mul h h) (by omega)
set_option maxRecDepth 100000 in
set_option maxHeartbeats 4000000 in
theorem indep_any (A : Option Addr) (n c : Nat) (es : List Ent) (w : World) (hl : Reads w w.heap.size 6 A n (ents es)) (hn : n ≤ 1000000) (hnc : n ≤ c) (ht : shortT es) :
    Calls Tryz.prog 12 #[.slice A n c] w fun r w' => r = .returned (.tuple #[.int .i64 (indN es), .int .i64 (val es)]) ∧ Below w.heap.size w w' := by
  have hlen := hl.1
  rw [ents_length] at hlen
  have l1 : n ≤ es.length := by omega
  have l2 : es.length ≤ n := by omega
  have HL := Lib.hid hl
  have HS := Lib.hid ht
  clear hl ht hlen
  go_enter Tryz.func12, Tryz.ntmps12
  go_wp2_with fail
  with_reducible refine (validate_any A n c es _ HL.out hn HS.out).mono ?_
  rintro _ w2 ⟨rfl, hb2⟩
  have HW2 := Lib.hid hb2
  clear hb2
  by_cases hv : val es = 0
  case neg =>
    have HV := Lib.hid (show indN es = 0 from if_neg hv)
    have g := neB hv
    clear hv
    go_wp2_with fail
    go_ret2
    exact ⟨by rw [HV.out]; rfl, HW2.out⟩
  have HV := Lib.hid hv
  have g := neBf hv
  have HPL := Lib.hid (pl_of hv)
  have hsm : es.length ≤ 60 := (val_zero.1 hv).len
  have hn60 : n ≤ 60 := by omega
  clear hv
  go_wp2_with fail
  go_loopw [5, 17] (fun s i wr => ∃ k : Nat, k ≤ n ∧ i = .int .i64 k ∧ s = .int .i64 (indS es k : Nat) ∧ Below w.heap.size w wr) (fun _ i _ => n - (intOf i).toNat)
  case atStart => exact ⟨0, by omega, rfl, rfl, HW2.out⟩
  case round =>
    obtain ⟨k, hk, rfl, rfl, hbw⟩ := hrel
    have HBW := Lib.hid hbw
    clear hbw HW2
    by_cases hlt : k < n
    · obtain ⟨ad, x, e1, hbk, hx, d0, d1, d2, d3, d4, d5⟩ := eat (HL.out.below HBW.out) (k := k) (by omega)
      have X := fun w => ix22 (c := c) e1 hlt w
      obtain ⟨x0, x1⟩ := HPL.out x (List.mem_of_getElem? hx)
      have HSX := Lib.hid (indS_succ hx)
      have i1 := indS_le es k
      have i2 := sq_le (show k ≤ 60 by omega)
      have hS : indS es k ≤ 3600 := by omega
      have hkc : k ≤ c := by omega
      clear hx e1 i1 i2
      generalize indS es k = S0 at hS HSX ⊢
      have cb := fun o => (Box.new wr #[.int .i64 x.1, .int .i64 x.2.1, .int .i64 x.2.2.1.1, .int .i64 x.2.2.1.2.1, .int .i64 x.2.2.1.2.2, .string x.2.2.2] o).at
      go_wp2_with fail
      refine gen_at (fun W => Box W wr.heap.size #[.int .i64 x.1, .int .i64 x.2.1, .int .i64 x.2.2.1.1, .int .i64 x.2.2.1.2.1, .int .i64 x.2.2.1.2.2, .string x.2.2.2] ∧ Below w.heap.size w W) ⟨Box.new _ _ _, below_trans' HBW.out (belowA _ _)⟩ ?_
      rintro w4 ⟨bx0, hb4⟩
      have HW4 := Lib.hid hb4
      generalize wr.heap.size = bX at bx0 ⊢
      clear hb4 d0 d1 d2 d3 d4 d5 X cb
      go_loopw [5, 26] (fun s i wr => ∃ j : Nat, j ≤ k ∧ i = .int .i64 j ∧ s = .int .i64 ((S0 : Nat) + (indAt es x j : Nat)) ∧ Box wr bX #[.int .i64 x.1, .int .i64 x.2.1, .int .i64 x.2.2.1.1, .int .i64 x.2.2.1.2.1, .int .i64 x.2.2.1.2.2, .string x.2.2.2] ∧ Below w.heap.size w wr) (fun _ i _ => k - (intOf i).toNat)
      case atStart => exact ⟨0, by omega, rfl, by simp [indAt], bx0, HW4.out⟩
      case round =>
        clear bx0 HW4
        obtain ⟨j, hj, rfl, rfl, bx, hbw⟩ := hrel
        have HBW5 := Lib.hid hbw
        clear hbw
        have hI := indAt_le es x j
        by_cases hltj : j < k
        · obtain ⟨ad, y, e1, hbk, hy, d0, d1, d2, d3, d4, d5⟩ := eat (HL.out.below HBW5.out) (k := j) (by omega)
          have X := fun w => ix22 (n := k) (c := c) e1 hltj w
          obtain ⟨y0, y1⟩ := HPL.out y (List.mem_of_getElem? hy)
          have HIN := Lib.hid (indAt_succ (x := x) (take_succ_of hy))
          clear hy e1
          generalize indAt es x j = I0 at hI HIN ⊢
          have cx := fun o => (bx.alloc (.cells #[.int .i64 y.1, .int .i64 y.2.1, .int .i64 y.2.2.1.1, .int .i64 y.2.2.1.2.1, .int .i64 y.2.2.1.2.2, .string y.2.2.2] o)).at
          have cy := fun o => (Box.new wr #[.int .i64 y.1, .int .i64 y.2.1, .int .i64 y.2.2.1.1, .int .i64 y.2.2.1.2.1, .int .i64 y.2.2.1.2.2, .string y.2.2.2] o).at
          go_wp2_with fail
          with_reducible refine (saw_any x y _ y0 y1).mono ?_
          rintro _ w5 ⟨rfl, hb5⟩
          have bx5 := (bx.alloc _).below hb5
          have by5 := (Box.new wr #[.int .i64 y.1, .int .i64 y.2.1, .int .i64 y.2.2.1.1, .int .i64 y.2.2.1.2.1, .int .i64 y.2.2.1.2.2, .string y.2.2.2] 38).below hb5
          have HW5 := Lib.hid (below_trans' HBW5.out (below1 _ hb5))
          generalize wr.heap.size = bY at by5 ⊢
          clear cx cy d0 d1 d2 d3 d4 d5 X hb5 bx
          by_cases hs : sawE x y = true
          · have HI := Lib.hid (show indB x y = false by unfold indB; rw [hs]; rfl)
            rw [hs]
            clear hs
            go_wp2_with fail
            go_roundw
            case rel => exact ⟨j + 1, by omega, by go_num, by rw [HIN.out, HI.out]; simp, bx5, HW5.out⟩
            case measure => simp [intOf]; omega
          · replace hs : sawE x y = false := by simpa using hs
            rw [hs]
            have HS1 := Lib.hid hs
            clear hs
            have cx := bx5.at
            have cy := by5.at
            go_wp2_with fail
            with_reducible refine (saw_any y x _ x0 x1).mono ?_
            rintro _ w6 ⟨rfl, hb6⟩
            have bx6 := bx5.below hb6
            have HW6 := Lib.hid (below_trans' HW5.out hb6)
            clear cx cy hb6 bx5 by5
            by_cases hs : sawE y x = true
            · have HI := Lib.hid (show indB x y = false by unfold indB; rw [hs, HS1.out]; rfl)
              rw [hs]
              clear hs
              go_wp2_with fail
              go_roundw
              case rel => exact ⟨j + 1, by omega, by go_num, by rw [HIN.out, HI.out]; simp, bx6, HW6.out⟩
              case measure => simp [intOf]; omega
            · replace hs : sawE y x = false := by simpa using hs
              have HI := Lib.hid (show indB x y = true by unfold indB; rw [hs, HS1.out]; rfl)
              rw [hs]
              clear hs
              go_wp2_with fail
              go_roundw
              case rel => exact ⟨j + 1, by omega, by go_num, by rw [HIN.out, HI.out]; simp; omega, bx6, HW6.out⟩
              case measure => simp [intOf]; omega
        · obtain rfl : j = k := by omega
          go_wp2_with fail
          go_roundw
          case rel => exact ⟨j + 1, by omega, by go_num, by rw [HSX.out]; simp, HBW5.out⟩
          case measure => simp [intOf]; omega
    · have HF := Lib.hid (show indN es = (indS es k : Nat) by unfold indN; rw [if_pos HV.out, show es.length = k by omega])
      go_wp2_with fail
      go_ret2
      exact ⟨by rw [HF.out, HV.out]; rfl, HBW.out⟩
end Go.Proofs.YtpoodhhajghaoaaGreatDoor
