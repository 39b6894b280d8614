/- Walks: copying and comparing lists of ints; long fields; squares and their indices. -/
import Derived.Test.YtfaleddacmbidaaDoorW7
namespace Go.Proofs.YtfaleddacmbidaaDoor
open Go.RowKit Go.Sort

def RetInts (zs : List Int) (w : World) (r : Ending) (w' : World) : Prop := ∃ A c, r = .returned (.slice A zs.length c) ∧ Reads w' w'.heap.size 1 A zs.length (ints zs) ∧ Below w.heap.size w w' ∧ ∀ p, A = some p → w.heap.size ≤ p.block ∧ p.block < w'.heap.size

theorem sameInts_any (A B : Option Addr) (n c m d : Nat) (xs ys : List Int) (w : World) (hx : Reads w w.heap.size 1 A n (ints xs)) (hy : Reads w w.heap.size 1 B m (ints ys)) (hn : n ≤ 9223372036854775807) :
    Calls Tryd.prog 25 #[.slice A n c, .slice B m d] w fun r w' => r = .returned (.bool (decide (xs = ys))) ∧ Below w.heap.size w w' := by
  have hl := hx.len
  rw [ints_length] at hl
  have hl' := hy.len
  rw [ints_length] at hl'
  have l1 : n ≤ xs.length := by omega
  have l2 : xs.length ≤ n := by omega
  have l3 : m ≤ ys.length := by omega
  have l4 : ys.length ≤ m := by omega
  clear hl hl'
  by_cases hnm : n = m
  · subst hnm
    have hb : ((n : Int) != (n : Int)) = false := by simp
    go_enter Tryd.func25, Tryd.ntmps25
    go_wp2_with fail
    go_loopw [5] (fun i wr => ∃ k : Nat, k ≤ n ∧ i = .int .i64 k ∧ (∀ j, j < k → xs[j]? = ys[j]?) ∧ Below w.heap.size w wr) (fun i _ => n - (intOf i).toNat)
    case atStart => exact ⟨0, by omega, rfl, fun j hj => absurd hj (by omega), Below.refl _ _⟩
    case round =>
      obtain ⟨k, hk, rfl, heq0, hb0⟩ := hrel
      have heq := Lib.hid heq0
      have hbel := Lib.hid hb0
      clear heq0
      by_cases hlt : k < n
      · obtain ⟨ad, z, e1, hbk, hz0, d0⟩ := dsat (hx.on hb0) (k := k) (by omega)
        obtain ⟨ad', z', e1', hbk', hz0', d0'⟩ := dsat (hy.on hb0) (k := k) (by omega)
        have hz := Lib.hid hz0
        have hz' := Lib.hid hz0'
        have X := fun w => ix22 (c := c) e1 hlt w
        have X' := fun w => ix22 (c := d) e1' hlt w
        clear hz0 hz0' hb0 e1 e1'
        by_cases hzz : z = z'
        · subst hzz
          go_wp2_with fail
          go_quiet (fail)
          go_wp2_with fail
          go_roundw
          case rel =>
            refine ⟨k + 1, by omega, by go_num, fun j hj => ?_, below_drewN' hbel.out _⟩
            rcases Nat.lt_or_ge j k with h | h
            · exact heq.out j h
            · obtain rfl : j = k := by omega
              rw [hz.out, hz'.out]
          case measure => simp [intOf]; omega
        · have hq : (z != z') = true := by simpa using hzz
          have HQ := Lib.hid hzz
          clear hzz
          go_wp2_with fail
          go_quiet (fail)
          go_wp2_with fail
          go_ret
          refine ⟨ret_bool ?_, below_drewN' hbel.out _⟩
          symm
          rw [decide_eq_false_iff_not]
          intro h
          have h1 := hz.out
          rw [h, hz'.out] at h1
          exact HQ.out (Option.some.inj h1).symm
      · clear hb0
        go_wp2_with fail
        go_ret
        refine ⟨ret_bool ?_, hbel.out⟩
        symm
        rw [decide_eq_true_eq]
        apply List.ext_getElem?
        intro j
        rcases Nat.lt_or_ge j k with h | h
        · exact heq.out j h
        · rw [List.getElem?_eq_none (by omega), List.getElem?_eq_none (by omega)]
  · have hb : ((n : Int) != (m : Int)) = true := by rw [bne_iff_ne]; omega
    have hne := Lib.hid (show ¬ xs = ys by rintro rfl; omega)
    clear hnm
    go_enter Tryd.func25, Tryd.ntmps25
    go_wp2_with fail
    go_ret
    exact ⟨ret_bool (by rw [decide_eq_false hne.out]), Below.refl _ _⟩

def longF (f : Fld) : Bool := decide (400 < f.ds.length ∨ 200 < f.ps.length)
theorem long_any (v : FV) (w : World) (hv : v.In w) : Calls Tryd.prog 4 #[v.val] w fun r w' => r = .returned (.bool (longF v.f)) ∧ Below w.heap.size w w' := by
  obtain ⟨l1, l2⟩ := hv.l1
  obtain ⟨l3, l4⟩ := hv.l2
  have hnb := hv.nb
  have hmb := hv.mb
  by_cases h : 400 < v.n
  · have hf := Lib.hid (show longF v.f = true by unfold longF; rw [decide_eq_true_eq]; omega)
    go_enter Tryd.func4, Tryd.ntmps4
    dsimp only [FV.val]
    go_wp2_with fail
    go_ret
    exact ⟨ret_bool hf.out.symm, belowA _ _⟩
  · by_cases h2 : 200 < v.m
    · have hf := Lib.hid (show longF v.f = true by unfold longF; rw [decide_eq_true_eq]; omega)
      go_enter Tryd.func4, Tryd.ntmps4
      dsimp only [FV.val]
      go_wp2_with fail
      go_ret
      exact ⟨ret_bool (by rw [hf.out]; simp; omega), belowA _ _⟩
    · have hf := Lib.hid (show longF v.f = false by unfold longF; rw [decide_eq_false_iff_not]; omega)
      go_enter Tryd.func4, Tryd.ntmps4
      dsimp only [FV.val]
      go_wp2_with fail
      go_ret
      exact ⟨ret_bool (by rw [hf.out]; simp; omega), belowA _ _⟩

theorem hasSquare_any (v : FV) (x y : Int) (w : World) (h1 : 1 ≤ v.f.W) (h2 : v.f.W ≤ 12) (h3 : 1 ≤ v.f.H) (h4 : v.f.H ≤ 12) :
    Calls Tryd.prog 26 #[v.val, .int .i64 x, .int .i64 y] w fun r w' => r = .returned (.bool (isS v.f.W v.f.H x y)) ∧ Below w.heap.size w w' := by
  go_enter Tryd.func26, Tryd.ntmps26
  dsimp only [FV.val]
  go_wp2_with fail
  all_goals go_ret
  all_goals refine ⟨ret_bool ?_, belowA _ _⟩
  all_goals (go_light; rw [Bool.eq_iff_iff]; simp only [isS, decide_eq_true_eq, Bool.false_eq_true, false_iff] at *; omega)
end Go.Proofs.YtfaleddacmbidaaDoor
