/- Walks: copying and comparing lists of ints; long fields; squares and their indices. -/
import Derived.Test.YtahmdnboeenfkaaW7
namespace Go.Proofs.Ytahmdnboeenfkaa
open Go.RowKit Go.Sort

def RetInts (zs : List Int) (w : World) (r : Ending) (w' : World) : Prop := ∃ A c, r = .returned (.slice A zs.length c) ∧ Reads w' w'.heap.size 1 A zs.length (ints zs) ∧ Below w.heap.size w w' ∧ ∀ p, A = some p → w.heap.size ≤ p.block ∧ p.block < w'.heap.size

theorem copyInts_any (A : Option Addr) (n c : Nat) (ds : List Int) (w : World) (hr : Reads w w.heap.size 1 A n (ints ds)) (hn : n ≤ 1000000) :
    Calls Try.prog 56 #[.slice A n c] w (RetInts ds w) := by
  have hl := hr.len
  rw [ints_length] at hl
  have l1 : n ≤ ds.length := by omega
  have l2 : ds.length ≤ n := by omega
  clear hl
  go_enter Try.func56, Try.ntmps56
  go_wp2_with fail
  go_loopw [3, 4] (fun out i wr => ∃ k : Nat, k ≤ n ∧ i = .int .i64 k ∧ OwnI w wr out (ds.take k)) (fun _ i _ => n - (intOf i).toNat)
  case atStart => exact ⟨0, by omega, rfl, by simpa using OwnI.nil w⟩
  case round =>
    obtain ⟨k, hk, rfl, hown0⟩ := hrel
    have hown := Lib.hid hown0
    by_cases hlt : k < n
    · obtain ⟨ad, z, e1, hbk, hz0, d0⟩ := dsat (hr.on hown0.bel) (k := k) (by omega)
      have hz := Lib.hid hz0
      have X := fun w => ix22 (c := c) e1 hlt w
      have hlen : (ds.take k).length < 1000000000 := by rw [List.length_take]; omega
      clear hz0 hown0 e1
      go_wp2_with (at_builtin; refine wpList_pushI rfl _ _ rfl w _ _ (ds.take k) z _ rfl (hown.out.on (belowA _ _)) rfl (Box.new _ _ _) hlen ?_; intro v' w' hown'; have hown5 := Lib.hid hown'; clear hown')
      go_roundw
      case rel => exact ⟨k + 1, by omega, by go_num, by rw [take_succ_of hz.out]; exact hown5.out⟩
      case measure => simp [intOf]; omega
    · obtain ⟨A', c', hv, hr'⟩ := hown0.form
      have hfr : ∀ p, A' = some p → w.heap.size ≤ p.block ∧ p.block < wr.heap.size := fun p hp => hown0.row.lt p.block (by rw [hv, hp]; rfl)
      have HFR := Lib.hid hfr
      clear hfr
      have HR := Lib.hid hr'
      have hT := Lib.hid (show ds.take k = ds from List.take_of_length_le (by omega))
      clear hr' hown0
      subst hv
      go_wp2_with fail
      go_ret
      rw [hT.out] at HR
      refine ⟨A', c', ?_, HR.out, hown.out.bel, HFR.out⟩
      rw [hT.out]; rfl

theorem sameInts_any (A B : Option Addr) (n c m d : Nat) (xs ys : List Int) (w : World) (hx : Reads w w.heap.size 1 A n (ints xs)) (hy : Reads w w.heap.size 1 B m (ints ys)) (hn : n ≤ 9223372036854775807) :
    Calls Try.prog 66 #[.slice A n c, .slice B m d] w fun r w' => r = .returned (.bool (decide (xs = ys))) ∧ Below w.heap.size w w' := by
  have hl := hx.len
  rw [ints_length] at hl
  have hl' := hy.len
  rw [ints_length] at hl'
  have l1 : n ≤ xs.length := by omega
  have l2 : xs.length ≤ n := by omega
  have l3 : m ≤ ys.length := by omega
  have l4 : ys.length ≤ m := by omega
  clear hl hl'
  by_cases hnm : n = m
  · subst hnm
    have hb : ((n : Int) != (n : Int)) = false := by simp
    go_enter Try.func66, Try.ntmps66
    go_wp2_with fail
    go_loopw [5] (fun i wr => ∃ k : Nat, k ≤ n ∧ i = .int .i64 k ∧ (∀ j, j < k → xs[j]? = ys[j]?) ∧ Below w.heap.size w wr) (fun i _ => n - (intOf i).toNat)
    case atStart => exact ⟨0, by omega, rfl, fun j hj => absurd hj (by omega), Below.refl _ _⟩
    case round =>
      obtain ⟨k, hk, rfl, heq0, hb0⟩ := hrel
      have heq := Lib.hid heq0
      have hbel := Lib.hid hb0
      clear heq0
      by_cases hlt : k < n
      · obtain ⟨ad, z, e1, hbk, hz0, d0⟩ := dsat (hx.on hb0) (k := k) (by omega)
        obtain ⟨ad', z', e1', hbk', hz0', d0'⟩ := dsat (hy.on hb0) (k := k) (by omega)
        have hz := Lib.hid hz0
        have hz' := Lib.hid hz0'
        have X := fun w => ix22 (c := c) e1 hlt w
        have X' := fun w => ix22 (c := d) e1' hlt w
        clear hz0 hz0' hb0 e1 e1'
        by_cases hzz : z = z'
        · subst hzz
          go_wp2_with fail
          go_quiet (fail)
          go_wp2_with fail
          go_roundw
          case rel =>
            refine ⟨k + 1, by omega, by go_num, fun j hj => ?_, below_drewN' hbel.out _⟩
            rcases Nat.lt_or_ge j k with h | h
            · exact heq.out j h
            · obtain rfl : j = k := by omega
              rw [hz.out, hz'.out]
          case measure => simp [intOf]; omega
        · have hq : (z != z') = true := by simpa using hzz
          have HQ := Lib.hid hzz
          clear hzz
          go_wp2_with fail
          go_quiet (fail)
          go_wp2_with fail
          go_ret
          refine ⟨ret_bool ?_, below_drewN' hbel.out _⟩
          symm
          rw [decide_eq_false_iff_not]
          intro h
          have h1 := hz.out
          rw [h, hz'.out] at h1
          exact HQ.out (Option.some.inj h1).symm
      · clear hb0
        go_wp2_with fail
        go_ret
        refine ⟨ret_bool ?_, hbel.out⟩
        symm
        rw [decide_eq_true_eq]
        apply List.ext_getElem?
        intro j
        rcases Nat.lt_or_ge j k with h | h
        · exact heq.out j h
        · rw [List.getElem?_eq_none (by omega), List.getElem?_eq_none (by omega)]
  · have hb : ((n : Int) != (m : Int)) = true := by rw [bne_iff_ne]; omega
    have hne := Lib.hid (show ¬ xs = ys by rintro rfl; omega)
    clear hnm
    go_enter Try.func66, Try.ntmps66
    go_wp2_with fail
    go_ret
    exact ⟨ret_bool (by rw [decide_eq_false hne.out]), Below.refl _ _⟩

def longF (f : Fld) : Bool := decide (400 < f.ds.length ∨ 200 < f.ps.length)
theorem long_any (v : FV) (w : World) (hv : v.In w) : Calls Try.prog 17 #[v.val] w fun r w' => r = .returned (.bool (longF v.f)) ∧ Below w.heap.size w w' := by
  obtain ⟨l1, l2⟩ := hv.l1
  obtain ⟨l3, l4⟩ := hv.l2
  have hnb := hv.nb
  have hmb := hv.mb
  by_cases h : 400 < v.n
  · have hf := Lib.hid (show longF v.f = true by unfold longF; rw [decide_eq_true_eq]; omega)
    go_enter Try.func17, Try.ntmps17
    dsimp only [FV.val]
    go_wp2_with fail
    go_ret
    exact ⟨ret_bool hf.out.symm, belowA _ _⟩
  · by_cases h2 : 200 < v.m
    · have hf := Lib.hid (show longF v.f = true by unfold longF; rw [decide_eq_true_eq]; omega)
      go_enter Try.func17, Try.ntmps17
      dsimp only [FV.val]
      go_wp2_with fail
      go_ret
      exact ⟨ret_bool (by rw [hf.out]; simp; omega), belowA _ _⟩
    · have hf := Lib.hid (show longF v.f = false by unfold longF; rw [decide_eq_false_iff_not]; omega)
      go_enter Try.func17, Try.ntmps17
      dsimp only [FV.val]
      go_wp2_with fail
      go_ret
      exact ⟨ret_bool (by rw [hf.out]; simp; omega), belowA _ _⟩

theorem hasSquare_any (v : FV) (x y : Int) (w : World) (h1 : 1 ≤ v.f.W) (h2 : v.f.W ≤ 12) (h3 : 1 ≤ v.f.H) (h4 : v.f.H ≤ 12) :
    Calls Try.prog 67 #[v.val, .int .i64 x, .int .i64 y] w fun r w' => r = .returned (.bool (isS v.f.W v.f.H x y)) ∧ Below w.heap.size w w' := by
  go_enter Try.func67, Try.ntmps67
  dsimp only [FV.val]
  go_wp2_with fail
  all_goals go_ret
  all_goals refine ⟨ret_bool ?_, belowA _ _⟩
  all_goals (go_light; rw [Bool.eq_iff_iff]; simp only [isS, decide_eq_true_eq, Bool.false_eq_true, false_iff] at *; omega)
theorem has_any (v : FV) (x y : Int) (w : World) :
    Calls Try.prog 71 #[v.val, .int .i64 x, .int .i64 y] w fun r w' => r = .returned (.bool (isP v.f.W v.f.H x y)) ∧ Below w.heap.size w w' := by
  go_enter Try.func71, Try.ntmps71
  dsimp only [FV.val]
  go_wp2_with fail
  all_goals go_ret
  all_goals refine ⟨ret_bool ?_, belowA _ _⟩
  all_goals (go_light; rw [Bool.eq_iff_iff]; simp only [isP, decide_eq_true_eq, Bool.false_eq_true, false_iff] at *; omega)
end Go.Proofs.Ytahmdnboeenfkaa
