/- Walks: the smallest functions of both sides. -/
import Derived.Test.YtfaleddacmbidaaDoorTb
namespace Go.Proofs.YtfaleddacmbidaaDoor
open Go.RowKit Go.Sort

theorem within_any (n lo hi : Int) (w : World) : Calls Tryd.prog 34 #[.int .i64 n, .int .i64 lo, .int .i64 hi] w fun e w' =>
    e = .returned (.bool (decide (lo ≤ n ∧ n ≤ hi))) ∧ w = w' := by
  by_cases h : lo ≤ n
  all_goals
    go_enter Tryd.func34, Tryd.ntmps34
    go_wp2
    go_ret
    exact ⟨ret_bool (by rw [Bool.eq_iff_iff]; simp; try omega), rfl⟩

theorem tmod8 (n : Int) : n.tmod 8 = if 0 ≤ n then n % 8 else -((-n) % 8) := by
  split
  · rename_i h; exact Int.tmod_eq_emod_of_nonneg h
  · rename_i h
    have e : n.tmod 8 = -((-n).tmod 8) := by rw [Int.neg_tmod]; omega
    rw [e, Int.tmod_eq_emod_of_nonneg (by omega)]
theorem mod_any (n : Int) (w : World) : Calls Tryd.prog 47 #[.int .i64 n] w fun e w' => e = .returned (.int .i64 (n % 8)) ∧ w = w' := by
  have b1 : -8 < n.tmod 8 := by rw [tmod8]; split <;> omega
  have b2 : n.tmod 8 < 8 := by rw [tmod8]; split <;> omega
  have e1 : (n.tmod 8 + 8) % 8 = n % 8 := by rw [tmod8]; split <;> omega
  have E := Lib.hid e1
  clear e1
  go_enter Tryd.func47, Tryd.ntmps47
  go_wp2
  go_ret
  exact ⟨ret_int E.out, rfl⟩

theorem isNaN_any (n : Int) (w : World) : Calls Tryd.prog 60 #[.int .i64 n] w fun e w' => e = .returned (.bool false) ∧ w = w' := by
  go_enter Tryd.func60, Tryd.ntmps60
  go_wp2
  go_ret
  exact ⟨by simp, rfl⟩

theorem cmpI_any (a b : Int) (w : World) : Calls Tryd.prog 44 #[.int .i64 a, .int .i64 b] w fun e w' => e = .returned (.int .i64 (cmpI a b)) ∧ w = w' := by
  go_enter Tryd.func44, Tryd.ntmps44
  go_wp2_with (go_at_call 60; refine (isNaN_any _ _).mono ?_; rintro e w' ⟨rfl, rfl⟩)
  all_goals go_ret
  all_goals exact ⟨ret_int (by unfold cmpI; split <;> (try split) <;> omega), rfl⟩

theorem or_any (A : Option Addr) (n c : Nat) (zs : List Int) (w : World) (hr : Reads w w.heap.size 1 A n (ints zs)) (hn : n ≤ 9223372036854775807) :
    Calls Tryd.prog 43 #[.slice A n c] w fun e w' => e = .returned (.int .i64 (or0 zs)) ∧ w = w' := by
  have hl := hr.1
  rw [ints_length] at hl
  have l1 : n ≤ zs.length := by omega
  have l2 : zs.length ≤ n := by omega
  clear hl
  go_enter Tryd.func43, Tryd.ntmps43
  go_wp2
  go_loop [8] (fun i => ∃ k : Nat, k ≤ n ∧ i = .int .i64 k ∧ or0 zs = or0 (zs.drop k)) (fun i => n - (intOf i).toNat)
  case atStart => exact ⟨0, by omega, rfl, rfl⟩
  case round =>
    obtain ⟨k, hk, rfl, hno0⟩ := hrel
    have hno := Lib.hid hno0
    clear hno0
    by_cases hlt : k < n
    · obtain ⟨ad, z, e1, hbk, hx0, c0⟩ := dsat hr (k := k) (by omega)
      have hx := Lib.hid hx0
      clear hx0
      have hd : zs.drop k = z :: zs.drop (k + 1) := by
        have hlt' : k < zs.length := by omega
        rw [List.drop_eq_getElem_cons hlt']
        have := hx.out
        rw [List.getElem?_eq_getElem hlt'] at this
        rw [Option.some.inj this]
      have hD := Lib.hid hd
      clear hd
      by_cases hz : z = 0
      · subst hz
        go_wp2
        go_round
        case rel => exact ⟨k + 1, by omega, by go_num, by rw [hno.out, hD.out]; simp [or0]⟩
        case measure => simp [intOf]; omega
      · have hz1 : (z != 0) = true := by simpa using hz
        have hf := Lib.hid (show or0 zs = z by rw [hno.out, hD.out]; simp [or0, hz])
        go_wp2
        go_ret
        exact ⟨ret_int hf.out.symm, rfl⟩
    · have hf := Lib.hid (show or0 zs = 0 by rw [hno.out, List.drop_eq_nil_of_le (by omega)]; rfl)
      go_wp2
      go_ret
      exact ⟨ret_int hf.out.symm, rfl⟩

theorem hasEdge_any (v : FV) (e : Edg) (w : World) (h1 : 1 ≤ v.f.W) (h2 : v.f.W ≤ 24) (h3 : 1 ≤ v.f.H) (h4 : v.f.H ≤ 24) :
    Calls Tryd.prog 28 #[v.val, eval_ e] w fun r w' => r = .returned (.bool (isE v.f.W v.f.H e)) ∧ Below w.heap.size w w' := by
  go_enter Tryd.func28, Tryd.ntmps28
  dsimp only [FV.val, eval_]
  go_wp2
  all_goals go_ret
  all_goals refine ⟨ret_bool ?_, belowAA _ _ _⟩
  all_goals (go_light; rw [Bool.eq_iff_iff]; simp only [isE, beq_iff_eq, beq_eq_false_iff_ne, decide_eq_true_eq, Bool.false_eq_true, false_iff] at *; omega)

theorem before_any (a b : Edg) (w : World) :
    Calls Tryd.prog 36 #[eval_ a, eval_ b] w fun r w' => r = .returned (.bool (decide (ltE a b))) ∧ Below w.heap.size w w' := by
  go_enter Tryd.func36, Tryd.ntmps36
  dsimp only [eval_]
  go_wp2
  all_goals go_ret
  all_goals refine ⟨ret_bool ?_, belowAA _ _ _⟩
  all_goals (go_light; rw [decide_eq_decide]; unfold ltE; simp only [bne_iff_ne, ne_eq, bne_eq_false_iff_eq] at *; omega)
end Go.Proofs.YtfaleddacmbidaaDoor
