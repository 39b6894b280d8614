/- Walks: the properties that Known, Missing and At pass to slices.DeleteFunc. -/
import Derived.Test.YtlmdmbjdhlgkoaaC10
import Derived.Test.YtlmdmbjdhlgkoaaCx
namespace Go.Proofs.Ytlmdmbjdhlgkoaa
open Go.RowKit Go.Sort

theorem known1_any (q : Nat) (x y : Ent) (w : World) (hb : Box w q #[.int .i64 x.1, .int .i64 x.2.1, .int .i64 x.2.2.1.1, .int .i64 x.2.2.1.2.1, .int .i64 x.2.2.1.2.2, .string x.2.2.2]) (h0 : 0 ≤ y.1) (h1 : y.1 ≤ 2) :
    Calls Try.prog 56 #[eval_ y, .pointer (some ⟨q, 0, none⟩)] w fun r w' => r = .returned (.bool (!(decide (y = x) || sawE x y))) ∧ Below w.heap.size w w' := by
  have hq := hb.1
  go_enter Try.func56, Try.ntmps56
  dsimp only [eval_]
  have cx := fun o => (hb.alloc (.cells #[.int .i64 y.1, .int .i64 y.2.1, .int .i64 y.2.2.1.1, .int .i64 y.2.2.1.2.1, .int .i64 y.2.2.1.2.2, .string y.2.2.2] o)).at
  have cy := fun o => (Box.new w #[.int .i64 y.1, .int .i64 y.2.1, .int .i64 y.2.2.1.1, .int .i64 y.2.2.1.2.1, .int .i64 y.2.2.1.2.2, .string y.2.2.2] o).at
  have g1 := eqg53 .neq
  have g2 := neq53 y x
  by_cases hxy : y = x
  · have HX := Lib.hid hxy
    rw [eqN_iff.2 hxy] at g2
    clear hxy
    go_wp2_with fail
    go_ret
    exact ⟨ret_bool (by simp [HX.out]), belowA _ _⟩
  · have HX := Lib.hid hxy
    rw [eqN_not.2 hxy] at g2
    clear hxy
    go_wp2_with fail
    with_reducible refine (saw_any x y _ h0 h1).mono ?_
    rintro _ w2 ⟨rfl, hb2⟩
    have HB := Lib.hid (below1 _ hb2)
    clear hb2 cx cy g1 g2
    go_wp2_with fail
    go_ret
    exact ⟨ret_bool (by simp [HX.out]), HB.out⟩
/-- What a clock says of an entry's place. -/
abbrev tr (t : Int × Int × Int) : Nat → Int := tri t.1 t.2.1 t.2.2
set_option maxRecDepth 100000 in
theorem missing1_any (q : Nat) (t : Int × Int × Int) (y : Ent) (w : World) (hb : Box w q #[.int .i64 t.1, .int .i64 t.2.1, .int .i64 t.2.2]) (h0 : 0 ≤ y.1) (h1 : y.1 ≤ 2) :
    Calls Try.prog 59 #[eval_ y, .pointer (some ⟨q, 0, none⟩)] w fun r w' => r = .returned (.bool (decide (y.2.1 ≤ tr t y.1.toNat))) ∧ Below w.heap.size w w' := by
  obtain ⟨k, hk⟩ := Int.eq_ofNat_of_zero_le h0
  have hq := hb.1
  obtain ⟨p', q', ⟨a', b', c'⟩, t'⟩ := y
  dsimp only at hk h0 h1
  subst hk
  go_enter Try.func59, Try.ntmps59
  dsimp only [eval_]
  go_wp2_with fail
  refine wp_gen (fun w1 => Box w1 q #[.int .i64 t.1, .int .i64 t.2.1, .int .i64 t.2.2] ∧ Box w1 w.heap.size #[.int .i64 (k : Int), .int .i64 q', .int .i64 a', .int .i64 b', .int .i64 c', .string t'] ∧ Below w.heap.size w w1) ⟨hb.alloc _, Box.new _ _ _, belowA _ _⟩ ?_
  rintro w1 ⟨b0, b1, hw1⟩
  have c0 := b0.at
  have c1 := b1.at
  have Y := fun w' => ix35 q 0 k (by omega) w'
  clear hb
  rcases (show k = 0 ∨ k = 1 ∨ k = 2 by omega) with rfl | rfl | rfl
  all_goals
    go_quiet (fail)
    go_wp2_with fail
    go_ret
    exact ⟨ret_bool (by simp [tr, tri]), below_drewN' hw1 _⟩
set_option maxRecDepth 100000 in
theorem at1_any (q : Nat) (t : Int × Int × Int) (y : Ent) (w : World) (hb : Box w q #[.int .i64 t.1, .int .i64 t.2.1, .int .i64 t.2.2]) (h0 : 0 ≤ y.1) (h1 : y.1 ≤ 2) :
    Calls Try.prog 60 #[eval_ y, .pointer (some ⟨q, 0, none⟩)] w fun r w' => r = .returned (.bool (decide (tr t y.1.toNat < y.2.1))) ∧ Below w.heap.size w w' := by
  obtain ⟨k, hk⟩ := Int.eq_ofNat_of_zero_le h0
  have hq := hb.1
  obtain ⟨p', q', ⟨a', b', c'⟩, t'⟩ := y
  dsimp only at hk h0 h1
  subst hk
  go_enter Try.func60, Try.ntmps60
  dsimp only [eval_]
  go_wp2_with fail
  refine wp_gen (fun w1 => Box w1 q #[.int .i64 t.1, .int .i64 t.2.1, .int .i64 t.2.2] ∧ Box w1 w.heap.size #[.int .i64 (k : Int), .int .i64 q', .int .i64 a', .int .i64 b', .int .i64 c', .string t'] ∧ Below w.heap.size w w1) ⟨hb.alloc _, Box.new _ _ _, belowA _ _⟩ ?_
  rintro w1 ⟨b0, b1, hw1⟩
  have c0 := b0.at
  have c1 := b1.at
  have Y := fun w' => ix35 q 0 k (by omega) w'
  clear hb
  rcases (show k = 0 ∨ k = 1 ∨ k = 2 by omega) with rfl | rfl | rfl
  all_goals
    go_quiet (fail)
    go_wp2_with fail
    go_ret
    exact ⟨ret_bool (by simp [tr, tri]), below_drewN' hw1 _⟩
end Go.Proofs.Ytlmdmbjdhlgkoaa
