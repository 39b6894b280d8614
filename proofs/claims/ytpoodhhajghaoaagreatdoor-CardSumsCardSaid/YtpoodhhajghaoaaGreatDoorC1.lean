/- Walks: which entry has seen which one; how many entries each place has. -/
import Derived.Test.YtpoodhhajghaoaaGreatDoorCe
namespace Go.Proofs.YtpoodhhajghaoaaGreatDoor
open Go.RowKit Go.Sort

/-- What an entry has seen of a place. -/
def Ent.sn (e : Ent) (p : Int) : Int := if p = 0 then e.2.2.1.1 else if p = 1 then e.2.2.1.2.1 else e.2.2.1.2.2
def sawE (e f : Ent) : Bool := decide (f.2.1 ≤ e.sn f.1)
theorem ix35 (b i k : Nat) (h : k < 3) (w : World) : (Instr.indexAt 36 (.pointer (some ⟨b, i, none⟩)) (.int .i64 (k : Int))).run Tryz.prog w = .ok (.pointer (some ⟨b, i + k, none⟩)) w := by
  have hl : (Tryz.prog.arrayLen 36 : Int) = 3 := by kernel_rfl
  have hs : (sizeOf (Tryz.prog.elem 36)).run Tryz.prog w = .ok 1 w := by kernel_rfl
  rw [run_indexAt_array w 36 ⟨b, i, none⟩ .i64 k (by kernel_rfl), hl, if_pos (by omega), hs]
  simp only [Result.andThen, Addr.add]
  split
  · rename_i h0; simp at h0; simp [h0]
  · simp
theorem saw_any (e f : Ent) (w : World) (h0 : 0 ≤ f.1) (h1 : f.1 ≤ 2) :
    Calls Tryz.prog 25 #[eval_ e, eval_ f] w fun r w' => r = .returned (.bool (sawE e f)) ∧ Below w.heap.size w w' := by
  obtain ⟨k, hk⟩ := Int.eq_ofNat_of_zero_le h0
  obtain ⟨p, q, ⟨a, b, c⟩, t⟩ := e
  obtain ⟨p', q', ⟨a', b', c'⟩, t'⟩ := f
  dsimp only at hk h0 h1
  subst hk
  go_enter Tryz.func25, Tryz.ntmps25
  dsimp only [eval_]
  go_wp2_with fail
  refine wp_gen (fun w1 => Box w1 w.heap.size #[.int .i64 p, .int .i64 q, .int .i64 a, .int .i64 b, .int .i64 c, .string t] ∧ Box w1 (w.heap.size + 1) #[.int .i64 (k : Int), .int .i64 q', .int .i64 a', .int .i64 b', .int .i64 c', .string t'] ∧ Below w.heap.size w w1) ⟨(Box.new _ _ _).alloc _, Box.new2 _ _ _ _ _, belowAA _ _ _⟩ ?_
  rintro w1 ⟨b0, b1, hw1⟩
  have c0 := b0.at
  have c1 := b1.at
  have Y := fun w' => ix35 w.heap.size 2 k (by omega) w'
  rcases (show k = 0 ∨ k = 1 ∨ k = 2 by omega) with rfl | rfl | rfl
  all_goals
    go_quiet (fail)
    go_wp2_with fail
    go_ret
    exact ⟨ret_bool (by simp [sawE, Ent.sn]), below_drewN' hw1 _⟩
end Go.Proofs.YtpoodhhajghaoaaGreatDoor
