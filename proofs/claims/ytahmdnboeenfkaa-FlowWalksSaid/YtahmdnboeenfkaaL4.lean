/- Walks: the law FlowWalks. -/
import Derived.Test.YtahmdnboeenfkaaW17
namespace Go.Proofs.Ytahmdnboeenfkaa
open Go.RowKit Go.Sort

theorem lawWalks (v : FV) (A : Option Addr) (n c : Nat) (l : List Plc) (w : World) (hv : v.In w) (hl : Reads w w.heap.size 2 A n (plcs l)) (hn : n ≤ 9223372036854775807) :
    Calls Try.prog 6 #[v.val, .slice A n c] w fun r w' => r = .returned (.bool true) ∧ Below w.heap.size w w' := by
  have HV := Lib.hid hv
  have HL := Lib.hid hl
  clear hv hl
  go_enter Try.func6, Try.ntmps6
  dsimp only [FV.val, eval_]
  go_wp2_with fail
  refine (long_any v _ (HV.out.below (belowA _ _))).mono ?_
  rintro r w1 ⟨rfl, hb1⟩
  have b0 := (Box.new _ _ _).below hb1
  have hw1 := Lib.hid (below1 _ hb1)
  clear hb1
  cases hlong : longF v.f
  case true =>
    go_wp2_with fail
    refine (known_any _).mono ?_
    rintro r w2 ⟨rfl, hb2⟩
    go_wp2_with fail
    go_ret
    exact ⟨rfl, below_trans' hw1.out hb2⟩
  clear hlong
  by_cases hmany : 1100 < n
  · go_wp2_with fail
    refine (known_any _).mono ?_
    rintro r w2 ⟨rfl, hb2⟩
    go_wp2_with fail
    go_ret
    exact ⟨rfl, below_trans' hw1.out hb2⟩
  have c0 := b0.at
  go_wp2_with fail
  refine (Walk_any v A n c l _ (HV.out.below hw1.out) (HL.out.on hw1.out) hn).mono ?_
  rintro r w2 ⟨rfl, hb2⟩
  clear c0
  replace b0 := b0.below hb2
  replace hw1 := Lib.hid (below_trans' hw1.out hb2)
  clear hb2
  have c0 := b0.at
  go_wp2_with fail
  refine (refWalk_any v A n c l _ (HV.out.below hw1.out) (HL.out.on hw1.out) hn).mono ?_
  rintro r w3 ⟨rfl, hb2⟩
  clear c0
  replace hw1 := Lib.hid (below_trans' hw1.out hb2)
  clear hb2
  go_wp2_with fail
  refine (known_any _).mono ?_
  rintro r w4 ⟨rfl, hb2⟩
  have HB := Lib.hid hb2
  clear hb2
  go_wp2_with fail
  go_ret
  exact ⟨rfl, below_trans' hw1.out HB.out⟩
theorem lawWalksR (v : FV) (A : Option Addr) (n c : Nat) (l : List Plc) (w : World) (hv : v.In w) (hl : Reads w w.heap.size 2 A n (plcs l) ∧ n ≤ 9223372036854775807 ∧ ∀ q ∈ l, Bd q.1 ∧ Bd q.2) :
    Calls Try.prog 6 #[v.val, .slice A n c] w fun r w' => r = .returned (.bool true) ∧ Below w.heap.size w w' := lawWalks v A n c l w hv hl.1 hl.2.1
end Go.Proofs.Ytahmdnboeenfkaa
