/- Walks: clocks of cards, who has seen whom, independent pairs, equal lists; both sides. -/
import Derived.Test.YtpoodhhajghaoaaGreatDoorEq
namespace Go.Proofs.YtpoodhhajghaoaaGreatDoor
open Go.RowKit Go.Sort

def clkT (es : List Ent) : Int × Int × Int := if val es = 0 then ((clk es 0 : Nat), (clk es 1 : Nat), (clk es 2 : Nat)) else (0, 0, 0)
theorem clkT_ok {es : List Ent} (h : val es = 0) : clkT es = (((clk es 0 : Nat) : Int), ((clk es 1 : Nat) : Int), ((clk es 2 : Nat) : Int)) := if_pos h
theorem clkT_bad {es : List Ent} (h : val es ≠ 0) : clkT es = (0, 0, 0) := if_neg h
theorem pl_of {es : List Ent} (h : val es = 0) : ∀ e ∈ es, 0 ≤ e.1 ∧ e.1 ≤ 2 := fun e he => by
  obtain ⟨q0, q1, _⟩ := (val_zero.1 h).txt e he
  exact ⟨q0, q1⟩
theorem neB {a b : Int} (h : a ≠ b) : (a != b) = true := by simpa using h
theorem neBf {a b : Int} (h : a = b) : (a != b) = false := by simp [h]
end Go.Proofs.YtpoodhhajghaoaaGreatDoor
