/-
  No cell of these rows narrows 'for every input' (looked for: loops, veiled, ifaces, maps, wideKeys, modest, calm, conditions, laid).
  DERIVED. THE GIVEN ROWS OF THIS SEAT. 8 by the template 'for every input the law returns true; each argument reads behind the call as it read before'; 0 by the template 'total and deterministic' (their statements: YtlmdmbjdhlgkoaaTotals.lean).
  GIVEN WITH THE SEED: the statements are not yours to turn. If you find one false, say at which input.
  Laid BY PROGRAM, IN A SANDBOX (cutbox-rows.mjs): the forced cells as the released guide's own fill.sh prints them over the translation c7132c09bde62653… (all of the seat's roots in one cut). By AI agents, Wed Nov 11 2026. No macro, syntax, notation, axiom, sorry.
-/
import Derived.Test.YtlmdmbjdhlgkoaaChecked
import GoSem.Claim
import GoSem.ClaimJoined
import GoSem.ClaimMapViews
import Derived.JoinedTies
import Derived.KernelRfl
namespace Go.Proofs.Ytlmdmbjdhlgkoaa
/- THE CELL 'sum', in the pinned program and in every row, IS THE sha256 OF THE DUMP (.gsa) THAT YtlmdmbjdhlgkoaaProg.lean LOADS. Nothing in Lean hashes anything: it is a label: what it is worth is what the hold of that sum in a sandbox is worth. -/
noncomputable def Try.pinned : Pinned := { name := "ytlmdmbjdhlgkoaa", sum := "c7132c09bde62653211aa3a8fea69b9512add58c916a7303dc6a1581e5885b9e", checked := Try.checked }
namespace Rows
def none {H : Type} : Left H := { results := [], args := [] }

/-- 'wigmakerlaw08.CardAdds': WHATEVER THE INPUT: true; the input reads as it did. -/
def cardAddsSpec : ChangeSpec := { name := "cardAdds", fn := fun _ => fun
  | [d1, d2, d3] => { results := [.lit (.bool true)], args := [d1, d2, d3] }
  | _ => none }
def cardAddsRow : OpenClaim := { program := "ytlmdmbjdhlgkoaa", sum := "c7132c09bde62653211aa3a8fea69b9512add58c916a7303dc6a1581e5885b9e", func := "wigmaker/wigmakerlaw08.CardAdds", spec := "cardAdds", unfollowed := true, recurses := true, apart := false }
def CardAddsSaid : Prop := cardAddsRow.holds Try.pinned (OpenSpec.ofChange cardAddsSpec)

/-- ITS FALSE NEIGHBOUR: 'it returns false'. Refute it at one input. -/
def cardAddsWrong : ChangeSpec := { name := "cardAdds", fn := fun _ => fun
  | [d1, d2, d3] => { results := [.lit (.bool false)], args := [d1, d2, d3] }
  | _ => none }
def CardAddsWrongFalsely : Prop := cardAddsRow.holds Try.pinned (OpenSpec.ofChange cardAddsWrong)

/-- 'wigmakerlaw08.CardCommutes': WHATEVER THE INPUT: true; the input reads as it did. -/
def cardCommutesSpec : ChangeSpec := { name := "cardCommutes", fn := fun _ => fun
  | [d1, d2, d3] => { results := [.lit (.bool true)], args := [d1, d2, d3] }
  | _ => none }
def cardCommutesRow : OpenClaim := { program := "ytlmdmbjdhlgkoaa", sum := "c7132c09bde62653211aa3a8fea69b9512add58c916a7303dc6a1581e5885b9e", func := "wigmaker/wigmakerlaw08.CardCommutes", spec := "cardCommutes", unfollowed := true, recurses := true, apart := false }
def CardCommutesSaid : Prop := cardCommutesRow.holds Try.pinned (OpenSpec.ofChange cardCommutesSpec)

/-- ITS FALSE NEIGHBOUR: 'it returns false'. Refute it at one input. -/
def cardCommutesWrong : ChangeSpec := { name := "cardCommutes", fn := fun _ => fun
  | [d1, d2, d3] => { results := [.lit (.bool false)], args := [d1, d2, d3] }
  | _ => none }
def CardCommutesWrongFalsely : Prop := cardCommutesRow.holds Try.pinned (OpenSpec.ofChange cardCommutesWrong)

/-- 'wigmakerlaw08.CardValidates': WHATEVER THE INPUT: true; the input reads as it did. -/
def cardValidatesSpec : ChangeSpec := { name := "cardValidates", fn := fun _ => fun
  | [d] => { results := [.lit (.bool true)], args := [d] }
  | _ => none }
def cardValidatesRow : OpenClaim := { program := "ytlmdmbjdhlgkoaa", sum := "c7132c09bde62653211aa3a8fea69b9512add58c916a7303dc6a1581e5885b9e", func := "wigmaker/wigmakerlaw08.CardValidates", spec := "cardValidates", unfollowed := true, recurses := true, apart := false }
def CardValidatesSaid : Prop := cardValidatesRow.holds Try.pinned (OpenSpec.ofChange cardValidatesSpec)

/-- ITS FALSE NEIGHBOUR: 'it returns false'. Refute it at one input. -/
def cardValidatesWrong : ChangeSpec := { name := "cardValidates", fn := fun _ => fun
  | [d] => { results := [.lit (.bool false)], args := [d] }
  | _ => none }
def CardValidatesWrongFalsely : Prop := cardValidatesRow.holds Try.pinned (OpenSpec.ofChange cardValidatesWrong)

/-- 'wigmakerlaw08.CardSees': WHATEVER THE INPUT: true; the input reads as it did. -/
def cardSeesSpec : ChangeSpec := { name := "cardSees", fn := fun _ => fun
  | [d1, d2, d3] => { results := [.lit (.bool true)], args := [d1, d2, d3] }
  | _ => none }
def cardSeesRow : OpenClaim := { program := "ytlmdmbjdhlgkoaa", sum := "c7132c09bde62653211aa3a8fea69b9512add58c916a7303dc6a1581e5885b9e", func := "wigmaker/wigmakerlaw08.CardSees", spec := "cardSees", unfollowed := true, recurses := true, apart := false }
def CardSeesSaid : Prop := cardSeesRow.holds Try.pinned (OpenSpec.ofChange cardSeesSpec)

/-- ITS FALSE NEIGHBOUR: 'it returns false'. Refute it at one input. -/
def cardSeesWrong : ChangeSpec := { name := "cardSees", fn := fun _ => fun
  | [d1, d2, d3] => { results := [.lit (.bool false)], args := [d1, d2, d3] }
  | _ => none }
def CardSeesWrongFalsely : Prop := cardSeesRow.holds Try.pinned (OpenSpec.ofChange cardSeesWrong)

/-- 'wigmakerlaw08.CardMerges': WHATEVER THE INPUT: true; the input reads as it did. -/
def cardMergesSpec : ChangeSpec := { name := "cardMerges", fn := fun _ => fun
  | [d1, d2] => { results := [.lit (.bool true)], args := [d1, d2] }
  | _ => none }
def cardMergesRow : OpenClaim := { program := "ytlmdmbjdhlgkoaa", sum := "c7132c09bde62653211aa3a8fea69b9512add58c916a7303dc6a1581e5885b9e", func := "wigmaker/wigmakerlaw08.CardMerges", spec := "cardMerges", unfollowed := true, recurses := true, apart := false }
def CardMergesSaid : Prop := cardMergesRow.holds Try.pinned (OpenSpec.ofChange cardMergesSpec)

/-- ITS FALSE NEIGHBOUR: 'it returns false'. Refute it at one input. -/
def cardMergesWrong : ChangeSpec := { name := "cardMerges", fn := fun _ => fun
  | [d1, d2] => { results := [.lit (.bool false)], args := [d1, d2] }
  | _ => none }
def CardMergesWrongFalsely : Prop := cardMergesRow.holds Try.pinned (OpenSpec.ofChange cardMergesWrong)

/-- 'wigmakerlaw08.CardKnown': WHATEVER THE INPUT: true; the input reads as it did. -/
def cardKnownSpec : ChangeSpec := { name := "cardKnown", fn := fun _ => fun
  | [d1, d2] => { results := [.lit (.bool true)], args := [d1, d2] }
  | _ => none }
def cardKnownRow : OpenClaim := { program := "ytlmdmbjdhlgkoaa", sum := "c7132c09bde62653211aa3a8fea69b9512add58c916a7303dc6a1581e5885b9e", func := "wigmaker/wigmakerlaw08.CardKnown", spec := "cardKnown", unfollowed := true, recurses := true, apart := false }
def CardKnownSaid : Prop := cardKnownRow.holds Try.pinned (OpenSpec.ofChange cardKnownSpec)

/-- ITS FALSE NEIGHBOUR: 'it returns false'. Refute it at one input. -/
def cardKnownWrong : ChangeSpec := { name := "cardKnown", fn := fun _ => fun
  | [d1, d2] => { results := [.lit (.bool false)], args := [d1, d2] }
  | _ => none }
def CardKnownWrongFalsely : Prop := cardKnownRow.holds Try.pinned (OpenSpec.ofChange cardKnownWrong)

/-- 'wigmakerlaw08.CardOrders': WHATEVER THE INPUT: true; the input reads as it did. -/
def cardOrdersSpec : ChangeSpec := { name := "cardOrders", fn := fun _ => fun
  | [d] => { results := [.lit (.bool true)], args := [d] }
  | _ => none }
def cardOrdersRow : OpenClaim := { program := "ytlmdmbjdhlgkoaa", sum := "c7132c09bde62653211aa3a8fea69b9512add58c916a7303dc6a1581e5885b9e", func := "wigmaker/wigmakerlaw08.CardOrders", spec := "cardOrders", unfollowed := true, recurses := true, apart := false }
def CardOrdersSaid : Prop := cardOrdersRow.holds Try.pinned (OpenSpec.ofChange cardOrdersSpec)

/-- ITS FALSE NEIGHBOUR: 'it returns false'. Refute it at one input. -/
def cardOrdersWrong : ChangeSpec := { name := "cardOrders", fn := fun _ => fun
  | [d] => { results := [.lit (.bool false)], args := [d] }
  | _ => none }
def CardOrdersWrongFalsely : Prop := cardOrdersRow.holds Try.pinned (OpenSpec.ofChange cardOrdersWrong)

/-- 'wigmakerlaw08.CardMissing': WHATEVER THE INPUT: true; the input reads as it did. -/
def cardMissingSpec : ChangeSpec := { name := "cardMissing", fn := fun _ => fun
  | [d1, d2] => { results := [.lit (.bool true)], args := [d1, d2] }
  | _ => none }
def cardMissingRow : OpenClaim := { program := "ytlmdmbjdhlgkoaa", sum := "c7132c09bde62653211aa3a8fea69b9512add58c916a7303dc6a1581e5885b9e", func := "wigmaker/wigmakerlaw08.CardMissing", spec := "cardMissing", unfollowed := true, recurses := true, apart := false }
def CardMissingSaid : Prop := cardMissingRow.holds Try.pinned (OpenSpec.ofChange cardMissingSpec)

/-- ITS FALSE NEIGHBOUR: 'it returns false'. Refute it at one input. -/
def cardMissingWrong : ChangeSpec := { name := "cardMissing", fn := fun _ => fun
  | [d1, d2] => { results := [.lit (.bool false)], args := [d1, d2] }
  | _ => none }
def CardMissingWrongFalsely : Prop := cardMissingRow.holds Try.pinned (OpenSpec.ofChange cardMissingWrong)

/- THE SECOND FORM. 'bulk': how many values and letters a reading holds, each counted each time it is reached (what is shared counts as often as it is met; a slice's spare places count too). A statement '..UptoSaid' is the law's where the arguments, and the package variables that the reading takes, are together of bulk at most 1048576: NARROWER than '..Said'. Prove '..Said' where nothing that the law and all that it calls make is longer than what came in: it says more and counts as full. Else prove '..UptoSaid'. A law counts once. -/
mutual
def uptoBulk {H : Type} : DataW H → Nat
  | .lit (.string bytes) => bytes.length + 1
  | .lit _ => 1
  | .nil => 1
  | .ptr d => uptoBulk d + 1
  | .slice elems spare => uptoBulkAll elems + uptoBulkAll spare + 1
  | .agg parts => uptoBulkAll parts + 1
  | .iface _ d => uptoBulk d + 1
  | .map entries => uptoBulkEntries entries + 1
  | .held _ => 1
def uptoBulkAll {H : Type} : List (DataW H) → Nat
  | [] => 0
  | d :: r => uptoBulk d + uptoBulkAll r
def uptoBulkEntries {H : Type} : List (Lit × DataW H) → Nat
  | [] => 0
  | x :: r => uptoBulkEntry x + uptoBulkEntries r
def uptoBulkEntry {H : Type} : Lit × DataW H → Nat
  | (.string bytes, d) => bytes.length + uptoBulk d + 1
  | (_, d) => uptoBulk d + 1
 end
def uptoSmall : (H : Type) → List (DataW H) → Bool := fun _ ds => decide (uptoBulkAll ds ≤ 1048576)
def OpenSpec.upto (s : _root_.Go.ChangeSpec) : _root_.Go.OpenSpec := { _root_.Go.OpenSpec.ofChange s with cond := some uptoSmall }

/-- 'wigmakerlaw08.CardAdds', WHERE WHAT IT READS IS OF BULK AT MOST 1048576: true; the input reads as it did. -/
def cardAddsUptoRow : OpenClaim := { program := "ytlmdmbjdhlgkoaa", sum := "c7132c09bde62653211aa3a8fea69b9512add58c916a7303dc6a1581e5885b9e", func := "wigmaker/wigmakerlaw08.CardAdds", spec := "cardAdds", unfollowed := true, recurses := true, apart := false, narrowed := true }
def CardAddsUptoSaid : Prop := cardAddsUptoRow.holds Try.pinned (OpenSpec.upto cardAddsSpec)

/-- 'wigmakerlaw08.CardCommutes', WHERE WHAT IT READS IS OF BULK AT MOST 1048576: true; the input reads as it did. -/
def cardCommutesUptoRow : OpenClaim := { program := "ytlmdmbjdhlgkoaa", sum := "c7132c09bde62653211aa3a8fea69b9512add58c916a7303dc6a1581e5885b9e", func := "wigmaker/wigmakerlaw08.CardCommutes", spec := "cardCommutes", unfollowed := true, recurses := true, apart := false, narrowed := true }
def CardCommutesUptoSaid : Prop := cardCommutesUptoRow.holds Try.pinned (OpenSpec.upto cardCommutesSpec)

/-- 'wigmakerlaw08.CardValidates', WHERE WHAT IT READS IS OF BULK AT MOST 1048576: true; the input reads as it did. -/
def cardValidatesUptoRow : OpenClaim := { program := "ytlmdmbjdhlgkoaa", sum := "c7132c09bde62653211aa3a8fea69b9512add58c916a7303dc6a1581e5885b9e", func := "wigmaker/wigmakerlaw08.CardValidates", spec := "cardValidates", unfollowed := true, recurses := true, apart := false, narrowed := true }
def CardValidatesUptoSaid : Prop := cardValidatesUptoRow.holds Try.pinned (OpenSpec.upto cardValidatesSpec)

/-- 'wigmakerlaw08.CardSees', WHERE WHAT IT READS IS OF BULK AT MOST 1048576: true; the input reads as it did. -/
def cardSeesUptoRow : OpenClaim := { program := "ytlmdmbjdhlgkoaa", sum := "c7132c09bde62653211aa3a8fea69b9512add58c916a7303dc6a1581e5885b9e", func := "wigmaker/wigmakerlaw08.CardSees", spec := "cardSees", unfollowed := true, recurses := true, apart := false, narrowed := true }
def CardSeesUptoSaid : Prop := cardSeesUptoRow.holds Try.pinned (OpenSpec.upto cardSeesSpec)

/-- 'wigmakerlaw08.CardMerges', WHERE WHAT IT READS IS OF BULK AT MOST 1048576: true; the input reads as it did. -/
def cardMergesUptoRow : OpenClaim := { program := "ytlmdmbjdhlgkoaa", sum := "c7132c09bde62653211aa3a8fea69b9512add58c916a7303dc6a1581e5885b9e", func := "wigmaker/wigmakerlaw08.CardMerges", spec := "cardMerges", unfollowed := true, recurses := true, apart := false, narrowed := true }
def CardMergesUptoSaid : Prop := cardMergesUptoRow.holds Try.pinned (OpenSpec.upto cardMergesSpec)

/-- 'wigmakerlaw08.CardKnown', WHERE WHAT IT READS IS OF BULK AT MOST 1048576: true; the input reads as it did. -/
def cardKnownUptoRow : OpenClaim := { program := "ytlmdmbjdhlgkoaa", sum := "c7132c09bde62653211aa3a8fea69b9512add58c916a7303dc6a1581e5885b9e", func := "wigmaker/wigmakerlaw08.CardKnown", spec := "cardKnown", unfollowed := true, recurses := true, apart := false, narrowed := true }
def CardKnownUptoSaid : Prop := cardKnownUptoRow.holds Try.pinned (OpenSpec.upto cardKnownSpec)

/-- 'wigmakerlaw08.CardOrders', WHERE WHAT IT READS IS OF BULK AT MOST 1048576: true; the input reads as it did. -/
def cardOrdersUptoRow : OpenClaim := { program := "ytlmdmbjdhlgkoaa", sum := "c7132c09bde62653211aa3a8fea69b9512add58c916a7303dc6a1581e5885b9e", func := "wigmaker/wigmakerlaw08.CardOrders", spec := "cardOrders", unfollowed := true, recurses := true, apart := false, narrowed := true }
def CardOrdersUptoSaid : Prop := cardOrdersUptoRow.holds Try.pinned (OpenSpec.upto cardOrdersSpec)

/-- 'wigmakerlaw08.CardMissing', WHERE WHAT IT READS IS OF BULK AT MOST 1048576: true; the input reads as it did. -/
def cardMissingUptoRow : OpenClaim := { program := "ytlmdmbjdhlgkoaa", sum := "c7132c09bde62653211aa3a8fea69b9512add58c916a7303dc6a1581e5885b9e", func := "wigmaker/wigmakerlaw08.CardMissing", spec := "cardMissing", unfollowed := true, recurses := true, apart := false, narrowed := true }
def CardMissingUptoSaid : Prop := cardMissingUptoRow.holds Try.pinned (OpenSpec.upto cardMissingSpec)

end Rows
end Go.Proofs.Ytlmdmbjdhlgkoaa
