/-
  No cell of these rows narrows 'for every input' (looked for: loops, veiled, ifaces, maps, wideKeys, modest, calm, conditions, laid).
  DERIVED. THE GIVEN ROWS OF THIS SEAT. 14 by the template 'for every input the law returns true; each argument reads behind the call as it read before'; 0 by the template 'total and deterministic' (their statements: YtahmdnboeenfkaaTotals.lean).
  GIVEN WITH THE SEED: the statements are not yours to turn. If you find one false, say at which input.
  Laid BY PROGRAM, IN A SANDBOX (cutbox-rows.mjs): the forced cells as the released guide's own fill.sh prints them over the translation 6233a7abc6e7e68a… (all of the seat's roots in one cut). By AI agents, Wed Nov 11 2026. No macro, syntax, notation, axiom, sorry.
-/
import Derived.Test.YtahmdnboeenfkaaChecked
import GoSem.Claim
import GoSem.ClaimJoined
import GoSem.ClaimMapViews
import Derived.JoinedTies
import Derived.KernelRfl
namespace Go.Proofs.Ytahmdnboeenfkaa
/- THE CELL 'sum', in the pinned program and in every row, IS THE sha256 OF THE DUMP (.gsa) THAT YtahmdnboeenfkaaProg.lean LOADS. Nothing in Lean hashes anything: it is a label: what it is worth is what the hold of that sum in a sandbox is worth. -/
noncomputable def Try.pinned : Pinned := { name := "ytahmdnboeenfkaa", sum := "6233a7abc6e7e68a78539da1940df055de70177ec03a7cb21395c7636ffa327a", checked := Try.checked }
namespace Rows
def none {H : Type} : Left H := { results := [], args := [] }

/-- 'wigmakerlaw03.FlowValidates': WHATEVER THE INPUT: true; the input reads as it did. -/
def flowValidatesSpec : ChangeSpec := { name := "flowValidates", fn := fun _ => fun
  | [d] => { results := [.lit (.bool true)], args := [d] }
  | _ => none }
def flowValidatesRow : OpenClaim := { program := "ytahmdnboeenfkaa", sum := "6233a7abc6e7e68a78539da1940df055de70177ec03a7cb21395c7636ffa327a", func := "wigmaker/wigmakerlaw03.FlowValidates", spec := "flowValidates", unfollowed := true, recurses := true, apart := false }
def FlowValidatesSaid : Prop := flowValidatesRow.holds Try.pinned (OpenSpec.ofChange flowValidatesSpec)

/-- ITS FALSE NEIGHBOUR: 'it returns false'. Refute it at one input. -/
def flowValidatesWrong : ChangeSpec := { name := "flowValidates", fn := fun _ => fun
  | [d] => { results := [.lit (.bool false)], args := [d] }
  | _ => none }
def FlowValidatesWrongFalsely : Prop := flowValidatesRow.holds Try.pinned (OpenSpec.ofChange flowValidatesWrong)

/-- 'wigmakerlaw03.FlowTurns': WHATEVER THE INPUT: true; the input reads as it did. -/
def flowTurnsSpec : ChangeSpec := { name := "flowTurns", fn := fun _ => fun
  | [d1, d2, d3] => { results := [.lit (.bool true)], args := [d1, d2, d3] }
  | _ => none }
def flowTurnsRow : OpenClaim := { program := "ytahmdnboeenfkaa", sum := "6233a7abc6e7e68a78539da1940df055de70177ec03a7cb21395c7636ffa327a", func := "wigmaker/wigmakerlaw03.FlowTurns", spec := "flowTurns", unfollowed := true, recurses := true, apart := false }
def FlowTurnsSaid : Prop := flowTurnsRow.holds Try.pinned (OpenSpec.ofChange flowTurnsSpec)

/-- ITS FALSE NEIGHBOUR: 'it returns false'. Refute it at one input. -/
def flowTurnsWrong : ChangeSpec := { name := "flowTurns", fn := fun _ => fun
  | [d1, d2, d3] => { results := [.lit (.bool false)], args := [d1, d2, d3] }
  | _ => none }
def FlowTurnsWrongFalsely : Prop := flowTurnsRow.holds Try.pinned (OpenSpec.ofChange flowTurnsWrong)

/-- 'wigmakerlaw03.FlowWhorls': WHATEVER THE INPUT: true; the input reads as it did. -/
def flowWhorlsSpec : ChangeSpec := { name := "flowWhorls", fn := fun _ => fun
  | [d] => { results := [.lit (.bool true)], args := [d] }
  | _ => none }
def flowWhorlsRow : OpenClaim := { program := "ytahmdnboeenfkaa", sum := "6233a7abc6e7e68a78539da1940df055de70177ec03a7cb21395c7636ffa327a", func := "wigmaker/wigmakerlaw03.FlowWhorls", spec := "flowWhorls", unfollowed := true, recurses := true, apart := false }
def FlowWhorlsSaid : Prop := flowWhorlsRow.holds Try.pinned (OpenSpec.ofChange flowWhorlsSpec)

/-- ITS FALSE NEIGHBOUR: 'it returns false'. Refute it at one input. -/
def flowWhorlsWrong : ChangeSpec := { name := "flowWhorls", fn := fun _ => fun
  | [d] => { results := [.lit (.bool false)], args := [d] }
  | _ => none }
def FlowWhorlsWrongFalsely : Prop := flowWhorlsRow.holds Try.pinned (OpenSpec.ofChange flowWhorlsWrong)

/-- 'wigmakerlaw03.FlowWalks': WHATEVER THE INPUT: true; the input reads as it did. -/
def flowWalksSpec : ChangeSpec := { name := "flowWalks", fn := fun _ => fun
  | [d1, d2] => { results := [.lit (.bool true)], args := [d1, d2] }
  | _ => none }
def flowWalksRow : OpenClaim := { program := "ytahmdnboeenfkaa", sum := "6233a7abc6e7e68a78539da1940df055de70177ec03a7cb21395c7636ffa327a", func := "wigmaker/wigmakerlaw03.FlowWalks", spec := "flowWalks", unfollowed := true, recurses := true, apart := false }
def FlowWalksSaid : Prop := flowWalksRow.holds Try.pinned (OpenSpec.ofChange flowWalksSpec)

/-- ITS FALSE NEIGHBOUR: 'it returns false'. Refute it at one input. -/
def flowWalksWrong : ChangeSpec := { name := "flowWalks", fn := fun _ => fun
  | [d1, d2] => { results := [.lit (.bool false)], args := [d1, d2] }
  | _ => none }
def FlowWalksWrongFalsely : Prop := flowWalksRow.holds Try.pinned (OpenSpec.ofChange flowWalksWrong)

/-- 'wigmakerlaw03.FlowWalksBack': WHATEVER THE INPUT: true; the input reads as it did. -/
def flowWalksBackSpec : ChangeSpec := { name := "flowWalksBack", fn := fun _ => fun
  | [d1, d2, d3] => { results := [.lit (.bool true)], args := [d1, d2, d3] }
  | _ => none }
def flowWalksBackRow : OpenClaim := { program := "ytahmdnboeenfkaa", sum := "6233a7abc6e7e68a78539da1940df055de70177ec03a7cb21395c7636ffa327a", func := "wigmaker/wigmakerlaw03.FlowWalksBack", spec := "flowWalksBack", unfollowed := true, recurses := true, apart := false }
def FlowWalksBackSaid : Prop := flowWalksBackRow.holds Try.pinned (OpenSpec.ofChange flowWalksBackSpec)

/-- ITS FALSE NEIGHBOUR: 'it returns false'. Refute it at one input. -/
def flowWalksBackWrong : ChangeSpec := { name := "flowWalksBack", fn := fun _ => fun
  | [d1, d2, d3] => { results := [.lit (.bool false)], args := [d1, d2, d3] }
  | _ => none }
def FlowWalksBackWrongFalsely : Prop := flowWalksBackRow.holds Try.pinned (OpenSpec.ofChange flowWalksBackWrong)

/-- 'wigmakerlaw03.FlowCombs': WHATEVER THE INPUT: true; the input reads as it did. -/
def flowCombsSpec : ChangeSpec := { name := "flowCombs", fn := fun _ => fun
  | [d1, d2] => { results := [.lit (.bool true)], args := [d1, d2] }
  | _ => none }
def flowCombsRow : OpenClaim := { program := "ytahmdnboeenfkaa", sum := "6233a7abc6e7e68a78539da1940df055de70177ec03a7cb21395c7636ffa327a", func := "wigmaker/wigmakerlaw03.FlowCombs", spec := "flowCombs", unfollowed := true, recurses := true, apart := false }
def FlowCombsSaid : Prop := flowCombsRow.holds Try.pinned (OpenSpec.ofChange flowCombsSpec)

/-- ITS FALSE NEIGHBOUR: 'it returns false'. Refute it at one input. -/
def flowCombsWrong : ChangeSpec := { name := "flowCombs", fn := fun _ => fun
  | [d1, d2] => { results := [.lit (.bool false)], args := [d1, d2] }
  | _ => none }
def FlowCombsWrongFalsely : Prop := flowCombsRow.holds Try.pinned (OpenSpec.ofChange flowCombsWrong)

/-- 'wigmakerlaw03.FlowCombsOn': WHATEVER THE INPUT: true; the input reads as it did. -/
def flowCombsOnSpec : ChangeSpec := { name := "flowCombsOn", fn := fun _ => fun
  | [d1, d2, d3] => { results := [.lit (.bool true)], args := [d1, d2, d3] }
  | _ => none }
def flowCombsOnRow : OpenClaim := { program := "ytahmdnboeenfkaa", sum := "6233a7abc6e7e68a78539da1940df055de70177ec03a7cb21395c7636ffa327a", func := "wigmaker/wigmakerlaw03.FlowCombsOn", spec := "flowCombsOn", unfollowed := true, recurses := true, apart := false }
def FlowCombsOnSaid : Prop := flowCombsOnRow.holds Try.pinned (OpenSpec.ofChange flowCombsOnSpec)

/-- ITS FALSE NEIGHBOUR: 'it returns false'. Refute it at one input. -/
def flowCombsOnWrong : ChangeSpec := { name := "flowCombsOn", fn := fun _ => fun
  | [d1, d2, d3] => { results := [.lit (.bool false)], args := [d1, d2, d3] }
  | _ => none }
def FlowCombsOnWrongFalsely : Prop := flowCombsOnRow.holds Try.pinned (OpenSpec.ofChange flowCombsOnWrong)

/-- 'wigmakerlaw03.FlowRims': WHATEVER THE INPUT: true; the input reads as it did. -/
def flowRimsSpec : ChangeSpec := { name := "flowRims", fn := fun _ => fun
  | [d1, d2] => { results := [.lit (.bool true)], args := [d1, d2] }
  | _ => none }
def flowRimsRow : OpenClaim := { program := "ytahmdnboeenfkaa", sum := "6233a7abc6e7e68a78539da1940df055de70177ec03a7cb21395c7636ffa327a", func := "wigmaker/wigmakerlaw03.FlowRims", spec := "flowRims", unfollowed := true, recurses := true, apart := false }
def FlowRimsSaid : Prop := flowRimsRow.holds Try.pinned (OpenSpec.ofChange flowRimsSpec)

/-- ITS FALSE NEIGHBOUR: 'it returns false'. Refute it at one input. -/
def flowRimsWrong : ChangeSpec := { name := "flowRims", fn := fun _ => fun
  | [d1, d2] => { results := [.lit (.bool false)], args := [d1, d2] }
  | _ => none }
def FlowRimsWrongFalsely : Prop := flowRimsRow.holds Try.pinned (OpenSpec.ofChange flowRimsWrong)

/-- 'wigmakerlaw03.FlowSteeps': WHATEVER THE INPUT: true; the input reads as it did. -/
def flowSteepsSpec : ChangeSpec := { name := "flowSteeps", fn := fun _ => fun
  | [d1, d2] => { results := [.lit (.bool true)], args := [d1, d2] }
  | _ => none }
def flowSteepsRow : OpenClaim := { program := "ytahmdnboeenfkaa", sum := "6233a7abc6e7e68a78539da1940df055de70177ec03a7cb21395c7636ffa327a", func := "wigmaker/wigmakerlaw03.FlowSteeps", spec := "flowSteeps", unfollowed := true, recurses := true, apart := false }
def FlowSteepsSaid : Prop := flowSteepsRow.holds Try.pinned (OpenSpec.ofChange flowSteepsSpec)

/-- ITS FALSE NEIGHBOUR: 'it returns false'. Refute it at one input. -/
def flowSteepsWrong : ChangeSpec := { name := "flowSteeps", fn := fun _ => fun
  | [d1, d2] => { results := [.lit (.bool false)], args := [d1, d2] }
  | _ => none }
def FlowSteepsWrongFalsely : Prop := flowSteepsRow.holds Try.pinned (OpenSpec.ofChange flowSteepsWrong)

/-- 'wigmakerlaw03.FlowBesides': WHATEVER THE INPUT: true; the input reads as it did. -/
def flowBesidesSpec : ChangeSpec := { name := "flowBesides", fn := fun _ => fun
  | [d1, d2, d3] => { results := [.lit (.bool true)], args := [d1, d2, d3] }
  | _ => none }
def flowBesidesRow : OpenClaim := { program := "ytahmdnboeenfkaa", sum := "6233a7abc6e7e68a78539da1940df055de70177ec03a7cb21395c7636ffa327a", func := "wigmaker/wigmakerlaw03.FlowBesides", spec := "flowBesides", unfollowed := true, recurses := true, apart := false }
def FlowBesidesSaid : Prop := flowBesidesRow.holds Try.pinned (OpenSpec.ofChange flowBesidesSpec)

/-- ITS FALSE NEIGHBOUR: 'it returns false'. Refute it at one input. -/
def flowBesidesWrong : ChangeSpec := { name := "flowBesides", fn := fun _ => fun
  | [d1, d2, d3] => { results := [.lit (.bool false)], args := [d1, d2, d3] }
  | _ => none }
def FlowBesidesWrongFalsely : Prop := flowBesidesRow.holds Try.pinned (OpenSpec.ofChange flowBesidesWrong)

/-- 'wigmakerlaw03.FlowSets': WHATEVER THE INPUT: true; the input reads as it did. -/
def flowSetsSpec : ChangeSpec := { name := "flowSets", fn := fun _ => fun
  | [d1, d2, d3] => { results := [.lit (.bool true)], args := [d1, d2, d3] }
  | _ => none }
def flowSetsRow : OpenClaim := { program := "ytahmdnboeenfkaa", sum := "6233a7abc6e7e68a78539da1940df055de70177ec03a7cb21395c7636ffa327a", func := "wigmaker/wigmakerlaw03.FlowSets", spec := "flowSets", unfollowed := true, recurses := true, apart := false }
def FlowSetsSaid : Prop := flowSetsRow.holds Try.pinned (OpenSpec.ofChange flowSetsSpec)

/-- ITS FALSE NEIGHBOUR: 'it returns false'. Refute it at one input. -/
def flowSetsWrong : ChangeSpec := { name := "flowSets", fn := fun _ => fun
  | [d1, d2, d3] => { results := [.lit (.bool false)], args := [d1, d2, d3] }
  | _ => none }
def FlowSetsWrongFalsely : Prop := flowSetsRow.holds Try.pinned (OpenSpec.ofChange flowSetsWrong)

/-- 'wigmakerlaw03.FlowSpins': WHATEVER THE INPUT: true; the input reads as it did. -/
def flowSpinsSpec : ChangeSpec := { name := "flowSpins", fn := fun _ => fun
  | [d1, d2] => { results := [.lit (.bool true)], args := [d1, d2] }
  | _ => none }
def flowSpinsRow : OpenClaim := { program := "ytahmdnboeenfkaa", sum := "6233a7abc6e7e68a78539da1940df055de70177ec03a7cb21395c7636ffa327a", func := "wigmaker/wigmakerlaw03.FlowSpins", spec := "flowSpins", unfollowed := true, recurses := true, apart := false }
def FlowSpinsSaid : Prop := flowSpinsRow.holds Try.pinned (OpenSpec.ofChange flowSpinsSpec)

/-- ITS FALSE NEIGHBOUR: 'it returns false'. Refute it at one input. -/
def flowSpinsWrong : ChangeSpec := { name := "flowSpins", fn := fun _ => fun
  | [d1, d2] => { results := [.lit (.bool false)], args := [d1, d2] }
  | _ => none }
def FlowSpinsWrongFalsely : Prop := flowSpinsRow.holds Try.pinned (OpenSpec.ofChange flowSpinsWrong)

/-- 'wigmakerlaw03.FlowGroup': WHATEVER THE INPUT: true; the input reads as it did. -/
def flowGroupSpec : ChangeSpec := { name := "flowGroup", fn := fun _ => fun
  | [d1, d2] => { results := [.lit (.bool true)], args := [d1, d2] }
  | _ => none }
def flowGroupRow : OpenClaim := { program := "ytahmdnboeenfkaa", sum := "6233a7abc6e7e68a78539da1940df055de70177ec03a7cb21395c7636ffa327a", func := "wigmaker/wigmakerlaw03.FlowGroup", spec := "flowGroup", unfollowed := true, recurses := true, apart := false }
def FlowGroupSaid : Prop := flowGroupRow.holds Try.pinned (OpenSpec.ofChange flowGroupSpec)

/-- ITS FALSE NEIGHBOUR: 'it returns false'. Refute it at one input. -/
def flowGroupWrong : ChangeSpec := { name := "flowGroup", fn := fun _ => fun
  | [d1, d2] => { results := [.lit (.bool false)], args := [d1, d2] }
  | _ => none }
def FlowGroupWrongFalsely : Prop := flowGroupRow.holds Try.pinned (OpenSpec.ofChange flowGroupWrong)

/-- 'wigmakertop.TopWhorls': WHATEVER THE INPUT: true; the input reads as it did. -/
def topWhorlsSpec : ChangeSpec := { name := "topWhorls", fn := fun _ => fun
  | [d1, d2, d3] => { results := [.lit (.bool true)], args := [d1, d2, d3] }
  | _ => none }
def topWhorlsRow : OpenClaim := { program := "ytahmdnboeenfkaa", sum := "6233a7abc6e7e68a78539da1940df055de70177ec03a7cb21395c7636ffa327a", func := "wigmaker/wigmakertop.TopWhorls", spec := "topWhorls", unfollowed := true, recurses := true, apart := false }
def TopWhorlsSaid : Prop := topWhorlsRow.holds Try.pinned (OpenSpec.ofChange topWhorlsSpec)

/-- ITS FALSE NEIGHBOUR: 'it returns false'. Refute it at one input. -/
def topWhorlsWrong : ChangeSpec := { name := "topWhorls", fn := fun _ => fun
  | [d1, d2, d3] => { results := [.lit (.bool false)], args := [d1, d2, d3] }
  | _ => none }
def TopWhorlsWrongFalsely : Prop := topWhorlsRow.holds Try.pinned (OpenSpec.ofChange topWhorlsWrong)

/- THE SECOND FORM. 'bulk': how many values and letters a reading holds, each counted each time it is reached (what is shared counts as often as it is met; a slice's spare places count too). A statement '..UptoSaid' is the law's where the arguments, and the package variables that the reading takes, are together of bulk at most 1048576: NARROWER than '..Said'. Prove '..Said' where nothing that the law and all that it calls make is longer than what came in: it says more and counts as full. Else prove '..UptoSaid'. A law counts once. -/
mutual
def uptoBulk {H : Type} : DataW H → Nat
  | .lit (.string bytes) => bytes.length + 1
  | .lit _ => 1
  | .nil => 1
  | .ptr d => uptoBulk d + 1
  | .slice elems spare => uptoBulkAll elems + uptoBulkAll spare + 1
  | .agg parts => uptoBulkAll parts + 1
  | .iface _ d => uptoBulk d + 1
  | .map entries => uptoBulkEntries entries + 1
  | .held _ => 1
def uptoBulkAll {H : Type} : List (DataW H) → Nat
  | [] => 0
  | d :: r => uptoBulk d + uptoBulkAll r
def uptoBulkEntries {H : Type} : List (Lit × DataW H) → Nat
  | [] => 0
  | x :: r => uptoBulkEntry x + uptoBulkEntries r
def uptoBulkEntry {H : Type} : Lit × DataW H → Nat
  | (.string bytes, d) => bytes.length + uptoBulk d + 1
  | (_, d) => uptoBulk d + 1
 end
def uptoSmall : (H : Type) → List (DataW H) → Bool := fun _ ds => decide (uptoBulkAll ds ≤ 1048576)
def OpenSpec.upto (s : _root_.Go.ChangeSpec) : _root_.Go.OpenSpec := { _root_.Go.OpenSpec.ofChange s with cond := some uptoSmall }

/-- 'wigmakerlaw03.FlowValidates', WHERE WHAT IT READS IS OF BULK AT MOST 1048576: true; the input reads as it did. -/
def flowValidatesUptoRow : OpenClaim := { program := "ytahmdnboeenfkaa", sum := "6233a7abc6e7e68a78539da1940df055de70177ec03a7cb21395c7636ffa327a", func := "wigmaker/wigmakerlaw03.FlowValidates", spec := "flowValidates", unfollowed := true, recurses := true, apart := false, narrowed := true }
def FlowValidatesUptoSaid : Prop := flowValidatesUptoRow.holds Try.pinned (OpenSpec.upto flowValidatesSpec)

/-- 'wigmakerlaw03.FlowTurns', WHERE WHAT IT READS IS OF BULK AT MOST 1048576: true; the input reads as it did. -/
def flowTurnsUptoRow : OpenClaim := { program := "ytahmdnboeenfkaa", sum := "6233a7abc6e7e68a78539da1940df055de70177ec03a7cb21395c7636ffa327a", func := "wigmaker/wigmakerlaw03.FlowTurns", spec := "flowTurns", unfollowed := true, recurses := true, apart := false, narrowed := true }
def FlowTurnsUptoSaid : Prop := flowTurnsUptoRow.holds Try.pinned (OpenSpec.upto flowTurnsSpec)

/-- 'wigmakerlaw03.FlowWhorls', WHERE WHAT IT READS IS OF BULK AT MOST 1048576: true; the input reads as it did. -/
def flowWhorlsUptoRow : OpenClaim := { program := "ytahmdnboeenfkaa", sum := "6233a7abc6e7e68a78539da1940df055de70177ec03a7cb21395c7636ffa327a", func := "wigmaker/wigmakerlaw03.FlowWhorls", spec := "flowWhorls", unfollowed := true, recurses := true, apart := false, narrowed := true }
def FlowWhorlsUptoSaid : Prop := flowWhorlsUptoRow.holds Try.pinned (OpenSpec.upto flowWhorlsSpec)

/-- 'wigmakerlaw03.FlowWalks', WHERE WHAT IT READS IS OF BULK AT MOST 1048576: true; the input reads as it did. -/
def flowWalksUptoRow : OpenClaim := { program := "ytahmdnboeenfkaa", sum := "6233a7abc6e7e68a78539da1940df055de70177ec03a7cb21395c7636ffa327a", func := "wigmaker/wigmakerlaw03.FlowWalks", spec := "flowWalks", unfollowed := true, recurses := true, apart := false, narrowed := true }
def FlowWalksUptoSaid : Prop := flowWalksUptoRow.holds Try.pinned (OpenSpec.upto flowWalksSpec)

/-- 'wigmakerlaw03.FlowWalksBack', WHERE WHAT IT READS IS OF BULK AT MOST 1048576: true; the input reads as it did. -/
def flowWalksBackUptoRow : OpenClaim := { program := "ytahmdnboeenfkaa", sum := "6233a7abc6e7e68a78539da1940df055de70177ec03a7cb21395c7636ffa327a", func := "wigmaker/wigmakerlaw03.FlowWalksBack", spec := "flowWalksBack", unfollowed := true, recurses := true, apart := false, narrowed := true }
def FlowWalksBackUptoSaid : Prop := flowWalksBackUptoRow.holds Try.pinned (OpenSpec.upto flowWalksBackSpec)

/-- 'wigmakerlaw03.FlowCombs', WHERE WHAT IT READS IS OF BULK AT MOST 1048576: true; the input reads as it did. -/
def flowCombsUptoRow : OpenClaim := { program := "ytahmdnboeenfkaa", sum := "6233a7abc6e7e68a78539da1940df055de70177ec03a7cb21395c7636ffa327a", func := "wigmaker/wigmakerlaw03.FlowCombs", spec := "flowCombs", unfollowed := true, recurses := true, apart := false, narrowed := true }
def FlowCombsUptoSaid : Prop := flowCombsUptoRow.holds Try.pinned (OpenSpec.upto flowCombsSpec)

/-- 'wigmakerlaw03.FlowCombsOn', WHERE WHAT IT READS IS OF BULK AT MOST 1048576: true; the input reads as it did. -/
def flowCombsOnUptoRow : OpenClaim := { program := "ytahmdnboeenfkaa", sum := "6233a7abc6e7e68a78539da1940df055de70177ec03a7cb21395c7636ffa327a", func := "wigmaker/wigmakerlaw03.FlowCombsOn", spec := "flowCombsOn", unfollowed := true, recurses := true, apart := false, narrowed := true }
def FlowCombsOnUptoSaid : Prop := flowCombsOnUptoRow.holds Try.pinned (OpenSpec.upto flowCombsOnSpec)

/-- 'wigmakerlaw03.FlowRims', WHERE WHAT IT READS IS OF BULK AT MOST 1048576: true; the input reads as it did. -/
def flowRimsUptoRow : OpenClaim := { program := "ytahmdnboeenfkaa", sum := "6233a7abc6e7e68a78539da1940df055de70177ec03a7cb21395c7636ffa327a", func := "wigmaker/wigmakerlaw03.FlowRims", spec := "flowRims", unfollowed := true, recurses := true, apart := false, narrowed := true }
def FlowRimsUptoSaid : Prop := flowRimsUptoRow.holds Try.pinned (OpenSpec.upto flowRimsSpec)

/-- 'wigmakerlaw03.FlowSteeps', WHERE WHAT IT READS IS OF BULK AT MOST 1048576: true; the input reads as it did. -/
def flowSteepsUptoRow : OpenClaim := { program := "ytahmdnboeenfkaa", sum := "6233a7abc6e7e68a78539da1940df055de70177ec03a7cb21395c7636ffa327a", func := "wigmaker/wigmakerlaw03.FlowSteeps", spec := "flowSteeps", unfollowed := true, recurses := true, apart := false, narrowed := true }
def FlowSteepsUptoSaid : Prop := flowSteepsUptoRow.holds Try.pinned (OpenSpec.upto flowSteepsSpec)

/-- 'wigmakerlaw03.FlowBesides', WHERE WHAT IT READS IS OF BULK AT MOST 1048576: true; the input reads as it did. -/
def flowBesidesUptoRow : OpenClaim := { program := "ytahmdnboeenfkaa", sum := "6233a7abc6e7e68a78539da1940df055de70177ec03a7cb21395c7636ffa327a", func := "wigmaker/wigmakerlaw03.FlowBesides", spec := "flowBesides", unfollowed := true, recurses := true, apart := false, narrowed := true }
def FlowBesidesUptoSaid : Prop := flowBesidesUptoRow.holds Try.pinned (OpenSpec.upto flowBesidesSpec)

/-- 'wigmakerlaw03.FlowSets', WHERE WHAT IT READS IS OF BULK AT MOST 1048576: true; the input reads as it did. -/
def flowSetsUptoRow : OpenClaim := { program := "ytahmdnboeenfkaa", sum := "6233a7abc6e7e68a78539da1940df055de70177ec03a7cb21395c7636ffa327a", func := "wigmaker/wigmakerlaw03.FlowSets", spec := "flowSets", unfollowed := true, recurses := true, apart := false, narrowed := true }
def FlowSetsUptoSaid : Prop := flowSetsUptoRow.holds Try.pinned (OpenSpec.upto flowSetsSpec)

/-- 'wigmakerlaw03.FlowSpins', WHERE WHAT IT READS IS OF BULK AT MOST 1048576: true; the input reads as it did. -/
def flowSpinsUptoRow : OpenClaim := { program := "ytahmdnboeenfkaa", sum := "6233a7abc6e7e68a78539da1940df055de70177ec03a7cb21395c7636ffa327a", func := "wigmaker/wigmakerlaw03.FlowSpins", spec := "flowSpins", unfollowed := true, recurses := true, apart := false, narrowed := true }
def FlowSpinsUptoSaid : Prop := flowSpinsUptoRow.holds Try.pinned (OpenSpec.upto flowSpinsSpec)

/-- 'wigmakerlaw03.FlowGroup', WHERE WHAT IT READS IS OF BULK AT MOST 1048576: true; the input reads as it did. -/
def flowGroupUptoRow : OpenClaim := { program := "ytahmdnboeenfkaa", sum := "6233a7abc6e7e68a78539da1940df055de70177ec03a7cb21395c7636ffa327a", func := "wigmaker/wigmakerlaw03.FlowGroup", spec := "flowGroup", unfollowed := true, recurses := true, apart := false, narrowed := true }
def FlowGroupUptoSaid : Prop := flowGroupUptoRow.holds Try.pinned (OpenSpec.upto flowGroupSpec)

/-- 'wigmakertop.TopWhorls', WHERE WHAT IT READS IS OF BULK AT MOST 1048576: true; the input reads as it did. -/
def topWhorlsUptoRow : OpenClaim := { program := "ytahmdnboeenfkaa", sum := "6233a7abc6e7e68a78539da1940df055de70177ec03a7cb21395c7636ffa327a", func := "wigmaker/wigmakertop.TopWhorls", spec := "topWhorls", unfollowed := true, recurses := true, apart := false, narrowed := true }
def TopWhorlsUptoSaid : Prop := topWhorlsUptoRow.holds Try.pinned (OpenSpec.upto topWhorlsSpec)

end Rows
end Go.Proofs.Ytahmdnboeenfkaa
