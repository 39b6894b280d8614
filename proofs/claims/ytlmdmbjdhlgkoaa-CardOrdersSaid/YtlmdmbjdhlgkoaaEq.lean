/- Equality of entries and of clocks, as the model computes it. -/
import Derived.Test.YtlmdmbjdhlgkoaaC7
import Derived.ChangeKeysEq
namespace Go.Proofs.Ytlmdmbjdhlgkoaa
open Go.RowKit Go.Sort

def eqN (a b : Ent) : Bool := decide (a = b)
theorem eqN_iff {a b : Ent} : eqN a b = true ↔ a = b := by simp [eqN]
theorem eqN_not {a b : Ent} : eqN a b = false ↔ a ≠ b := by simp [eqN]
theorem eqg53 (o : BinOp) (x y : Operand) (xs ys : Array Value) (w : World) : (eqGuard o 53 x y (.agg xs) (.agg ys)).run Try.prog w = .ok () w :=
  run_eqGuard_agg w o 53 x y xs ys (by kernel_rfl)
theorem eqg35 (o : BinOp) (x y : Operand) (xs ys : Array Value) (w : World) : (eqGuard o 35 x y (.agg xs) (.agg ys)).run Try.prog w = .ok () w :=
  run_eqGuard_agg w o 35 x y xs ys (by kernel_rfl)
def eqC (a b : Int × Int × Int) : Bool := decide (a = b)
abbrev cval (a : Int × Int × Int) : Value := .agg #[.int .i64 a.1, .int .i64 a.2.1, .int .i64 a.2.2]
theorem info3i : ∃ i, Try.prog.info? 3 = some i := Option.isSome_iff_exists.1 (by kernel_rfl)
theorem eqi35 (a b : Int × Int × Int) (d : Nat) (w : World) : (Op.equalIn (d + 2) 35 (cval a) (cval b)).run Try.prog w = .ok (eqC a b) w := by
  obtain ⟨i, hi⟩ := info3i
  rw [run_equalIn_array w (d + 1) _ _ (show Try.prog.underlying 35 = some (.array 3 3) by kernel_rfl) hi]
  have hc : Try.prog.cellsOf 3 = 1 := by kernel_rfl
  have h3 : Try.prog.underlying 3 = some (.int .i64) := by kernel_rfl
  rw [hc]
  obtain ⟨a1, a2, a3⟩ := a
  obtain ⟨b1, b2, b3⟩ := b
  have hr : List.range 3 = [0, 1, 2] := rfl
  rw [hr]
  simp [go_sem, Op.eqItems, h3, eqC]
  by_cases h1 : a1 = b1 <;> by_cases h2 : a2 = b2 <;> by_cases h3 : a3 = b3 <;> simp [h1, h2, h3]
theorem eql35 (a b : Int × Int × Int) (w : World) : (binOp .eql 35 (cval a) (cval b)).run Try.prog w = .ok (.bool (eqC a b)) w := by
  rw [run_eql_struct, eqi35 a b 9998 w]; rfl
theorem bytes_toList_inj {a b : ByteArray} (h : a.toList = b.toList) : a = b := by
  rw [ByteArray.toList_eq, ByteArray.toList_eq] at h
  obtain ⟨⟨a⟩⟩ := a
  obtain ⟨⟨b⟩⟩ := b
  simp at h
  rw [h]
set_option maxRecDepth 10000 in
theorem eqi53 (a b : Ent) (d : Nat) (w : World) : (Op.equalIn (d + 3) 53 (eval_ a) (eval_ b)).run Try.prog w = .ok (eqN a b) w := by
  rw [run_equalIn_struct w (d + 2) 53 _ _ (by kernel_rfl) (by kernel_rfl)]
  have hf : (Try.prog.fieldsOf 53).toList = [⟨"Place", 3, 0, false, "", "", 0⟩, ⟨"Seq", 3, 1, false, "", "", 8⟩, ⟨"Seen", 35, 2, false, "", "", 16⟩, ⟨"Text", 9, 5, false, "", "", 40⟩] := by kernel_rfl
  have h3 : Try.prog.underlying 3 = some (.int .i64) := by kernel_rfl
  have h9 : Try.prog.underlying 9 = some .string := by kernel_rfl
  rw [hf]
  obtain ⟨a1, a2, a3, a4⟩ := a
  obtain ⟨b1, b2, b3, b4⟩ := b
  have he := fun w => eqi35 a3 b3 d w
  have hs : ((a4.toList == b4.toList) : Bool) = decide (a4 = b4) := by
    rw [Bool.eq_iff_iff, beq_iff_eq, decide_eq_true_eq]
    exact ⟨bytes_toList_inj, fun h => by rw [h]⟩
  dsimp only [eval_]
  simp only [Op.eqFields]
  simp [go_sem, h3, h9, he, hs, eqN, eqC]
  by_cases h1 : a1 = b1 <;> by_cases h2 : a2 = b2 <;> by_cases h3 : a3 = b3 <;> by_cases h4 : a4 = b4 <;> simp [h1, h2, h3, h4]
theorem eql53 (a b : Ent) (w : World) : (binOp .eql 53 (eval_ a) (eval_ b)).run Try.prog w = .ok (.bool (eqN a b)) w := by
  rw [run_eql_struct, eqi53 a b 9997 w]; rfl
theorem neq53 (a b : Ent) (w : World) : (binOp .neq 53 (eval_ a) (eval_ b)).run Try.prog w = .ok (.bool (!eqN a b)) w := by
  rw [run_neq_struct, eqi53 a b 9997 w]; rfl
end Go.Proofs.Ytlmdmbjdhlgkoaa
