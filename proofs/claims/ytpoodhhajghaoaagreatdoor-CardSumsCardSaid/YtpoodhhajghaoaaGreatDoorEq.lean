/- Equality of entries and of clocks, as the model computes it. -/
import Derived.Test.YtpoodhhajghaoaaGreatDoorC7
import Derived.ChangeKeysEq
namespace Go.Proofs.YtpoodhhajghaoaaGreatDoor
open Go.RowKit Go.Sort

def eqN (a b : Ent) : Bool := decide (a = b)
theorem eqN_iff {a b : Ent} : eqN a b = true ↔ a = b := by simp [eqN]
theorem eqN_not {a b : Ent} : eqN a b = false ↔ a ≠ b := by simp [eqN]
theorem eqg53 (o : BinOp) (x y : Operand) (xs ys : Array Value) (w : World) : (eqGuard o 38 x y (.agg xs) (.agg ys)).run Tryz.prog w = .ok () w :=
  run_eqGuard_agg w o 38 x y xs ys (by kernel_rfl)
theorem eqg35 (o : BinOp) (x y : Operand) (xs ys : Array Value) (w : World) : (eqGuard o 36 x y (.agg xs) (.agg ys)).run Tryz.prog w = .ok () w :=
  run_eqGuard_agg w o 36 x y xs ys (by kernel_rfl)
def eqC (a b : Int × Int × Int) : Bool := decide (a = b)
abbrev cval (a : Int × Int × Int) : Value := .agg #[.int .i64 a.1, .int .i64 a.2.1, .int .i64 a.2.2]
theorem info3i : ∃ i, Tryz.prog.info? 3 = some i := Option.isSome_iff_exists.1 (by kernel_rfl)
theorem eqi35 (a b : Int × Int × Int) (d : Nat) (w : World) : (Op.equalIn (d + 2) 36 (cval a) (cval b)).run Tryz.prog w = .ok (eqC a b) w := by
  obtain ⟨i, hi⟩ := info3i
  rw [run_equalIn_array w (d + 1) _ _ (show Tryz.prog.underlying 36 = some (.array 3 3) by kernel_rfl) hi]
  have hc : Tryz.prog.cellsOf 3 = 1 := by kernel_rfl
  have h3 : Tryz.prog.underlying 3 = some (.int .i64) := by kernel_rfl
  rw [hc]
  obtain ⟨a1, a2, a3⟩ := a
  obtain ⟨b1, b2, b3⟩ := b
  have hr : List.range 3 = [0, 1, 2] := rfl
  rw [hr]
  simp [go_sem, Op.eqItems, h3, eqC]
  by_cases h1 : a1 = b1 <;> by_cases h2 : a2 = b2 <;> by_cases h3 : a3 = b3 <;> simp [h1, h2, h3]
theorem eql35 (a b : Int × Int × Int) (w : World) : (binOp .eql 36 (cval a) (cval b)).run Tryz.prog w = .ok (.bool (eqC a b)) w := by
  rw [run_eql_struct, eqi35 a b 9998 w]; rfl
theorem bytes_toList_inj {a b : ByteArray} (h : a.toList = b.toList) : a = b := by
  rw [ByteArray.toList_eq, ByteArray.toList_eq] at h
  obtain ⟨⟨a⟩⟩ := a
  obtain ⟨⟨b⟩⟩ := b
  simp at h
  rw [h]
set_option maxRecDepth 10000 in
theorem eqi53 (a b : Ent) (d : Nat) (w : World) : (Op.equalIn (d + 3) 38 (eval_ a) (eval_ b)).run Tryz.prog w = .ok (eqN a b) w := by
  rw [run_equalIn_struct w (d + 2) 38 _ _ (by kernel_rfl) (by kernel_rfl)]
  have hf : (Tryz.prog.fieldsOf 38).toList = [⟨"Place", 3, 0, false, "", "", 0⟩, ⟨"Seq", 3, 1, false, "", "", 8⟩, ⟨"Seen", 36, 2, false, "", "", 16⟩, ⟨"Text", 9, 5, false, "", "", 40⟩] := by kernel_rfl
  have h3 : Tryz.prog.underlying 3 = some (.int .i64) := by kernel_rfl
  have h9 : Tryz.prog.underlying 9 = some .string := by kernel_rfl
  rw [hf]
  obtain ⟨a1, a2, a3, a4⟩ := a
  obtain ⟨b1, b2, b3, b4⟩ := b
  have he := fun w => eqi35 a3 b3 d w
  have hs : ((a4.toList == b4.toList) : Bool) = decide (a4 = b4) := by
    rw [Bool.eq_iff_iff, beq_iff_eq, decide_eq_true_eq]
    exact ⟨bytes_toList_inj, fun h => by rw [h]⟩
  dsimp only [eval_]
  simp only [Op.eqFields]
  simp [go_sem, h3, h9, he, hs, eqN, eqC]
  by_cases h1 : a1 = b1 <;> by_cases h2 : a2 = b2 <;> by_cases h3 : a3 = b3 <;> by_cases h4 : a4 = b4 <;> simp [h1, h2, h3, h4]
theorem eql53 (a b : Ent) (w : World) : (binOp .eql 38 (eval_ a) (eval_ b)).run Tryz.prog w = .ok (.bool (eqN a b)) w := by
  rw [run_eql_struct, eqi53 a b 9997 w]; rfl
theorem neq53 (a b : Ent) (w : World) : (binOp .neq 38 (eval_ a) (eval_ b)).run Tryz.prog w = .ok (.bool (!eqN a b)) w := by
  rw [run_neq_struct, eqi53 a b 9997 w]; rfl
end Go.Proofs.YtpoodhhajghaoaaGreatDoor
