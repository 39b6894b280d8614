/- Equality of forms and of matrices, as the model computes it. -/
import Derived.Test.YtgkgloafjhiakaaDoorQ8
import Derived.ChangeKeysEq
namespace Go.Proofs.YtgkgloafjhiakaaDoor
open Go.RowKit Go.Sort

theorem mk_toList_eq (p q : List UInt8) : ((mkB p).toList == (mkB q).toList) = decide (p = q) := by
  rw [ByteArray.toList_eq, ByteArray.toList_eq, Bool.eq_iff_iff, beq_iff_eq, decide_eq_true_eq]
abbrev fval (k : Int) (p : List UInt8) : Value := .agg #[.int .i64 k, .string (mkB p)]
theorem eqi56 (k k' : Int) (p p' : List UInt8) (d : Nat) (w : World) : (Op.equalIn (d + 3) 56 (fval k p) (fval k' p')).run Tryd.prog w = .ok (decide (k = k' ∧ p = p')) w := by
  rw [run_equalIn_struct w (d + 2) 56 _ _ (by kernel_rfl) (by kernel_rfl)]
  have hf : (Tryd.prog.fieldsOf 56).toList = [⟨"twists", 3, 0, false, "", "wigmaker/plait", 0⟩, ⟨"rest", 9, 1, false, "", "wigmaker/plait", 8⟩] := by kernel_rfl
  have h3 : Tryd.prog.underlying 3 = some (.int .i64) := by kernel_rfl
  have h9 : Tryd.prog.underlying 9 = some .string := by kernel_rfl
  rw [hf]
  have hs := mk_toList_eq p p'
  simp only [Op.eqFields]
  simp [go_sem, h3, h9]
  by_cases h1 : k = k' <;> by_cases h2 : p = p' <;> simp [h1, h2]
theorem eql56 (k k' : Int) (p p' : List UInt8) (w : World) : (binOp .eql 56 (fval k p) (fval k' p')).run Tryd.prog w = .ok (.bool (decide (k = k' ∧ p = p'))) w := by
  rw [run_eql_struct, eqi56 k k' p p' 9997 w]; rfl
abbrev mval (m : Mat) : Value := .agg #[.int .i64 m.1, .int .i64 m.2.1, .int .i64 m.2.2.1, .int .i64 m.2.2.2]
theorem info3i : ∃ i, Tryd.prog.info? 3 = some i := Option.isSome_iff_exists.1 (by kernel_rfl)
theorem eqi34 (a b : Mat) (d : Nat) (w : World) : (Op.equalIn (d + 2) 34 (mval a) (mval b)).run Tryd.prog w = .ok (decide (a = b)) w := by
  obtain ⟨i, hi⟩ := info3i
  rw [run_equalIn_array w (d + 1) _ _ (show Tryd.prog.underlying 34 = some (.array 4 3) by kernel_rfl) hi]
  have hc : Tryd.prog.cellsOf 3 = 1 := by kernel_rfl
  have h3 : Tryd.prog.underlying 3 = some (.int .i64) := by kernel_rfl
  rw [hc]
  obtain ⟨a1, a2, a3, a4⟩ := a
  obtain ⟨b1, b2, b3, b4⟩ := b
  have hr : List.range 4 = [0, 1, 2, 3] := rfl
  rw [hr]
  simp [go_sem, Op.eqItems, h3]
  by_cases h1 : a1 = b1 <;> by_cases h2 : a2 = b2 <;> by_cases h3 : a3 = b3 <;> by_cases h4 : a4 = b4 <;> simp [h1, h2, h3, h4]
theorem eql34 (a b : Mat) (w : World) : (binOp .eql 34 (mval a) (mval b)).run Tryd.prog w = .ok (.bool (decide (a = b))) w := by
  rw [run_eql_struct, eqi34 a b 9998 w]; rfl
theorem neq34 (a b : Mat) (w : World) : (binOp .neq 34 (mval a) (mval b)).run Tryd.prog w = .ok (.bool (!decide (a = b))) w := by
  rw [run_neq_struct, eqi34 a b 9998 w]; rfl
end Go.Proofs.YtgkgloafjhiakaaDoor
