/- The closed facts of this translation's tables: sizes, zero values, equality of small structs. -/
import Derived.Test.YtfaleddacmbidaaDoorProg
import Derived.Test.YtfaleddacmbidaaDoorFv
namespace Go.Proofs.YtfaleddacmbidaaDoor
open Go.RowKit Go.Sort

theorem info3 : (Tryd.prog.info? 3).map (fun i => (i.zero, i.size, i.bytes)) = some (some (.int .i64 0), 1, 8) := by kernel_rfl
theorem info33 : (Tryd.prog.info? 50).map (fun i => (i.zero, i.size, i.bytes)) = some (some (.agg #[.int .i64 0, .int .i64 0, .int .i64 0]), 3, 24) := by kernel_rfl
theorem mixed : Tryd.prog.follows .mixedOrders = true := by kernel_rfl

def eqE (a b : Edg) : Bool := decide (a = b)
theorem eqE_iff {a b : Edg} : eqE a b = true ↔ a = b := by simp [eqE]
theorem eqE_not {a b : Edg} : eqE a b = false ↔ a ≠ b := by simp [eqE]
theorem eqg33 (o : BinOp) (x y : Operand) (xs ys : Array Value) (w : World) : (eqGuard o 50 x y (.agg xs) (.agg ys)).run Tryd.prog w = .ok () w :=
  run_eqGuard_agg w o 50 x y xs ys (by kernel_rfl)
theorem eqi33 (a b : Edg) (d : Nat) (w : World) : (Op.equalIn (d + 2) 50 (eval_ a) (eval_ b)).run Tryd.prog w = .ok (eqE a b) w := by
  rw [run_equalIn_struct w (d + 1) 50 _ _ (by kernel_rfl) (by kernel_rfl)]
  have hf : (Tryd.prog.fieldsOf 50).toList = [⟨"X", 3, 0, false, "", "", 0⟩, ⟨"Y", 3, 1, false, "", "", 8⟩, ⟨"Up", 3, 2, false, "", "", 16⟩] := by kernel_rfl
  have h3 : Tryd.prog.underlying 3 = some (.int .i64) := by kernel_rfl
  rw [hf]
  obtain ⟨a1, a2, a3⟩ := a
  obtain ⟨b1, b2, b3⟩ := b
  simp [go_sem, h3, eqE]
  by_cases h1 : a1 = b1 <;> by_cases h2 : a2 = b2 <;> by_cases h3 : a3 = b3 <;> simp [h1, h2, h3]
theorem eql33 (a b : Edg) (w : World) : (binOp .eql 50 (eval_ a) (eval_ b)).run Tryd.prog w = .ok (.bool (eqE a b)) w := by
  rw [run_eql_struct, eqi33 a b 9998 w]; rfl
theorem neq33 (a b : Edg) (w : World) : (binOp .neq 50 (eval_ a) (eval_ b)).run Tryd.prog w = .ok (.bool (!eqE a b)) w := by
  rw [run_neq_struct, eqi33 a b 9998 w]; rfl
/-- An element's address, where the slice's own address is not to be rewritten. -/
theorem ix22 {A : Option Addr} {ad : Addr} {n c k : Nat} (h : A = some ad) (hk : k < n) (w : World) : (Instr.indexAt 22 (.slice A n c) (.int .i64 (k : Int))).run Tryd.prog w = .ok (.pointer (some (ad.add k))) w := by
  subst h
  have h0 : (0 : Int) ≤ (k : Int) ∧ (k : Int) < (n : Int) := by omega
  have hs : (sizeOf (Tryd.prog.elem 22)).run Tryd.prog w = .ok 1 w := by kernel_rfl
  rw [run_indexAt_slice w 22 ad n c .i64 k (by kernel_rfl), if_pos h0, hs]
  simp [Result.andThen]
theorem ix23 {A : Option Addr} {ad : Addr} {n c k : Nat} (h : A = some ad) (hk : k < n) (w : World) : (Instr.indexAt 23 (.slice A n c) (.int .i64 (k : Int))).run Tryd.prog w = .ok (.pointer (some (ad.add (k * 3)))) w := by
  subst h
  have h0 : (0 : Int) ≤ (k : Int) ∧ (k : Int) < (n : Int) := by omega
  have hs : (sizeOf (Tryd.prog.elem 23)).run Tryd.prog w = .ok 3 w := by kernel_rfl
  rw [run_indexAt_slice w 23 ad n c .i64 k (by kernel_rfl), if_pos h0, hs]
  simp [Result.andThen]
theorem ix23p {A : Option Addr} {ad : Addr} {n c k : Nat} (h : A = some ad) (hk : k < n) (h0 : 0 < k) (w : World) : (Instr.indexAt 23 (.slice A n c) (.int .i64 ((k : Int) - 1))).run Tryd.prog w = .ok (.pointer (some (ad.add ((k - 1) * 3)))) w := by
  have := ix23 (c := c) h (show k - 1 < n by omega) w
  rwa [show ((k - 1 : Nat) : Int) = (k : Int) - 1 by omega] at this
end Go.Proofs.YtfaleddacmbidaaDoor
