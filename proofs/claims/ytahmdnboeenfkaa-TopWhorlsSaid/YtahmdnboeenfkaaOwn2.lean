/- Rows that the call itself makes, of any element: one element more behind them. Whorls, places. -/
import Derived.Test.YtahmdnboeenfkaaOwn
import Derived.Test.YtahmdnboeenfkaaPl2
namespace Go.Proofs.Ytahmdnboeenfkaa
open Go.RowKit Go.Sort

/-- Since w0 the slice value v has come to hold n elements of type e, in memory that was made since. -/
structure OwnX (e : TypeId) (sz : Nat) (w0 w : World) (v : Value) (n : Nat) (xs : List Value) : Prop where
  row : w.ownsRow w0.heap.size e sz v n xs
  bel : Below w0.heap.size w0 w
section
variable {e : TypeId} {sz n : Nat} {w0 w w' : World} {v : Value} {xs : List Value}
theorem OwnX.nil (e : TypeId) (sz : Nat) (w : World) : OwnX e sz w w (.slice none 0 0) 0 [] := ⟨World.ownsRow_nil _ _ _ _, Below.refl _ _⟩
theorem OwnX.on (h : OwnX e sz w0 w v n xs) (hb : Below w.heap.size w w') : OwnX e sz w0 w' v n xs := by
  refine ⟨?_, below_trans' h.bel hb⟩
  refine h.row.kept (row := none) ⟨hb.os, hb.tape, hb.output, hb.size, fun k hk _ => hb.block k hk⟩ ?_
  cases hv : v.ownBlock with
  | none => exact .inl rfl
  | some k => exact .inr (by simp)
theorem OwnX.form (h : OwnX e sz w0 w v n xs) : ∃ A c, v = .slice A n c ∧ Reads w w.heap.size sz A n xs := by
  rcases h.row.2 with ⟨rfl, rfl⟩ | ⟨g, cap, cur, rfl, _⟩
  · have h1 := h.row.1
    obtain rfl : xs = [] := List.eq_nil_of_length_eq_zero (by rw [h1]; simp)
    exact ⟨none, 0, rfl, Reads.nil⟩
  · exact ⟨some ⟨g, 0, none⟩, cap, rfl, Reads.of_own h.row⟩
end
theorem wpList_pushX {ops : Array Oper} {rest : List Oper} {o : Oper} {a : Act} {Q : Exit → Act → World → Prop} (hgd : o.guard = none) (s x : Operand) (t e : TypeId)
    (ho : o.op = .call { callee := .builtin .append, args := #[s, x], argTypes := #[t, t] }) {z : Value} {sz bytes : Nat} (ht : Try.prog.underlying t = some (.slice e))
    (hinfo : (Try.prog.info? e).map (fun i => (i.zero, i.size, i.bytes)) = some (some z, sz, bytes)) (hzs : z.cells.size = sz) (hsz : 0 < sz) (hby : bytes ≤ 1000)
    (w0 w : World) (out : Value) (n : Nat) (xs news : List Value) (b : Nat) (hs : a.eval s = out) (hown : OwnX e sz w0 w out n xs) (hx : a.eval x = .slice (some ⟨b, 0, none⟩) 1 1)
    (hbox : Box w b news.toArray) (hl : news.length = sz) (h1 : ∀ u ∈ news, u.oneCell' = true) (hlen : n < 1000000000)
    (h : ∀ v' w', OwnX e sz w0 w' v' (n + 1) (xs ++ news) → wpList Try.prog ops Q rest (a.put o.dst v') w') : wpList Try.prog ops Q (o :: rest) a w := by
  obtain ⟨i0, hi, hz0, hz1, hz2⟩ := info_parts hinfo
  refine wpList_append_own w hgd s x t ho w0.heap.size e i0 _ sz bytes ht hi hz0 hz1 hz2 hzs hsz out n xs hs hown.row
    ⟨b, 0, none⟩ 1 1 news hx (by rw [hl]; omega) ?_ h1 ?_ ?_ hown.bel.size ?_
  · intro j u hj
    have e1 : (⟨b, 0, none⟩ : Addr).add j = ⟨b, j, none⟩ := by
      unfold Addr.add
      split
      · rename_i h0; rw [h0]
      · simp
    rw [e1, hbox.at]
    simpa using hj
  · unfold maxLen; omega
  · have := Nat.mul_le_mul (show n + 1 ≤ 1000000000 by omega) hby
    omega
  · intro v' w' h1 h2 _
    exact h v' w' ⟨h1, hown.bel.grown h2 hown.bel.size fun k hk => (hown.row.lt k hk).1⟩

theorem info44 : (Try.prog.info? 44).map (fun i => (i.zero, i.size, i.bytes)) = some (some (.agg #[.int .i64 0, .int .i64 0, .int .i64 0]), 3, 24) := by kernel_rfl
theorem info35 : (Try.prog.info? 35).map (fun i => (i.zero, i.size, i.bytes)) = some (some (.agg #[.int .i64 0, .int .i64 0]), 2, 16) := by kernel_rfl
theorem eqg44 (o : BinOp) (x y : Operand) (xs ys : Array Value) (w : World) : (eqGuard o 44 x y (.agg xs) (.agg ys)).run Try.prog w = .ok () w :=
  run_eqGuard_agg w o 44 x y xs ys (by kernel_rfl)
theorem eqi44 (a b : Edg) (d : Nat) (w : World) : (Op.equalIn (d + 2) 44 (eval_ a) (eval_ b)).run Try.prog w = .ok (eqE a b) w := by
  rw [run_equalIn_struct w (d + 1) 44 _ _ (by kernel_rfl) (by kernel_rfl)]
  have hf : (Try.prog.fieldsOf 44).toList = [⟨"X", 3, 0, false, "", "", 0⟩, ⟨"Y", 3, 1, false, "", "", 8⟩, ⟨"Index", 3, 2, false, "", "", 16⟩] := by kernel_rfl
  have h3 : Try.prog.underlying 3 = some (.int .i64) := by kernel_rfl
  rw [hf]
  obtain ⟨a1, a2, a3⟩ := a
  obtain ⟨b1, b2, b3⟩ := b
  simp [go_sem, h3, eqE]
  by_cases h1 : a1 = b1 <;> by_cases h2 : a2 = b2 <;> by_cases h3 : a3 = b3 <;> simp [h1, h2, h3]
theorem neq44 (a b : Edg) (w : World) : (binOp .neq 44 (eval_ a) (eval_ b)).run Try.prog w = .ok (.bool (!eqE a b)) w := by
  rw [run_neq_struct, eqi44 a b 9998 w]; rfl
theorem ix40 {A : Option Addr} {ad : Addr} {n c k : Nat} (h : A = some ad) (hk : k < n) (w : World) : (Instr.indexAt 40 (.slice A n c) (.int .i64 (k : Int))).run Try.prog w = .ok (.pointer (some (ad.add (k * 3)))) w := by
  subst h
  have h0 : (0 : Int) ≤ (k : Int) ∧ (k : Int) < (n : Int) := by omega
  have hs : (sizeOf (Try.prog.elem 40)).run Try.prog w = .ok 3 w := by kernel_rfl
  rw [run_indexAt_slice w 40 ad n c .i64 k (by kernel_rfl), if_pos h0, hs]
  simp [Result.andThen]
theorem ix45 {A : Option Addr} {ad : Addr} {n c k : Nat} (h : A = some ad) (hk : k < n) (w : World) : (Instr.indexAt 45 (.slice A n c) (.int .i64 (k : Int))).run Try.prog w = .ok (.pointer (some (ad.add (k * 2)))) w := by
  subst h
  have h0 : (0 : Int) ≤ (k : Int) ∧ (k : Int) < (n : Int) := by omega
  have hs : (sizeOf (Try.prog.elem 45)).run Try.prog w = .ok 2 w := by kernel_rfl
  rw [run_indexAt_slice w 45 ad n c .i64 k (by kernel_rfl), if_pos h0, hs]
  simp [Result.andThen]
theorem ix45p {A : Option Addr} {ad : Addr} {n c k : Nat} (h : A = some ad) (hk : k < n) (h0 : 0 < k) (w : World) : (Instr.indexAt 45 (.slice A n c) (.int .i64 ((k : Int) - 1))).run Try.prog w = .ok (.pointer (some (ad.add ((k - 1) * 2)))) w := by
  have := ix45 (c := c) h (show k - 1 < n by omega) w
  rwa [show ((k - 1 : Nat) : Int) = (k : Int) - 1 by omega] at this
end Go.Proofs.Ytahmdnboeenfkaa
