/- A box that is written over and over, beside a row that grows. -/
import Derived.Test.YtahmdnboeenfkaaCp
import Derived.Test.YtahmdnboeenfkaaOwn2
namespace Go.Proofs.Ytahmdnboeenfkaa
open Go.RowKit Go.Sort

/-- Since w0: block B, not frozen, holds cs; rv owns n elements of type e, in memory from bl on; nothing else is written. -/
structure BInv (e : TypeId) (sz : Nat) (w0 w : World) (B bl : Nat) (cs : Array Value) (rv : Value) (n : Nat) (xs : List Value) : Prop where
  box : Box w B cs
  fz : ∀ i, w.frozen? ⟨B, i, none⟩ = false
  row : w.ownsRow bl e sz rv n xs
  bel : Below w0.heap.size w0 w
  sz : bl ≤ w.heap.size
  b0 : w0.heap.size ≤ B
  b1 : B < bl
section
variable {e : TypeId} {sz : Nat} {w0 w w' : World} {B bl n : Nat} {cs : Array Value} {rv : Value} {xs : List Value}
theorem BInv.start (e : TypeId) (sz : Nat) (w0 : World) (cs : Array Value) (t : TypeId) : BInv e sz w0 (w0.alloc (.cells cs t)) w0.heap.size (w0.heap.size + 1) cs (.slice none 0 0) 0 [] where
  box := Box.new _ _ _
  fz := fz_new _ _ _
  row := World.ownsRow_nil _ _ _ _
  bel := belowA _ _
  sz := by simp
  b0 := Nat.le_refl _
  b1 := by omega
theorem BInv.on (h : BInv e sz w0 w B bl cs rv n xs) (hb : Below w.heap.size w w') : BInv e sz w0 w' B bl cs rv n xs where
  box := h.box.below hb
  fz := fz_below h.box.1 h.fz hb
  row := by
    refine h.row.kept (row := none) ⟨hb.os, hb.tape, hb.output, hb.size, fun k hk _ => hb.block k hk⟩ ?_
    cases hv : rv.ownBlock with
    | none => exact .inl rfl
    | some k => exact .inr (by simp)
  bel := below_trans' h.bel hb
  sz := Nat.le_trans h.sz hb.size
  b0 := h.b0
  b1 := h.b1
theorem BInv.pushed (h : BInv e sz w0 w B bl cs rv n xs) {n' : Nat} {ys : List Value} {v' : Value} (h1 : w'.ownsRow bl e sz v' n' ys) (h2 : w.grownBy w' rv.ownBlock) : BInv e sz w0 w' B bl cs v' n' ys := by
  have hrow : ∀ k, rv.ownBlock = some k → bl ≤ k := fun k hk => (h.row.lt k hk).1
  have hblk : ∀ k, k < bl → w'.heap[k]? = w.heap[k]? := fun k hk => h2.block k (Nat.lt_of_lt_of_le hk h.sz) (fun e => by have := hrow k e.symm; omega)
  have hB : Below bl w w' := ⟨h2.os, h2.tape, h2.output, h2.size, hblk⟩
  refine ⟨⟨Nat.lt_of_lt_of_le h.box.1 h2.size, fun i => ?_⟩, fun i => ?_, h1, ?_, Nat.le_trans h.sz h2.size, h.b0, h.b1⟩
  · rw [hB.cell (p := ⟨B, i, none⟩) h.b1]; exact h.box.2 i
  · rw [hB.frozen (p := ⟨B, i, none⟩) h.b1]; exact h.fz i
  · exact h.bel.grown h2 h.bel.size fun k hk => by have := hrow k hk; have := h.b0; have := h.b1; omega
theorem BInv.stored (h : BInv e sz w0 w B bl cs rv n xs) {i : Nat} (hi : i < cs.size) (u : Value) : BInv e sz w0 (w.setCell ⟨B, i, none⟩ u) B bl (cs.setIfInBounds i u) rv n xs := by
  refine ⟨h.box.set hi u, fun j => by rw [World.frozen?_setCell]; exact h.fz j, ?_, h.bel.setCell h.b0 _, by rw [size_set]; exact h.sz, h.b0, h.b1⟩
  exact ownsRow_setCell_below h.row h.b1 _
theorem BInv.form (h : BInv e sz w0 w B bl cs rv n xs) : ∃ A c, rv = .slice A n c ∧ Reads w w.heap.size sz A n xs := by
  rcases h.row.2 with ⟨rfl, rfl⟩ | ⟨g, cap, cur, rfl, _⟩
  · have h1 := h.row.1
    obtain rfl : xs = [] := List.eq_nil_of_length_eq_zero (by rw [h1]; simp)
    exact ⟨none, 0, rfl, Reads.nil⟩
  · exact ⟨some ⟨g, 0, none⟩, cap, rfl, Reads.of_own h.row⟩
end
theorem wpList_pushB {ops : Array Oper} {rest : List Oper} {o : Oper} {a : Act} {Q : Exit → Act → World → Prop} (hgd : o.guard = none) (s x : Operand) (t e : TypeId)
    (ho : o.op = .call { callee := .builtin .append, args := #[s, x], argTypes := #[t, t] }) {z : Value} {sz bytes : Nat} (ht : Try.prog.underlying t = some (.slice e))
    (hinfo : (Try.prog.info? e).map (fun i => (i.zero, i.size, i.bytes)) = some (some z, sz, bytes)) (hzs : z.cells.size = sz) (hsz : 0 < sz) (hby : bytes ≤ 1000)
    (w0 w : World) (B bl : Nat) (cs : Array Value) (out : Value) (n : Nat) (xs news : List Value) (b : Nat) (hs : a.eval s = out) (hown : BInv e sz w0 w B bl cs out n xs) (hx : a.eval x = .slice (some ⟨b, 0, none⟩) 1 1)
    (hbox : Box w b news.toArray) (hl : news.length = sz) (h1 : ∀ u ∈ news, u.oneCell' = true) (hlen : n < 1000000000)
    (h : ∀ v' w', BInv e sz w0 w' B bl cs v' (n + 1) (xs ++ news) → wpList Try.prog ops Q rest (a.put o.dst v') w') : wpList Try.prog ops Q (o :: rest) a w := by
  obtain ⟨i0, hi, hz0, hz1, hz2⟩ := info_parts hinfo
  refine wpList_append_own w hgd s x t ho bl e i0 _ sz bytes ht hi hz0 hz1 hz2 hzs hsz out n xs hs hown.row
    ⟨b, 0, none⟩ 1 1 news hx (by rw [hl]; omega) ?_ h1 ?_ ?_ hown.sz ?_
  · intro j u hj
    have e1 : (⟨b, 0, none⟩ : Addr).add j = ⟨b, j, none⟩ := by
      unfold Addr.add
      split
      · rename_i h0; rw [h0]
      · simp
    rw [e1, hbox.at]
    simpa using hj
  · unfold maxLen; omega
  · have := Nat.mul_le_mul (show n + 1 ≤ 1000000000 by omega) hby
    omega
  · intro v' w' h1 h2 _
    exact h v' w' (hown.pushed h1 h2)
end Go.Proofs.Ytahmdnboeenfkaa
