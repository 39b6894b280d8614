/- Rows of edges that the call itself makes: one edge more behind them. -/
import Derived.Test.YtfaleddacmbidaaDoorTb
namespace Go.Proofs.YtfaleddacmbidaaDoor
open Go.RowKit Go.Sort

/-- Since w0 the slice value v has come to hold the edges es, in memory that was made since. -/
structure Own (w0 w : World) (v : Value) (es : List Edg) : Prop where
  row : w.ownsRow w0.heap.size 50 3 v es.length (edgs es)
  bel : Below w0.heap.size w0 w
theorem Own.nil (w : World) : Own w w (.slice none 0 0) [] := ⟨World.ownsRow_nil _ _ _ _, Below.refl _ _⟩
theorem Own.on {w0 w w' : World} {v : Value} {es : List Edg} (h : Own w0 w v es) (hb : Below w.heap.size w w') : Own w0 w' v es := by
  refine ⟨?_, below_trans' h.bel hb⟩
  refine h.row.kept (row := none) ⟨hb.os, hb.tape, hb.output, hb.size, fun k hk _ => hb.block k hk⟩ ?_
  cases hv : v.ownBlock with
  | none => exact .inl rfl
  | some k => exact .inr (by simp)
/-- It is a slice; it reads as the edges. -/
theorem Own.form {w0 w : World} {v : Value} {es : List Edg} (h : Own w0 w v es) : ∃ A c, v = .slice A es.length c ∧ Reads w w.heap.size 3 A es.length (edgs es) := by
  rcases h.row.2 with ⟨rfl, hx⟩ | ⟨g, cap, cur, rfl, _⟩
  · have : es.length = 0 := by
      have := edgs_length es
      rw [hx] at this
      simp at this
      omega
    obtain rfl : es = [] := List.eq_nil_of_length_eq_zero this
    exact ⟨none, 0, rfl, Reads.nil⟩
  · exact ⟨some ⟨g, 0, none⟩, cap, rfl, Reads.of_own h.row⟩

theorem wpList_push {ops : Array Oper} {rest : List Oper} {o : Oper} {a : Act} {Q : Exit → Act → World → Prop} (hgd : o.guard = none) (s x : Operand)
    (ho : o.op = .call { callee := .builtin .append, args := #[s, x], argTypes := #[23, 23] })
    (w0 w : World) (out : Value) (es : List Edg) (e : Edg) (b : Nat) (hs : a.eval s = out) (hown : Own w0 w out es) (hx : a.eval x = .slice (some ⟨b, 0, none⟩) 1 1)
    (hbox : Box w b #[.int .i64 e.1, .int .i64 e.2.1, .int .i64 e.2.2]) (hlen : es.length < 1000000000)
    (h : ∀ v' w', Own w0 w' v' (es ++ [e]) → wpList Tryd.prog ops Q rest (a.put o.dst v') w') : wpList Tryd.prog ops Q (o :: rest) a w := by
  obtain ⟨i0, hi, hz0, hz1, hz2⟩ := info_parts info33
  refine wpList_append_own w hgd s x 23 ho w0.heap.size 50 i0 _ 3 24 Tryd.underlying23 hi hz0 hz1 hz2 rfl (by decide) out es.length (edgs es) hs hown.row
    ⟨b, 0, none⟩ 1 1 (ecells e) hx rfl ?_ ?_ ?_ ?_ hown.bel.size ?_
  · intro j u hj
    have e1 : (⟨b, 0, none⟩ : Addr).add j = ⟨b, j, none⟩ := by
      unfold Addr.add
      split
      · rename_i h0; rw [h0]
      · simp
    rw [e1, hbox.at]
    simpa [ecells] using hj
  · exact edgs_one [e]
  · unfold maxLen; omega
  · omega
  · intro v' w' h1 h2 _
    refine h v' w' ⟨?_, ?_⟩
    · rw [edgs_append, List.length_append]
      exact h1
    · refine hown.bel.grown h2 hown.bel.size fun k hk => (hown.row.lt k hk).1

/-- The same for a row of ints. -/
structure OwnI (w0 w : World) (v : Value) (zs : List Int) : Prop where
  row : w.ownsRow w0.heap.size 3 1 v zs.length (ints zs)
  bel : Below w0.heap.size w0 w
theorem OwnI.nil (w : World) : OwnI w w (.slice none 0 0) [] := ⟨World.ownsRow_nil _ _ _ _, Below.refl _ _⟩
theorem OwnI.on {w0 w w' : World} {v : Value} {zs : List Int} (h : OwnI w0 w v zs) (hb : Below w.heap.size w w') : OwnI w0 w' v zs := by
  refine ⟨?_, below_trans' h.bel hb⟩
  refine h.row.kept (row := none) ⟨hb.os, hb.tape, hb.output, hb.size, fun k hk _ => hb.block k hk⟩ ?_
  cases hv : v.ownBlock with
  | none => exact .inl rfl
  | some k => exact .inr (by simp)
theorem OwnI.form {w0 w : World} {v : Value} {zs : List Int} (h : OwnI w0 w v zs) : ∃ A c, v = .slice A zs.length c ∧ Reads w w.heap.size 1 A zs.length (ints zs) := by
  rcases h.row.2 with ⟨rfl, hx⟩ | ⟨g, cap, cur, rfl, _⟩
  · have : zs.length = 0 := by
      have := ints_length zs
      rw [hx] at this
      simp at this
      omega
    obtain rfl : zs = [] := List.eq_nil_of_length_eq_zero this
    exact ⟨none, 0, rfl, Reads.nil⟩
  · exact ⟨some ⟨g, 0, none⟩, cap, rfl, Reads.of_own h.row⟩
theorem wpList_pushI {ops : Array Oper} {rest : List Oper} {o : Oper} {a : Act} {Q : Exit → Act → World → Prop} (hgd : o.guard = none) (s x : Operand)
    (ho : o.op = .call { callee := .builtin .append, args := #[s, x], argTypes := #[22, 22] })
    (w0 w : World) (out : Value) (zs : List Int) (z : Int) (b : Nat) (hs : a.eval s = out) (hown : OwnI w0 w out zs) (hx : a.eval x = .slice (some ⟨b, 0, none⟩) 1 1)
    (hbox : Box w b #[.int .i64 z]) (hlen : zs.length < 1000000000)
    (h : ∀ v' w', OwnI w0 w' v' (zs ++ [z]) → wpList Tryd.prog ops Q rest (a.put o.dst v') w') : wpList Tryd.prog ops Q (o :: rest) a w := by
  obtain ⟨i0, hi, hz0, hz1, hz2⟩ := info_parts info3
  refine wpList_append_own w hgd s x 22 ho w0.heap.size 3 i0 _ 1 8 Tryd.underlying22 hi hz0 hz1 hz2 rfl (by decide) out zs.length (ints zs) hs hown.row
    ⟨b, 0, none⟩ 1 1 [.int .i64 z] hx rfl ?_ ?_ ?_ ?_ hown.bel.size ?_
  · intro j u hj
    have e1 : (⟨b, 0, none⟩ : Addr).add j = ⟨b, j, none⟩ := by
      unfold Addr.add
      split
      · rename_i h0; rw [h0]
      · simp
    rw [e1, hbox.at]
    simpa using hj
  · exact ints_one [z]
  · unfold maxLen; omega
  · omega
  · intro v' w' h1 h2 _
    refine h v' w' ⟨?_, ?_⟩
    · rw [ints_append, List.length_append]
      exact h1
    · refine hown.bel.grown h2 hown.bel.size fun k hk => (hown.row.lt k hk).1
theorem take_succ_of {α : Type} {l : List α} {k : Nat} {x : α} (h : l[k]? = some x) : l.take (k + 1) = l.take k ++ [x] := by
  rw [List.take_add_one, h]; rfl
end Go.Proofs.YtfaleddacmbidaaDoor
