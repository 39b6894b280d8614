/- A field under construction: a box whose last cell holds a row of edges that grows. -/
import Derived.Test.YtahmdnboeenfkaaOwn
import Derived.Deep.RegionLaw
namespace Go.Proofs.Ytahmdnboeenfkaa
open Go.RowKit Go.Sort

theorem fz_new (w : World) (cs : Array Value) (t : TypeId) : ∀ i, (w.alloc (.cells cs t)).frozen? ⟨w.heap.size, i, none⟩ = false := fun i => by
  have h := heap_alloc_new w (.cells cs t)
  unfold World.frozen?
  rw [h]
  simp
theorem fz_drew {w : World} {b : Nat} (h : ∀ i, w.frozen? ⟨b, i, none⟩ = false) : ∀ i, w.drew.frozen? ⟨b, i, none⟩ = false := h
theorem fz_below {w w' : World} {b : Nat} (hb : b < w.heap.size) (h : ∀ i, w.frozen? ⟨b, i, none⟩ = false) (hw : Below w.heap.size w w') : ∀ i, w'.frozen? ⟨b, i, none⟩ = false := fun i => by
  rw [hw.frozen (p := ⟨b, i, none⟩) hb]; exact h i
theorem undrew {w w' : World} (h : Below w.drew.heap.size w.drew w') : Below w.heap.size w w' := ⟨h.os, h.tape, h.output, h.size, h.block⟩
theorem Box.far {w : World} {b : Nat} {cs : Array Value} (h : Box w b cs) {p : Addr} (hne : b ≠ p.block) (u : Value) : Box (w.setCell p u) b cs :=
  ⟨by have := h.1; simpa [World.setCell] using this, fun i => (World.cell?_setCell_other w p ⟨b, i, none⟩ u (fun e => hne (by rw [e]))).trans (h.2 i)⟩
theorem Reads.far {w : World} {B size n : Nat} {A : Option Addr} {xs : List Value} (h : Reads w B size A n xs) {q : Addr} (hne : ∀ p, A = some p → p.block ≠ q.block) (u : Value) : Reads (w.setCell q u) B size A n xs := by
  refine ⟨h.len, fun h0 => ?_⟩
  obtain ⟨p, hp, hB, hc⟩ := h.look h0
  refine ⟨p, hp, hB, fun j v hj => ?_⟩
  rw [World.cell?_setCell_other _ _ _ _ (fun e => hne p hp (by rw [← blockAdd p j, ← e]))]
  exact hc j v hj
theorem Box.set {w : World} {b : Nat} {cs : Array Value} (h : Box w b cs) {i : Nat} (hi : i < cs.size) (u : Value) : Box (w.setCell ⟨b, i, none⟩ u) b (cs.setIfInBounds i u) := by
  refine ⟨by have := h.1; simpa [World.setCell] using this, fun j => ?_⟩
  by_cases hj : j = i
  · subst hj
    rw [World.cell?_setCell_same' _ _ _ (by rw [h.2 j, Array.getElem?_eq_getElem hi]; rfl)]
    simp [hi]
  · rw [World.cell?_setCell_other _ _ _ _ (fun e => hj (by injection e with _ e2 _; exact e2.symm)), h.2 j]
    simp [Ne.symm hj]
theorem size_set (w : World) (p : Addr) (u : Value) : (w.setCell p u).heap.size = w.heap.size := by simp [World.setCell]

/-- Block B, not frozen, holds cs; its cell 3 is meant for rv, which owns the first edges of ps, in memory from bl on; the slice A, in another block, reads as ds. -/
structure CInv (B0 bl : Nat) (w0 w : World) (B : Nat) (cs : Array Value) (A : Option Addr) (ds : List Int) (es : List Edg) (rv : Value) : Prop where
  box : Box w B cs
  fz : ∀ i, w.frozen? ⟨B, i, none⟩ = false
  row : w.ownsRow bl 33 3 rv es.length (edgs es)
  rd : Reads w w.heap.size 1 A ds.length (ints ds)
  ap : ∀ p, A = some p → p.block ≠ B
  bel : Below w0.heap.size w0 w
  sz : bl ≤ w.heap.size
  b0 : w0.heap.size ≤ B
  b1 : B < bl
  b2 : ∀ p, A = some p → w0.heap.size ≤ p.block ∧ p.block < bl

section
variable {B0 bl : Nat} {w0 w w' : World} {B : Nat} {cs : Array Value} {A : Option Addr} {ds : List Int} {es : List Edg} {rv : Value}
theorem CInv.on (h : CInv B0 bl w0 w B cs A ds es rv) (hb : Below w.heap.size w w') : CInv B0 bl w0 w' B cs A ds es rv where
  box := h.box.below hb
  fz := fz_below h.box.1 h.fz hb
  row := by
    refine h.row.kept (row := none) ⟨hb.os, hb.tape, hb.output, hb.size, fun k hk _ => hb.block k hk⟩ ?_
    cases hv : rv.ownBlock with
    | none => exact .inl rfl
    | some k => exact .inr (by simp)
  rd := h.rd.on hb
  ap := h.ap
  bel := below_trans' h.bel hb
  sz := Nat.le_trans h.sz hb.size
  b0 := h.b0
  b1 := h.b1
  b2 := h.b2
theorem CInv.pushed (h : CInv B0 bl w0 w B cs A ds es rv) {e : Edg} {v' : Value} (h1 : w'.ownsRow bl 33 3 v' (es.length + 1) (edgs es ++ ecells e)) (h2 : w.grownBy w' rv.ownBlock) : CInv B0 bl w0 w' B cs A ds (es ++ [e]) v' := by
  have hrow : ∀ k, rv.ownBlock = some k → bl ≤ k := fun k hk => (h.row.lt k hk).1
  have hblk : ∀ k, k < bl → w'.heap[k]? = w.heap[k]? := fun k hk => h2.block k (Nat.lt_of_lt_of_le hk h.sz) (fun e => by have := hrow k e.symm; omega)
  have hB : Below bl w w' := ⟨h2.os, h2.tape, h2.output, h2.size, hblk⟩
  refine ⟨⟨Nat.lt_of_lt_of_le h.box.1 h2.size, fun i => ?_⟩, fun i => ?_, ?_, ?_, h.ap, ?_, Nat.le_trans h.sz h2.size, h.b0, h.b1, h.b2⟩
  · rw [hB.cell (p := ⟨B, i, none⟩) h.b1]; exact h.box.2 i
  · rw [hB.frozen (p := ⟨B, i, none⟩) h.b1]; exact h.fz i
  · rw [edgs_append, List.length_append]; exact h1
  · refine ⟨h.rd.len, fun h0 => ?_⟩
    obtain ⟨p, hp, hlt, hc⟩ := h.rd.look h0
    refine ⟨p, hp, Nat.lt_of_lt_of_le hlt h2.size, fun j u hj => ?_⟩
    rw [hB.cell (p := p.add j) (by rw [blockAdd]; exact (h.b2 p hp).2)]
    exact hc j u hj
  · exact h.bel.grown h2 h.bel.size fun k hk => by have := hrow k hk; have := h.b0; have := h.b1; omega
theorem CInv.stored (h : CInv B0 bl w0 w B cs A ds es rv) {i : Nat} (hi : i < cs.size) (u : Value) : CInv B0 bl w0 (w.setCell ⟨B, i, none⟩ u) B (cs.setIfInBounds i u) A ds es rv := by
  refine ⟨h.box.set hi u, fun j => by rw [World.frozen?_setCell]; exact h.fz j, ?_, ?_, h.ap, h.bel.setCell h.b0 _, by rw [size_set]; exact h.sz, h.b0, h.b1, h.b2⟩
  · exact ownsRow_setCell_below h.row h.b1 _
  · rw [size_set]; exact h.rd.far (q := ⟨B, i, none⟩) h.ap _
end

theorem row_form {w : World} {base e size n : Nat} {v : Value} {xs : List Value} (h : w.ownsRow base e size v n xs) : ∃ A c, v = .slice A n c := by
  rcases h.2 with ⟨rfl, rfl⟩ | ⟨g, cap, cur, rfl, _⟩
  · exact ⟨_, _, rfl⟩
  · exact ⟨_, _, rfl⟩
/-- The box is laid behind the copied list. -/
theorem CInv.behind {w1 w' : World} {cs : Array Value} {A : Option Addr} {ds : List Int} (hb : Below w1.heap.size w1 w') (hr : Reads w' w'.heap.size 1 A ds.length (ints ds)) (hf : ∀ p, A = some p → w1.heap.size ≤ p.block ∧ p.block < w'.heap.size) (t : TypeId) :
    CInv 0 (w'.alloc (.cells cs t)).heap.size w1 (w'.alloc (.cells cs t)) w'.heap.size cs A ds [] (.slice none 0 0) where
  box := Box.new _ _ _
  fz := fz_new _ _ _
  row := World.ownsRow_nil _ _ _ _
  rd := hr.on (belowA _ _)
  ap := fun p hp => by have := (hf p hp).2; omega
  bel := below_trans' hb (belowA _ _)
  sz := Nat.le_refl _
  b0 := hb.size
  b1 := by simp
  b2 := fun p hp => ⟨(hf p hp).1, by have := (hf p hp).2; simp; omega⟩
/-- The box was there first, and is written behind the copied list. -/
theorem CInv.ahead {w1 w' : World} {cs : Array Value} {A : Option Addr} {ds : List Int} {t : TypeId} (hb : Below (w1.alloc (.cells cs t)).heap.size (w1.alloc (.cells cs t)) w') (hr : Reads w' w'.heap.size 1 A ds.length (ints ds))
    (hf : ∀ p, A = some p → (w1.alloc (.cells cs t)).heap.size ≤ p.block ∧ p.block < w'.heap.size) : CInv 0 w'.heap.size w1 w' w1.heap.size cs A ds [] (.slice none 0 0) where
  box := (Box.new _ _ _).below hb
  fz := fz_below (Box.new w1 cs t).1 (fz_new _ _ _) hb
  row := World.ownsRow_nil _ _ _ _
  rd := hr
  ap := fun p hp => by have := (hf p hp).1; simp at this; omega
  bel := below1 _ hb
  sz := Nat.le_refl _
  b0 := Nat.le_refl _
  b1 := by have := hb.size; simp at this; omega
  b2 := fun p hp => ⟨by have := (hf p hp).1; simp at this; omega, (hf p hp).2⟩
/-- One operation of a region that draws: append of one edge, which lies in a box of its own. -/
theorem step_push {ops : Array Oper} {o : Oper} {a : Act} {K : Act → World → Prop} {Q : Exit → Act → World → Prop} {E : Prop} (hgd : o.guard = none) (s x : Operand)
    (ho : o.op = .call { callee := .builtin .append, args := #[s, x], argTypes := #[23, 23] })
    (bl : Nat) (w : World) (out : Value) (es : List Edg) (e : Edg) (b : Nat) (hs : a.eval s = out) (hown : w.ownsRow bl 33 3 out es.length (edgs es)) (hbl : bl ≤ w.heap.size) (hx : a.eval x = .slice (some ⟨b, 0, none⟩) 1 1)
    (hbox : Box w b #[.int .i64 e.1, .int .i64 e.2.1, .int .i64 e.2.2]) (hlen : es.length < 1000000000)
    (h : ∀ v' w', w'.ownsRow bl 33 3 v' (es.length + 1) (edgs es ++ ecells e) → w.grownBy w' out.ownBlock → K (a.put o.dst v') w') :
    if Region.wanted o (yielded ops a.tmps) = true then Oper.wp Try.prog o a w K Q else E := by
  have hw : Region.wanted o (yielded ops a.tmps) = true := by simp [Region.wanted, hgd]
  rw [if_pos hw]
  obtain ⟨i0, hi, hz0, hz1, hz2⟩ := info_parts info33
  refine wp_append_own w s x 23 ho bl 33 i0 _ 3 24 Try.underlying23 hi hz0 hz1 hz2 rfl (by decide) out es.length (edgs es) hs hown
    ⟨b, 0, none⟩ 1 1 (ecells e) hx rfl ?_ ?_ ?_ ?_ hbl ?_
  · intro j u hj
    have e1 : (⟨b, 0, none⟩ : Addr).add j = ⟨b, j, none⟩ := by
      unfold Addr.add
      split
      · rename_i h0; rw [h0]
      · simp
    rw [e1, hbox.at]
    simpa [ecells] using hj
  · exact edgs_one [e]
  · unfold maxLen; omega
  · omega
  · intro v' w' h1 h2 _
    exact h v' w' h1 h2
end Go.Proofs.Ytahmdnboeenfkaa
