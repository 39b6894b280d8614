/- A field that is being made: its box, and its two rows. -/
import Derived.Test.YtahmdnboeenfkaaPt
namespace Go.Proofs.Ytahmdnboeenfkaa
open Go.RowKit Go.Sort

structure GF (w1 : World) (a b : Nat) (w : World) (B : Nat) (v : FV) : Prop where
  box : Box w B #[.int .i64 v.f.W, .int .i64 v.f.H, .slice v.A v.n v.c, .slice v.B v.m v.d]
  fz : ∀ i, w.frozen? ⟨B, i, none⟩ = false
  ds : w.ownsRow a 3 1 (.slice v.A v.n v.c) v.n (ints v.f.ds)
  ps : w.ownsRow b 33 3 (.slice v.B v.m v.d) v.m (edgs v.f.ps)
  ne : ∀ p q, v.A = some p → v.B = some q → p.block ≠ q.block
  nA : ∀ p, v.A = some p → p.block ≠ B
  nB : ∀ p, v.B = some p → p.block ≠ B
  bel : Below w1.heap.size w1 w
  hB : w1.heap.size ≤ B
  ha : w1.heap.size ≤ a
  hb : w1.heap.size ≤ b
section
variable {w1 w w' : World} {a b B : Nat} {v : FV}
theorem GF.own (h : GF w1 a b w B v) : FOwn w1.heap.size w v := ⟨row_mono h.ds h.ha, row_mono h.ps h.hb, h.ne⟩
theorem GF.on (h : GF w1 a b w B v) (hb : Below w.heap.size w w') : GF w1 a b w' B v :=
  ⟨h.box.below hb, fz_below h.box.1 h.fz hb, row_on h.ds hb, row_on h.ps hb, h.ne, h.nA, h.nB, below_trans' h.bel hb, h.hB, h.ha, h.hb⟩
theorem own_blk {A : Option Addr} {n c k : Nat} (h : (Value.slice A n c).ownBlock = some k) : ∃ p, A = some p ∧ p.block = k := by
  cases A with
  | none => cases h
  | some p => injection h with h; exact ⟨p, rfl, h⟩
theorem GF.putA (h : GF w1 a b w B v) (h0 : v.B = none) (h1 : B < a) (h2 : a ≤ w.heap.size) {A' : Option Addr} {n' c' : Nat} {ds' : List Int}
    (hr : w'.ownsRow a 3 1 (.slice A' n' c') n' (ints ds')) (hg : w.grownBy w' (Value.slice v.A v.n v.c).ownBlock) :
    GF w1 a b (w'.setCell ⟨B, 2, none⟩ (.slice A' n' c')) B ⟨{ v.f with ds := ds' }, A', v.B, n', c', v.m, v.d⟩ := by
  have hrow : ∀ k, (Value.slice v.A v.n v.c).ownBlock = some k → a ≤ k := fun k hk => (h.ds.lt k hk).1
  have hblk : ∀ k, k < a → w'.heap[k]? = w.heap[k]? := fun k hk => hg.block k (Nat.lt_of_lt_of_le hk h2) (fun e => by have := hrow k e.symm; omega)
  have hBl : Below a w w' := ⟨hg.os, hg.tape, hg.output, hg.size, hblk⟩
  have hb' : Box w' B #[.int .i64 v.f.W, .int .i64 v.f.H, .slice v.A v.n v.c, .slice v.B v.m v.d] := ⟨Nat.lt_of_lt_of_le h.box.1 hg.size, fun i => by rw [hBl.cell (p := ⟨B, i, none⟩) h1]; exact h.box.2 i⟩
  have hA' : ∀ p, A' = some p → p.block ≠ B := fun p hp => by have := (hr.lt p.block (by rw [hp]; rfl)).1; omega
  have hps : w'.ownsRow b 33 3 (.slice v.B v.m v.d) v.m (edgs v.f.ps) := by
    refine h.ps.kept hg ?_
    rw [h0]; exact .inl rfl
  refine ⟨?_, fun j => ?_, ?_, ?_, ?_, hA', h.nB, ?_, h.hB, h.ha, h.hb⟩
  · have := hb'.set (i := 2) (by simp) (.slice A' n' c'); simpa using this
  · rw [World.frozen?_setCell, hBl.frozen (p := ⟨B, j, none⟩) h1]; exact h.fz j
  · exact row_far hr (q := ⟨B, 2, none⟩) (fun k hk => by obtain ⟨p, hp, rfl⟩ := own_blk hk; exact hA' p hp) _
  · refine row_far hps (q := ⟨B, 2, none⟩) (fun k hk => ?_) _
    rw [h0] at hk; cases hk
  · intro p q _ hq; rw [show v.B = none from h0] at hq; cases hq
  · exact (h.bel.grown hg h.bel.size fun k hk => Nat.le_trans h.ha (hrow k hk)).setCell (p := ⟨B, 2, none⟩) h.hB _
theorem GF.belA (h : GF w1 a b w B v) (h2 : a ≤ w.heap.size) (hg : w.grownBy w' (Value.slice v.A v.n v.c).ownBlock) : Below a w w' :=
  ⟨hg.os, hg.tape, hg.output, hg.size, fun k hk => hg.block k (Nat.lt_of_lt_of_le hk h2) (fun e => by have := (h.ds.lt k e.symm).1; omega)⟩
theorem GF.belB (h : GF w1 a b w B v) (h2 : b ≤ w.heap.size) (hg : w.grownBy w' (Value.slice v.B v.m v.d).ownBlock) : Below b w w' :=
  ⟨hg.os, hg.tape, hg.output, hg.size, fun k hk => hg.block k (Nat.lt_of_lt_of_le hk h2) (fun e => by have := (h.ps.lt k e.symm).1; omega)⟩
theorem Box.under {b : Nat} {cs : Array Value} (h : Box w b cs) (hb : Below a w w') (hl : b < a) : Box w' b cs := ⟨Nat.lt_of_lt_of_le h.1 hb.size, fun i => by rw [hb.cell (p := ⟨b, i, none⟩) hl]; exact h.2 i⟩
theorem GF.putN (h : GF w1 a b w B v) (h2 : b ≤ w.heap.size) {B' : Option Addr} {m' d' : Nat} {ps' : List Edg}
    (hr : w'.ownsRow w.heap.size 33 3 (.slice B' m' d') m' (edgs ps')) (hg : Below w.heap.size w w') :
    GF w1 a b (w'.setCell ⟨B, 3, none⟩ (.slice B' m' d')) B ⟨{ v.f with ps := ps' }, v.A, B', v.n, v.c, m', d'⟩ := by
  have h' := h.on hg
  have hB' : ∀ p, B' = some p → w.heap.size ≤ p.block := fun p hp => (hr.lt p.block (by rw [hp]; rfl)).1
  have hA : ∀ p, v.A = some p → p.block < w.heap.size := fun p hp => (h.ds.lt p.block (by rw [hp]; rfl)).2
  have hBw := h.box.1
  have hB2 : ∀ p, B' = some p → p.block ≠ B := fun p hp => by have := hB' p hp; omega
  refine ⟨?_, fun j => ?_, ?_, ?_, ?_, h.nA, hB2, ?_, h.hB, h.ha, h.hb⟩
  · have := h'.box.set (i := 3) (by simp) (.slice B' m' d'); simpa using this
  · rw [World.frozen?_setCell]; exact h'.fz j
  · exact row_far h'.ds (q := ⟨B, 3, none⟩) (fun k hk => by obtain ⟨p, hp, rfl⟩ := own_blk hk; exact h.nA p hp) _
  · exact row_mono (row_far hr (q := ⟨B, 3, none⟩) (fun k hk => by obtain ⟨p, hp, rfl⟩ := own_blk hk; exact hB2 p hp) _) h2
  · intro p q hp hq; have := hA p hp; have := hB' q hq; omega
  · exact h'.bel.setCell (p := ⟨B, 3, none⟩) h.hB _
theorem GF.putB (h : GF w1 a b w B v) (h0 : ∀ p, v.A = some p → p.block < b) (h1 : B < b) (h2 : b ≤ w.heap.size) {B' : Option Addr} {m' d' : Nat} {ps' : List Edg}
    (hr : w'.ownsRow b 33 3 (.slice B' m' d') m' (edgs ps')) (hg : w.grownBy w' (Value.slice v.B v.m v.d).ownBlock) :
    GF w1 a b (w'.setCell ⟨B, 3, none⟩ (.slice B' m' d')) B ⟨{ v.f with ps := ps' }, v.A, B', v.n, v.c, m', d'⟩ := by
  have hrow : ∀ k, (Value.slice v.B v.m v.d).ownBlock = some k → b ≤ k := fun k hk => (h.ps.lt k hk).1
  have hblk : ∀ k, k < b → w'.heap[k]? = w.heap[k]? := fun k hk => hg.block k (Nat.lt_of_lt_of_le hk h2) (fun e => by have := hrow k e.symm; omega)
  have hBl : Below b w w' := ⟨hg.os, hg.tape, hg.output, hg.size, hblk⟩
  have hb' : Box w' B #[.int .i64 v.f.W, .int .i64 v.f.H, .slice v.A v.n v.c, .slice v.B v.m v.d] := ⟨Nat.lt_of_lt_of_le h.box.1 hg.size, fun i => by rw [hBl.cell (p := ⟨B, i, none⟩) h1]; exact h.box.2 i⟩
  have hB' : ∀ p, B' = some p → b ≤ p.block := fun p hp => (hr.lt p.block (by rw [hp]; rfl)).1
  have hB2 : ∀ p, B' = some p → p.block ≠ B := fun p hp => by have := hB' p hp; omega
  have hds : w'.ownsRow a 3 1 (.slice v.A v.n v.c) v.n (ints v.f.ds) := by
    refine h.ds.kept hg ?_
    cases hA : v.A with
    | none => exact .inl rfl
    | some p =>
      refine .inr fun e => ?_
      have h3 := hrow p.block (by rw [← e]; rfl)
      have h4 := h0 p hA
      omega
  refine ⟨?_, fun j => ?_, ?_, ?_, ?_, h.nA, hB2, ?_, h.hB, h.ha, h.hb⟩
  · have := hb'.set (i := 3) (by simp) (.slice B' m' d'); simpa using this
  · rw [World.frozen?_setCell, hBl.frozen (p := ⟨B, j, none⟩) h1]; exact h.fz j
  · exact row_far hds (q := ⟨B, 3, none⟩) (fun k hk => by obtain ⟨p, hp, rfl⟩ := own_blk hk; exact h.nA p hp) _
  · exact row_far hr (q := ⟨B, 3, none⟩) (fun k hk => by obtain ⟨p, hp, rfl⟩ := own_blk hk; exact hB2 p hp) _
  · intro p q hp hq; have := h0 p hp; have := hB' q hq; omega
  · exact (h.bel.grown hg h.bel.size fun k hk => Nat.le_trans h.hb (hrow k hk)).setCell (p := ⟨B, 3, none⟩) h.hB _
/-- A box that was made just now, for a field of nothing. -/
theorem GF.new (w1 w : World) (hb : Below w1.heap.size w1 w) (W H : Int) (t : TypeId) {a b : Nat} (ha : w1.heap.size ≤ a) (hb' : w1.heap.size ≤ b) :
    GF w1 a b (w.alloc (.cells #[.int .i64 W, .int .i64 H, .slice none 0 0, .slice none 0 0] t)) w.heap.size ⟨⟨W, H, [], []⟩, none, none, 0, 0, 0, 0⟩ :=
  ⟨Box.new _ _ _, fz_new _ _ _, World.ownsRow_nil _ _ _ _, World.ownsRow_nil _ _ _ _, fun _ _ h => (by cases h), fun _ h => (by cases h), fun _ h => (by cases h), below_trans' hb (belowA _ _), hb.size, ha, hb'⟩
end

set_option maxRecDepth 4000 in
/-- One operation of a region that draws: append of one int, which lies in a box of its own. -/
theorem step_pushI {ops : Array Oper} {o : Oper} {a : Act} {K : Act → World → Prop} {Q : Exit → Act → World → Prop} {E : Prop} (hgd : o.guard = none) (s x : Operand)
    (ho : o.op = .call { callee := .builtin .append, args := #[s, x], argTypes := #[22, 22] })
    (bl : Nat) (w : World) (out : Value) (n : Nat) (zs : List Int) (z : Int) (b : Nat) (hs : a.eval s = out) (hown : w.ownsRow bl 3 1 out n (ints zs)) (hbl : bl ≤ w.heap.size) (hx : a.eval x = .slice (some ⟨b, 0, none⟩) 1 1)
    (hbox : Box w b #[.int .i64 z]) (hlen : n < 1000000000)
    (h : ∀ A' c' w', w'.ownsRow bl 3 1 (.slice A' (n + 1) c') (n + 1) (ints (zs ++ [z])) → w.grownBy w' out.ownBlock → K (a.put o.dst (.slice A' (n + 1) c')) w') :
    if Region.wanted o (yielded ops a.tmps) = true then Oper.wp Try.prog o a w K Q else E := by
  have hw : Region.wanted o (yielded ops a.tmps) = true := by simp [Region.wanted, hgd]
  rw [if_pos hw]
  obtain ⟨i0, hi, hz0, hz1, hz2⟩ := info_parts info3
  refine wp_append_own w s x 22 ho bl 3 i0 _ 1 8 Try.underlying22 hi hz0 hz1 hz2 rfl (by decide) out n (ints zs) hs hown
    ⟨b, 0, none⟩ 1 1 [.int .i64 z] hx rfl ?_ ?_ ?_ ?_ hbl ?_
  · intro j u hj
    have e1 : (⟨b, 0, none⟩ : Addr).add j = ⟨b, j, none⟩ := by
      unfold Addr.add
      split
      · rename_i h0; rw [h0]
      · simp
    rw [e1, hbox.at]
    simpa using hj
  · exact ints_one [z]
  · unfold maxLen; omega
  · omega
  · intro v' w' h1 h2 _
    obtain ⟨A', c', rfl⟩ := row_form h1
    exact h A' c' w' (by rw [ints_append]; exact h1) h2
theorem wpList_pushGI {ops : Array Oper} {rest : List Oper} {o : Oper} {a : Act} {Q : Exit → Act → World → Prop} (hgd : o.guard = none) (s x : Operand)
    (ho : o.op = .call { callee := .builtin .append, args := #[s, x], argTypes := #[22, 22] })
    (bl : Nat) (w : World) (out : Value) (n : Nat) (zs : List Int) (z : Int) (b : Nat) (hs : a.eval s = out) (hown : w.ownsRow bl 3 1 out n (ints zs)) (hbl : bl ≤ w.heap.size) (hx : a.eval x = .slice (some ⟨b, 0, none⟩) 1 1)
    (hbox : Box w b #[.int .i64 z]) (hlen : n < 1000000000)
    (h : ∀ A' c' w', w'.ownsRow bl 3 1 (.slice A' (n + 1) c') (n + 1) (ints (zs ++ [z])) → w.grownBy w' out.ownBlock → wpList Try.prog ops Q rest (a.put o.dst (.slice A' (n + 1) c')) w') :
    wpList Try.prog ops Q (o :: rest) a w := by
  obtain ⟨i0, hi, hz0, hz1, hz2⟩ := info_parts info3
  refine wpList_append_own w hgd s x 22 ho bl 3 i0 _ 1 8 Try.underlying22 hi hz0 hz1 hz2 rfl (by decide) out n (ints zs) hs hown
    ⟨b, 0, none⟩ 1 1 [.int .i64 z] hx rfl ?_ (ints_one [z]) (by unfold maxLen; omega) (by omega) hbl ?_
  · intro j u hj
    have e1 : (⟨b, 0, none⟩ : Addr).add j = ⟨b, j, none⟩ := by
      unfold Addr.add
      split
      · rename_i h0; rw [h0]
      · simp
    rw [e1, hbox.at]
    simpa using hj
  · intro v' w' h1 h2 _
    obtain ⟨A', c', rfl⟩ := row_form h1
    exact h A' c' w' (by rw [ints_append]; exact h1) h2
theorem wpList_pushGE {ops : Array Oper} {rest : List Oper} {o : Oper} {a : Act} {Q : Exit → Act → World → Prop} (hgd : o.guard = none) (s x : Operand)
    (ho : o.op = .call { callee := .builtin .append, args := #[s, x], argTypes := #[23, 23] })
    (bl : Nat) (w : World) (out : Value) (n : Nat) (es : List Edg) (e : Edg) (b : Nat) (hs : a.eval s = out) (hown : w.ownsRow bl 33 3 out n (edgs es)) (hbl : bl ≤ w.heap.size) (hx : a.eval x = .slice (some ⟨b, 0, none⟩) 1 1)
    (hbox : Box w b #[.int .i64 e.1, .int .i64 e.2.1, .int .i64 e.2.2]) (hlen : n < 1000000000)
    (h : ∀ A' c' w', w'.ownsRow bl 33 3 (.slice A' (n + 1) c') (n + 1) (edgs (es ++ [e])) → w.grownBy w' out.ownBlock → wpList Try.prog ops Q rest (a.put o.dst (.slice A' (n + 1) c')) w') :
    wpList Try.prog ops Q (o :: rest) a w := by
  obtain ⟨i0, hi, hz0, hz1, hz2⟩ := info_parts info33
  refine wpList_append_own w hgd s x 23 ho bl 33 i0 _ 3 24 Try.underlying23 hi hz0 hz1 hz2 rfl (by decide) out n (edgs es) hs hown
    ⟨b, 0, none⟩ 1 1 (ecells e) hx rfl ?_ (edgs_one [e]) (by unfold maxLen; omega) (by omega) hbl ?_
  · intro j u hj
    have e1 : (⟨b, 0, none⟩ : Addr).add j = ⟨b, j, none⟩ := by
      unfold Addr.add
      split
      · rename_i h0; rw [h0]
      · simp
    rw [e1, hbox.at]
    simpa [ecells] using hj
  · intro v' w' h1 h2 _
    obtain ⟨A', c', rfl⟩ := row_form h1
    exact h A' c' w' (by rw [edgs_append]; exact h1) h2
end Go.Proofs.Ytahmdnboeenfkaa
