/- A field that is being copied: the list of directions is a row of the call's own. -/
import Derived.Test.YtahmdnboeenfkaaW27
namespace Go.Proofs.Ytahmdnboeenfkaa
open Go.RowKit Go.Sort

theorem copyIntsO_any (A : Option Addr) (n c : Nat) (ds : List Int) (w : World) (hr : Reads w w.heap.size 1 A n (ints ds)) (hn : n ≤ 1000000) :
    Calls Try.prog 56 #[.slice A n c] w (RetRow 3 1 ds.length (ints ds) w) := by
  have hl := hr.len
  rw [ints_length] at hl
  have l1 : n ≤ ds.length := by omega
  have l2 : ds.length ≤ n := by omega
  clear hl
  go_enter Try.func56, Try.ntmps56
  go_wp2_with fail
  go_loopw [3, 4] (fun out i wr => ∃ k : Nat, k ≤ n ∧ i = .int .i64 k ∧ OwnI w wr out (ds.take k)) (fun _ i _ => n - (intOf i).toNat)
  case atStart => exact ⟨0, by omega, rfl, by simpa using OwnI.nil w⟩
  case round =>
    obtain ⟨k, hk, rfl, hown0⟩ := hrel
    have hown := Lib.hid hown0
    by_cases hlt : k < n
    · obtain ⟨ad, z, e1, hbk, hz0, d0⟩ := dsat (hr.on hown0.bel) (k := k) (by omega)
      have hz := Lib.hid hz0
      have X := fun w => ix22 (c := c) e1 hlt w
      have hlen : (ds.take k).length < 1000000000 := by rw [List.length_take]; omega
      clear hz0 hown0 e1
      go_wp2_with (at_builtin; refine wpList_pushI rfl _ _ rfl w _ _ (ds.take k) z _ rfl (hown.out.on (belowA _ _)) rfl (Box.new _ _ _) hlen ?_; intro v' w' hown'; have hown5 := Lib.hid hown'; clear hown')
      go_roundw
      case rel => exact ⟨k + 1, by omega, by go_num, by rw [take_succ_of hz.out]; exact hown5.out⟩
      case measure => simp [intOf]; omega
    · obtain ⟨A', c', hv, _⟩ := hown0.form
      have hT := Lib.hid (show ds.take k = ds from List.take_of_length_le (by omega))
      clear hown0
      rw [hT.out] at hown hv
      subst hv
      go_wp2_with fail
      go_ret
      exact ⟨A', c', rfl, hown.out.row, hown.out.bel⟩

/-- Block B, not frozen, holds cs; its cell 3 is meant for rv, which owns the first edges of ps, in memory from bl on; the slice A, in another block, reads as ds. -/
structure DInv (B0 bl : Nat) (w0 w : World) (B : Nat) (cs : Array Value) (A : Option Addr) (cd : Nat) (ds : List Int) (es : List Edg) (rv : Value) : Prop where
  box : Box w B cs
  fz : ∀ i, w.frozen? ⟨B, i, none⟩ = false
  row : w.ownsRow bl 33 3 rv es.length (edgs es)
  rd : w.ownsRow w0.heap.size 3 1 (.slice A ds.length cd) ds.length (ints ds)
  ap : ∀ p, A = some p → p.block ≠ B
  bel : Below w0.heap.size w0 w
  sz : bl ≤ w.heap.size
  b0 : w0.heap.size ≤ B
  b1 : B < bl
  b2 : ∀ p, A = some p → w0.heap.size ≤ p.block ∧ p.block < bl

section
variable {B0 bl : Nat} {w0 w w' : World} {B : Nat} {cs : Array Value} {A : Option Addr} {cd : Nat} {ds : List Int} {es : List Edg} {rv : Value}
theorem DInv.on (h : DInv B0 bl w0 w B cs A cd ds es rv) (hb : Below w.heap.size w w') : DInv B0 bl w0 w' B cs A cd ds es rv where
  box := h.box.below hb
  fz := fz_below h.box.1 h.fz hb
  row := by
    refine h.row.kept (row := none) ⟨hb.os, hb.tape, hb.output, hb.size, fun k hk _ => hb.block k hk⟩ ?_
    cases hv : rv.ownBlock with
    | none => exact .inl rfl
    | some k => exact .inr (by simp)
  rd := row_on h.rd hb
  ap := h.ap
  bel := below_trans' h.bel hb
  sz := Nat.le_trans h.sz hb.size
  b0 := h.b0
  b1 := h.b1
  b2 := h.b2
theorem DInv.pushed (h : DInv B0 bl w0 w B cs A cd ds es rv) {e : Edg} {v' : Value} (h1 : w'.ownsRow bl 33 3 v' (es.length + 1) (edgs es ++ ecells e)) (h2 : w.grownBy w' rv.ownBlock) : DInv B0 bl w0 w' B cs A cd ds (es ++ [e]) v' := by
  have hrow : ∀ k, rv.ownBlock = some k → bl ≤ k := fun k hk => (h.row.lt k hk).1
  have hblk : ∀ k, k < bl → w'.heap[k]? = w.heap[k]? := fun k hk => h2.block k (Nat.lt_of_lt_of_le hk h.sz) (fun e => by have := hrow k e.symm; omega)
  have hB : Below bl w w' := ⟨h2.os, h2.tape, h2.output, h2.size, hblk⟩
  refine ⟨⟨Nat.lt_of_lt_of_le h.box.1 h2.size, fun i => ?_⟩, fun i => ?_, ?_, ?_, h.ap, ?_, Nat.le_trans h.sz h2.size, h.b0, h.b1, h.b2⟩
  · rw [hB.cell (p := ⟨B, i, none⟩) h.b1]; exact h.box.2 i
  · rw [hB.frozen (p := ⟨B, i, none⟩) h.b1]; exact h.fz i
  · rw [edgs_append, List.length_append]; exact h1
  · refine h.rd.kept h2 ?_
    cases hA : A with
    | none => exact .inl rfl
    | some p =>
      refine .inr fun e => ?_
      have h3 := hrow p.block (by rw [← e]; rfl)
      have h4 := (h.b2 p hA).2
      omega
  · exact h.bel.grown h2 h.bel.size fun k hk => by have := hrow k hk; have := h.b0; have := h.b1; omega
theorem DInv.stored (h : DInv B0 bl w0 w B cs A cd ds es rv) {i : Nat} (hi : i < cs.size) (u : Value) : DInv B0 bl w0 (w.setCell ⟨B, i, none⟩ u) B (cs.setIfInBounds i u) A cd ds es rv := by
  refine ⟨h.box.set hi u, fun j => by rw [World.frozen?_setCell]; exact h.fz j, ?_, ?_, h.ap, h.bel.setCell h.b0 _, by rw [size_set]; exact h.sz, h.b0, h.b1, h.b2⟩
  · exact ownsRow_setCell_below h.row h.b1 _
  · exact row_far h.rd (q := ⟨B, i, none⟩) (fun k hk => by cases hA : A with
      | none => rw [hA] at hk; cases hk
      | some p => rw [hA] at hk; injection hk with hk; subst hk; exact h.ap p hA) _
end

/-- The box is laid behind the copied list. -/
theorem DInv.behind {w1 w' : World} {cs : Array Value} {A : Option Addr} {cd : Nat} {ds : List Int} (hb : Below w1.heap.size w1 w') (hr : w'.ownsRow w1.heap.size 3 1 (.slice A ds.length cd) ds.length (ints ds)) (hf : ∀ p, A = some p → w1.heap.size ≤ p.block ∧ p.block < w'.heap.size) (t : TypeId) :
    DInv 0 (w'.alloc (.cells cs t)).heap.size w1 (w'.alloc (.cells cs t)) w'.heap.size cs A cd ds [] (.slice none 0 0) where
  box := Box.new _ _ _
  fz := fz_new _ _ _
  row := World.ownsRow_nil _ _ _ _
  rd := row_on hr (belowA _ _)
  ap := fun p hp => by have := (hf p hp).2; omega
  bel := below_trans' hb (belowA _ _)
  sz := Nat.le_refl _
  b0 := hb.size
  b1 := by simp
  b2 := fun p hp => ⟨(hf p hp).1, by have := (hf p hp).2; simp; omega⟩
/-- The box was there first, and is written behind the copied list. -/
theorem DInv.ahead {w1 w' : World} {cs : Array Value} {A : Option Addr} {cd : Nat} {ds : List Int} {t : TypeId} (hb : Below (w1.alloc (.cells cs t)).heap.size (w1.alloc (.cells cs t)) w') (hr : w'.ownsRow w1.heap.size 3 1 (.slice A ds.length cd) ds.length (ints ds))
    (hf : ∀ p, A = some p → (w1.alloc (.cells cs t)).heap.size ≤ p.block ∧ p.block < w'.heap.size) : DInv 0 w'.heap.size w1 w' w1.heap.size cs A cd ds [] (.slice none 0 0) where
  box := (Box.new _ _ _).below hb
  fz := fz_below (Box.new w1 cs t).1 (fz_new _ _ _) hb
  row := World.ownsRow_nil _ _ _ _
  rd := hr
  ap := fun p hp => by have := (hf p hp).1; simp at this; omega
  bel := below1 _ hb
  sz := Nat.le_refl _
  b0 := Nat.le_refl _
  b1 := by have := hb.size; simp at this; omega
  b2 := fun p hp => ⟨by have := (hf p hp).1; simp at this; omega, (hf p hp).2⟩
end Go.Proofs.Ytahmdnboeenfkaa
