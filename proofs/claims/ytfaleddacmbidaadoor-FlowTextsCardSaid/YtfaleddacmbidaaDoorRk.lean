/- From a row's reading of its arguments to the words of the walks, and from a walk whose world only grows back to the row. -/
import Derived.Test.YtfaleddacmbidaaDoorRows
import Derived.Test.YtfaleddacmbidaaDoorTb
import Derived.ProofKit
import Derived.Deep.Slices
import Derived.Deep.Strs
import Derived.Lib.SmallJoins
namespace Go.Proofs.YtfaleddacmbidaaDoor
open Go.ChangeShapes Go.WideShapes Go.ChangeAt Go.RowKit Go.Joins Go.Deep

theorem own : ownKnob Tryd.prog.godebug = none := by kernel_rfl
theorem laidOut : laidOutB Tryd.prog = true := by kernel_rfl
theorem cells3 : Tryd.prog.cellsOf 3 = 1 := by kernel_rfl
theorem cells25 : Tryd.prog.cellsOf 25 = 4 := by kernel_rfl
theorem cells33 : Tryd.prog.cellsOf 50 = 3 := by kernel_rfl

section
variable {H : Type} {enc : TypeId × Value → H} {W : World}

/-- A slice of ints, read as a list. -/
theorem open_il {held : Bool} {n : Nat} {c : Value} {y : DataW H × List MemPlace} (h : DataW.trod enc Tryd.prog W 0 (fun _ => true) held n 22 [c] = some y) :
    ∃ A len cap zs, c = .slice A len cap ∧ Reads W W.heap.size 1 A len (ints zs) ∧ len ≤ 9223372036854775807 := by
  rcases open_ints Tryd.underlying22 Tryd.underlying3 cells3 h with ⟨e, _⟩ | ⟨a, len, cap, zs, e, _, hl, hm, hz, _, hc, _⟩
  · exact ⟨none, 0, 0, [], by simpa using e, Reads.nil, by omega⟩
  · simp only [if_true] at hz
    refine ⟨some a, len, cap, zs.take len, by simpa using e, ⟨?_, fun h0 => ⟨a, rfl, ?_, fun j u hu => ?_⟩⟩, by unfold maxLen at hm; omega⟩
    · rw [ints_length, List.length_take]; omega
    · have := World.block_lt_of_cell? _ _ (hc 0 (by omega))
      simpa [blockAdd] using this
    · have hj : j < len := by
        have := (List.getElem?_eq_some_iff.1 hu).1
        rw [ints_length, List.length_take] at this
        omega
      rw [hc j (by omega), ← hu, ints_get (by rw [List.length_take]; omega)]
      simp [List.getD_eq_getElem?_getD, hj]

/-- A list of elements out of a family. -/
theorem list_of_fam {α : Type} (P : Nat → α → Prop) : ∀ n, (∀ i, i < n → ∃ x, P i x) → ∃ l : List α, l.length = n ∧ ∀ i x, l[i]? = some x → P i x
  | 0, _ => ⟨[], rfl, fun i x h => by simp at h⟩
  | n + 1, h => by
    obtain ⟨l, hl, hp⟩ := list_of_fam P n (fun i hi => h i (by omega))
    obtain ⟨x, hx⟩ := h n (by omega)
    refine ⟨l ++ [x], by simp [hl], fun i y hy => ?_⟩
    rcases Nat.lt_or_ge i n with hi | hi
    · rw [List.getElem?_append_left (by omega)] at hy
      exact hp i y hy
    · have hlt : i < (l ++ [x]).length := (List.getElem?_eq_some_iff.1 hy).1
      simp only [List.length_append, hl, List.length_cons, List.length_nil] at hlt
      obtain rfl : i = n := by omega
      rw [List.getElem?_append_right (by omega), hl] at hy
      simp at hy
      exact hy ▸ hx

set_option maxRecDepth 100000 in
/-- A slice of edges, read as a list. -/
theorem open_el {held : Bool} {n : Nat} {c : Value} {y : DataW H × List MemPlace} (h : DataW.trod enc Tryd.prog W 0 (fun _ => true) held n 23 [c] = some y) :
    ∃ A len cap es, c = .slice A len cap ∧ Reads W W.heap.size 3 A len (edgs es) ∧ len ≤ 9223372036854775807 := by
  rcases open_slice Tryd.underlying23 h with ⟨e, _⟩ | ⟨a, len, cap, m, n', D, Pl, e, _, hl, hm, hmm, _, hel⟩
  · exact ⟨none, 0, 0, [], by simpa using e, Reads.nil, by omega⟩
  · simp only [if_true] at hmm
    obtain ⟨es, hes, hp⟩ := list_of_fam (fun i (x : Edg) => W.cell? (a.add (i * 3)) = some (.int .i64 x.1) ∧ W.cell? (a.add (i * 3 + 1)) = some (.int .i64 x.2.1) ∧ W.cell? (a.add (i * 3 + 2)) = some (.int .i64 x.2.2)) len (fun i hi => by
      obtain ⟨cs, hcs, ht⟩ := hel i (by omega)
      rw [cells33] at hcs
      obtain ⟨_, hlen, hat⟩ := World.cells?_some hcs
      obtain ⟨y0, y1, y2, k, _, _, t0, t1, t2⟩ := trod_struct3 Tryd.underlying50 ht
      match cs, hlen with
      | [c0, c1, c2], _ =>
        obtain ⟨x0, e0, _⟩ := DataW.trod_int Tryd.underlying3 t0
        obtain ⟨x1, e1, _⟩ := DataW.trod_int Tryd.underlying3 t1
        obtain ⟨x2, e2, _⟩ := DataW.trod_int Tryd.underlying3 t2
        have g0 := hat 0 (by omega)
        have g1 := hat 1 (by omega)
        have g2 := hat 2 (by omega)
        rw [add_of_add] at g0 g1 g2
        rw [cells3] at e0 e1 e2
        simp at e0 e1 e2 g0 g1 g2
        subst e0 e1 e2
        exact ⟨(x0, x1, x2), g0, g1, g2⟩)
    refine ⟨some a, len, cap, es, by simpa using e, ⟨by rw [edgs_length, hes], fun h0 => ⟨a, rfl, ?_, fun j u hu => ?_⟩⟩, by unfold maxLen at hm; omega⟩
    · have h1 : es[0]? = some es[0] := List.getElem?_eq_getElem (by omega)
      have := World.block_lt_of_cell? _ _ (hp 0 _ h1).1
      simpa [blockAdd] using this
    · have hjl : j < es.length * 3 := by
        have := (List.getElem?_eq_some_iff.1 hu).1
        rwa [edgs_length] at this
      have hk : j / 3 < es.length := by omega
      obtain ⟨q0, q1, q2⟩ := hp (j / 3) es[j / 3] (List.getElem?_eq_getElem hk)
      obtain ⟨r0, r1, r2⟩ := edgs_get hk
      have hx : es.getD (j / 3) (0, 0, 0) = es[j / 3] := by simp [List.getD_eq_getElem?_getD, List.getElem?_eq_getElem hk]
      rw [hx] at r0 r1 r2
      rcases (show j = j / 3 * 3 ∨ j = j / 3 * 3 + 1 ∨ j = j / 3 * 3 + 2 by omega) with hj | hj | hj
      · rw [hj] at hu ⊢; rw [q0, ← r0, hu]
      · rw [hj] at hu ⊢; rw [q1, ← r1, hu]
      · rw [hj] at hu ⊢; rw [q2, ← r2, hu]

set_option maxRecDepth 100000 in
theorem open_fv {b0 : Nat} {v : Value} {d : DataW H} {p : List MemPlace} (hv : Value.okWide Tryd.prog W .any b0 25 v) (h : DataW.Trod enc Tryd.prog W 0 (fun _ => true) true 25 v d p) : ∃ u : FV, v = u.val ∧ u.In W := by
  obtain ⟨c0, c1, c2, c3, y0, y1, y2, y3, n, rfl, _, _, t0, t1, t2, t3⟩ := open_agg4 Tryd.underlying25 (by kernel_rfl) cells25 hv h
  obtain ⟨x0, e0, _⟩ := DataW.trod_int Tryd.underlying3 t0
  obtain ⟨x1, e1, _⟩ := DataW.trod_int Tryd.underlying3 t1
  obtain ⟨A, n1, c1', zs, e2, r2, l2⟩ := open_il t2
  obtain ⟨B, n2, c2', es, e3, r3, l3⟩ := open_el t3
  simp at e0 e1
  subst e0 e1 e2 e3
  exact ⟨⟨⟨x0, x1, zs, es⟩, A, B, n1, c1', n2, c2'⟩, rfl, r2, r3, l2, l3⟩

theorem trodAll_below {W' : World} (hb : Below W.heap.size W W') : ∀ {ts : List TypeId} {vs : List Value} {ds : List (DataW H)} {ps : List MemPlace}, (∀ t ∈ ts, Tryd.prog.readableRec t = true ∧ t < Tryd.prog.types.size) → DataW.TrodAll enc Tryd.prog W 0 (fun _ => true) true ts vs ds ps →
    (∀ x ∈ ps, x.block < W.heap.size) → DataW.TrodAll enc Tryd.prog W' 0 (fun b => decide (b < W.heap.size)) true ts vs ds ps
  | [], [], [], _, _, h, _ => h
  | _ :: _, _ :: _, _ :: _, _, hT, ⟨p, q, h1, h2, e⟩, hlt =>
    ⟨p, q, Below.trod laidOut (hT _ (List.mem_cons.2 (Or.inl rfl))).1 (hT _ (List.mem_cons.2 (Or.inl rfl))).2 h1 hb (fun x hx => hlt x (by rw [e]; exact List.mem_append_left _ hx)),
      trodAll_below hb (fun t ht => hT t (List.mem_cons.2 (Or.inr ht))) h2 (fun x hx => hlt x (by rw [e]; exact List.mem_append_right _ hx)), e⟩

/-- The row's end, for a law that answers true and leaves a grown world. -/
theorem law_post {f : Func} {s : ChangeSpec} {W' : World} {args : Array Value} {ds : List (DataW H)} {p : List MemPlace} (hvars : s.vars = []) (hts : ∀ t ∈ f.params.toList, Tryd.prog.readableRec t = true ∧ t < Tryd.prog.types.size)
    (hres : f.resultTypes = #[4]) (hfn : s.fn H ds = { results := [.lit (.bool true)], args := ds })
    (hW : DataW.Whole enc Tryd.prog f.params.toList s.vars false W args.toList ds [] p) (hA : DataW.TrodAll enc Tryd.prog W 0 (fun _ => true) true f.params.toList args.toList ds p) (hb : Below W.heap.size W W') :
    s.post enc Tryd.prog f false true false false W args (.bool true) W' := by
  have hlt : ∀ x ∈ p, x.block < W.heap.size := fun x hx => hW.lt x hx
  refine ⟨ds, [], p, [], p, [], hW, ?_, ?_, ?_, ?_, fun h => by cases h⟩
  · rw [List.append_nil, hfn, hres]
    exact trodAll_mk1 (shut_bool Tryd.underlying4 true)
  · rw [List.append_nil, hfn]
    exact trodAll_below hb hts hA hlt
  · rw [List.append_nil, hfn, hvars]
    rfl
  · exact World.keptBut_mono (fun x hx => ⟨hx, Or.inr (Or.inl hx)⟩) (hb.frame (· ∈ p))
end
end Go.Proofs.YtfaleddacmbidaaDoor
