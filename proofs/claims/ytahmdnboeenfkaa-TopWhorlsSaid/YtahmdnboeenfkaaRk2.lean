/- More arguments opened: ints, edges, places, lists of places. -/
import Derived.Test.YtahmdnboeenfkaaRk
namespace Go.Proofs.Ytahmdnboeenfkaa
open Go.ChangeShapes Go.WideShapes Go.ChangeAt Go.RowKit Go.Joins Go.Deep

/-- An int's bounds. -/
def Bd (n : Int) : Prop := -9223372036854775808 ≤ n ∧ n ≤ 9223372036854775807
theorem bd_of_wf {n : Int} (h : (Lit.int .i64 n).wf = true) : Bd n := by
  simp [Lit.wf, IntKind.min, IntKind.max, IntKind.signed, IntKind.bits] at h
  exact ⟨by omega, by omega⟩
theorem cells35 : Try.prog.cellsOf 35 = 2 := by kernel_rfl
abbrev pval (q : Int × Int) : Value := .agg #[.int .i64 q.1, .int .i64 q.2]
def pcells (q : Int × Int) : List Value := [.int .i64 q.1, .int .i64 q.2]
def plcs (l : List (Int × Int)) : List Value := l.flatMap pcells
theorem plcs_length (l : List (Int × Int)) : (plcs l).length = l.length * 2 := by
  induction l with
  | nil => rfl
  | cons q l ih =>
    show (pcells q ++ plcs l).length = _
    rw [List.length_append, ih]; simp [pcells]; omega
theorem plcs_get {l : List (Int × Int)} {k : Nat} (h : k < l.length) : (plcs l)[k * 2]? = some (.int .i64 l[k].1) ∧ (plcs l)[k * 2 + 1]? = some (.int .i64 l[k].2) := by
  induction l generalizing k with
  | nil => simp at h
  | cons q l ih =>
    have hl : (pcells q).length = 2 := rfl
    show (pcells q ++ plcs l)[k * 2]? = _ ∧ (pcells q ++ plcs l)[k * 2 + 1]? = _
    cases k with
    | zero => exact ⟨rfl, rfl⟩
    | succ k =>
      have := ih (k := k) (by simpa using h)
      rw [List.getElem?_append_right (by omega), List.getElem?_append_right (by omega), hl]
      rw [show (k + 1) * 2 - 2 = k * 2 by omega, show (k + 1) * 2 + 1 - 2 = k * 2 + 1 by omega]
      simpa using this
theorem plcs_append (a b : List (Int × Int)) : plcs (a ++ b) = plcs a ++ plcs b := by simp [plcs]
theorem plcs_one (l : List (Int × Int)) : ∀ u ∈ plcs l, u.oneCell' = true := by
  intro u hu
  simp only [plcs, List.mem_flatMap, pcells, List.mem_cons, List.not_mem_nil, or_false] at hu
  obtain ⟨e, _, rfl | rfl⟩ := hu <;> rfl

section
variable {H : Type} {enc : TypeId × Value → H} {W : World} {b0 : Nat} {v : Value} {d : DataW H} {p : List MemPlace}
set_option maxRecDepth 100000 in
theorem open_num (hv : Value.okWide Try.prog W .any b0 3 v) (h : DataW.Trod enc Try.prog W 0 (fun _ => true) true 3 v d p) : ∃ n, v = .int .i64 n ∧ Bd n := by
  obtain ⟨n, rfl, _, _, wn⟩ := open_int Try.underlying3 hv h
  exact ⟨n, rfl, bd_of_wf wn⟩
set_option maxRecDepth 100000 in
theorem open_edge (hv : Value.okWide Try.prog W .any b0 33 v) (h : DataW.Trod enc Try.prog W 0 (fun _ => true) true 33 v d p) : ∃ e : Edg, v = eval_ e ∧ Bd e.1 ∧ Bd e.2.1 ∧ Bd e.2.2 := by
  obtain ⟨c0, c1, c2, y0, y1, y2, n, rfl, _, _, t0, t1, t2⟩ := open_agg3 Try.underlying33 (by kernel_rfl) cells33 hv h
  obtain ⟨x0, e0, _, w0⟩ := DataW.trod_int Try.underlying3 t0
  obtain ⟨x1, e1, _, w1⟩ := DataW.trod_int Try.underlying3 t1
  obtain ⟨x2, e2, _, w2⟩ := DataW.trod_int Try.underlying3 t2
  simp at e0 e1 e2
  subst e0 e1 e2
  exact ⟨(x0, x1, x2), rfl, bd_of_wf w0, bd_of_wf w1, bd_of_wf w2⟩
set_option maxRecDepth 100000 in
theorem open_place (hv : Value.okWide Try.prog W .any b0 35 v) (h : DataW.Trod enc Try.prog W 0 (fun _ => true) true 35 v d p) : ∃ q : Int × Int, v = pval q ∧ Bd q.1 ∧ Bd q.2 := by
  obtain ⟨c0, c1, y0, y1, n, rfl, _, _, t0, t1⟩ := open_agg2 Try.underlying35 (by kernel_rfl) cells35 hv h
  obtain ⟨x0, e0, _, w0⟩ := DataW.trod_int Try.underlying3 t0
  obtain ⟨x1, e1, _, w1⟩ := DataW.trod_int Try.underlying3 t1
  simp at e0 e1
  subst e0 e1
  exact ⟨(x0, x1), rfl, bd_of_wf w0, bd_of_wf w1⟩
set_option maxRecDepth 100000 in
theorem open_pls (hv : Value.okWide Try.prog W .any b0 45 v) (h : DataW.Trod enc Try.prog W 0 (fun _ => true) true 45 v d p) :
    ∃ A len cap l, v = .slice A len cap ∧ Reads W W.heap.size 2 A len (plcs l) ∧ len ≤ 9223372036854775807 ∧ ∀ q ∈ l, Bd q.1 ∧ Bd q.2 := by
  obtain ⟨A0, len0, cap0, rfl⟩ := okWide_slice Try.underlying45 hv
  obtain ⟨fuel, hf⟩ := h
  rcases open_slice Try.underlying45 hf with ⟨e, _⟩ | ⟨a, len, cap, m, n', D, Pl, e, _, hl, hm, hmm, _, hel⟩
  · obtain ⟨rfl, rfl, rfl⟩ : A0 = none ∧ len0 = 0 ∧ cap0 = 0 := by simpa [Value.cells] using e
    exact ⟨none, 0, 0, [], rfl, Reads.nil, by omega, fun q hq => by simp at hq⟩
  · obtain ⟨rfl, rfl, rfl⟩ : A0 = some a ∧ len0 = len ∧ cap0 = cap := by simpa [Value.cells] using e
    simp only [if_true] at hmm
    obtain ⟨l, hes, hp⟩ := list_of_fam (fun i (x : Int × Int) => (W.cell? (a.add (i * 2)) = some (.int .i64 x.1) ∧ W.cell? (a.add (i * 2 + 1)) = some (.int .i64 x.2)) ∧ Bd x.1 ∧ Bd x.2) len0 (fun i hi => by
      obtain ⟨cs, hcs, ht⟩ := hel i (by omega)
      rw [cells35] at hcs
      obtain ⟨_, hlen, hat⟩ := World.cells?_some hcs
      obtain ⟨xs, k, _, _, _, hxl, hg⟩ := DataW.trod_struct Try.underlying35 ht
      match cs, hlen with
      | [c0, c1], _ =>
        match xs, hxl with
        | [y0, y1], _ =>
          have t0 : DataW.trod enc Try.prog W 0 (fun _ => true) true k 3 (([c0, c1].drop 0).take (Try.prog.cellsOf 3)) = some y0 := hg 0 _ rfl
          have t1 : DataW.trod enc Try.prog W 0 (fun _ => true) true k 3 (([c0, c1].drop 1).take (Try.prog.cellsOf 3)) = some y1 := hg 1 _ rfl
          rw [cells3] at t0 t1
          obtain ⟨x0, e0, _, w0⟩ := DataW.trod_int Try.underlying3 t0
          obtain ⟨x1, e1, _, w1⟩ := DataW.trod_int Try.underlying3 t1
          have g0 := hat 0 (by omega)
          have g1 := hat 1 (by omega)
          rw [add_of_add] at g0 g1
          simp at e0 e1 g0 g1
          subst e0 e1
          exact ⟨(x0, x1), ⟨g0, g1⟩, bd_of_wf w0, bd_of_wf w1⟩)
    refine ⟨some a, len0, cap0, l, rfl, ⟨by rw [plcs_length, hes], fun h0 => ⟨a, rfl, ?_, fun j u hu => ?_⟩⟩, by unfold maxLen at hm; omega, fun q hq => ?_⟩
    · have h1 : l[0]? = some l[0] := List.getElem?_eq_getElem (by omega)
      have := World.block_lt_of_cell? _ _ (hp 0 _ h1).1.1
      simpa [blockAdd] using this
    · have hjl : j < l.length * 2 := by
        have := (List.getElem?_eq_some_iff.1 hu).1
        rwa [plcs_length] at this
      have hk : j / 2 < l.length := by omega
      obtain ⟨⟨q0, q1⟩, _⟩ := hp (j / 2) l[j / 2] (List.getElem?_eq_getElem hk)
      obtain ⟨r0, r1⟩ := plcs_get hk
      rcases (show j = j / 2 * 2 ∨ j = j / 2 * 2 + 1 by omega) with hj | hj
      · rw [hj] at hu ⊢; rw [q0, ← r0, hu]
      · rw [hj] at hu ⊢; rw [q1, ← r1, hu]
    · obtain ⟨i, hi, rfl⟩ := List.getElem_of_mem hq
      exact (hp i _ (List.getElem?_eq_getElem hi)).2
end
end Go.Proofs.Ytahmdnboeenfkaa
