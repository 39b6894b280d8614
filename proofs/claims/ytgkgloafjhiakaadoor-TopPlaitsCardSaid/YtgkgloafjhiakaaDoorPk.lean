/- Pairs of numbers in memory; a list of changes opened. -/
import Derived.Test.YtgkgloafjhiakaaDoorRc
import Derived.Lib.SmallJoins
namespace Go.Proofs.YtgkgloafjhiakaaDoor
open Go.ChangeShapes Go.WideShapes Go.ChangeAt Go.RowKit Go.Joins Go.Deep

theorem cells3 : Tryd.prog.cellsOf 3 = 1 := by kernel_rfl
/-- A list of elements out of a family. -/
theorem list_of_fam {α : Type} (P : Nat → α → Prop) : ∀ n, (∀ i, i < n → ∃ x, P i x) → ∃ l : List α, l.length = n ∧ ∀ i x, l[i]? = some x → P i x
  | 0, _ => ⟨[], rfl, fun i x h => by simp at h⟩
  | n + 1, h => by
    obtain ⟨l, hl, hp⟩ := list_of_fam P n (fun i hi => h i (by omega))
    obtain ⟨x, hx⟩ := h n (by omega)
    refine ⟨l ++ [x], by simp [hl], fun i y hy => ?_⟩
    rcases Nat.lt_or_ge i n with hi | hi
    · rw [List.getElem?_append_left (by omega)] at hy
      exact hp i y hy
    · have hlt : i < (l ++ [x]).length := (List.getElem?_eq_some_iff.1 hy).1
      simp only [List.length_append, hl, List.length_cons, List.length_nil] at hlt
      obtain rfl : i = n := by omega
      rw [List.getElem?_append_right (by omega), hl] at hy
      simp at hy
      exact hy ▸ hx

theorem cells46 : Tryd.prog.cellsOf 46 = 2 := by kernel_rfl
abbrev pval (q : Int × Int) : Value := .agg #[.int .i64 q.1, .int .i64 q.2]
def pcells (q : Int × Int) : List Value := [.int .i64 q.1, .int .i64 q.2]
def plcs (l : List (Int × Int)) : List Value := l.flatMap pcells
theorem plcs_length (l : List (Int × Int)) : (plcs l).length = l.length * 2 := by
  induction l with
  | nil => rfl
  | cons q l ih =>
    show (pcells q ++ plcs l).length = _
    rw [List.length_append, ih]; simp [pcells]; omega
theorem plcs_get {l : List (Int × Int)} {k : Nat} (h : k < l.length) : (plcs l)[k * 2]? = some (.int .i64 l[k].1) ∧ (plcs l)[k * 2 + 1]? = some (.int .i64 l[k].2) := by
  induction l generalizing k with
  | nil => simp at h
  | cons q l ih =>
    have hl : (pcells q).length = 2 := rfl
    show (pcells q ++ plcs l)[k * 2]? = _ ∧ (pcells q ++ plcs l)[k * 2 + 1]? = _
    cases k with
    | zero => exact ⟨rfl, rfl⟩
    | succ k =>
      have := ih (k := k) (by simpa using h)
      rw [List.getElem?_append_right (by omega), List.getElem?_append_right (by omega), hl]
      rw [show (k + 1) * 2 - 2 = k * 2 by omega, show (k + 1) * 2 + 1 - 2 = k * 2 + 1 by omega]
      simpa using this
theorem plcs_append (a b : List (Int × Int)) : plcs (a ++ b) = plcs a ++ plcs b := by simp [plcs]
theorem plcs_one (l : List (Int × Int)) : ∀ u ∈ plcs l, u.oneCell' = true := by
  intro u hu
  simp only [plcs, List.mem_flatMap, pcells, List.mem_cons, List.not_mem_nil, or_false] at hu
  obtain ⟨e, _, rfl | rfl⟩ := hu <;> rfl

section
variable {H : Type} {enc : TypeId × Value → H} {W : World} {b0 : Nat} {v : Value} {d : DataW H} {p : List MemPlace}
set_option maxRecDepth 100000 in
theorem open_pls (hv : Value.okWide Tryd.prog W .any b0 43 v) (h : DataW.Trod enc Tryd.prog W 0 (fun _ => true) true 43 v d p) :
    ∃ A len cap l, v = .slice A len cap ∧ Reads W W.heap.size 2 A len (plcs l) ∧ len ≤ 9223372036854775807 ∧ ∀ q ∈ l, Bd q.1 ∧ Bd q.2 := by
  obtain ⟨A0, len0, cap0, rfl⟩ := okWide_slice Tryd.underlying43 hv
  obtain ⟨fuel, hf⟩ := h
  rcases open_slice Tryd.underlying43 hf with ⟨e, _⟩ | ⟨a, len, cap, m, n', D, Pl, e, _, hl, hm, hmm, _, hel⟩
  · obtain ⟨rfl, rfl, rfl⟩ : A0 = none ∧ len0 = 0 ∧ cap0 = 0 := by simpa [Value.cells] using e
    exact ⟨none, 0, 0, [], rfl, Reads.nil, by omega, fun q hq => by simp at hq⟩
  · obtain ⟨rfl, rfl, rfl⟩ : A0 = some a ∧ len0 = len ∧ cap0 = cap := by simpa [Value.cells] using e
    simp only [if_true] at hmm
    obtain ⟨l, hes, hp⟩ := list_of_fam (fun i (x : Int × Int) => (W.cell? (a.add (i * 2)) = some (.int .i64 x.1) ∧ W.cell? (a.add (i * 2 + 1)) = some (.int .i64 x.2)) ∧ Bd x.1 ∧ Bd x.2) len0 (fun i hi => by
      obtain ⟨cs, hcs, ht⟩ := hel i (by omega)
      rw [cells46] at hcs
      obtain ⟨_, hlen, hat⟩ := World.cells?_some hcs
      obtain ⟨xs, k, _, _, _, hxl, hg⟩ := DataW.trod_struct Tryd.underlying46 ht
      match cs, hlen with
      | [c0, c1], _ =>
        match xs, hxl with
        | [y0, y1], _ =>
          have t0 : DataW.trod enc Tryd.prog W 0 (fun _ => true) true k 3 (([c0, c1].drop 0).take (Tryd.prog.cellsOf 3)) = some y0 := hg 0 _ rfl
          have t1 : DataW.trod enc Tryd.prog W 0 (fun _ => true) true k 3 (([c0, c1].drop 1).take (Tryd.prog.cellsOf 3)) = some y1 := hg 1 _ rfl
          rw [cells3] at t0 t1
          obtain ⟨x0, e0, _, w0⟩ := DataW.trod_int Tryd.underlying3 t0
          obtain ⟨x1, e1, _, w1⟩ := DataW.trod_int Tryd.underlying3 t1
          have g0 := hat 0 (by omega)
          have g1 := hat 1 (by omega)
          rw [add_of_add] at g0 g1
          simp at e0 e1 g0 g1
          subst e0 e1
          exact ⟨(x0, x1), ⟨g0, g1⟩, bd_of_wf w0, bd_of_wf w1⟩)
    refine ⟨some a, len0, cap0, l, rfl, ⟨by rw [plcs_length, hes], fun h0 => ⟨a, rfl, ?_, fun j u hu => ?_⟩⟩, by unfold maxLen at hm; omega, fun q hq => ?_⟩
    · have h1 : l[0]? = some l[0] := List.getElem?_eq_getElem (by omega)
      have := World.block_lt_of_cell? _ _ (hp 0 _ h1).1.1
      simpa [blockAdd] using this
    · have hjl : j < l.length * 2 := by
        have := (List.getElem?_eq_some_iff.1 hu).1
        rwa [plcs_length] at this
      have hk : j / 2 < l.length := by omega
      obtain ⟨⟨q0, q1⟩, _⟩ := hp (j / 2) l[j / 2] (List.getElem?_eq_getElem hk)
      obtain ⟨r0, r1⟩ := plcs_get hk
      rcases (show j = j / 2 * 2 ∨ j = j / 2 * 2 + 1 by omega) with hj | hj
      · rw [hj] at hu ⊢; rw [q0, ← r0, hu]
      · rw [hj] at hu ⊢; rw [q1, ← r1, hu]
    · obtain ⟨i, hi, rfl⟩ := List.getElem_of_mem hq
      exact (hp i _ (List.getElem?_eq_getElem hi)).2
end
theorem eat2 {w : World} {B : Nat} {A : Option Addr} {m : Nat} {es : List (Int × Int)} (h : Reads w B 2 A m (plcs es)) {k : Nat} (hk : k < es.length) :
    ∃ ad, A = some ad ∧ ad.block < B ∧ w.cell? (ad.add (k * 2)) = some (.int .i64 es[k].1) ∧ w.cell? ⟨(ad.add (k * 2)).block, (ad.add (k * 2)).off + 1, none⟩ = some (.int .i64 es[k].2) := by
  have hl := h.1
  rw [plcs_length] at hl
  obtain ⟨ad, hA, hB, hc⟩ := h.look (by omega)
  obtain ⟨g0, g1⟩ := plcs_get hk
  refine ⟨ad, hA, hB, hc _ _ g0, ?_⟩
  have e := hc _ _ g1
  rw [← add_of_add, add_pos _ 1 (by omega)] at e
  exact e
theorem ix43 {A : Option Addr} {ad : Addr} {n c k : Nat} (h : A = some ad) (hk : k < n) (w : World) : (Instr.indexAt 43 (.slice A n c) (.int .i64 (k : Int))).run Tryd.prog w = .ok (.pointer (some (ad.add (k * 2)))) w := by
  subst h
  have h0 : (0 : Int) ≤ (k : Int) ∧ (k : Int) < (n : Int) := by omega
  have hs : (sizeOf (Tryd.prog.elem 43)).run Tryd.prog w = .ok 2 w := by kernel_rfl
  rw [run_indexAt_slice w 43 ad n c .i64 k (by kernel_rfl), if_pos h0, hs]
  simp [Result.andThen]
end Go.Proofs.YtgkgloafjhiakaaDoor
