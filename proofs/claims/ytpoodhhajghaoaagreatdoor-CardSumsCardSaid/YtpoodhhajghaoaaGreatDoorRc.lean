/- From a row's reading of its arguments to the words of the walks (cards), and from a walk whose world only grows back to the row. -/
import Derived.Test.YtpoodhhajghaoaaGreatDoorRows
import Derived.Test.YtpoodhhajghaoaaGreatDoorC8
import Derived.ProofKit
import Derived.Deep.Slices
import Derived.Deep.Strs
import Derived.Lib.SmallJoins
import Derived.Laws.IdiomArrays
import Derived.ChangeMaps5
namespace Go.Proofs.YtpoodhhajghaoaaGreatDoor
open Go.ChangeShapes Go.WideShapes Go.ChangeAt Go.RowKit Go.Joins Go.Deep Go.Sort

theorem own : ownKnob Tryz.prog.godebug = none := by kernel_rfl
theorem laidOut : laidOutB Tryz.prog = true := by kernel_rfl
theorem cells3 : Tryz.prog.cellsOf 3 = 1 := by kernel_rfl
theorem cells9 : Tryz.prog.cellsOf 9 = 1 := by kernel_rfl
theorem cells35 : Tryz.prog.cellsOf 36 = 3 := by kernel_rfl
theorem cells53 : Tryz.prog.cellsOf 38 = 6 := by kernel_rfl
/-- A list of elements out of a family. -/
theorem list_of_fam {α : Type} (P : Nat → α → Prop) : ∀ n, (∀ i, i < n → ∃ x, P i x) → ∃ l : List α, l.length = n ∧ ∀ i x, l[i]? = some x → P i x
  | 0, _ => ⟨[], rfl, fun i x h => by simp at h⟩
  | n + 1, h => by
    obtain ⟨l, hl, hp⟩ := list_of_fam P n (fun i hi => h i (by omega))
    obtain ⟨x, hx⟩ := h n (by omega)
    refine ⟨l ++ [x], by simp [hl], fun i y hy => ?_⟩
    rcases Nat.lt_or_ge i n with hi | hi
    · rw [List.getElem?_append_left (by omega)] at hy
      exact hp i y hy
    · have hlt : i < (l ++ [x]).length := (List.getElem?_eq_some_iff.1 hy).1
      simp only [List.length_append, hl, List.length_cons, List.length_nil] at hlt
      obtain rfl : i = n := by omega
      rw [List.getElem?_append_right (by omega), hl] at hy
      simp at hy
      exact hy ▸ hx
/-- An int's bounds. -/
def Bd (n : Int) : Prop := -9223372036854775808 ≤ n ∧ n ≤ 9223372036854775807
theorem bd_of_wf {n : Int} (h : (Lit.int .i64 n).wf = true) : Bd n := by
  simp [Lit.wf, IntKind.min, IntKind.max, IntKind.signed, IntKind.bits] at h
  exact ⟨by omega, by omega⟩
/-- An entry's bounds. -/
def EBd (e : Ent) : Prop := (Bd e.1 ∧ Bd e.2.1) ∧ Bd e.2.2.1.1 ∧ Bd e.2.2.1.2.1 ∧ Bd e.2.2.1.2.2

section
variable {H : Type} {enc : TypeId × Value → H} {W : World} {b0 : Nat} {v : Value} {d : DataW H} {p : List MemPlace}
set_option maxRecDepth 100000 in
theorem open_num (hv : Value.okWide Tryz.prog W .any b0 3 v) (h : DataW.Trod enc Tryz.prog W 0 (fun _ => true) true 3 v d p) : ∃ n, v = .int .i64 n ∧ Bd n := by
  obtain ⟨n, rfl, _, _, wn⟩ := open_int Tryz.underlying3 hv h
  exact ⟨n, rfl, bd_of_wf wn⟩
set_option maxRecDepth 100000 in
theorem open_txt (hv : Value.okWide Tryz.prog W .any b0 9 v) (h : DataW.Trod enc Tryz.prog W 0 (fun _ => true) true 9 v d p) : ∃ s : ByteArray, v = .string s ∧ s.size ≤ maxLen := by
  obtain ⟨s, rfl, _, _, hs⟩ := Go.ChangeMaps.open_string Tryz.underlying9 hv h
  exact ⟨s, rfl, hs⟩
set_option maxRecDepth 100000 in
theorem okWide_arr3 (hv : Value.okWide Tryz.prog W .any b0 36 v) : ∃ xs : Array Value, v = .agg xs ∧ xs.size = 3 := by
  simp only [Value.okWide, Tryz.underlying36] at hv
  obtain ⟨cs, h1, h2, _⟩ := hv
  exact ⟨cs, h1, by rw [h2, cells35]⟩
set_option maxRecDepth 100000 in
theorem open_clk (hv : Value.okWide Tryz.prog W .any b0 36 v) (h : DataW.Trod enc Tryz.prog W 0 (fun _ => true) true 36 v d p) :
    ∃ k : Int × Int × Int, v = .agg #[.int .i64 k.1, .int .i64 k.2.1, .int .i64 k.2.2] ∧ Bd k.1 ∧ Bd k.2.1 ∧ Bd k.2.2 := by
  obtain ⟨xs, rfl, hx⟩ := okWide_arr3 hv
  obtain ⟨c0, c1, c2, rfl⟩ := array3 hx
  obtain ⟨fuel, hf⟩ := h
  obtain ⟨y0, y1, y2, n, _, t0, t1, t2⟩ := trod_array3 Tryz.underlying36 cells3 hf
  obtain ⟨x0, e0, _, w0⟩ := DataW.trod_int Tryz.underlying3 t0
  obtain ⟨x1, e1, _, w1⟩ := DataW.trod_int Tryz.underlying3 t1
  obtain ⟨x2, e2, _, w2⟩ := DataW.trod_int Tryz.underlying3 t2
  simp at e0 e1 e2
  subst e0 e1 e2
  exact ⟨(x0, x1, x2), rfl, bd_of_wf w0, bd_of_wf w1, bd_of_wf w2⟩

/-- The cells of an entry at an address. -/
def AtE (W : World) (a : Addr) (e : Ent) : Prop := ∀ i u, (ecells e)[i]? = some u → W.cell? (a.add i) = some u
set_option maxRecDepth 100000 in
theorem one_ent {n : Nat} {a : Addr} {cs : List Value} {y : DataW H × List MemPlace} (hcs : W.cells? 0 a 6 = some cs) (ht : DataW.trod enc Tryz.prog W 0 (fun _ => true) true n 38 cs = some y) :
    ∃ e : Ent, AtE W a e ∧ EBd e := by
  obtain ⟨_, hlen, hat⟩ := World.cells?_some hcs
  obtain ⟨xs, k, _, _, _, hxl, hg⟩ := DataW.trod_struct Tryz.underlying38 ht
  match cs, hlen with
  | [c0, c1, c2, c3, c4, c5], _ =>
    match xs, hxl with
    | [y0, y1, y2, y3], _ =>
      have t0 : DataW.trod enc Tryz.prog W 0 (fun _ => true) true k 3 (([c0, c1, c2, c3, c4, c5].drop 0).take (Tryz.prog.cellsOf 3)) = some y0 := hg 0 _ rfl
      have t1 : DataW.trod enc Tryz.prog W 0 (fun _ => true) true k 3 (([c0, c1, c2, c3, c4, c5].drop 1).take (Tryz.prog.cellsOf 3)) = some y1 := hg 1 _ rfl
      have t2 : DataW.trod enc Tryz.prog W 0 (fun _ => true) true k 36 (([c0, c1, c2, c3, c4, c5].drop 2).take (Tryz.prog.cellsOf 36)) = some y2 := hg 2 _ rfl
      have t3 : DataW.trod enc Tryz.prog W 0 (fun _ => true) true k 9 (([c0, c1, c2, c3, c4, c5].drop 5).take (Tryz.prog.cellsOf 9)) = some y3 := hg 3 _ rfl
      rw [cells3] at t0 t1
      rw [cells35] at t2
      rw [cells9] at t3
      obtain ⟨x0, e0, _, w0⟩ := DataW.trod_int Tryz.underlying3 t0
      obtain ⟨x1, e1, _, w1⟩ := DataW.trod_int Tryz.underlying3 t1
      obtain ⟨z0, z1, z2, n', _, s0, s1, s2⟩ := trod_array3 Tryz.underlying36 cells3 t2
      obtain ⟨x2, e2, _, w2⟩ := DataW.trod_int Tryz.underlying3 s0
      obtain ⟨x3, e3, _, w3⟩ := DataW.trod_int Tryz.underlying3 s1
      obtain ⟨x4, e4, _, w4⟩ := DataW.trod_int Tryz.underlying3 s2
      obtain ⟨x5, e5, _, _⟩ := DataW.trod_string Tryz.underlying9 t3
      simp at e0 e1 e2 e3 e4 e5
      subst e0 e1 e2 e3 e4 e5
      refine ⟨(x0, x1, (x2, x3, x4), x5), ?_, ⟨bd_of_wf w0, bd_of_wf w1⟩, bd_of_wf w2, bd_of_wf w3, bd_of_wf w4⟩
      intro i u hu
      have hi : i < 6 := (List.getElem?_eq_some_iff.1 hu).1
      rw [hat i hi]
      exact hu
set_option maxRecDepth 100000 in
theorem open_ents (hv : Value.okWide Tryz.prog W .any b0 22 v) (h : DataW.Trod enc Tryz.prog W 0 (fun _ => true) true 22 v d p) :
    ∃ A n c es, v = .slice A n c ∧ Reads W W.heap.size 6 A n (ents es) ∧ (n ≤ c ∧ c ≤ 9223372036854775807) ∧ ∀ e ∈ es, EBd e := by
  obtain ⟨A0, len0, cap0, rfl⟩ := okWide_slice Tryz.underlying22 hv
  obtain ⟨fuel, hf⟩ := h
  rcases open_slice Tryz.underlying22 hf with ⟨e, _⟩ | ⟨a, len, cap, m, n', D, Pl, e, _, hl, hm, hmm, _, hel⟩
  · obtain ⟨rfl, rfl, rfl⟩ : A0 = none ∧ len0 = 0 ∧ cap0 = 0 := by simpa [Value.cells] using e
    exact ⟨none, 0, 0, [], rfl, Reads.nil, by omega, fun q hq => by simp at hq⟩
  · obtain ⟨rfl, rfl, rfl⟩ : A0 = some a ∧ len0 = len ∧ cap0 = cap := by simpa [Value.cells] using e
    simp only [if_true] at hmm
    obtain ⟨l, hes, hp⟩ := list_of_fam (fun i (x : Ent) => AtE W (a.add (i * 6)) x ∧ EBd x) len0 (fun i hi => by
      obtain ⟨cs, hcs, ht⟩ := hel i (by omega)
      rw [cells53] at hcs
      exact one_ent hcs ht)
    refine ⟨some a, len0, cap0, l, rfl, ⟨by rw [ents_length, hes], fun h0 => ⟨a, rfl, ?_, fun j u hu => ?_⟩⟩, by unfold maxLen at hm; omega, fun q hq => ?_⟩
    · have h1 : l[0]? = some l[0] := List.getElem?_eq_getElem (by omega)
      have := World.block_lt_of_cell? _ _ ((hp 0 _ h1).1 0 _ rfl)
      simpa [blockAdd] using this
    · have hjl : j < l.length * 6 := by
        have := (List.getElem?_eq_some_iff.1 hu).1
        rwa [ents_length] at this
      have hk : j / 6 < l.length := by omega
      have q0 := (hp (j / 6) l[j / 6] (List.getElem?_eq_getElem hk)).1
      have r0 := ents_get hk (i := j % 6) (by omega)
      have hj : j / 6 * 6 + j % 6 = j := by omega
      rw [hj, hu] at r0
      have := q0 (j % 6) u r0.symm
      rwa [add_of_add, hj] at this
    · obtain ⟨i, hi, rfl⟩ := List.getElem_of_mem hq
      exact (hp i _ (List.getElem?_eq_getElem hi)).2

theorem trodAll_below {W' : World} (hb : Below W.heap.size W W') : ∀ {ts : List TypeId} {vs : List Value} {ds : List (DataW H)} {ps : List MemPlace}, (∀ t ∈ ts, Tryz.prog.readableRec t = true ∧ t < Tryz.prog.types.size) → DataW.TrodAll enc Tryz.prog W 0 (fun _ => true) true ts vs ds ps →
    (∀ x ∈ ps, x.block < W.heap.size) → DataW.TrodAll enc Tryz.prog W' 0 (fun b => decide (b < W.heap.size)) true ts vs ds ps
  | [], [], [], _, _, h, _ => h
  | _ :: _, _ :: _, _ :: _, _, hT, ⟨p, q, h1, h2, e⟩, hlt =>
    ⟨p, q, Below.trod laidOut (hT _ (List.mem_cons.2 (Or.inl rfl))).1 (hT _ (List.mem_cons.2 (Or.inl rfl))).2 h1 hb (fun x hx => hlt x (by rw [e]; exact List.mem_append_left _ hx)),
      trodAll_below hb (fun t ht => hT t (List.mem_cons.2 (Or.inr ht))) h2 (fun x hx => hlt x (by rw [e]; exact List.mem_append_right _ hx)), e⟩

/-- The row's end, for a law that answers true and leaves a grown world. -/
theorem law_post {f : Func} {s : ChangeSpec} {W' : World} {args : Array Value} {ds : List (DataW H)} {p : List MemPlace} (hvars : s.vars = []) (hts : ∀ t ∈ f.params.toList, Tryz.prog.readableRec t = true ∧ t < Tryz.prog.types.size)
    (hres : f.resultTypes = #[4]) (hfn : s.fn H ds = { results := [.lit (.bool true)], args := ds })
    (hW : DataW.Whole enc Tryz.prog f.params.toList s.vars false W args.toList ds [] p) (hA : DataW.TrodAll enc Tryz.prog W 0 (fun _ => true) true f.params.toList args.toList ds p) (hb : Below W.heap.size W W') :
    s.post enc Tryz.prog f false true false false W args (.bool true) W' := by
  have hlt : ∀ x ∈ p, x.block < W.heap.size := fun x hx => hW.lt x hx
  refine ⟨ds, [], p, [], p, [], hW, ?_, ?_, ?_, ?_, fun h => by cases h⟩
  · rw [List.append_nil, hfn, hres]
    exact trodAll_mk1 (shut_bool Tryz.underlying4 true)
  · rw [List.append_nil, hfn]
    exact trodAll_below hb hts hA hlt
  · rw [List.append_nil, hfn, hvars]
    rfl
  · exact World.keptBut_mono (fun x hx => ⟨hx, Or.inr (Or.inl hx)⟩) (hb.frame (· ∈ p))
end
end Go.Proofs.YtpoodhhajghaoaaGreatDoor
