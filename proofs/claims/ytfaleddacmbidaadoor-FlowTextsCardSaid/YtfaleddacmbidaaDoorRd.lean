/- The card's closing (FlowTexts): what the row lists is there; a text argument. -/
import Derived.Test.YtfaleddacmbidaaDoorRk
import Derived.Test.YtfaleddacmbidaaDoorWi
import Derived.Test.YtfaleddacmbidaaDoorCards
import Derived.Test.YtfaleddacmbidaaDoorTie
import Derived.Lay
import Derived.LaidOnce
import Derived.LaidLaws
import Derived.HandedShaped
import Derived.SevenTiedAt
import Derived.ChangeMaps5
namespace Go.Proofs.YtfaleddacmbidaaDoor
open Go.ChangeShapes Go.WideShapes Go.ChangeAt Go.RowKit Go.Joins

/-- What the rows list. -/
abbrev laidR : List (String × DataW Unit) := [("math/bits.deBruijn32tab", Rows.laid_math_bits_deBruijn32tab), ("math/bits.deBruijn64tab", Rows.laid_math_bits_deBruijn64tab), ("internal/strconv.uint64pow10", Rows.laid_internal_strconv_uint64pow10), ("unicode/utf8.acceptRanges", Rows.laid_unicode_utf8_acceptRanges), ("strconv.ErrRange", Rows.laid_strconv_ErrRange), ("strconv.ErrSyntax", Rows.laid_strconv_ErrSyntax), ("unicode/utf8.first", Rows.laid_unicode_utf8_first)]
/-- The lift: what the rows list is there, and the world is of the program's shape. -/
theorem lift_of {C : Checked} {laid : List (String × DataW Unit)} {M : World → Prop} (hM : ∀ W w : World, W.ShapedOpen C.prog → w.heap = W.heap → laidMetH C.prog laid w → M W) {H : Type} {enc : TypeId × Value → H} {os : Os} {f : FuncId} {fn : Func} {s : ChangeSpec} (own : ownKnob C.prog.godebug = none) (started : os.Started) (noInit : C.prog.inits.idxOf? f = none) (hfn : C.prog.funcs[f]? = some fn)
    (witness : ∃ (w : World) (tape : Tape) (i : Input), w.os = os ∧ (w.forCall tape i).Shaped C.prog ∧ i.vars = [] ∧ Input.okWide C.prog (w.forCall tape i) .any w.heap.size f i ∧
      ((s.pre enc C.prog fn [] false (w.forCall tape i).memory i.args ∧ laidMetH C.prog laid (w.forCall tape i).memory) ∧ sizedMet enc C.prog fn (OpenSpec.ofChange s) false (w.forCall tape i).memory i.args) ∧ ({} : Assume).holds C.prog (lone (Frame.enter C.prog f i.args .normal) [] (w.forCall tape i)))
    (contract : ∀ (W : World) (base : Nat) (args : Array Value) (ds gs : List (DataW H)) (before : List MemPlace),
      (∀ (j : Nat) t v, fn.params[j]? = some t → args[j]? = some v → Value.okWide C.prog W .any base t v) →
      DataW.Whole enc C.prog fn.params.toList s.vars false W args.toList ds gs before → M W →
      Calls C.prog f args W fun e W' => ∃ v, e = .returned v ∧ s.post enc C.prog fn false true false false W args v W') :
    ReturnsInHanded {} C os f .any (fun w args => (s.pre enc C.prog fn [] false w args ∧ laidMetH C.prog laid w) ∧ sizedMet enc C.prog fn (OpenSpec.ofChange s) false w args)
      (s.post enc C.prog fn false true false false) := by
  refine returnsInHanded_of_calls own started noInit witness ?_
  intro w tape i _ hshape _ hok hpre hholds
  obtain ⟨_, _, _, fn', hfn', _, _, _, _, hval⟩ := hok
  have e : fn' = fn := Option.some.inj (hfn'.symm.trans hfn)
  subst e
  obtain ⟨⟨⟨ds, gs, before, hw, hc⟩, hlm⟩, hz⟩ := hpre
  have hw' := DataW.Whole.of_heap (w' := w.forCall tape i) (by rfl) hw
  refine (contract (w.forCall tape i) w.heap.size i.args ds gs before hval hw' (hM _ (w.forCall tape i).memory hshape (by rfl) hlm)).mono fun e W' ⟨v, he, hp⟩ => ?_
  subst he
  exact ChangeSpec.post_blind hp
theorem err_of {w : World} {n : String} {g : Nat} {t : TypeId} {cs : Array Value} {fuel : Nat} {p : List MemPlace} {nm : String} {d : DataW Unit} {g0 : Nat} (h0 : Tryd.prog.globalNamed n = some g0) (h1 : (Tryd.prog.globals[g0]?).map (·.type) = some 44)
    (hg : Tryd.prog.globalNamed n = some g) (ht : (Tryd.prog.globals[g]?).map (·.type) = some t) (hv : w.var? Tryd.prog n = some cs) (htr : DataW.trod (fun _ => ()) Tryd.prog w 0 (fun _ => true) false fuel t cs.toList = some (.iface nm d, p)) : ErrCell w g0 := by
  obtain rfl : g0 = g := Option.some.inj (h0.symm.trans hg)
  obtain rfl : 44 = t := Option.some.inj (h1.symm.trans ht)
  obtain ⟨_, u, v, hc, _, _⟩ := iface_of_trod Tryd.underlying44 htr
  have h2 := World.var?_cell h0 hv 0
  refine ⟨.iface u v, ?_, .inr ⟨u, v, rfl⟩⟩
  have h3 : cs[0]? = some (.iface u v) := by rw [← Array.getElem?_toList, hc]; rfl
  exact h2.trans h3
theorem ErrCell.heap {w w' : World} (h : w.heap = w'.heap) {b : Nat} (he : ErrCell w b) : ErrCell w' b := by
  obtain ⟨e, h1, h2⟩ := he
  refine ⟨e, ?_, h2⟩
  unfold World.cell? at h1 ⊢
  rwa [← h]
set_option maxRecDepth 100000 in
theorem open_txt {H : Type} {enc : TypeId × Value → H} {W : World} {b0 : Nat} {v : Value} {d : DataW H} {p : List MemPlace} (hv : Value.okWide Tryd.prog W .any b0 9 v) (h : DataW.Trod enc Tryd.prog W 0 (fun _ => true) true 9 v d p) : ∃ s : ByteArray, v = .string s ∧ s.size ≤ maxLen := by
  obtain ⟨s, rfl, _, _, hs⟩ := Go.ChangeMaps.open_string Tryd.underlying9 hv h
  exact ⟨s, rfl, hs⟩
theorem mx_of {w : World} (h : w.ShapedOpen Tryd.prog) : ∃ m, w.cell? ⟨3, 0, none⟩ = some (.int .i64 m) :=
  Go.Proofs.cell_of_shapedOpen_int (zero := #[.int .i64 0]) (t := 3) h (of_decide_eq_true (by kernel_rfl)) (by kernel_rfl) rfl (by kernel_rfl) (by kernel_rfl) Tryd.underlying3
theorem mw_of (W w : World) (h : W.ShapedOpen Tryd.prog) (hh : w.heap = W.heap) (hl : laidMetH Tryd.prog laidR w) : MWf W := by
  rw [MakeChecks.laidMetH_plain _ _ _ (by kernel_rfl)] at hl
  obtain ⟨ps, h1, _⟩ := hl
  obtain ⟨_, _, _, _, _, _, _, _, _, _, h2, _⟩ := h1
  obtain ⟨_, _, _, _, _, _, _, _, _, _, h3, _⟩ := h2
  obtain ⟨_, _, _, _, _, _, _, _, _, _, h4, _⟩ := h3
  obtain ⟨_, _, _, _, _, _, _, _, _, _, h5, _⟩ := h4
  obtain ⟨g, t, cs, fuel, p, q, r1, r2, r3, r4, h6, _⟩ := h5
  obtain ⟨g', t', cs', fuel', p', q', s1, s2, s3, s4, _, _⟩ := h6
  obtain ⟨m, hm⟩ := mx_of h
  exact ⟨(err_of (g0 := 0) (by kernel_rfl) (by kernel_rfl) s1 s2 s3 s4).heap hh, (err_of (g0 := 1) (by kernel_rfl) (by kernel_rfl) r1 r2 r3 r4).heap hh, ⟨m, hm⟩, World.block_lt_of_cell? _ _ hm⟩
end Go.Proofs.YtfaleddacmbidaaDoor
