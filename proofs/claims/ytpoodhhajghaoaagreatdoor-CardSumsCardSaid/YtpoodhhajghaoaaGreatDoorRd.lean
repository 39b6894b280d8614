/- The card's closing (seat of CardFolds and CardSums): what the rows list is there. -/
import Derived.Test.YtpoodhhajghaoaaGreatDoorRc
import Derived.Test.YtpoodhhajghaoaaGreatDoorFy
import Derived.Test.YtpoodhhajghaoaaGreatDoorCards
import Derived.Test.YtpoodhhajghaoaaGreatDoorTie
import Derived.Lay
import Derived.LaidOnce
import Derived.LaidLaws
import Derived.HandedShaped
import Derived.SevenTiedAt
namespace Go.Proofs.YtpoodhhajghaoaaGreatDoor
open Go.ChangeShapes Go.WideShapes Go.ChangeAt Go.RowKit Go.Sort

/-- What the rows list. -/
abbrev laidR : List (String × DataW Unit) := [("math/bits.deBruijn32tab", Rows.laid_math_bits_deBruijn32tab), ("math/bits.deBruijn64tab", Rows.laid_math_bits_deBruijn64tab), ("internal/strconv.uint64pow10", Rows.laid_internal_strconv_uint64pow10), ("strconv.ErrRange", Rows.laid_strconv_ErrRange), ("strconv.ErrSyntax", Rows.laid_strconv_ErrSyntax)]
/-- The lift: what the rows list is there, and the world is of the program's shape. -/
theorem lift_of {C : Checked} {laid : List (String × DataW Unit)} {M : World → Prop} (hM : ∀ W w : World, W.ShapedOpen C.prog → w.heap = W.heap → laidMetH C.prog laid w → M W) {H : Type} {enc : TypeId × Value → H} {os : Os} {f : FuncId} {fn : Func} {s : ChangeSpec} (own : ownKnob C.prog.godebug = none) (started : os.Started) (noInit : C.prog.inits.idxOf? f = none) (hfn : C.prog.funcs[f]? = some fn)
    (witness : ∃ (w : World) (tape : Tape) (i : Input), w.os = os ∧ (w.forCall tape i).Shaped C.prog ∧ i.vars = [] ∧ Input.okWide C.prog (w.forCall tape i) .any w.heap.size f i ∧
      ((s.pre enc C.prog fn [] false (w.forCall tape i).memory i.args ∧ laidMetH C.prog laid (w.forCall tape i).memory) ∧ sizedMet enc C.prog fn (OpenSpec.ofChange s) false (w.forCall tape i).memory i.args) ∧ ({} : Assume).holds C.prog (lone (Frame.enter C.prog f i.args .normal) [] (w.forCall tape i)))
    (contract : ∀ (W : World) (base : Nat) (args : Array Value) (ds gs : List (DataW H)) (before : List MemPlace),
      (∀ (j : Nat) t v, fn.params[j]? = some t → args[j]? = some v → Value.okWide C.prog W .any base t v) →
      DataW.Whole enc C.prog fn.params.toList s.vars false W args.toList ds gs before → M W →
      Calls C.prog f args W fun e W' => ∃ v, e = .returned v ∧ s.post enc C.prog fn false true false false W args v W') :
    ReturnsInHanded {} C os f .any (fun w args => (s.pre enc C.prog fn [] false w args ∧ laidMetH C.prog laid w) ∧ sizedMet enc C.prog fn (OpenSpec.ofChange s) false w args)
      (s.post enc C.prog fn false true false false) := by
  refine returnsInHanded_of_calls own started noInit witness ?_
  intro w tape i _ hshape _ hok hpre hholds
  obtain ⟨_, _, _, fn', hfn', _, _, _, _, hval⟩ := hok
  have e : fn' = fn := Option.some.inj (hfn'.symm.trans hfn)
  subst e
  obtain ⟨⟨⟨ds, gs, before, hw, hc⟩, hlm⟩, hz⟩ := hpre
  have hw' := DataW.Whole.of_heap (w' := w.forCall tape i) (by rfl) hw
  refine (contract (w.forCall tape i) w.heap.size i.args ds gs before hval hw' (hM _ (w.forCall tape i).memory hshape (by rfl) hlm)).mono fun e W' ⟨v, he, hp⟩ => ?_
  subst he
  exact ChangeSpec.post_blind hp
theorem err_of {w : World} {n : String} {g : Nat} {t : TypeId} {cs : Array Value} {fuel : Nat} {p : List MemPlace} {nm : String} {d : DataW Unit} {g0 : Nat} (h0 : Tryz.prog.globalNamed n = some g0) (h1 : (Tryz.prog.globals[g0]?).map (·.type) = some 69)
    (hg : Tryz.prog.globalNamed n = some g) (ht : (Tryz.prog.globals[g]?).map (·.type) = some t) (hv : w.var? Tryz.prog n = some cs) (htr : DataW.trod (fun _ => ()) Tryz.prog w 0 (fun _ => true) false fuel t cs.toList = some (.iface nm d, p)) : ErrCell w g0 := by
  obtain rfl : g0 = g := Option.some.inj (h0.symm.trans hg)
  obtain rfl : 69 = t := Option.some.inj (h1.symm.trans ht)
  obtain ⟨_, u, v, hc, _, _⟩ := iface_of_trod Tryz.underlying69 htr
  have h2 := World.var?_cell h0 hv 0
  refine ⟨.iface u v, ?_, .inr ⟨u, v, rfl⟩⟩
  have h3 : cs[0]? = some (.iface u v) := by rw [← Array.getElem?_toList, hc]; rfl
  exact h2.trans h3
theorem ErrCell.heap {w w' : World} (h : w.heap = w'.heap) {b : Nat} (he : ErrCell w b) : ErrCell w' b := by
  obtain ⟨e, h1, h2⟩ := he
  refine ⟨e, ?_, h2⟩
  unfold World.cell? at h1 ⊢
  rwa [← h]
theorem mw_of (W w : World) (h : W.ShapedOpen Tryz.prog) (hh : w.heap = W.heap) (hl : laidMetH Tryz.prog laidR w) : MW W := by
  rw [MakeChecks.laidMetH_plain _ _ _ (by kernel_rfl)] at hl
  obtain ⟨ps, h1, _⟩ := hl
  obtain ⟨_, _, _, _, _, _, _, _, _, _, h2, _⟩ := h1
  obtain ⟨_, _, _, _, _, _, _, _, _, _, h3, _⟩ := h2
  obtain ⟨_, _, _, _, _, _, _, _, _, _, h4, _⟩ := h3
  obtain ⟨g, t, cs, fuel, p, q, r1, r2, r3, r4, h5, _⟩ := h4
  obtain ⟨g', t', cs', fuel', p', q', s1, s2, s3, s4, _, _⟩ := h5
  exact ⟨Tryz.laysM145.s1_3 _ h, (err_of (g0 := 1) (by kernel_rfl) (by kernel_rfl) s1 s2 s3 s4).heap hh, (err_of (g0 := 2) (by kernel_rfl) (by kernel_rfl) r1 r2 r3 r4).heap hh⟩
end Go.Proofs.YtpoodhhajghaoaaGreatDoor
