/- More arguments opened: strokes, frames. -/
import Derived.Test.YtahmdnboeenfkaaRk3
namespace Go.Proofs.Ytahmdnboeenfkaa
open Go.ChangeShapes Go.WideShapes Go.ChangeAt Go.RowKit Go.Joins Go.Deep

theorem cells64 : Try.prog.cellsOf 64 = 3 := by kernel_rfl
theorem cells59 : Try.prog.cellsOf 59 = 4 := by kernel_rfl
/-- A frame: x, y, w, h. -/
abbrev Frm := Int × Int × Int × Int
abbrev frval (x : Frm) : Value := .agg #[.int .i64 x.1, .int .i64 x.2.1, .int .i64 x.2.2.1, .int .i64 x.2.2.2]
section
variable {H : Type} {enc : TypeId × Value → H} {W : World} {b0 : Nat} {v : Value} {d : DataW H} {p : List MemPlace}
set_option maxRecDepth 100000 in
theorem open_stroke (hv : Value.okWide Try.prog W .any b0 64 v) (h : DataW.Trod enc Try.prog W 0 (fun _ => true) true 64 v d p) : ∃ e : Edg, v = eval_ e ∧ Bd e.1 ∧ Bd e.2.1 ∧ Bd e.2.2 := by
  obtain ⟨c0, c1, c2, y0, y1, y2, n, rfl, _, _, t0, t1, t2⟩ := open_agg3 Try.underlying64 (by kernel_rfl) cells64 hv h
  obtain ⟨x0, e0, _, w0⟩ := DataW.trod_int Try.underlying3 t0
  obtain ⟨x1, e1, _, w1⟩ := DataW.trod_int Try.underlying3 t1
  obtain ⟨x2, e2, _, w2⟩ := DataW.trod_int Try.underlying3 t2
  simp at e0 e1 e2
  subst e0 e1 e2
  exact ⟨(x0, x1, x2), rfl, bd_of_wf w0, bd_of_wf w1, bd_of_wf w2⟩
set_option maxRecDepth 100000 in
theorem open_frame (hv : Value.okWide Try.prog W .any b0 59 v) (h : DataW.Trod enc Try.prog W 0 (fun _ => true) true 59 v d p) : ∃ e : Frm, v = frval e ∧ Bd e.1 ∧ Bd e.2.1 ∧ Bd e.2.2.1 ∧ Bd e.2.2.2 := by
  obtain ⟨c0, c1, c2, c3, y0, y1, y2, y3, n, rfl, _, _, t0, t1, t2, t3⟩ := open_agg4 Try.underlying59 (by kernel_rfl) cells59 hv h
  obtain ⟨x0, e0, _, w0⟩ := DataW.trod_int Try.underlying3 t0
  obtain ⟨x1, e1, _, w1⟩ := DataW.trod_int Try.underlying3 t1
  obtain ⟨x2, e2, _, w2⟩ := DataW.trod_int Try.underlying3 t2
  obtain ⟨x3, e3, _, w3⟩ := DataW.trod_int Try.underlying3 t3
  simp at e0 e1 e2 e3
  subst e0 e1 e2 e3
  exact ⟨(x0, x1, x2, x3), rfl, bd_of_wf w0, bd_of_wf w1, bd_of_wf w2, bd_of_wf w3⟩
end
end Go.Proofs.Ytahmdnboeenfkaa
