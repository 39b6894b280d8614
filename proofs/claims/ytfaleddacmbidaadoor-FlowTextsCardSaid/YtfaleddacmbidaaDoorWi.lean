/- Walks: the field of a text, the program's. -/
import Derived.Test.YtfaleddacmbidaaDoorWh
import Derived.Lib.AtoiErrMem
namespace Go.Proofs.YtfaleddacmbidaaDoor
open Go.RowKit Go.Sort

/-- A cell that holds an error, or none. -/
def ErrCell (w : World) (b : Nat) : Prop := ∃ ev, w.cell? ⟨b, 0, none⟩ = some ev ∧ (ev = .nilIface ∨ ∃ te pe, ev = .iface te pe)
/-- The library's variables are there. -/
structure MWf (w : World) : Prop where
  sy : ErrCell w 0
  ra : ErrCell w 1
  mx : ∃ m, w.cell? ⟨3, 0, none⟩ = some (.int .i64 m)
  sz : 4 ≤ w.heap.size
theorem MWf.below {w w' : World} {B : Nat} (h : MWf w) (hb : Below B w w') (hB : 4 ≤ B) : MWf w' := by
  obtain ⟨⟨e, h1, h2⟩, ⟨f, h3, h4⟩, ⟨m, h5⟩, h6⟩ := h
  exact ⟨⟨e, (hb.cell (p := ⟨0, 0, none⟩) (by show 0 < B; omega)).trans h1, h2⟩, ⟨f, (hb.cell (p := ⟨1, 0, none⟩) (by show 1 < B; omega)).trans h3, h4⟩, ⟨m, (hb.cell (p := ⟨3, 0, none⟩) (by show 3 < B; omega)).trans h5⟩, Nat.le_trans h6 hb.size⟩
/-- What Atoi gives, and whether without an error. -/
def numP (l : List UInt8) : Int := match Lib.atoiAll l with
  | .ok v => v
  | .range => Lib.atoiSat l
  | _ => 0
def okP (l : List UInt8) : Bool := match Lib.atoiAll l with
  | .ok _ => true
  | _ => false
theorem numP_tells (l : List UInt8) : Tells l (numP l) := fun n h0 h1 e => by
  unfold numP
  rw [e, atoi_itoa h0 h1]
theorem okP_itoa {n : Int} (h0 : 0 ≤ n) (h1 : n ≤ 99) : okP (Lib.itoa n) = true := by
  unfold okP
  rw [atoi_itoa h0 h1]
theorem bytes_below {w w' : World} (h : w' = w ∨ ∃ t, w' = Lib.bytesWorld w 5 t) : Below w.heap.size w w' := by
  rcases h with rfl | ⟨t, rfl⟩
  · exact Below.refl _ _
  · exact Lib.bytesWorld_below _ _ _
/-- Atoi: the number, and an error or none. -/
theorem atoi_any (s : ByteArray) (w : World) (hs : s.size ≤ 1000000) (hm : MWf w) :
    Calls Tryd.prog 22 #[.string s] w fun r w' => (∃ ev, r = .returned (.tuple #[.int .i64 (numP s.data.toList), ev]) ∧ ((okP s.data.toList = true ∧ ev = .nilIface) ∨ (okP s.data.toList = false ∧ ∃ N, ev = .iface 84 (.pointer (some ⟨N, 0, none⟩))))) ∧ Below w.heap.size w w' := by
  obtain ⟨⟨e, h2, h3⟩, ⟨f, h4, h5⟩, _, _⟩ := hm
  unfold numP okP
  cases hc : Lib.atoiAll s.data.toList with
  | ok v => exact (Tryd.strconv_Atoi_ok s (by omega) v hc w).mono fun r w' ⟨k1, k2⟩ => ⟨⟨_, k1, .inl ⟨rfl, rfl⟩⟩, bytes_below k2⟩
  | range => exact (Tryd.strconv_Atoi_range s (by omega) hc f w h4 h5).mono fun r w' ⟨N, k1, _, _, k2⟩ => ⟨⟨_, k1, .inr ⟨rfl, N, rfl⟩⟩, k2⟩
  | _ => exact (Any.strconv_Atoi_syntax Tryd.laysC172 s (by omega) hc e w h2 h3).mono fun r w' ⟨N, k1, _, _, k2⟩ => ⟨⟨_, k1, .inr ⟨rfl, N, rfl⟩⟩, k2⟩
set_option maxRecDepth 100000 in
/-- The closure that reads a number. -/
theorem num_any (s : ByteArray) (k : Nat) (b : Bool) (w : World) (hs : s.size ≤ 1000000) (hm : MWf w) (hb : Box w k #[.bool b]) (hf : ∀ i, w.frozen? ⟨k, i, none⟩ = false) :
    Calls Tryd.prog 21 #[.string s, .pointer (some ⟨k, 0, none⟩)] w fun r w' => r = .returned (.int .i64 (numP s.data.toList)) ∧ ∃ w1, Below w.heap.size w w1 ∧ w' = w1.setCell ⟨k, 0, none⟩ (.bool (b && okP s.data.toList)) := by
  have HB := Lib.hid hb
  have HF := Lib.hid hf
  go_enter Tryd.func21, Tryd.ntmps21
  go_wp2_with fail
  with_reducible refine (atoi_any s w hs hm).mono ?_
  rintro _ w1 ⟨⟨ev, rfl, hev⟩, hb1⟩
  have cb := (HB.out.below hb1).at
  have fb := fz_below HB.out.1 HF.out hb1
  have HW := Lib.hid hb1
  clear hb1 hb hf hm
  cases b
  case false =>
    go_wp2_with fail
    go_ret
    exact ⟨rfl, w1, HW.out, rfl⟩
  case true =>
    rcases hev with ⟨h1, rfl⟩ | ⟨h1, N, rfl⟩
    · have H1 := Lib.hid h1
      clear h1
      go_wp2_with fail
      go_ret
      exact ⟨rfl, w1, HW.out, by rw [H1.out]; rfl⟩
    · have H1 := Lib.hid h1
      clear h1
      go_wp2_with fail
      go_ret
      exact ⟨rfl, w1, HW.out, by rw [H1.out]; rfl⟩
end Go.Proofs.YtfaleddacmbidaaDoor
