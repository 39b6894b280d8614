/- Walks: the reader of a style. -/
import Derived.Test.YtgkgloafjhiakaaDoorQ2
import Derived.WalkLawsBesides
namespace Go.Proofs.YtgkgloafjhiakaaDoor
open Go.RowKit Go.Sort

def headB : List UInt8 → UInt8
  | [] => 0
  | c :: _ => c
/-- The parser's own panic. -/
abbrev badP : Ending := .panicked [{ v := .iface 84 (.agg #[]), recovered := false }]
/-- A reader in memory. -/
structure ReadAt (w : World) (b : Nat) (s : List UInt8) : Prop where
  box : Box w b #[.string (mkB s)]
  fz : ∀ i, w.frozen? ⟨b, i, none⟩ = false
theorem ReadAt.c0 {w : World} {b : Nat} {s : List UInt8} (h : ReadAt w b s) : w.cell? ⟨b, 0, none⟩ = some (.string (mkB s)) := h.box.2 0
theorem ReadAt.set {w : World} {b : Nat} {s : List UInt8} (h : ReadAt w b s) (s' : List UInt8) : ReadAt (w.setCell ⟨b, 0, none⟩ (.string (mkB s'))) b s' := ⟨h.box.set (i := 0) (by simp) _, fun i => by rw [World.frozen?_setCell]; exact h.fz i⟩
theorem ReadAt.grown {w w' : World} {b : Nat} {s : List UInt8} {row : Option Nat} (h : ReadAt w b s) (hg : w.grownBy w' row) (hne : row ≠ some b) : ReadAt w' b s :=
  ⟨h.box.grown hg fun k hk e => hne (by rw [hk, e]), fz_grown h.box.1 h.fz hg fun k hk e => hne (by rw [hk, e])⟩
set_option maxRecDepth 100000 in
theorem peek_any (b : Nat) (s : List UInt8) (w : World) (h : ReadAt w b s) : Calls Tryd.prog 95 #[.pointer (some ⟨b, 0, none⟩)] w fun r w' => r = .returned (.int .u8 ((headB s).toNat : Int)) ∧ w' = w := by
  have c0 := h.c0
  clear h
  go_enter Tryd.func95, Tryd.ntmps95
  cases s with
  | nil =>
    go_wp2_with fail
    go_ret
    exact ⟨rfl, rfl⟩
  | cons c u =>
    have hs : (mkB (c :: u)).size = u.length + 1 := rfl
    go_wp2_with fail
    go_ret
    exact ⟨rfl, rfl⟩
set_option maxRecDepth 100000 in
theorem take_any (b : Nat) (s : List UInt8) (w : World) (h : ReadAt w b s) (hs : s.length ≤ 1000000) : Calls Tryd.prog 97 #[.pointer (some ⟨b, 0, none⟩)] w fun r w' =>
    (headB s = 0 ∧ r = badP ∧ w' = w) ∨ ∃ c u, s = c :: u ∧ r = .returned (.int .u8 (c.toNat : Int)) ∧ w' = w.setCell ⟨b, 0, none⟩ (.string (mkB u)) := by
  have c0 := h.c0
  have f0 := h.fz 0
  have HR := Lib.hid h
  clear h
  go_enter Tryd.func97, Tryd.ntmps97
  go_wp2_with fail
  with_reducible refine (peek_any b s _ HR.out).mono ?_
  rintro _ _ ⟨rfl, rfl⟩
  by_cases h0 : headB s = 0
  · have HH := Lib.hid h0
    rw [h0]
    clear h0
    go_wp2_with fail
    exact ⟨rfl, .inl ⟨HH.out, rfl, rfl⟩⟩
  · cases s with
    | nil => exact absurd rfl h0
    | cons c u =>
      have g0 : ((c.toNat : Int) == 0) = false := ne8 (n := 0) h0 (by decide)
      have hs : (mkB (c :: u)).size = u.length + 1 := rfl
      have hx : (mkB (c :: u)).extract 1 (u.length + 1) = mkB u := by rw [extract_mk]; simp
      rw [show headB (c :: u) = c from rfl]
      clear h0
      go_wp2_with fail
      go_ret
      exact .inr ⟨c, u, rfl, rfl, rfl⟩
end Go.Proofs.YtgkgloafjhiakaaDoor
