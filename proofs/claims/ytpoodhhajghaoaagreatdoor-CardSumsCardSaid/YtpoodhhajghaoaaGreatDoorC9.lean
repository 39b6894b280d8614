/- Walks: who has seen whom; both sides. -/
import Derived.Test.YtpoodhhajghaoaaGreatDoorC8
namespace Go.Proofs.YtpoodhhajghaoaaGreatDoor
open Go.RowKit Go.Sort

theorem ix22i {A : Option Addr} {ad : Addr} {n c : Nat} {i : Int} (h : A = some ad) (h0 : 0 ≤ i) (hk : i < n) (w : World) : (Instr.indexAt 22 (.slice A n c) (.int .i64 i)).run Tryz.prog w = .ok (.pointer (some (ad.add (i.toNat * 6)))) w := by
  have := ix22 (n := n) (c := c) (k := i.toNat) h (by omega) w
  rwa [show ((i.toNat : Nat) : Int) = i by omega] at this
/-- Whether an entry of a card has seen another one, and the error. -/
def hsE (es : List Ent) (i j : Int) : Int := if val es ≠ 0 then val es else if 0 ≤ i ∧ i < es.length ∧ 0 ≤ j ∧ j < es.length then 0 else 5
def hsB (es : List Ent) (i j : Int) : Bool := if hsE es i j = 0 then sawE (es.getD i.toNat default) (es.getD j.toNat default) else false
theorem hs_bad {es : List Ent} {i j : Int} (h : val es ≠ 0) : hsE es i j = val es ∧ hsB es i j = false := by
  have h1 : hsE es i j = val es := if_pos h
  refine ⟨h1, ?_⟩
  unfold hsB
  rw [h1, if_neg h]
theorem hs_none {es : List Ent} {i j : Int} (h : val es = 0) (h2 : ¬ (0 ≤ i ∧ i < es.length ∧ 0 ≤ j ∧ j < es.length)) : hsE es i j = 5 ∧ hsB es i j = false := by
  have h1 : hsE es i j = 5 := by unfold hsE; rw [if_neg (fun hn => hn h), if_neg h2]
  refine ⟨h1, ?_⟩
  unfold hsB
  rw [h1]; rfl
theorem hs_ok {es : List Ent} {i j : Int} (h : val es = 0) (h0 : 0 ≤ i) (h1 : i < es.length) (h2 : 0 ≤ j) (h3 : j < es.length) {x y : Ent} (hx : es[i.toNat]? = some x) (hy : es[j.toNat]? = some y) : hsE es i j = 0 ∧ hsB es i j = sawE x y := by
  have e1 : hsE es i j = 0 := by unfold hsE; rw [if_neg (fun hn => hn h), if_pos ⟨h0, h1, h2, h3⟩]
  refine ⟨e1, ?_⟩
  unfold hsB
  rw [if_pos e1, List.getD_eq_getElem?_getD, hx, List.getD_eq_getElem?_getD, hy]
  rfl
end Go.Proofs.YtpoodhhajghaoaaGreatDoor
