/- From a row's reading of its arguments: a slice's length is within its capacity. -/
import Derived.Test.YtahmdnboeenfkaaRk2
namespace Go.Proofs.Ytahmdnboeenfkaa
open Go.ChangeShapes Go.WideShapes Go.ChangeAt Go.RowKit Go.Joins Go.Deep

section
variable {H : Type} {enc : TypeId × Value → H} {W : World} {b0 : Nat} {v : Value} {d : DataW H} {p : List MemPlace}
theorem cap_any {e t : TypeId} (ht : Try.prog.underlying t = some (.slice e)) {A : Option Addr} {n c m : Nat} {y : DataW H × List MemPlace}
    (h : DataW.trod enc Try.prog W 0 (fun _ => true) true m t [.slice A n c] = some y) : n ≤ c := by
  rcases open_slice ht h with ⟨e, _⟩ | ⟨a, len, cap, m, n', D, Pl, e, _, hl, hm, hmm, _, hel⟩
  · obtain ⟨rfl, rfl, rfl⟩ : A = none ∧ n = 0 ∧ c = 0 := by simpa using e
    omega
  · obtain ⟨rfl, rfl, rfl⟩ : A = some a ∧ n = len ∧ c = cap := by simpa using e
    exact hl
theorem cap_sl {e t : TypeId} (ht : Try.prog.underlying t = some (.slice e)) {A : Option Addr} {n c : Nat} (h : DataW.Trod enc Try.prog W 0 (fun _ => true) true t (.slice A n c) d p) : n ≤ c := by
  obtain ⟨fuel, hf⟩ := h
  exact cap_any ht hf
set_option maxRecDepth 100000 in
theorem cap_fv {u : FV} (hv : Value.okWide Try.prog W .any b0 25 u.val) (h : DataW.Trod enc Try.prog W 0 (fun _ => true) true 25 u.val d p) : u.n ≤ u.c ∧ u.m ≤ u.d := by
  obtain ⟨c0, c1, c2, c3, y0, y1, y2, y3, n, e, _, _, t0, t1, t2, t3⟩ := open_agg4 Try.underlying25 (by kernel_rfl) cells25 hv h
  obtain ⟨rfl, rfl, rfl, rfl⟩ : Value.int .i64 u.f.W = c0 ∧ Value.int .i64 u.f.H = c1 ∧ Value.slice u.A u.n u.c = c2 ∧ Value.slice u.B u.m u.d = c3 := by simpa using e
  exact ⟨cap_any Try.underlying22 t2, cap_any Try.underlying23 t3⟩
end
end Go.Proofs.Ytahmdnboeenfkaa
