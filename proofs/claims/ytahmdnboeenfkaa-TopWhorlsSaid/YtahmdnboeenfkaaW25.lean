/- Walks: clone, result. -/
import Derived.Test.YtahmdnboeenfkaaOw
namespace Go.Proofs.Ytahmdnboeenfkaa
open Go.RowKit Go.Sort

theorem Box.grown {w w' : World} {b : Nat} {cs : Array Value} {row : Option Nat} (h : Box w b cs) (hg : w.grownBy w' row) (hne : ∀ k, row = some k → k ≠ b) : Box w' b cs := by
  refine ⟨Nat.lt_of_lt_of_le h.1 hg.size, fun i => ?_⟩
  rw [World.cell?_of_block (a := ⟨b, i, none⟩) (hg.block b h.1 (fun e => hne b e.symm rfl))]
  exact h.2 i
theorem fz_grown {w w' : World} {b : Nat} {row : Option Nat} (hb : b < w.heap.size) (h : ∀ i, w.frozen? ⟨b, i, none⟩ = false) (hg : w.grownBy w' row) (hne : ∀ k, row = some k → k ≠ b) : ∀ i, w'.frozen? ⟨b, i, none⟩ = false := fun i => by
  rw [World.frozen?_of_block (a := ⟨b, i, none⟩) (hg.block b hb (fun e => hne b e.symm rfl))]
  exact h i
theorem row_far {w : World} {bl e sz n : Nat} {u : Value} {xs : List Value} (h : w.ownsRow bl e sz u n xs) {q : Addr} (hne : ∀ k, u.ownBlock = some k → k ≠ q.block) (x : Value) : (w.setCell q x).ownsRow bl e sz u n xs := by
  refine h.kept (row := some q.block) ⟨rfl, rfl, rfl, by simp [World.setCell], fun k _ hk => heap_setCell_other w q k x (fun e => hk (by rw [e]))⟩ ?_
  cases hu : u.ownBlock with
  | none => exact .inl rfl
  | some k => exact .inr (by simpa using hne k hu)
theorem FOwn.far {bl : Nat} {w : World} {v : FV} (h : FOwn bl w v) {q : Addr} (h1 : ∀ p, v.A = some p → p.block ≠ q.block) (h2 : ∀ p, v.B = some p → p.block ≠ q.block) (x : Value) : FOwn bl (w.setCell q x) v := by
  refine ⟨row_far h.ds (fun k hk => ?_) x, row_far h.ps (fun k hk => ?_) x, h.ne⟩
  · cases hA : v.A with
    | none => rw [hA] at hk; cases hk
    | some p => rw [hA] at hk; injection hk with hk; subst hk; exact h1 p hA
  · cases hB : v.B with
    | none => rw [hB] at hk; cases hk
    | some p => rw [hB] at hk; injection hk with hk; subst hk; exact h2 p hB
theorem FOwn.blkA {bl : Nat} {w : World} {v : FV} (h : FOwn bl w v) {p : Addr} (hp : v.A = some p) : bl ≤ p.block ∧ p.block < w.heap.size := h.ds.lt p.block (by rw [hp]; rfl)
theorem FOwn.blkB {bl : Nat} {w : World} {v : FV} (h : FOwn bl w v) {p : Addr} (hp : v.B = some p) : bl ≤ p.block ∧ p.block < w.heap.size := h.ps.lt p.block (by rw [hp]; rfl)

/-- A field of the call's own is returned, with an error. -/
def RetOwn (f : Fld) (e : Int) (w0 : World) (r : Ending) (w' : World) : Prop :=
  ∃ u : FV, u.f = f ∧ r = .returned (.tuple #[u.val, .int .i64 e]) ∧ FOwn w0.heap.size w' u ∧ Below w0.heap.size w0 w'
def srt (f : Fld) : Fld := { f with ps := sortE f.ps }
set_option maxRecDepth 4000 in
theorem result_any (v : FV) (w0 w : World) (hb : Below w0.heap.size w0 w) (ho : FOwn w0.heap.size w v) (hm : v.m ≤ 1000000) :
    Calls Try.prog 84 #[v.val] w (RetOwn (fin (srt v.f)) (valid (srt v.f)) w0) := by
  have HB := Lib.hid hb
  have HO := Lib.hid ho
  clear hb ho
  go_enter Try.func84, Try.ntmps84
  dsimp only [FV.val]
  go_wp2_with fail
  have HO1 := Lib.hid (HO.out.on (belowAA w (.cells #[.int .i64 v.f.W, .int .i64 v.f.H, .slice v.A v.n v.c, .slice v.B v.m v.d] 25) (.cells #[.int .i64 0, .int .i64 0, .slice none 0 0, .slice none 0 0] 25)))
  refine (sortE_any v.B v.m v.d v.f.ps _ HO1.out.ps hm).mono ?_
  rintro r w1 ⟨rfl, hr1, hg1⟩
  have hneB : ∀ k, (Value.slice v.B v.m v.d).ownBlock = some k → k < w.heap.size := fun k hk => (HO.out.ps.lt k hk).2
  have b0 := ((Box.new w #[.int .i64 v.f.W, .int .i64 v.f.H, .slice v.A v.n v.c, .slice v.B v.m v.d] 25).alloc (.cells #[.int .i64 0, .int .i64 0, .slice none 0 0, .slice none 0 0] 25)).grown hg1 (fun k hk => by have := hneB k hk; omega)
  have br := (Box.new2 w #[.int .i64 v.f.W, .int .i64 v.f.H, .slice v.A v.n v.c, .slice v.B v.m v.d] #[.int .i64 0, .int .i64 0, .slice none 0 0, .slice none 0 0] 25 25).grown hg1 (fun k hk => by have := hneB k hk; omega)
  have fr := fz_grown (Box.new2 w #[.int .i64 v.f.W, .int .i64 v.f.H, .slice v.A v.n v.c, .slice v.B v.m v.d] #[.int .i64 0, .int .i64 0, .slice none 0 0, .slice none 0 0] 25 25).1 (by have := fz_new (w.alloc (.cells #[.int .i64 v.f.W, .int .i64 v.f.H, .slice v.A v.n v.c, .slice v.B v.m v.d] 25)) #[.int .i64 0, .int .i64 0, .slice none 0 0, .slice none 0 0] 25; rw [World.size_alloc] at this; exact this) hg1 (fun k hk => by have := hneB k hk; omega)
  have HO2 := Lib.hid (HO1.out.sorted hr1 hg1)
  have HB2 := Lib.hid (Below.sorted (below_trans' HB.out (belowAA w _ _)) HO1.out.ps hg1)
  have hszw := Lib.hid HB.out.size
  have hA := Lib.hid (fun p (hp : v.A = some p) => (HO.out.blkA hp).2)
  have hBb := Lib.hid (fun p (hp : v.B = some p) => (HO.out.blkB hp).2)
  clear hr1 hg1 hneB HO1
  have c0 := b0.at
  go_wp2_with fail
  refine (validate_any ⟨srt v.f, v.A, v.B, v.n, v.c, v.m, v.d⟩ _ HO2.out.In).mono ?_
  rintro r w2 ⟨rfl, hb2⟩
  clear c0
  replace b0 := b0.below hb2
  have fr2 := fz_below br.1 fr hb2
  replace br := br.below hb2
  replace HO2 := Lib.hid (HO2.out.on hb2)
  replace HB2 := Lib.hid (below_trans' HB2.out hb2)
  clear hb2 fr
  have cr := br.at
  by_cases hz : valid (srt v.f) = 0
  · have hz' : (valid (srt v.f) != 0) = false := by simpa using hz
    have HF := Lib.hid (show fin (srt v.f) = srt v.f by unfold fin; rw [if_pos hz])
    have HZ := Lib.hid hz
    clear hz
    have c0 := b0.at
    go_wp2_with fail
    have bF := (((br.set (i := 0) (by simp) (.int .i64 v.f.W)).set (i := 1) (by simp) (.int .i64 v.f.H)).set (i := 2) (by simp) (.slice v.A v.n v.c)).set (i := 3) (by simp) (.slice v.B v.m v.d)
    have cF := bF.at
    refine bodyPost_ret (v := .tuple #[.agg #[.int .i64 v.f.W, .int .i64 v.f.H, .slice v.A v.n v.c, .slice v.B v.m v.d], .int .i64 0]) (by simp [results, Try.results84, go_sem, cF]) rfl
      ⟨⟨srt v.f, v.A, v.B, v.n, v.c, v.m, v.d⟩, HF.out.symm, by rw [HZ.out]; rfl, ?_, ?_⟩
    · have h1 : ∀ i p, v.A = some p → p.block ≠ (⟨w.heap.size + 1, i, none⟩ : Addr).block := fun i p hp => by have := hA.out p hp; show p.block ≠ w.heap.size + 1; omega
      have h2 : ∀ i p, v.B = some p → p.block ≠ (⟨w.heap.size + 1, i, none⟩ : Addr).block := fun i p hp => by have := hBb.out p hp; show p.block ≠ w.heap.size + 1; omega
      exact (((HO2.out.far (h1 0) (h2 0) _).far (h1 1) (h2 1) _).far (h1 2) (h2 2) _).far (h1 3) (h2 3) _
    · have hle : w0.heap.size ≤ w.heap.size + 1 := by have := hszw.out; omega
      exact (((HB2.out.setCell (p := ⟨w.heap.size + 1, 0, none⟩) hle _).setCell (p := ⟨w.heap.size + 1, 1, none⟩) hle _).setCell (p := ⟨w.heap.size + 1, 2, none⟩) hle _).setCell (p := ⟨w.heap.size + 1, 3, none⟩) hle _
  · have hz' : (valid (srt v.f) != 0) = true := by simpa using hz
    have HF := Lib.hid (show fin (srt v.f) = zeroF by unfold fin; rw [if_neg hz])
    clear hz
    go_wp2_with fail
    have bF := (((br.set (i := 0) (by simp) (.int .i64 0)).set (i := 1) (by simp) (.int .i64 0)).set (i := 2) (by simp) (.slice none 0 0)).set (i := 3) (by simp) (.slice none 0 0)
    have cF := bF.at
    refine bodyPost_ret (v := .tuple #[.agg #[.int .i64 0, .int .i64 0, .slice none 0 0, .slice none 0 0], .int .i64 (valid (srt v.f))]) (by simp [results, Try.results84, go_sem, cF]) rfl
      ⟨⟨zeroF, none, none, 0, 0, 0, 0⟩, HF.out.symm, rfl, FOwn.zero _ _, ?_⟩
    have hle : w0.heap.size ≤ w.heap.size + 1 := by have := hszw.out; omega
    exact (((HB2.out.setCell (p := ⟨w.heap.size + 1, 0, none⟩) hle _).setCell (p := ⟨w.heap.size + 1, 1, none⟩) hle _).setCell (p := ⟨w.heap.size + 1, 2, none⟩) hle _).setCell (p := ⟨w.heap.size + 1, 3, none⟩) hle _

def RetClone (f : Fld) (w : World) (r : Ending) (w' : World) : Prop := ∃ u : FV, u.f = f ∧ r = .returned u.val ∧ FOwn w.heap.size w' u ∧ Below w.heap.size w w'
end Go.Proofs.Ytahmdnboeenfkaa
