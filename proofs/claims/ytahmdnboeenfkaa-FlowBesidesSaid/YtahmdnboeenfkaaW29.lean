/- Walks: a number modulo 8; the reference's result; all directions turned. -/
import Derived.Test.YtahmdnboeenfkaaW28
import Derived.Laws.BitsLemmas
namespace Go.Proofs.Ytahmdnboeenfkaa
open Go.RowKit Go.Sort

theorem i64_and7 (n : Int) : bits .and .i64 n 7 = n % 8 := by
  have h7 : (BitVec.ofInt 64 7).toNat = 2 ^ 3 - 1 := by decide
  have key : (BitVec.ofInt 64 n &&& BitVec.ofInt 64 7).toNat = (n % ((2 ^ 64 : Nat) : Int)).toNat % 2 ^ 3 := by
    rw [BitVec.toNat_and, BitVec.toNat_ofInt, h7, Nat.and_two_pow_sub_one_eq_mod]
  show IntKind.i64.wrap ((BitVec.ofInt 64 n &&& BitVec.ofInt 64 7).toNat : Nat) = n % 8
  rw [key, IntKind.wrap_i64]
  omega
theorem eighth_any (n : Int) (w : World) : Calls Try.prog 91 #[.int .i64 n] w fun e w' => e = .returned (.int .i64 (n % 8)) ∧ w = w' := by
  go_enter Try.func91, Try.ntmps91
  go_wp2_with fail
  go_ret
  exact ⟨ret_int (i64_and7 n), rfl⟩

/-- What the result's cell, written at the end, leaves of a field of the call's own. -/
theorem res_own {w w1 W : World} {u : FV} {B : Nat} (ho : FOwn w1.heap.size W u) (hB : B < w1.heap.size) (hb : Below w.heap.size w W) (h0 : w.heap.size ≤ B) (h1 : w.heap.size ≤ w1.heap.size) (a b c d : Value) :
    FOwn w.heap.size ((((W.setCell ⟨B, 0, none⟩ a).setCell ⟨B, 1, none⟩ b).setCell ⟨B, 2, none⟩ c).setCell ⟨B, 3, none⟩ d) u ∧
    Below w.heap.size w ((((W.setCell ⟨B, 0, none⟩ a).setCell ⟨B, 1, none⟩ b).setCell ⟨B, 2, none⟩ c).setCell ⟨B, 3, none⟩ d) := by
  have hA : ∀ i p, u.A = some p → p.block ≠ (⟨B, i, none⟩ : Addr).block := fun i p hp => by have := (ho.blkA hp).1; show p.block ≠ B; omega
  have hB' : ∀ i p, u.B = some p → p.block ≠ (⟨B, i, none⟩ : Addr).block := fun i p hp => by have := (ho.blkB hp).1; show p.block ≠ B; omega
  have o := (((ho.far (hA 0) (hB' 0) a).far (hA 1) (hB' 1) b).far (hA 2) (hB' 2) c).far (hA 3) (hB' 3) d
  exact ⟨⟨row_mono o.ds h1, row_mono o.ps h1, o.ne⟩, (((hb.setCell (p := ⟨B, 0, none⟩) h0 a).setCell (p := ⟨B, 1, none⟩) h0 b).setCell (p := ⟨B, 2, none⟩) h0 c).setCell (p := ⟨B, 3, none⟩) h0 d⟩
theorem res_bel {w W : World} {B : Nat} (hb : Below w.heap.size w W) (h0 : w.heap.size ≤ B) (a b c d : Value) :
    Below w.heap.size w ((((W.setCell ⟨B, 0, none⟩ a).setCell ⟨B, 1, none⟩ b).setCell ⟨B, 2, none⟩ c).setCell ⟨B, 3, none⟩ d) :=
  (((hb.setCell (p := ⟨B, 0, none⟩) h0 a).setCell (p := ⟨B, 1, none⟩) h0 b).setCell (p := ⟨B, 2, none⟩) h0 c).setCell (p := ⟨B, 3, none⟩) h0 d
/-- The cell of the result: it is there, not frozen, and its block is the call's own. -/
structure ResB (w W : World) (B : Nat) : Prop where
  box : Box W B #[.int .i64 0, .int .i64 0, .slice none 0 0, .slice none 0 0]
  fz : ∀ i, W.frozen? ⟨B, i, none⟩ = false
  bel : Below w.heap.size w W
  le : w.heap.size ≤ B
theorem ResB.on {w W W' : World} {B : Nat} (h : ResB w W B) (hb : Below W.heap.size W W') : ResB w W' B := ⟨h.box.below hb, fz_below h.box.1 h.fz hb, below_trans' h.bel hb, h.le⟩
/-- In a world in which only what was made since w1 is other. -/
theorem ResB.past {w W W' : World} {B : Nat} (h : ResB w W B) {w1 : World} (hb : Below W.heap.size W w1) (hb2 : Below w1.heap.size w1 W') : ResB w W' B := (h.on hb).on hb2
theorem ResB.new (w : World) (cs : Array Value) (t : TypeId) : ResB w ((w.alloc (.cells cs t)).alloc (.cells #[.int .i64 0, .int .i64 0, .slice none 0 0, .slice none 0 0] 25)) (w.heap.size + 1) := by
  refine ⟨Box.new2 _ _ _ _ _, ?_, belowAA _ _ _, Nat.le_succ _⟩
  have := fz_new (w.alloc (.cells cs t)) #[.int .i64 0, .int .i64 0, .slice none 0 0, .slice none 0 0] 25
  rw [World.size_alloc] at this; exact this
/-- Box behind four stores. -/
theorem Box.four {W : World} {B : Nat} {x y z u : Value} (h : Box W B #[x, y, z, u]) (a b c d : Value) : Box ((((W.setCell ⟨B, 0, none⟩ a).setCell ⟨B, 1, none⟩ b).setCell ⟨B, 2, none⟩ c).setCell ⟨B, 3, none⟩ d) B #[a, b, c, d] := by
  have := (((h.set (i := 0) (by simp) a).set (i := 1) (by simp) b).set (i := 2) (by simp) c).set (i := 3) (by simp) d
  simpa using this

theorem refResult_any (v : FV) (w0 w : World) (hb : Below w0.heap.size w0 w) (ho : FOwn w0.heap.size w v) :
    Calls Try.prog 86 #[v.val] w (RetOwn (fin v.f) (valid v.f) w0) := by
  have HB := Lib.hid hb
  have HO := Lib.hid ho
  clear hb ho
  go_enter Try.func86, Try.ntmps86
  dsimp only [FV.val]
  go_wp2_with fail
  refine (refValidate_any v _ (HO.out.In.below (belowAA _ _ _))).mono ?_
  rintro r w2 ⟨rfl, hb2⟩
  have hR := (ResB.new w #[.int .i64 v.f.W, .int .i64 v.f.H, .slice v.A v.n v.c, .slice v.B v.m v.d] 25).on hb2
  have b0 := ((Box.new w #[.int .i64 v.f.W, .int .i64 v.f.H, .slice v.A v.n v.c, .slice v.B v.m v.d] 25).alloc (.cells #[.int .i64 0, .int .i64 0, .slice none 0 0, .slice none 0 0] 25)).below hb2
  have HO2 := Lib.hid (HO.out.on (below2 _ _ hb2))
  have HB2 := Lib.hid (below_trans' HB.out (below2 _ _ hb2))
  have hszw := Lib.hid HB.out.size
  have hAb := Lib.hid (fun p (hp : v.A = some p) => (HO.out.blkA hp).2)
  have hBb := Lib.hid (fun p (hp : v.B = some p) => (HO.out.blkB hp).2)
  have cr := hR.box.at
  have fr := hR.fz
  have HR := Lib.hid hR
  clear hb2 hR
  by_cases hz : valid v.f = 0
  · have hz' : (valid v.f != 0) = false := by simpa using hz
    have HF := Lib.hid (show fin v.f = v.f by unfold fin; rw [if_pos hz])
    have HZ := Lib.hid hz
    clear hz
    have c0 := b0.at
    go_wp2_with fail
    have cF := (HR.out.box.four (.int .i64 v.f.W) (.int .i64 v.f.H) (.slice v.A v.n v.c) (.slice v.B v.m v.d)).at
    refine bodyPost_ret (v := .tuple #[.agg #[.int .i64 v.f.W, .int .i64 v.f.H, .slice v.A v.n v.c, .slice v.B v.m v.d], .int .i64 0]) (by simp [results, Try.results86, go_sem, cF]) rfl
      ⟨v, HF.out.symm, by rw [HZ.out], ?_, ?_⟩
    · have h1 : ∀ i p, v.A = some p → p.block ≠ (⟨w.heap.size + 1, i, none⟩ : Addr).block := fun i p hp => by have := hAb.out p hp; show p.block ≠ w.heap.size + 1; omega
      have h2 : ∀ i p, v.B = some p → p.block ≠ (⟨w.heap.size + 1, i, none⟩ : Addr).block := fun i p hp => by have := hBb.out p hp; show p.block ≠ w.heap.size + 1; omega
      exact (((HO2.out.far (h1 0) (h2 0) _).far (h1 1) (h2 1) _).far (h1 2) (h2 2) _).far (h1 3) (h2 3) _
    · exact res_bel HB2.out (by have := hszw.out; omega) _ _ _ _
  · have hz' : (valid v.f != 0) = true := by simpa using hz
    have HF := Lib.hid (show fin v.f = zeroF by unfold fin; rw [if_neg hz])
    clear hz
    go_wp2_with fail
    have cF := (HR.out.box.four (.int .i64 0) (.int .i64 0) (.slice none 0 0) (.slice none 0 0)).at
    refine bodyPost_ret (v := .tuple #[.agg #[.int .i64 0, .int .i64 0, .slice none 0 0, .slice none 0 0], .int .i64 (valid v.f)]) (by simp [results, Try.results86, go_sem, cF]) rfl
      ⟨⟨zeroF, none, none, 0, 0, 0, 0⟩, HF.out.symm, rfl, FOwn.zero _ _, res_bel HB2.out (by have := hszw.out; omega) _ _ _ _⟩

/-- The first k elements are other. -/
def mixL (g : Int → Int) (k : Nat) (l : List Int) : List Int := (l.take k).map g ++ l.drop k
theorem mixL_zero (g : Int → Int) (l : List Int) : mixL g 0 l = l := by simp [mixL]
theorem mixL_all {g : Int → Int} {k : Nat} {l : List Int} (h : l.length ≤ k) : mixL g k l = l.map g := by simp [mixL, List.take_of_length_le h, List.drop_eq_nil_of_le h]
theorem mixL_length (g : Int → Int) (k : Nat) (l : List Int) : (mixL g k l).length = l.length := by simp [mixL]; omega
theorem mixL_get {g : Int → Int} {k : Nat} {l : List Int} {d : Int} (h : l[k]? = some d) : (mixL g k l)[k]? = some d := by
  obtain ⟨hk, rfl⟩ := List.getElem?_eq_some_iff.1 h
  unfold mixL
  rw [List.getElem?_append_right (by simp; omega)]
  simp [Nat.min_eq_left (Nat.le_of_lt hk), List.getElem?_drop]
theorem mixL_set {g : Int → Int} {k : Nat} {l : List Int} {d : Int} (h : l[k]? = some d) : (mixL g k l).set k (g d) = mixL g (k + 1) l := by
  obtain ⟨hk, rfl⟩ := List.getElem?_eq_some_iff.1 h
  unfold mixL
  rw [List.set_append, if_neg (by simp; omega), List.take_succ_eq_append_getElem hk, List.map_append, List.append_assoc]
  have h0 : k - (List.map g (List.take k l)).length = 0 := by simp; omega
  rw [h0, List.drop_eq_getElem_cons hk]
  rfl
theorem ints_set (l : List Int) (k : Nat) (z : Int) : (ints l).set k (.int .i64 z) = ints (l.set k z) := by simp [ints, List.map_set]
def withD (f : Fld) (ds : List Int) : Fld := { f with ds := ds }
def FV.withD (v : FV) (ds : List Int) : FV := { v with f := Ytahmdnboeenfkaa.withD v.f ds }
theorem FOwn.storeD {bl : Nat} {w : World} {v : FV} (h : FOwn bl w v) {g : Nat} (hA : v.A = some ⟨g, 0, none⟩) (k : Nat) (z : Int) : FOwn bl (w.setCell ⟨g, k, none⟩ (.int .i64 z)) (v.withD (v.f.ds.set k z)) := by
  have hd := h.ds
  rw [hA] at hd
  obtain ⟨h1, h2⟩ := hd.stored k (.int .i64 z)
  rw [ints_set] at h1
  refine ⟨by show World.ownsRow _ _ _ _ (.slice v.A v.n v.c) _ _; rw [hA]; exact h1, ?_, h.ne⟩
  refine row_far h.ps (fun j hj => ?_) _
  cases hB : v.B with
  | none => rw [hB] at hj; cases hj
  | some q => rw [hB] at hj; injection hj with hj; subst hj; exact (h.ne _ q hA hB).symm
theorem FOwn.atD {bl : Nat} {w : World} {v : FV} (h : FOwn bl w v) {k : Nat} {d : Int} (hk : v.f.ds[k]? = some d) : ∃ g, v.A = some ⟨g, 0, none⟩ ∧ bl ≤ g ∧ g < w.heap.size ∧ w.cell? ⟨g, k, none⟩ = some (.int .i64 d) ∧ ∀ i, w.frozen? ⟨g, i, none⟩ = false := by
  have hl := h.ds.1
  rw [ints_length] at hl
  have hkl := (List.getElem?_eq_some_iff.1 hk).1
  have hd := h.ds
  rcases hd.2 with ⟨hv, h0⟩ | ⟨g, cap, cur, hv, hb, hh, h1, h2, h3, h4⟩
  · omega
  · injection hv with e1 e2 e3
    rw [e1] at hd
    refine ⟨g, e1, hb, (Array.getElem?_eq_some_iff.1 hh).1, ?_, fun i => hd.frozenAt i⟩
    rw [hd.cellAt k (by omega)]
    simp [ints, hk]
end Go.Proofs.Ytahmdnboeenfkaa
