/- A field that is being made: stores into its directions; a row of zeros; squares that are visited column by column. -/
import Derived.Test.YtahmdnboeenfkaaW35
import Derived.Laws.OwnMore
namespace Go.Proofs.Ytahmdnboeenfkaa
open Go.RowKit Go.Sort

theorem GF.storeA {w1 w : World} {a b B : Nat} {v : FV} (h : GF w1 a b w B v) {g : Nat} (hA : v.A = some ⟨g, 0, none⟩) (ha : w1.heap.size ≤ g) (k : Nat) (z : Int) : GF w1 a b (w.setCell ⟨g, k, none⟩ (.int .i64 z)) B (v.withD (v.f.ds.set k z)) := by
  have hd := h.ds
  rw [hA] at hd
  obtain ⟨h1, h2⟩ := hd.stored k (.int .i64 z)
  rw [ints_set] at h1
  have hne : B ≠ g := fun e => h.nA _ hA e.symm
  refine ⟨h.box.far (p := ⟨g, k, none⟩) hne _, fun j => by rw [World.frozen?_setCell]; exact h.fz j, by show World.ownsRow _ _ _ _ (.slice v.A v.n v.c) _ _; rw [hA]; exact h1, ?_, h.ne, h.nA, h.nB, h.bel.setCell (p := ⟨g, k, none⟩) ha _, h.hB, h.ha, h.hb⟩
  refine row_far h.ps (fun j hj => ?_) _
  obtain ⟨q, hq, rfl⟩ := own_blk hj
  exact (h.ne _ q hA hq).symm
theorem madeCells_zero (n : Nat) : (madeCells #[.int .i64 0] n).toList = ints (List.replicate n 0) := by
  apply List.ext_getElem?
  intro i
  simp [madeCells, ints, List.getElem?_replicate]
  by_cases h : i < n <;> simp [h, Nat.mod_one]
theorem mk22 (n : Nat) (hn : n ≤ 1000000) (w : World) : (Instr.makeSlice 22 (.int .i64 (n : Int)) (.int .i64 (n : Int))).run Try.prog w = .ok (.slice (some ⟨w.heap.size, 0, none⟩) n n) (w.alloc (.cells (madeCells #[.int .i64 0] n) 3)) := by
  obtain ⟨i0, hi, hz0, hz1, hz2⟩ := info_parts info3
  have h := run_make (P := Try.prog) w 22 3 i0 _ Try.underlying22 hi hz0 .i64 .i64 n n (by omega) (Int.le_refl _) (by rw [hz2]; omega) (by omega)
  rw [hz1, Int.toNat_natCast, Nat.mul_one] at h
  exact h
theorem row_zero (w : World) (n : Nat) (hn : n ≤ 1000000) {base : Nat} (hb : base ≤ w.heap.size) : (w.alloc (.cells (madeCells #[.int .i64 0] n) 3)).ownsRow base 3 1 (.slice (some ⟨w.heap.size, 0, none⟩) n n) n (ints (List.replicate n 0)) := by
  have := World.ownsRow_lit (base := base) (e := 3) (size := 1) w (madeCells #[.int .i64 0] n) n hb (by unfold maxLen; omega) (by rw [size_madeCells]; omega)
  rwa [madeCells_zero] at this

/-- The squares of a field that is turned, as far as they are visited: y columns, and x squares of the next one. -/
def visL (g : Nat → Int) (H n y x : Nat) : List Int := (List.range n).map fun p => if H - 1 - p % H < y ∨ (H - 1 - p % H = y ∧ p / H < x) then g p else 0
theorem visL_zero (g : Nat → Int) (H n : Nat) : visL g H n 0 0 = List.replicate n 0 := by
  apply List.ext_getElem?
  intro i
  unfold visL
  by_cases h : i < n <;> simp [h]
theorem visL_length (g : Nat → Int) (H n y x : Nat) : (visL g H n y x).length = n := by simp [visL]
theorem visL_row (g : Nat → Int) (H W y : Nat) (hH : 0 < H) : visL g H (W * H) y W = visL g H (W * H) (y + 1) 0 := by
  unfold visL
  refine List.map_congr_left fun p hp => ?_
  have h1 : p / H < W := by rw [Nat.div_lt_iff_lt_mul hH]; exact List.mem_range.1 hp
  generalize p / H = q at *
  generalize p % H = r at *
  by_cases h : H - 1 - r < y ∨ (H - 1 - r = y ∧ q < W)
  · rw [if_pos h, if_pos (by omega)]
  · rw [if_neg h, if_neg (by omega)]
theorem visL_all (g : Nat → Int) (H n y : Nat) (hH : 0 < H) (hy : H ≤ y) : visL g H n y 0 = (List.range n).map g := by
  unfold visL
  refine List.map_congr_left fun p _ => ?_
  have := Nat.mod_lt p hH
  rw [if_pos (by omega)]
theorem visL_set (g : Nat → Int) (H W y x : Nat) (hy : y < H) (hx : x < W) : (visL g H (W * H) y x).set (x * H + (H - 1 - y)) (g (x * H + (H - 1 - y))) = visL g H (W * H) y (x + 1) := by
  have hH : 0 < H := by omega
  have hlt : x * H + (H - 1 - y) < W * H := by
    have := Nat.mul_le_mul_right H (show x + 1 ≤ W by omega)
    rw [Nat.add_mul, Nat.one_mul] at this
    omega
  have hm : (x * H + (H - 1 - y)) % H = H - 1 - y := by rw [Nat.add_comm, Nat.add_mul_mod_self_right, Nat.mod_eq_of_lt (by omega)]
  have hd : (x * H + (H - 1 - y)) / H = x := by rw [Nat.add_comm, Nat.add_mul_div_right _ _ hH, Nat.div_eq_of_lt (by omega), Nat.zero_add]
  apply List.ext_getElem?
  intro p
  rw [List.getElem?_set]
  by_cases hp : x * H + (H - 1 - y) = p
  · subst hp
    rw [if_pos rfl, if_pos (by rw [visL_length]; exact hlt)]
    unfold visL
    simp only [List.getElem?_map, List.getElem?_range hlt, Option.map_some]
    rw [hm, hd, if_pos (by omega)]
  · rw [if_neg hp]
    unfold visL
    simp only [List.getElem?_map]
    rcases Nat.lt_or_ge p (W * H) with h | h
    · rw [List.getElem?_range h]
      simp only [Option.map_some]
      congr 1
      have h1 := Nat.div_add_mod p H
      have h2 := Nat.mod_lt p hH
      have hne : ¬ (H - 1 - p % H = y ∧ p / H = x) := fun ⟨e1, e2⟩ => hp (by rw [← h1, e2, Nat.mul_comm H x]; omega)
      by_cases hc : H - 1 - p % H < y ∨ (H - 1 - p % H = y ∧ p / H < x)
      · rw [if_pos hc, if_pos (by omega)]
      · rw [if_neg hc, if_neg (by omega)]
    · rw [List.getElem?_eq_none (by simpa using h)]
      simp
theorem quaG_at2 {f : Fld} {x y Hn : Nat} (hH : f.H = (Hn : Int)) (hy : y < Hn) : quaG f (x * Hn + (Hn - 1 - y)) = (f.dir (x : Int) (y : Int) + 2) % 8 := by
  rw [quaG_at hH (by omega)]
  congr 3
  omega
theorem take_map_succ {h : Edg → Edg} {k : Nat} {l : List Edg} {e : Edg} (he : l[k]? = some e) : (l.take k).map h ++ [h e] = (l.take (k + 1)).map h := by
  obtain ⟨hk, rfl⟩ := List.getElem?_eq_some_iff.1 he
  rw [List.take_succ_eq_append_getElem hk, List.map_append]; rfl

/-- A field with zeros and its box, made just now in either order. -/
theorem GF.made2 (w1 : World) (W H : Int) (n : Nat) (hn : n ≤ 1000000) :
    GF w1 w1.heap.size (w1.heap.size + 2) (((w1.alloc (.cells (madeCells #[.int .i64 0] n) 3)).alloc (.cells #[.int .i64 W, .int .i64 H, .slice (some ⟨w1.heap.size, 0, none⟩) n n, .slice none 0 0] 25)).drew) (w1.heap.size + 1) ⟨⟨W, H, List.replicate n 0, []⟩, some ⟨w1.heap.size, 0, none⟩, none, n, n, 0, 0⟩ := by
  refine ⟨(Box.new2 w1 (madeCells #[.int .i64 0] n) _ 3 25).drew, ?_, ?_, World.ownsRow_nil _ _ _ _, ?_, ?_, ?_, below_drewN' (belowAA w1 _ _) 1, Nat.le_succ _, Nat.le_refl _, Nat.le_add_right _ _⟩
  · intro i
    have := fz_new (w1.alloc (.cells (madeCells #[.int .i64 0] n) 3)) #[.int .i64 W, .int .i64 H, .slice (some ⟨w1.heap.size, 0, none⟩) n n, .slice none 0 0] 25 i
    rw [World.size_alloc] at this
    exact this
  · exact (row_on (row_zero w1 n hn (Nat.le_refl _)) (belowA _ _)).drew
  · intro p q _ h; cases h
  · intro p h; injection h with h; subst h; show w1.heap.size ≠ w1.heap.size + 1; omega
  · intro p h; cases h
theorem GF.made1 (w1 : World) (W H : Int) (n : Nat) (hn : n ≤ 1000000) :
    GF w1 w1.heap.size (w1.heap.size + 2) (((w1.alloc (.cells #[.int .i64 W, .int .i64 H, .slice (some ⟨w1.heap.size + 1, 0, none⟩) n n, .slice none 0 0] 25)).alloc (.cells (madeCells #[.int .i64 0] n) 3)).drew) w1.heap.size ⟨⟨W, H, List.replicate n 0, []⟩, some ⟨w1.heap.size + 1, 0, none⟩, none, n, n, 0, 0⟩ := by
  refine ⟨((Box.new w1 _ 25).alloc _).drew, ?_, ?_, World.ownsRow_nil _ _ _ _, ?_, ?_, ?_, below_drewN' (belowAA w1 _ _) 1, Nat.le_refl _, Nat.le_refl _, Nat.le_add_right _ _⟩
  · intro i
    have := fz_below (Box.new w1 #[.int .i64 W, .int .i64 H, .slice (some ⟨w1.heap.size + 1, 0, none⟩) n n, .slice none 0 0] 25).1 (fz_new w1 #[.int .i64 W, .int .i64 H, .slice (some ⟨w1.heap.size + 1, 0, none⟩) n n, .slice none 0 0] 25) (belowA _ (.cells (madeCells #[.int .i64 0] n) 3)) i
    exact this
  · have h := row_zero (w1.alloc (.cells #[.int .i64 W, .int .i64 H, .slice (some ⟨w1.heap.size + 1, 0, none⟩) n n, .slice none 0 0] 25)) n hn (base := w1.heap.size) (by simp)
    rw [World.size_alloc] at h
    exact h.drew
  · intro p q _ h; cases h
  · intro p h; injection h with h; subst h; show w1.heap.size + 1 ≠ w1.heap.size; omega
  · intro p h; cases h
end Go.Proofs.Ytahmdnboeenfkaa
