/- Merged texts: Ca Sl Wa Sh Sk -/
import Derived.WalkKit
import Derived.WalkSpells
import Derived.Below
import Derived.Laws.OwnMore
import Derived.Deep.AppendLies
import Derived.Deep.Draws
import Derived.Deep.OwnRows
import Derived.Laws.Rows
import Derived.Laws.AppendOwn
import Derived.Maps.AppendAt
import Derived.RegionTactic
import Derived.OwnWalk
import Derived.Lib.Hide
import Derived.Lib.QuietBelow
import Derived.Deep.QuietTactic
import Derived.BigQuiet
import Derived.ChangeSame
import Derived.Laws.MakeOwn
import Derived.Laws.Entries
import Derived.Deep.Light
import Derived.Deep.RegionHeld3
import Derived.StillTailTactics
import Derived.Deep.DeepFit
import Derived.Deep.DeepCutAuto
import Derived.Deep.RegionLaw
import Derived.ArgAppend
import Derived.WalkMore
import Derived.Test.YtnlhllleipemlaaGreatDoorProg
import Derived.Shelf.Strings.Builder1
import Derived.Shelf.Small.Bits
import Derived.Shelf.Small.Wraps
import Derived.Shelf.Strings.BuilderF
import Derived.Shelf.Strings.BuilderK
import Derived.Shelf.Utf8.RuneCount
import Derived.Shelf.Strconv.Atoi
import Derived.Shelf.Strconv.Itoa0
import Derived.Shelf.Strconv.Itoa1
import Derived.Shelf.LaysM
import Derived.Shelf.Strconv.Itoa2
import Derived.Shelf.Strconv.Itoa3
import Derived.Shelf.Strconv.AtoiErrFast
import Derived.Shelf.Strconv.ParseIntEmpty
import Derived.Shelf.Strconv.AtoiFail
import Derived.Shelf.Strconv.Clone
import Derived.Shelf.Strconv.SyntaxError
import Derived.Shelf.LaysC
import Derived.Shelf.Strconv.ToError
import Derived.Shelf.Strconv.Lower
import Derived.Shelf.Strconv.ParseUint10
import Derived.Shelf.Strconv.ParseUint10Empty
import Derived.Shelf.Strconv.ParseUint10Any
import Derived.Shelf.Strconv.ParseInt10
import Derived.Shelf.Strconv.AtoiLong
import Derived.Shelf.Strconv.AtoiInnerAll
import Derived.Shelf.Strconv.RangeError
import Derived.Shelf.Strconv.ToErrorRange
import Derived.Shelf.Strconv.AtoiAll
import Derived.Shelf.Strconv.ErrVarAll
import Derived.Shelf.Strings.Search1
import Derived.Shelf.Strings.Search2
import Derived.Shelf.Strings.Search3
import Derived.Shelf.Strings.Cut
import Derived.Shelf.Strings.Count
import Derived.Shelf.Strings.Shaped
import Derived.Shelf.Strings.Split
import Derived.Shelf.Strings.SplitShaped
import Derived.Shelf.Unicode.Decode
import Derived.Shelf.Strings.RuneCount
import Derived.Shelf.Strings.Explode
import Derived.Shelf.Unicode.DecodeSlow
import Derived.Shelf.Unicode.DecodeAny
import Derived.Shelf.Strings.BuilderCap
import Derived.Ground.Names2Prog
import Derived.Shelf.Slices.SearchI
import Derived.Ground.SlsfProg
import Derived.Shelf.SlSortCmp.Insertion
import Derived.Shelf.SlSortCmp.SiftDown1
import Derived.Shelf.SlSortCmp.HeapSort1
import Derived.Shelf.SlSortCmp.Insertion1
import Derived.Shelf.SlSortCmp.Median1
import Derived.Shelf.SlSortCmp.Pivot1
import Derived.Shelf.SlSortCmp.ReverseRange1
import Derived.Shelf.SlSortCmp.PartialInsertion1
import Derived.Shelf.SlSortCmp.PartitionEqual1
import Derived.Shelf.SlSortCmp.Partition1
import Derived.Shelf.SlSortCmp.Pdq1
import Derived.Shelf.SlSortCmp.Whole1
import Derived.Shelf.SlSortCmp.NoneTotal
import Derived.Lib.OthersKept
namespace Go.Proofs.YtnlhllleipemlaaGreatDoor
open Go.RowKit

theorem add_of_add (p : Addr) (i j : Nat) : (p.add i).add j = p.add (i + j) := by
  rcases Nat.eq_zero_or_pos j with rfl | hj
  · rfl
  rcases Nat.eq_zero_or_pos i with rfl | hi
  · rw [Nat.zero_add]; rfl
  have h1 : i ≠ 0 := by omega
  have h2 : j ≠ 0 := by omega
  have h3 : i + j ≠ 0 := by omega
  simp only [Addr.add, h1, h2, h3, if_false, Nat.add_assoc]
theorem blockAdd (p : Addr) (i : Nat) : (p.add i).block = p.block := by
  simp only [Addr.add]
  split <;> rfl

/-- The slice value '.slice A n c' holds n elements of so many cells each; the cells are xs; they lie below block B. -/
structure Reads (w : World) (B size : Nat) (A : Option Addr) (n : Nat) (xs : List Value) : Prop where
  len : xs.length = n * size
  look : 0 < n → ∃ p, A = some p ∧ p.block < B ∧ ∀ j u, xs[j]? = some u → w.cell? (p.add j) = some u

namespace Reads
variable {w w' : World} {B B' size n : Nat} {A : Option Addr} {xs : List Value}
theorem nil : Reads w B size A 0 [] := ⟨by simp, fun h => by omega⟩
/-- As long as the blocks below B are as they were. -/
theorem kept (h : Reads w B size A n xs) (hk : ∀ p : Addr, p.block < B → w'.cell? p = w.cell? p) : Reads w' B size A n xs := by
  refine ⟨h.len, fun h0 => ?_⟩
  obtain ⟨p, hp, hB, hc⟩ := h.look h0
  refine ⟨p, hp, hB, fun j u hj => ?_⟩
  rw [hk _ (by rw [blockAdd]; exact hB)]
  exact hc j u hj
theorem more (h : Reads w B size A n xs) (hB : B ≤ B') : Reads w B' size A n xs := by
  refine ⟨h.len, fun h0 => ?_⟩
  obtain ⟨p, hp, hlt, hc⟩ := h.look h0
  exact ⟨p, hp, Nat.lt_of_lt_of_le hlt hB, hc⟩
theorem below (h : Reads w B size A n xs) (hb : Below B w w') : Reads w' B size A n xs := kept h fun _ hp => hb.cell hp
/-- In a world that has only grown. -/
theorem on (h : Reads w w.heap.size size A n xs) (hb : Below w.heap.size w w') : Reads w' w'.heap.size size A n xs := (h.below hb).more hb.size
theorem drew (h : Reads w B size A n xs) : Reads w.drew B size A n xs := h.kept fun _ _ => rfl
theorem drewN (h : Reads w B size A n xs) (k : Nat) : Reads (w.drewN k) B size A n xs := h.kept fun _ _ => rfl
/-- What the call's own row holds, as a reading. -/
theorem of_own {base : Nat} {e : TypeId} {c : Nat} (h : w.ownsRow base e size (.slice A n c) n xs) : Reads w w.heap.size size A n xs := by
  refine ⟨h.1, fun h0 => ?_⟩
  obtain ⟨g, cap, hv, _, hlt⟩ := h.form h0
  obtain ⟨rfl, _, _⟩ : A = some ⟨g, 0, none⟩ ∧ n = n ∧ c = cap := by injection hv with e1 e2 e3; exact ⟨e1, rfl, e3⟩
  exact ⟨⟨g, 0, none⟩, rfl, hlt, h.cells rfl⟩
/-- A part of a slice, from element k on (the model keeps the old address at the capacity's end). -/
theorem cut (h : Reads w B size A n xs) {k cap : Nat} (hk : k ≤ n) (hc : n ≤ cap) :
    Reads w B size (if cap = k then A else A.map (·.add (k * size))) (n - k) (xs.drop (k * size)) := by
  constructor
  · simp [h.len, Nat.sub_mul]
  · intro h0
    obtain ⟨p, rfl, hB, hcell⟩ := h.look (by omega)
    have hne : ¬ cap = k := by omega
    simp only [hne, if_false, Option.map_some]
    refine ⟨_, rfl, by rw [blockAdd]; exact hB, fun j u hj => ?_⟩
    rw [List.getElem?_drop] at hj
    rw [add_of_add]
    exact hcell _ _ hj
/-- The first k elements. -/
theorem take (h : Reads w B size A n xs) {k : Nat} (hk : k ≤ n) : Reads w B size A k (xs.take (k * size)) := by
  constructor
  · rw [List.length_take, h.len]; exact Nat.min_eq_left (Nat.mul_le_mul_right _ hk)
  · intro h0
    obtain ⟨p, hp, hB, hcell⟩ := h.look (by omega)
    refine ⟨p, hp, hB, fun j u hj => hcell j u ?_⟩
    rw [List.getElem?_take] at hj
    split at hj
    · exact hj
    · cases hj
end Reads
open Go.Sort
def ints (zs : List Int) : List Value := zs.map (Value.int .i64)
theorem ints_length (zs : List Int) : (ints zs).length = zs.length := by simp [ints]
theorem ints_get {zs : List Int} {k : Nat} (h : k < zs.length) : (ints zs)[k]? = some (.int .i64 (zs.getD k 0)) := by
  simp [ints, List.getD_eq_getElem?_getD, List.getElem?_eq_getElem h]
theorem ints_append (a b : List Int) : ints (a ++ b) = ints a ++ ints b := by simp [ints]
theorem ints_one (zs : List Int) : ∀ u ∈ ints zs, u.oneCell' = true := ints_oneCell _ _
theorem add_pos (a : Addr) (n : Nat) (h : 0 < n) : a.add n = ⟨a.block, a.off + n, none⟩ := by
  unfold Addr.add
  rw [if_neg (by omega)]
theorem dsat {w : World} {B : Nat} {A : Option Addr} {n : Nat} {ds : List Int} (h : Reads w B 1 A n (ints ds)) {k : Nat} (hk : k < ds.length) :
    ∃ ad z, A = some ad ∧ ad.block < B ∧ ds[k]? = some z ∧ w.cell? (ad.add k) = some (.int .i64 z) := by
  have hl := h.1
  rw [ints_length] at hl
  obtain ⟨ad, e, hb, hc⟩ := h.2 (by omega)
  refine ⟨ad, ds[k], e, hb, List.getElem?_eq_getElem hk, hc k _ ?_⟩
  rw [ints_get hk]
  simp [List.getD_eq_getElem?_getD, List.getElem?_eq_getElem hk]
/-- The walk at hand, from a world of which only F is known. -/
theorem wp_gen {P : Program} {c : Code} {Q : Exit → Act → World → Prop} {a : Act} {w : World} (F : World → Prop) (hF : F w) (h : ∀ w1, F w1 → c.wp P Q a w1) : c.wp P Q a w := h w hF

theorem add_off (ad : Addr) (i j : Nat) : (ad.add i).add j = ad.add (i + j) := add_of_add ad i j

/-- A block's cells in every world that has grown from this one. -/
theorem rg_cells {w : World} {b : Nat} {cs : Array Value} (h : ∀ i, w.cell? ⟨b, i, none⟩ = cs[i]?) (hb : b < w.heap.size) (d : Nat) (os : Array Obj) (i : Nat) : (grow (redrawn w d) os).cell? ⟨b, i, none⟩ = cs[i]? :=
  ((below_regrown w d os).cell hb).trans (h i)
theorem rg_cell {w : World} {a : Addr} {v : Value} (h : w.cell? a = some v) (d : Nat) (os : Array Obj) : (grow (redrawn w d) os).cell? a = some v := cell_regrown h d os
/-- The region's law: behind it the world has only grown. -/
theorem wp_region_qb {P : Program} {id : Nat} {Q : Exit → Act → World → Prop} {a : Act} {w : World} {l : List Oper} (hm : P.follows .mixedOrders = true) (hB : Region.lexB .any l.toArray = true)
    (h : wpQuiet P l.toArray (fun w' => ∃ p : Regrown, w' = grow (redrawn w p.d) p.os) (fun a' => ∀ w', Below w.heap.size w w' → Q .normal a' w') l a) : (Code.region id l.toArray true).wp P Q a w := by
  refine wp_region_quiet_below hm hB ?_
  have hmono : ∀ (l' : List Oper) (a' : Act), wpQuiet P l.toArray (fun w' => ∃ p : Regrown, w' = grow (redrawn w p.d) p.os) (fun a' => ∀ w', Below w.heap.size w w' → Q .normal a' w') l' a' →
      wpQuiet P l.toArray (fun w' => ∃ p : Regrown, w' = grow (redrawn w p.d) p.os) (fun a' => ∀ w', (∃ p : Regrown, w' = grow (redrawn w p.d) p.os) → Q .normal a' w') l' a' := by
    intro l'
    induction l' with
    | nil =>
      intro a' h w' ⟨p, hp⟩
      exact h w' (hp ▸ below_regrown w p.d p.os)
    | cons o l' ih =>
      intro a' h
      unfold wpQuiet at h ⊢
      split
      · rename_i hw
        rw [if_pos hw] at h
        exact Oper.quiet_mono (fun a hh => ih a hh) h
      · rename_i hw
        rw [if_neg hw] at h
        exact ih _ h
  exact hmono l a h
/-- A callee that leaves a grown world, met in a grown world. -/
theorem rg_call {P : Program} {f : FuncId} {args : Array Value} {w : World} {v : Value}
    (h : ∀ w1, Below w.heap.size w w1 → Calls P f args w1 fun e w' => e = .returned v ∧ Below w1.heap.size w1 w') (d : Nat) (os : Array Obj) :
    Calls P f args (grow (redrawn w d) os) fun e w'' => e = .returned v ∧ ∃ p : Regrown, w'' = grow (redrawn w p.d) p.os :=
  Calls.regrown_of (h _ (below_regrown w d os))
theorem below_trans' {a b c : World} (h : Below a.heap.size a b) (k : Below b.heap.size b c) : Below a.heap.size a c := h.trans (k.mono h.size)
theorem below_alloc (w : World) (o : Obj) : Below w.heap.size w (w.alloc o) := (Below.refl _ _).alloc (Nat.le_refl _) o
theorem below_drewN' {B : Nat} {a w : World} (h : Below B a w) (n : Nat) : Below B a (w.drewN n) := ⟨h.os, h.tape, h.output, h.size, h.block⟩
theorem ret_bool {a b : Bool} (h : a = b) : Ending.returned (.bool a) = .returned (.bool b) := by rw [h]
theorem ret_int {k : IntKind} {a b : Int} (h : a = b) : Ending.returned (.int k a) = .returned (.int k b) := by rw [h]
theorem bcell {W w1 : World} (hb : Below W.heap.size W w1) : (∀ b o, b < W.heap.size → w1.cell? ⟨b, o, none⟩ = W.cell? ⟨b, o, none⟩) ∧ (∀ b o, b < W.heap.size → w1.frozen? ⟨b, o, none⟩ = W.frozen? ⟨b, o, none⟩) :=
  ⟨fun b o h => hb.cell (p := ⟨b, o, none⟩) h, fun b o h => hb.frozen (p := ⟨b, o, none⟩) h⟩

/-- Block b is there and its cells read so. -/
def Box (w : World) (b : Nat) (cs : Array Value) : Prop := b < w.heap.size ∧ ∀ i, w.cell? ⟨b, i, none⟩ = cs[i]?
section
variable {w w' : World} {b : Nat} {cs : Array Value}
theorem Box.at (h : Box w b cs) : ∀ i, w.cell? ⟨b, i, none⟩ = cs[i]? := h.2
theorem Box.new (w : World) (cs : Array Value) (t : TypeId) : Box (w.alloc (.cells cs t)) w.heap.size cs := ⟨by simp, fun i => cell_of_row _ _ i cs t (0, 0) (heap_alloc_new w _)⟩
theorem Box.below (h : Box w b cs) (hb : Below w.heap.size w w') : Box w' b cs := ⟨Nat.lt_of_lt_of_le h.1 hb.size, fun i => (hb.cell (p := ⟨b, i, none⟩) h.1).trans (h.2 i)⟩
theorem Box.alloc (h : Box w b cs) (o : Obj) : Box (w.alloc o) b cs := h.below (below_alloc w o)
theorem Box.drewN (h : Box w b cs) (n : Nat) : Box (w.drewN n) b cs := h
theorem Box.drew (h : Box w b cs) : Box w.drew b cs := h
theorem Box.rg (h : Box w b cs) : ∀ (d : Nat) (os : Array Obj) (i : Nat), (grow (redrawn w d) os).cell? ⟨b, i, none⟩ = cs[i]? := fun d os i => rg_cells h.2 h.1 d os i
end
theorem Box.new2 (w : World) (cs ds : Array Value) (t u : TypeId) : Box ((w.alloc (.cells cs t)).alloc (.cells ds u)) (w.heap.size + 1) ds := by
  have := Box.new (w.alloc (.cells cs t)) ds u
  simpa using this
theorem reads_new (w : World) (xs : List Value) (t : TypeId) (size n : Nat) (h : xs.length = n * size) : Reads (w.alloc (.cells xs.toArray t)) (w.alloc (.cells xs.toArray t)).heap.size size (some ⟨w.heap.size, 0, none⟩) n xs := by
  refine ⟨h, fun _ => ⟨_, rfl, by simp, fun j u hu => ?_⟩⟩
  have e : (⟨w.heap.size, 0, none⟩ : Addr).add j = ⟨w.heap.size, j, none⟩ := by
    unfold Addr.add
    split
    · rename_i h0; rw [h0]
    · simp
  rw [e, (Box.new w xs.toArray t).at]
  simpa using hu
theorem below1 {w w' : World} (o : Obj) (h : Below (w.alloc o).heap.size (w.alloc o) w') : Below w.heap.size w w' := below_trans' (below_alloc w o) h
theorem below2 {w w' : World} (o u : Obj) (h : Below ((w.alloc o).alloc u).heap.size ((w.alloc o).alloc u) w') : Below w.heap.size w w' := below1 o (below1 u h)
theorem belowA (w : World) (o : Obj) : Below w.heap.size w (w.alloc o) := below_alloc w o
theorem belowAA (w : World) (o u : Obj) : Below w.heap.size w ((w.alloc o).alloc u) := below2 o u (Below.refl _ _)
theorem mixed : Tryz.prog.follows .mixedOrders = true := by kernel_rfl
theorem fz_new (w : World) (cs : Array Value) (t : TypeId) : ∀ i, (w.alloc (.cells cs t)).frozen? ⟨w.heap.size, i, none⟩ = false := fun i => by
  have h := heap_alloc_new w (.cells cs t)
  unfold World.frozen?
  rw [h]
  simp
theorem fz_drew {w : World} {b : Nat} (h : ∀ i, w.frozen? ⟨b, i, none⟩ = false) : ∀ i, w.drew.frozen? ⟨b, i, none⟩ = false := h
theorem fz_below {w w' : World} {b : Nat} (hb : b < w.heap.size) (h : ∀ i, w.frozen? ⟨b, i, none⟩ = false) (hw : Below w.heap.size w w') : ∀ i, w'.frozen? ⟨b, i, none⟩ = false := fun i => by
  rw [hw.frozen (p := ⟨b, i, none⟩) hb]; exact h i
theorem undrew {w w' : World} (h : Below w.drew.heap.size w.drew w') : Below w.heap.size w w' := ⟨h.os, h.tape, h.output, h.size, h.block⟩
theorem Box.far {w : World} {b : Nat} {cs : Array Value} (h : Box w b cs) {p : Addr} (hne : b ≠ p.block) (u : Value) : Box (w.setCell p u) b cs :=
  ⟨by have := h.1; simpa [World.setCell] using this, fun i => (World.cell?_setCell_other w p ⟨b, i, none⟩ u (fun e => hne (by rw [e]))).trans (h.2 i)⟩
theorem Reads.far {w : World} {B size n : Nat} {A : Option Addr} {xs : List Value} (h : Reads w B size A n xs) {q : Addr} (hne : ∀ p, A = some p → p.block ≠ q.block) (u : Value) : Reads (w.setCell q u) B size A n xs := by
  refine ⟨h.len, fun h0 => ?_⟩
  obtain ⟨p, hp, hB, hc⟩ := h.look h0
  refine ⟨p, hp, hB, fun j v hj => ?_⟩
  rw [World.cell?_setCell_other _ _ _ _ (fun e => hne p hp (by rw [← blockAdd p j, ← e]))]
  exact hc j v hj
theorem Box.set {w : World} {b : Nat} {cs : Array Value} (h : Box w b cs) {i : Nat} (hi : i < cs.size) (u : Value) : Box (w.setCell ⟨b, i, none⟩ u) b (cs.setIfInBounds i u) := by
  refine ⟨by have := h.1; simpa [World.setCell] using this, fun j => ?_⟩
  by_cases hj : j = i
  · subst hj
    rw [World.cell?_setCell_same' _ _ _ (by rw [h.2 j, Array.getElem?_eq_getElem hi]; rfl)]
    simp [hi]
  · rw [World.cell?_setCell_other _ _ _ _ (fun e => hj (by injection e with _ e2 _; exact e2.symm)), h.2 j]
    simp [Ne.symm hj]
theorem size_set (w : World) (p : Addr) (u : Value) : (w.setCell p u).heap.size = w.heap.size := by simp [World.setCell]

theorem row_form {w : World} {base e size n : Nat} {v : Value} {xs : List Value} (h : w.ownsRow base e size v n xs) : ∃ A c, v = .slice A n c := by
  rcases h.2 with ⟨rfl, rfl⟩ | ⟨g, cap, cur, rfl, _⟩
  · exact ⟨_, _, rfl⟩
  · exact ⟨_, _, rfl⟩
theorem Box.grown {w w' : World} {b : Nat} {cs : Array Value} {row : Option Nat} (h : Box w b cs) (hg : w.grownBy w' row) (hne : ∀ k, row = some k → k ≠ b) : Box w' b cs := by
  refine ⟨Nat.lt_of_lt_of_le h.1 hg.size, fun i => ?_⟩
  rw [World.cell?_of_block (a := ⟨b, i, none⟩) (hg.block b h.1 (fun e => hne b e.symm rfl))]
  exact h.2 i
theorem fz_grown {w w' : World} {b : Nat} {row : Option Nat} (hb : b < w.heap.size) (h : ∀ i, w.frozen? ⟨b, i, none⟩ = false) (hg : w.grownBy w' row) (hne : ∀ k, row = some k → k ≠ b) : ∀ i, w'.frozen? ⟨b, i, none⟩ = false := fun i => by
  rw [World.frozen?_of_block (a := ⟨b, i, none⟩) (hg.block b hb (fun e => hne b e.symm rfl))]
  exact h i
theorem row_far {w : World} {bl e sz n : Nat} {u : Value} {xs : List Value} (h : w.ownsRow bl e sz u n xs) {q : Addr} (hne : ∀ k, u.ownBlock = some k → k ≠ q.block) (x : Value) : (w.setCell q x).ownsRow bl e sz u n xs := by
  refine h.kept (row := some q.block) ⟨rfl, rfl, rfl, by simp [World.setCell], fun k _ hk => heap_setCell_other w q k x (fun e => hk (by rw [e]))⟩ ?_
  cases hu : u.ownBlock with
  | none => exact .inl rfl
  | some k => exact .inr (by simpa using hne k hu)
theorem row_mono {w : World} {base base' : Nat} {e : TypeId} {sz n : Nat} {u : Value} {xs : List Value} (h : w.ownsRow base e sz u n xs) (hb : base' ≤ base) : w.ownsRow base' e sz u n xs := by
  refine ⟨h.1, ?_⟩
  rcases h.2 with h0 | ⟨g, cap, cur, h1, h2, h3⟩
  · exact .inl h0
  · exact .inr ⟨g, cap, cur, h1, Nat.le_trans hb h2, h3⟩
set_option maxRecDepth 4000 in
/-- Append of what a slice reads, onto an empty row that was made just now. -/
theorem wpList_copyR {ops : Array Oper} {rest : List Oper} {o : Oper} {a : Act} {Q : Exit → Act → World → Prop} (hgd : o.guard = none) (s x : Operand) (t e : TypeId)
    (ho : o.op = .call { callee := .builtin .append, args := #[s, x], argTypes := #[t, t] }) {z : Value} {sz bytes : Nat} (ht : Tryz.prog.underlying t = some (.slice e))
    (hinfo : (Tryz.prog.info? e).map (fun i => (i.zero, i.size, i.bytes)) = some (some z, sz, bytes)) (hzs : z.cells.size = sz) (hsz : 0 < sz) (hby : bytes ≤ 1000)
    (w0 : World) (hs : a.eval s = .slice (some ⟨w0.heap.size, 0, none⟩) 0 0)
    {ad : Addr} {m c : Nat} {news : List Value} (hx : a.eval x = .slice (some ad) m c) (hr : Reads w0 w0.heap.size sz (some ad) m news) (h1 : ∀ u ∈ news, u.oneCell' = true) (hlen : m ≤ 1000000000)
    (h : ∀ A' c' w', w'.ownsRow w0.heap.size e sz (.slice A' m c') m news → Below w0.heap.size w0 w' → wpList Tryz.prog ops Q rest (a.put o.dst (.slice A' m c')) w') :
    wpList Tryz.prog ops Q (o :: rest) a (w0.alloc (.cells #[] e)) := by
  obtain ⟨i0, hi, hz0, hz1, hz2⟩ := info_parts hinfo
  have hnews : ∀ j u, news[j]? = some u → (w0.alloc (.cells #[] e)).cell? (ad.add j) = some u := fun j u hj => by
    rcases Nat.eq_zero_or_pos m with h0 | h0
    · have := hr.len; rw [h0, Nat.zero_mul] at this
      rw [List.eq_nil_of_length_eq_zero this] at hj; cases hj
    · obtain ⟨p, hp, _, hc⟩ := (hr.on (belowA w0 (.cells #[] e))).look h0
      injection hp with hp; subst hp
      exact hc j u hj
  refine wpList_append_own (w0.alloc (.cells #[] e)) hgd s x t ho w0.heap.size e i0 _ sz bytes ht hi hz0 hz1 hz2 hzs hsz _ 0 [] hs (World.ownsRow_made w0 #[] 0 (Nat.le_refl _) (Nat.zero_le _) (by simp)) ad m c news hx hr.len hnews h1 ?_ ?_ (by simp) ?_
  · unfold maxLen; omega
  · have := Nat.mul_le_mul (show 0 + m ≤ 1000000000 by omega) hby
    omega
  · intro v' w' h1 h2 _
    have hb : Below w0.heap.size w0 w' := (belowA w0 (.cells #[] e)).grown h2 (by simp) (fun k hk => by simp [Value.ownBlock] at hk; omega)
    rw [Nat.zero_add, List.nil_append] at h1
    obtain ⟨A2, c2, rfl⟩ := row_form h1
    exact h A2 c2 w' h1 hb

def RetRow (e : TypeId) (sz n : Nat) (xs : List Value) (w : World) (r : Ending) (w' : World) : Prop :=
  ∃ B d, r = .returned (.slice B n d) ∧ w'.ownsRow w.heap.size e sz (.slice B n d) n xs ∧ Below w.heap.size w w'
section
variable {bl : Nat} {w w' : World}
theorem row_cap {e : TypeId} {sz n c : Nat} {A : Option Addr} {xs : List Value} (h : w.ownsRow bl e sz (.slice A n c) n xs) : n ≤ c ∧ c ≤ maxLen := by
  rcases h.2 with ⟨hv, h0⟩ | ⟨g, cap, cur, hv, _, _, h1, h2, _⟩
  · injection hv with _ _ e3; subst h0 e3; exact ⟨Nat.le_refl _, Nat.zero_le _⟩
  · injection hv with _ _ e3; subst e3; exact ⟨h1, h2⟩
theorem row_on {e : TypeId} {sz n : Nat} {u : Value} {xs : List Value} (h : w.ownsRow bl e sz u n xs) (hb : Below w.heap.size w w') : w'.ownsRow bl e sz u n xs := by
  refine h.kept (row := none) ⟨hb.os, hb.tape, hb.output, hb.size, fun k hk _ => hb.block k hk⟩ ?_
  cases hv : u.ownBlock with
  | none => exact .inl rfl
  | some k => exact .inr (by simp)
end
/-- Since w0 the slice value v has come to hold n elements of type e, in memory that was made since. -/
structure OwnX (e : TypeId) (sz : Nat) (w0 w : World) (v : Value) (n : Nat) (xs : List Value) : Prop where
  row : w.ownsRow w0.heap.size e sz v n xs
  bel : Below w0.heap.size w0 w
section
variable {e : TypeId} {sz n : Nat} {w0 w w' : World} {v : Value} {xs : List Value}
theorem OwnX.nil (e : TypeId) (sz : Nat) (w : World) : OwnX e sz w w (.slice none 0 0) 0 [] := ⟨World.ownsRow_nil _ _ _ _, Below.refl _ _⟩
theorem OwnX.on (h : OwnX e sz w0 w v n xs) (hb : Below w.heap.size w w') : OwnX e sz w0 w' v n xs := by
  refine ⟨?_, below_trans' h.bel hb⟩
  refine h.row.kept (row := none) ⟨hb.os, hb.tape, hb.output, hb.size, fun k hk _ => hb.block k hk⟩ ?_
  cases hv : v.ownBlock with
  | none => exact .inl rfl
  | some k => exact .inr (by simp)
theorem OwnX.form (h : OwnX e sz w0 w v n xs) : ∃ A c, v = .slice A n c ∧ Reads w w.heap.size sz A n xs := by
  rcases h.row.2 with ⟨rfl, rfl⟩ | ⟨g, cap, cur, rfl, _⟩
  · have h1 := h.row.1
    obtain rfl : xs = [] := List.eq_nil_of_length_eq_zero (by rw [h1]; simp)
    exact ⟨none, 0, rfl, Reads.nil⟩
  · exact ⟨some ⟨g, 0, none⟩, cap, rfl, Reads.of_own h.row⟩
end
theorem wpList_pushX {ops : Array Oper} {rest : List Oper} {o : Oper} {a : Act} {Q : Exit → Act → World → Prop} (hgd : o.guard = none) (s x : Operand) (t e : TypeId)
    (ho : o.op = .call { callee := .builtin .append, args := #[s, x], argTypes := #[t, t] }) {z : Value} {sz bytes : Nat} (ht : Tryz.prog.underlying t = some (.slice e))
    (hinfo : (Tryz.prog.info? e).map (fun i => (i.zero, i.size, i.bytes)) = some (some z, sz, bytes)) (hzs : z.cells.size = sz) (hsz : 0 < sz) (hby : bytes ≤ 1000)
    (w0 w : World) (out : Value) (n : Nat) (xs news : List Value) (b : Nat) (hs : a.eval s = out) (hown : OwnX e sz w0 w out n xs) (hx : a.eval x = .slice (some ⟨b, 0, none⟩) 1 1)
    (hbox : Box w b news.toArray) (hl : news.length = sz) (h1 : ∀ u ∈ news, u.oneCell' = true) (hlen : n < 1000000000)
    (h : ∀ v' w', OwnX e sz w0 w' v' (n + 1) (xs ++ news) → wpList Tryz.prog ops Q rest (a.put o.dst v') w') : wpList Tryz.prog ops Q (o :: rest) a w := by
  obtain ⟨i0, hi, hz0, hz1, hz2⟩ := info_parts hinfo
  refine wpList_append_own w hgd s x t ho w0.heap.size e i0 _ sz bytes ht hi hz0 hz1 hz2 hzs hsz out n xs hs hown.row
    ⟨b, 0, none⟩ 1 1 news hx (by rw [hl]; omega) ?_ h1 ?_ ?_ hown.bel.size ?_
  · intro j u hj
    have e1 : (⟨b, 0, none⟩ : Addr).add j = ⟨b, j, none⟩ := by
      unfold Addr.add
      split
      · rename_i h0; rw [h0]
      · simp
    rw [e1, hbox.at]
    simpa using hj
  · unfold maxLen; omega
  · have := Nat.mul_le_mul (show n + 1 ≤ 1000000000 by omega) hby
    omega
  · intro v' w' h1 h2 _
    exact h v' w' ⟨h1, hown.bel.grown h2 hown.bel.size fun k hk => (hown.row.lt k hk).1⟩

set_option maxRecDepth 4000 in
theorem run_pushX (bl : Nat) (w : World) (ty t e : TypeId) {z : Value} {sz bytes : Nat} (ht : Tryz.prog.underlying t = some (.slice e))
    (hinfo : (Tryz.prog.info? e).map (fun i => (i.zero, i.size, i.bytes)) = some (some z, sz, bytes)) (hzs : z.cells.size = sz) (hsz : 0 < sz) (hby : bytes ≤ 1000)
    (A : Option Addr) (n c : Nat) (xs : List Value) (ad : Addr) (m cc : Nat) (news : List Value) (hown : w.ownsRow bl e sz (.slice A n c) n xs) (hbl : bl ≤ w.heap.size)
    (hl : news.length = m * sz) (hcell : ∀ j u, news[j]? = some u → w.cell? (ad.add j) = some u) (h1 : ∀ u ∈ news, u.oneCell' = true) (hlen : n + m ≤ 1000000000) :
    ∃ A' c' w', (Builtin.append_ #[t, t] ty #[.slice A n c, .slice (some ad) m cc]).run Tryz.prog w = .ok (.slice A' (n + m) c') w' ∧ w'.ownsRow bl e sz (.slice A' (n + m) c') (n + m) (xs ++ news) ∧
      w.grownBy w' (Value.slice A n c).ownBlock ∧ (A' = A ∨ ∀ p, A' = some p → w.heap.size ≤ p.block) := by
  obtain ⟨i0, hi, hz0, hz1, hz2⟩ := info_parts hinfo
  have h63 : n + m ≤ maxLen := by unfold maxLen; omega
  have hbytes : (n + m) * bytes ≤ 140737488355328 := by
    have := Nat.mul_le_mul hlen hby
    omega
  by_cases hroom : n + m ≤ c
  · cases A with
    | none =>
      obtain ⟨v', w', hrun, r1, r2, r3⟩ := run_append_own (P := Tryz.prog) w bl t ty e i0 _ sz bytes ht hi hz0 hz1 hz2 hzs hsz (.slice none n c) n xs hown ad m cc news hl hcell h1 h63 hbytes hbl
      obtain ⟨A', c', rfl⟩ := row_form r1
      have hn0 : n = 0 ∧ c = 0 := by
        rcases hown.2 with ⟨hv, h0⟩ | ⟨g', cap', cur, hv, _⟩
        · injection hv with _ e2 e3; exact ⟨e2, e3⟩
        · cases hv
      obtain ⟨rfl, rfl⟩ := hn0
      obtain rfl : m = 0 := by omega
      have : (Value.slice A' (0 + 0) c') = .slice none 0 0 := r3.2 ⟨rfl, rfl⟩
      injection this with e1 _ _
      exact ⟨A', c', w', hrun, r1, r2, .inl e1⟩
    | some p =>
      obtain ⟨g, rfl⟩ : ∃ g, p = ⟨g, 0, none⟩ := by
        rcases hown.2 with ⟨hv, h0⟩ | ⟨g', cap', cur, hv, _⟩
        · cases hv
        · injection hv with e1 _ _; injection e1 with e1; exact ⟨g', e1⟩
      obtain ⟨w', hr, h2, h3⟩ := run_append_fits (P := Tryz.prog) w bl t ty e i0 sz ht hi hz1 g n c xs hown ad m cc news hl hcell h1 hroom
      exact ⟨_, _, w', hr, h2, h3, .inl rfl⟩
  · cases A with
    | none =>
      have hn0 : n = 0 ∧ c = 0 := by
        rcases hown.2 with ⟨hv, h0⟩ | ⟨g', cap', cur, hv, _⟩
        · injection hv with _ e2 e3; exact ⟨e2, e3⟩
        · cases hv
      obtain ⟨rfl, rfl⟩ := hn0
      obtain ⟨v', w', hrun, r1, r2, _⟩ := run_append_own (P := Tryz.prog) w w.heap.size t ty e i0 _ sz bytes ht hi hz0 hz1 hz2 hzs hsz (.slice none 0 0) 0 [] (World.ownsRow_nil w _ e sz) ad m cc news hl hcell h1 h63 hbytes (Nat.le_refl _)
      obtain ⟨A', c', rfl⟩ := row_form r1
      have r3 : w'.ownsRow bl e sz (.slice A' (0 + m) c') (0 + m) (xs ++ news) := by
        have := row_mono r1 hbl
        rw [show xs = [] from List.eq_nil_of_length_eq_zero (by simpa using hown.1)]
        exact this
      exact ⟨A', c', w', hrun, r3, ⟨r2.os, r2.tape, r2.output, r2.size, r2.block⟩, .inr fun p hp => (r1.lt p.block (by rw [hp]; rfl)).1⟩
    | some p =>
      have holds : ∀ j u, xs[j]? = some u → w.cell? (p.add j) = some u := by
        intro j u hj
        have hr := Reads.of_own hown
        have hjl := (List.getElem?_eq_some_iff.1 hj).1
        have hn0 : 0 < n := by
          rcases Nat.eq_zero_or_pos n with h0 | h0
          · have := hown.1; rw [h0] at this; omega
          · exact h0
        obtain ⟨q, hq, _, hc⟩ := hr.look hn0
        injection hq with hq; subst hq
        exact hc j u hj
      obtain ⟨v', w', hrun, r1, r2⟩ := run_append_arg_grows (P := Tryz.prog) w t ty e i0 _ sz bytes ht hi hz0 hz1 hz2 hzs hsz p n c xs hown.1 holds ad m cc news hl hcell (by omega) h63 hbytes
      obtain ⟨A', c', rfl⟩ := row_form r1
      exact ⟨A', c', w', hrun, row_mono r1 hbl, ⟨r2.os, r2.tape, r2.output, r2.size, fun k hk _ => r2.block k hk (by simp)⟩, .inr fun p hp => (r1.lt p.block (by rw [hp]; rfl)).1⟩
set_option maxRecDepth 4000 in
/-- The same, whatever the second slice's address. -/
theorem run_pushXn (bl : Nat) (w : World) (ty t e : TypeId) {z : Value} {sz bytes : Nat} (ht : Tryz.prog.underlying t = some (.slice e))
    (hinfo : (Tryz.prog.info? e).map (fun i => (i.zero, i.size, i.bytes)) = some (some z, sz, bytes)) (hzs : z.cells.size = sz) (hsz : 0 < sz) (hby : bytes ≤ 1000)
    (A : Option Addr) (n c : Nat) (xs : List Value) (X : Option Addr) (m cc : Nat) (news : List Value) (hown : w.ownsRow bl e sz (.slice A n c) n xs) (hbl : bl ≤ w.heap.size)
    (hr : Reads w w.heap.size sz X m news) (hX : X = none → m = 0 ∧ cc = 0) (h1 : ∀ u ∈ news, u.oneCell' = true) (hlen : n + m ≤ 1000000000) :
    ∃ A' c' w', (Builtin.append_ #[t, t] ty #[.slice A n c, .slice X m cc]).run Tryz.prog w = .ok (.slice A' (n + m) c') w' ∧ w'.ownsRow bl e sz (.slice A' (n + m) c') (n + m) (xs ++ news) ∧
      w.grownBy w' (Value.slice A n c).ownBlock ∧ (A' = A ∨ ∀ p, A' = some p → w.heap.size ≤ p.block) := by
  cases X with
  | some ad =>
    refine run_pushX bl w ty t e ht hinfo hzs hsz hby A n c xs ad m cc news hown hbl hr.len ?_ h1 hlen
    intro j u hj
    rcases Nat.eq_zero_or_pos m with h0 | h0
    · have := hr.len; rw [h0, Nat.zero_mul] at this
      rw [List.eq_nil_of_length_eq_zero this] at hj; cases hj
    · obtain ⟨q, hq, _, hc⟩ := hr.look h0
      injection hq with hq; subst hq
      exact hc j u hj
  | none =>
    obtain ⟨rfl, rfl⟩ := hX rfl
    obtain ⟨i0, hi, hz0, hz1, hz2⟩ := info_parts hinfo
    obtain rfl : news = [] := List.eq_nil_of_length_eq_zero (by simpa using hr.len)
    have hrun := run_append_owned_none (P := Tryz.prog) w bl t ty e i0 sz ht hi (.slice A n c) n xs hown
    exact ⟨A, c, w, hrun, by simpa using hown, World.grownBy.refl _ _, .inl rfl⟩
set_option maxRecDepth 4000 in
theorem step_pushX {ops : Array Oper} {o : Oper} {a : Act} {K : Act → World → Prop} {Q : Exit → Act → World → Prop} {E : Prop} (hgd : o.guard = none) (s x : Operand) (t e : TypeId)
    (ho : o.op = .call { callee := .builtin .append, args := #[s, x], argTypes := #[t, t] }) {z : Value} {sz bytes : Nat} (ht : Tryz.prog.underlying t = some (.slice e))
    (hinfo : (Tryz.prog.info? e).map (fun i => (i.zero, i.size, i.bytes)) = some (some z, sz, bytes)) (hzs : z.cells.size = sz) (hsz : 0 < sz) (hby : bytes ≤ 1000)
    (bl : Nat) (w : World) (A : Option Addr) (n c : Nat) (xs : List Value) (X : Option Addr) (m cc : Nat) (news : List Value) (hs : a.eval s = .slice A n c) (hown : w.ownsRow bl e sz (.slice A n c) n xs) (hbl : bl ≤ w.heap.size)
    (hx : a.eval x = .slice X m cc) (hr : Reads w w.heap.size sz X m news) (hX : X = none → m = 0 ∧ cc = 0) (h1 : ∀ u ∈ news, u.oneCell' = true) (hlen : n + m ≤ 1000000000)
    (h : ∀ A' c' w', w'.ownsRow bl e sz (.slice A' (n + m) c') (n + m) (xs ++ news) → w.grownBy w' (Value.slice A n c).ownBlock → (A' = A ∨ ∀ p, A' = some p → w.heap.size ≤ p.block) → K (a.put o.dst (.slice A' (n + m) c')) w') :
    if Region.wanted o (yielded ops a.tmps) = true then Oper.wp Tryz.prog o a w K Q else E := by
  have hw : Region.wanted o (yielded ops a.tmps) = true := by simp [Region.wanted, hgd]
  rw [if_pos hw]
  obtain ⟨A', c', w', hrun, h2, h3, h4⟩ := run_pushXn bl w o.type t e ht hinfo hzs hsz hby A n c xs X m cc news hown hbl hr hX h1 hlen
  unfold Oper.wp execOp
  simp only [ho, resolve, invoke, builtin, Sem.run_bind, Sem.run_pure, Result.andThen_ok, List.map_toArray, List.map_cons, List.map_nil, hs, hx, hrun]
  exact h A' c' w' h2 h3 h4
set_option maxRecDepth 4000 in
theorem wpList_pushXn {ops : Array Oper} {rest : List Oper} {o : Oper} {a : Act} {Q : Exit → Act → World → Prop} (hgd : o.guard = none) (s x : Operand) (t e : TypeId)
    (ho : o.op = .call { callee := .builtin .append, args := #[s, x], argTypes := #[t, t] }) {z : Value} {sz bytes : Nat} (ht : Tryz.prog.underlying t = some (.slice e))
    (hinfo : (Tryz.prog.info? e).map (fun i => (i.zero, i.size, i.bytes)) = some (some z, sz, bytes)) (hzs : z.cells.size = sz) (hsz : 0 < sz) (hby : bytes ≤ 1000)
    (bl : Nat) (w : World) (A : Option Addr) (n c : Nat) (xs : List Value) (X : Option Addr) (m cc : Nat) (news : List Value) (hs : a.eval s = .slice A n c) (hown : w.ownsRow bl e sz (.slice A n c) n xs) (hbl : bl ≤ w.heap.size)
    (hx : a.eval x = .slice X m cc) (hr : Reads w w.heap.size sz X m news) (hX : X = none → m = 0 ∧ cc = 0) (h1 : ∀ u ∈ news, u.oneCell' = true) (hlen : n + m ≤ 1000000000)
    (h : ∀ A' c' w', w'.ownsRow bl e sz (.slice A' (n + m) c') (n + m) (xs ++ news) → w.grownBy w' (Value.slice A n c).ownBlock → (A' = A ∨ ∀ p, A' = some p → w.heap.size ≤ p.block) → wpList Tryz.prog ops Q rest (a.put o.dst (.slice A' (n + m) c')) w') :
    wpList Tryz.prog ops Q (o :: rest) a w := by
  obtain ⟨A', c', w', hrun, h2, h3, h4⟩ := run_pushXn bl w o.type t e ht hinfo hzs hsz hby A n c xs X m cc news hown hbl hr hX h1 hlen
  refine wpList_plain hgd fun K hK' => ?_
  unfold Oper.wp execOp
  simp only [ho, resolve, invoke, builtin, Sem.run_bind, Sem.run_pure, Result.andThen_ok, List.map_toArray, List.map_cons, List.map_nil, hs, hx, hrun]
  exact hK' _ _ (h A' c' w' h2 h3 h4)
theorem run_append_none (w : World) (base : Nat) (t ty e : TypeId) (i : TypeInfo) (size : Nat) (ht : Tryz.prog.underlying t = some (.slice e)) (hi : Tryz.prog.info? e = some i)
    (v : Value) (n cc : Nat) (xs : List Value) (hown : w.ownsRow base e size v n xs) :
    (Builtin.append_ #[t, t] ty #[v, .slice none 0 cc]).run Tryz.prog w = .ok v w := by
  rcases hown.2 with ⟨rfl, rfl⟩ | ⟨g, cap, cur, rfl, _, _, hnc, _⟩
  · simp [Builtin.append_, run_underlying ht, sizeOf, typeInfo, hi, Builtin.lenOf, Builtin.firstCells]
  · simp [Builtin.append_, run_underlying ht, sizeOf, typeInfo, hi, Builtin.lenOf, Builtin.firstCells, hnc, storeCells]
set_option maxRecDepth 4000 in
theorem wpList_pushXm {ops : Array Oper} {rest : List Oper} {o : Oper} {a : Act} {Q : Exit → Act → World → Prop} (hgd : o.guard = none) (s x : Operand) (t e : TypeId)
    (ho : o.op = .call { callee := .builtin .append, args := #[s, x], argTypes := #[t, t] }) {z : Value} {sz bytes : Nat} (ht : Tryz.prog.underlying t = some (.slice e))
    (hinfo : (Tryz.prog.info? e).map (fun i => (i.zero, i.size, i.bytes)) = some (some z, sz, bytes)) (hzs : z.cells.size = sz) (hsz : 0 < sz) (hby : bytes ≤ 1000)
    (bl : Nat) (w : World) (A : Option Addr) (n c : Nat) (xs : List Value) (X : Option Addr) (m cc : Nat) (news : List Value) (hs : a.eval s = .slice A n c) (hown : w.ownsRow bl e sz (.slice A n c) n xs) (hbl : bl ≤ w.heap.size)
    (hx : a.eval x = .slice X m cc) (hr : Reads w w.heap.size sz X m news) (h1 : ∀ u ∈ news, u.oneCell' = true) (hlen : n + m ≤ 1000000000)
    (h : ∀ A' c' w', w'.ownsRow bl e sz (.slice A' (n + m) c') (n + m) (xs ++ news) → w.grownBy w' (Value.slice A n c).ownBlock → (A' = A ∨ ∀ p, A' = some p → w.heap.size ≤ p.block) → wpList Tryz.prog ops Q rest (a.put o.dst (.slice A' (n + m) c')) w') :
    wpList Tryz.prog ops Q (o :: rest) a w := by
  cases X with
  | some ad => exact wpList_pushXn hgd s x t e ho ht hinfo hzs hsz hby bl w A n c xs (some ad) m cc news hs hown hbl hx hr (fun h => by cases h) h1 hlen h
  | none =>
    have hm : m = 0 := by
      rcases Nat.eq_zero_or_pos m with h0 | h0
      · exact h0
      · obtain ⟨p, hp, _⟩ := hr.look h0; cases hp
    subst hm
    obtain ⟨i0, hi, hz0, hz1, hz2⟩ := info_parts hinfo
    obtain rfl : news = [] := List.eq_nil_of_length_eq_zero (by simpa using hr.len)
    have hrun := run_append_none w bl t o.type e i0 sz ht hi (.slice A n c) n cc xs hown
    refine wpList_plain hgd fun K hK' => ?_
    unfold Oper.wp execOp
    simp only [ho, resolve, invoke, builtin, Sem.run_bind, Sem.run_pure, Result.andThen_ok, List.map_toArray, List.map_cons, List.map_nil, hs, hx, hrun]
    exact hK' _ _ (h A c w (by simpa using hown) (World.grownBy.refl _ _) (.inl rfl))
theorem take_succ_of {α : Type} {l : List α} {k : Nat} {x : α} (h : l[k]? = some x) : l.take (k + 1) = l.take k ++ [x] := by
  rw [List.take_add_one, h]; rfl
theorem gen_at {M : World → Prop} {w : World} (P : World → Prop) (h : P w) (k : ∀ W, P W → M W) : M w := k w h
end Go.Proofs.YtnlhllleipemlaaGreatDoor

namespace Go.Proofs
open Go.Shelf
def Tryz.lays169_ren : Go.Shelf.Ren := ⟨fun | 169 => 53 | n => n, fun | 70 => 96 | 9 => 9 | 0 => 0 | 72 => 99 | 37 => 97 | 127 => 144 | 3 => 3 | 5 => 5 | n => n, fun | n => n⟩
theorem Tryz.lays169 : Go.Proofs.Lays.n169 Tryz.prog Tryz.lays169_ren := {
  mixed := by kernel_rfl
  f169 := Tryz.func53.trans (congrArg some (by kernel_rfl))
  t0 := Tryz.underlying0
  a0 := Tryz.isAgg0
  z0 := Tryz.sizeOf0
  v0 := Tryz.zeroValue0
  t3 := Tryz.underlying3
  a3 := Tryz.isAgg3
  z3 := Tryz.sizeOf3
  v3 := Tryz.zeroValue3
  t9 := Tryz.underlying9
  a9 := Tryz.isAgg9
  z9 := Tryz.sizeOf9
  v9 := Tryz.zeroValue9
  t37 := Tryz.underlying97
  a37 := Tryz.isAgg97
  z37 := Tryz.sizeOf97
  v37 := Tryz.zeroValue97
  t70 := Tryz.underlying96
  a70 := Tryz.isAgg96
  z70 := Tryz.sizeOf96
  v70 := Tryz.zeroValue96
  t72 := Tryz.underlying99
  a72 := Tryz.isAgg99
  z72 := Tryz.sizeOf99
  v72 := Tryz.zeroValue99
  t127 := Tryz.underlying144
  a127 := Tryz.isAgg144
  z127 := Tryz.sizeOf144
  v127 := Tryz.zeroValue144 }
theorem Tryz.Builder_Extra_169 : Builder.Extra Tryz.prog Tryz.lays169_ren := {
  sizeBuilder := by kernel_rfl
  liesBuilder := by kernel_rfl
  t5 := Tryz.underlying5
  a5 := Tryz.isAgg5
  z5 := Tryz.sizeOf5
  v5 := Tryz.zeroValue5
  infoByte := by kernel_rfl
  cellsByte := by kernel_rfl
  sizeByte := by kernel_rfl
  neB5 := by decide }
open Go.RowKit in
/-- (*strings.Builder).String: "String returns the accumulated string.": WHATEVER THE BUILDER HOLDS. (LAID: no walk: one application.) -/
theorem Tryz.Builder_String_any (B b : Nat) (l : List UInt8) (w : World) (h : Lib.IsBuilder 99 5 B b (Lib.byteCells l) w) (hBw : B ≤ w.heap.size) :
    Calls Tryz.prog 53 #[.pointer (some ⟨b, 0, none⟩)] w fun e w' => e = .returned (.string ⟨l.toArray⟩) ∧ Below B w w' := Any.Builder_String_any Tryz.lays169 Tryz.Builder_Extra_169 B b l w h hBw
open Go.RowKit in
/-- (*strings.Builder).String: "String returns the accumulated string.": WHATEVER THE BUILDER HOLDS; THE FORM '_f': OF A BUILDER THAT MAY HAVE BEEN READ BEFORE; AND IT IS A BUILDER STILL, holding the same bytes: it can be written on. (LAID: no walk: one application.) -/
theorem Tryz.Builder_String_any_f (B b : Nat) (l : List UInt8) (w : World) (h : Lib.IsBuilderF 99 5 B b (Lib.byteCells l) w) (hBw : B ≤ w.heap.size) :
    Calls Tryz.prog 53 #[.pointer (some ⟨b, 0, none⟩)] w fun e w' => e = .returned (.string ⟨l.toArray⟩) ∧ (Lib.IsBuilderF 99 5 B b (Lib.byteCells l) w' ∧ Below B w w') := Any.Builder_String_any_f Tryz.lays169 Tryz.Builder_Extra_169 B b l w h hBw
def Tryz.laysM171_ren : Go.Shelf.Ren := ⟨fun | 171 => 59 | 243 => 88 | 246 => 110 | 283 => 128 | 284 => 129 | 285 => 130 | 286 => 131 | 129 => 81 | 317 => 138 | 318 => 139 | 319 => 140 | 320 => 141 | 337 => 143 | 338 => 144 | n => n, fun | 3 => 3 | 9 => 9 | 2 => 2 | 4 => 4 | 171 => 183 | 0 => 0 | 53 => 141 | 37 => 97 | 5 => 5 | 173 => 185 | 212 => 194 | 51 => 139 | 20 => 20 | 213 => 195 | 46 => 32 | 232 => 201 | 233 => 202 | n => n, fun | 17 => 4 | 18 => 7 | 19 => 8 | n => n⟩
theorem Tryz.laysM171 : Go.Proofs.LaysM.n171 Tryz.prog Tryz.laysM171_ren := {
  mixed := by kernel_rfl
  f129 := Tryz.func81.trans (congrArg some (by kernel_rfl))
  f171 := Tryz.func59.trans (congrArg some (by kernel_rfl))
  f243 := Tryz.func88.trans (congrArg some (by kernel_rfl))
  f246 := Tryz.func110.trans (congrArg some (by kernel_rfl))
  f283 := Tryz.func128.trans (congrArg some (by kernel_rfl))
  f284 := Tryz.func129.trans (congrArg some (by kernel_rfl))
  f285 := Tryz.func130.trans (congrArg some (by kernel_rfl))
  f286 := Tryz.func131.trans (congrArg some (by kernel_rfl))
  f317 := Tryz.func138.trans (congrArg some (by kernel_rfl))
  f318 := Tryz.func139.trans (congrArg some (by kernel_rfl))
  f319 := Tryz.func140.trans (congrArg some (by kernel_rfl))
  f320 := Tryz.func141.trans (congrArg some (by kernel_rfl))
  f337 := Tryz.func143.trans (congrArg some (by kernel_rfl))
  f338 := Tryz.func144.trans (congrArg some (by kernel_rfl))
  t0 := Tryz.underlying0
  a0 := Tryz.isAgg0
  z0 := Tryz.sizeOf0
  v0 := Tryz.zeroValue0
  t2 := Tryz.underlying2
  a2 := Tryz.isAgg2
  z2 := Tryz.sizeOf2
  v2 := Tryz.zeroValue2
  t3 := Tryz.underlying3
  a3 := Tryz.isAgg3
  z3 := Tryz.sizeOf3
  v3 := Tryz.zeroValue3
  t4 := Tryz.underlying4
  a4 := Tryz.isAgg4
  z4 := Tryz.sizeOf4
  v4 := Tryz.zeroValue4
  t5 := Tryz.underlying5
  a5 := Tryz.isAgg5
  z5 := Tryz.sizeOf5
  v5 := Tryz.zeroValue5
  t9 := Tryz.underlying9
  a9 := Tryz.isAgg9
  z9 := Tryz.sizeOf9
  v9 := Tryz.zeroValue9
  t20 := Tryz.underlying20
  a20 := Tryz.isAgg20
  z20 := Tryz.sizeOf20
  v20 := Tryz.zeroValue20
  t37 := Tryz.underlying97
  a37 := Tryz.isAgg97
  z37 := Tryz.sizeOf97
  v37 := Tryz.zeroValue97
  t46 := Tryz.underlying32
  a46 := Tryz.isAgg32
  z46 := Tryz.sizeOf32
  v46 := Tryz.zeroValue32
  t51 := Tryz.underlying139
  a51 := Tryz.isAgg139
  z51 := Tryz.sizeOf139
  v51 := Tryz.zeroValue139
  t53 := Tryz.underlying141
  a53 := Tryz.isAgg141
  z53 := Tryz.sizeOf141
  v53 := Tryz.zeroValue141
  t171 := Tryz.underlying183
  a171 := Tryz.isAgg183
  z171 := Tryz.sizeOf183
  v171 := Tryz.zeroValue183
  t173 := Tryz.underlying185
  a173 := Tryz.isAgg185
  z173 := Tryz.sizeOf185
  v173 := Tryz.zeroValue185
  t212 := Tryz.underlying194
  a212 := Tryz.isAgg194
  z212 := Tryz.sizeOf194
  v212 := Tryz.zeroValue194
  t213 := Tryz.underlying195
  a213 := Tryz.isAgg195
  z213 := Tryz.sizeOf195
  t232 := Tryz.underlying201
  a232 := Tryz.isAgg201
  z232 := Tryz.sizeOf201
  v232 := Tryz.zeroValue201
  t233 := Tryz.underlying202
  a233 := Tryz.isAgg202
  z233 := Tryz.sizeOf202
  v233 := Tryz.zeroValue202
  g17 := by kernel_rfl
  g18 := by kernel_rfl
  g19 := by kernel_rfl
  i0 := by kernel_rfl
  i2 := by kernel_rfl
  i3 := by kernel_rfl
  i4 := by kernel_rfl
  i5 := by kernel_rfl
  i9 := by kernel_rfl
  i20 := by kernel_rfl
  i37 := by kernel_rfl
  i46 := by kernel_rfl
  i51 := by kernel_rfl
  i53 := by kernel_rfl
  i171 := by kernel_rfl
  i173 := by kernel_rfl
  i212 := by kernel_rfl
  i232 := by kernel_rfl
  i233 := by kernel_rfl
  m17 := by kernel_rfl
  m18 := by kernel_rfl
  m19 := by kernel_rfl }
open Go.RowKit Go.Sort Go.Lib in
/-- strconv.Itoa: "Itoa is equivalent to FormatInt(int64(i), 10).": i's DECIMAL NUMERAL ('Lib.itoa': a '-' where i is negative, then the digits), FOR EVERY int. The world behind the call: the world before it, new blocks behind the heap (the library's 'var a [24]byte'), draws. (LAID: no walk: one application.) -/
theorem Tryz.strconv_Itoa (n : Int) (h0 : -9223372036854775808 ≤ n) (h1 : n ≤ 9223372036854775807) (w : World) (htab : Lib.TabIs Tryz.prog w "internal/strconv.uint64pow10" .u64 Lib.pow10Tab) :
    Calls Tryz.prog 59 #[.int .i64 n] w fun e w' => e = .returned (.string ⟨(Lib.itoa n).toArray⟩) ∧ ∃ k os, w' = grow (w.drewN k) os := Any.strconv_Itoa Tryz.laysM171 n h0 h1 w htab
def Tryz.lays171_ren : Go.Shelf.Ren := ⟨fun | 171 => 59 | 243 => 88 | 246 => 110 | 283 => 128 | 284 => 129 | 285 => 130 | 286 => 131 | 129 => 81 | 317 => 138 | 318 => 139 | 319 => 140 | 320 => 141 | 337 => 143 | 338 => 144 | n => n, fun | 3 => 3 | 9 => 9 | 2 => 2 | 4 => 4 | 171 => 183 | 0 => 0 | 53 => 141 | 37 => 97 | 5 => 5 | 173 => 185 | 212 => 194 | 51 => 139 | 20 => 20 | 213 => 195 | 46 => 32 | 232 => 201 | 233 => 202 | n => n, fun | 17 => 4 | 18 => 7 | 19 => 8 | n => n⟩
theorem Tryz.lays171 : Go.Proofs.Lays.n171 Tryz.prog Tryz.lays171_ren := {
  mixed := by kernel_rfl
  f129 := Tryz.func81.trans (congrArg some (by kernel_rfl))
  f171 := Tryz.func59.trans (congrArg some (by kernel_rfl))
  f243 := Tryz.func88.trans (congrArg some (by kernel_rfl))
  f246 := Tryz.func110.trans (congrArg some (by kernel_rfl))
  f283 := Tryz.func128.trans (congrArg some (by kernel_rfl))
  f284 := Tryz.func129.trans (congrArg some (by kernel_rfl))
  f285 := Tryz.func130.trans (congrArg some (by kernel_rfl))
  f286 := Tryz.func131.trans (congrArg some (by kernel_rfl))
  f317 := Tryz.func138.trans (congrArg some (by kernel_rfl))
  f318 := Tryz.func139.trans (congrArg some (by kernel_rfl))
  f319 := Tryz.func140.trans (congrArg some (by kernel_rfl))
  f320 := Tryz.func141.trans (congrArg some (by kernel_rfl))
  f337 := Tryz.func143.trans (congrArg some (by kernel_rfl))
  f338 := Tryz.func144.trans (congrArg some (by kernel_rfl))
  t0 := Tryz.underlying0
  a0 := Tryz.isAgg0
  z0 := Tryz.sizeOf0
  v0 := Tryz.zeroValue0
  t2 := Tryz.underlying2
  a2 := Tryz.isAgg2
  z2 := Tryz.sizeOf2
  v2 := Tryz.zeroValue2
  t3 := Tryz.underlying3
  a3 := Tryz.isAgg3
  z3 := Tryz.sizeOf3
  v3 := Tryz.zeroValue3
  t4 := Tryz.underlying4
  a4 := Tryz.isAgg4
  z4 := Tryz.sizeOf4
  v4 := Tryz.zeroValue4
  t5 := Tryz.underlying5
  a5 := Tryz.isAgg5
  z5 := Tryz.sizeOf5
  v5 := Tryz.zeroValue5
  t9 := Tryz.underlying9
  a9 := Tryz.isAgg9
  z9 := Tryz.sizeOf9
  v9 := Tryz.zeroValue9
  t20 := Tryz.underlying20
  a20 := Tryz.isAgg20
  z20 := Tryz.sizeOf20
  v20 := Tryz.zeroValue20
  t37 := Tryz.underlying97
  a37 := Tryz.isAgg97
  z37 := Tryz.sizeOf97
  v37 := Tryz.zeroValue97
  t46 := Tryz.underlying32
  a46 := Tryz.isAgg32
  z46 := Tryz.sizeOf32
  v46 := Tryz.zeroValue32
  t51 := Tryz.underlying139
  a51 := Tryz.isAgg139
  z51 := Tryz.sizeOf139
  v51 := Tryz.zeroValue139
  t53 := Tryz.underlying141
  a53 := Tryz.isAgg141
  z53 := Tryz.sizeOf141
  v53 := Tryz.zeroValue141
  t171 := Tryz.underlying183
  a171 := Tryz.isAgg183
  z171 := Tryz.sizeOf183
  v171 := Tryz.zeroValue183
  t173 := Tryz.underlying185
  a173 := Tryz.isAgg185
  z173 := Tryz.sizeOf185
  v173 := Tryz.zeroValue185
  t212 := Tryz.underlying194
  a212 := Tryz.isAgg194
  z212 := Tryz.sizeOf194
  v212 := Tryz.zeroValue194
  t213 := Tryz.underlying195
  a213 := Tryz.isAgg195
  z213 := Tryz.sizeOf195
  t232 := Tryz.underlying201
  a232 := Tryz.isAgg201
  z232 := Tryz.sizeOf201
  v232 := Tryz.zeroValue201
  t233 := Tryz.underlying202
  a233 := Tryz.isAgg202
  z233 := Tryz.sizeOf202
  v233 := Tryz.zeroValue202
  g17 := by kernel_rfl
  g18 := by kernel_rfl
  g19 := by kernel_rfl }
open Go.RowKit Go.Sort Go.Lib in
/-- THE ROAD WITHOUT THE TABLE: 0 <= i < 100: NO PREMISE ON THE WORLD, AND THE WORLD IS AS IT WAS: a row that keeps its argument in that range need list no table ('laid = []'). (LAID: no walk: one application.) -/
theorem Tryz.strconv_Itoa_small (i : Nat) (hi : i < 100) (w : World) :
    Calls Tryz.prog 59 #[.int .i64 i] w fun e w' => e = .returned (.string ⟨(Lib.decDigits i).toArray⟩) ∧ w' = w := Any.strconv_Itoa_small Tryz.lays171 i hi w
def Tryz.laysC172_ren : Go.Shelf.Ren := ⟨fun | 172 => 40 | 244 => 67 | 245 => 68 | 247 => 98 | 279 => 99 | 280 => 100 | 281 => 101 | 282 => 102 | 287 => 116 | 316 => 117 | 171 => 59 | 205 => 118 | 321 => 133 | 322 => 134 | 243 => 88 | 246 => 110 | 283 => 128 | 284 => 129 | 285 => 130 | 286 => 131 | 129 => 81 | 317 => 138 | 318 => 139 | 319 => 140 | 320 => 141 | 337 => 143 | 338 => 144 | n => n, fun | 9 => 9 | 3 => 3 | 75 => 52 | 76 => 78 | 4 => 4 | 5 => 5 | 167 => 150 | 37 => 97 | 0 => 0 | 85 => 151 | 2 => 2 | 168 => 153 | 53 => 141 | 175 => 169 | 46 => 32 | 210 => 173 | 127 => 144 | 145 => 190 | 143 => 188 | 21 => 21 | 171 => 183 | 173 => 185 | 212 => 194 | 51 => 139 | 20 => 20 | 213 => 195 | 232 => 201 | 233 => 202 | 80 => 100 | n => n, fun | 15 => 2 | 16 => 3 | 17 => 4 | 18 => 7 | 19 => 8 | n => n⟩
theorem Tryz.laysC172 : Go.Proofs.LaysC.n172 Tryz.prog Tryz.laysC172_ren := {
  mixed := by kernel_rfl
  f129 := Tryz.func81.trans (congrArg some (by kernel_rfl))
  f171 := Tryz.func59.trans (congrArg some (by kernel_rfl))
  f172 := Tryz.func40.trans (congrArg some (by kernel_rfl))
  f205 := Tryz.func118.trans (congrArg some (by kernel_rfl))
  f243 := Tryz.func88.trans (congrArg some (by kernel_rfl))
  f244 := Tryz.func67.trans (congrArg some (by kernel_rfl))
  f245 := Tryz.func68.trans (congrArg some (by kernel_rfl))
  f246 := Tryz.func110.trans (congrArg some (by kernel_rfl))
  f247 := Tryz.func98.trans (congrArg some (by kernel_rfl))
  f279 := Tryz.func99.trans (congrArg some (by kernel_rfl))
  f280 := Tryz.func100.trans (congrArg some (by kernel_rfl))
  f281 := Tryz.func101.trans (congrArg some (by kernel_rfl))
  f282 := Tryz.func102.trans (congrArg some (by kernel_rfl))
  f283 := Tryz.func128.trans (congrArg some (by kernel_rfl))
  f284 := Tryz.func129.trans (congrArg some (by kernel_rfl))
  f285 := Tryz.func130.trans (congrArg some (by kernel_rfl))
  f286 := Tryz.func131.trans (congrArg some (by kernel_rfl))
  f287 := Tryz.func116.trans (congrArg some (by kernel_rfl))
  f316 := Tryz.func117.trans (congrArg some (by kernel_rfl))
  f317 := Tryz.func138.trans (congrArg some (by kernel_rfl))
  f318 := Tryz.func139.trans (congrArg some (by kernel_rfl))
  f319 := Tryz.func140.trans (congrArg some (by kernel_rfl))
  f320 := Tryz.func141.trans (congrArg some (by kernel_rfl))
  f321 := Tryz.func133.trans (congrArg some (by kernel_rfl))
  f322 := Tryz.func134.trans (congrArg some (by kernel_rfl))
  f337 := Tryz.func143.trans (congrArg some (by kernel_rfl))
  f338 := Tryz.func144.trans (congrArg some (by kernel_rfl))
  t0 := Tryz.underlying0
  a0 := Tryz.isAgg0
  z0 := Tryz.sizeOf0
  v0 := Tryz.zeroValue0
  t2 := Tryz.underlying2
  a2 := Tryz.isAgg2
  z2 := Tryz.sizeOf2
  v2 := Tryz.zeroValue2
  t3 := Tryz.underlying3
  a3 := Tryz.isAgg3
  z3 := Tryz.sizeOf3
  v3 := Tryz.zeroValue3
  t4 := Tryz.underlying4
  a4 := Tryz.isAgg4
  z4 := Tryz.sizeOf4
  v4 := Tryz.zeroValue4
  t5 := Tryz.underlying5
  a5 := Tryz.isAgg5
  z5 := Tryz.sizeOf5
  v5 := Tryz.zeroValue5
  t9 := Tryz.underlying9
  a9 := Tryz.isAgg9
  z9 := Tryz.sizeOf9
  v9 := Tryz.zeroValue9
  t20 := Tryz.underlying20
  a20 := Tryz.isAgg20
  z20 := Tryz.sizeOf20
  v20 := Tryz.zeroValue20
  t21 := Tryz.underlying21
  a21 := Tryz.isAgg21
  z21 := Tryz.sizeOf21
  v21 := Tryz.zeroValue21
  t37 := Tryz.underlying97
  a37 := Tryz.isAgg97
  z37 := Tryz.sizeOf97
  v37 := Tryz.zeroValue97
  t46 := Tryz.underlying32
  a46 := Tryz.isAgg32
  z46 := Tryz.sizeOf32
  v46 := Tryz.zeroValue32
  t51 := Tryz.underlying139
  a51 := Tryz.isAgg139
  z51 := Tryz.sizeOf139
  v51 := Tryz.zeroValue139
  t53 := Tryz.underlying141
  a53 := Tryz.isAgg141
  z53 := Tryz.sizeOf141
  v53 := Tryz.zeroValue141
  t75 := Tryz.underlying52
  a75 := Tryz.isAgg52
  z75 := Tryz.sizeOf52
  v75 := Tryz.zeroValue52
  t76 := Tryz.underlying78
  a76 := Tryz.isAgg78
  z76 := Tryz.sizeOf78
  v76 := Tryz.zeroValue78
  t85 := Tryz.underlying151
  a85 := Tryz.isAgg151
  z85 := Tryz.sizeOf151
  v85 := Tryz.zeroValue151
  t127 := Tryz.underlying144
  a127 := Tryz.isAgg144
  z127 := Tryz.sizeOf144
  v127 := Tryz.zeroValue144
  t143 := Tryz.underlying188
  a143 := Tryz.isAgg188
  z143 := Tryz.sizeOf188
  v143 := Tryz.zeroValue188
  t145 := Tryz.underlying190
  a145 := Tryz.isAgg190
  z145 := Tryz.sizeOf190
  v145 := Tryz.zeroValue190
  t167 := Tryz.underlying150
  a167 := Tryz.isAgg150
  z167 := Tryz.sizeOf150
  v167 := Tryz.zeroValue150
  t168 := Tryz.underlying153
  a168 := Tryz.isAgg153
  z168 := Tryz.sizeOf153
  v168 := Tryz.zeroValue153
  t171 := Tryz.underlying183
  a171 := Tryz.isAgg183
  z171 := Tryz.sizeOf183
  v171 := Tryz.zeroValue183
  t173 := Tryz.underlying185
  a173 := Tryz.isAgg185
  z173 := Tryz.sizeOf185
  v173 := Tryz.zeroValue185
  t175 := Tryz.underlying169
  a175 := Tryz.isAgg169
  z175 := Tryz.sizeOf169
  v175 := Tryz.zeroValue169
  t210 := Tryz.underlying173
  a210 := Tryz.isAgg173
  z210 := Tryz.sizeOf173
  v210 := Tryz.zeroValue173
  t212 := Tryz.underlying194
  a212 := Tryz.isAgg194
  z212 := Tryz.sizeOf194
  v212 := Tryz.zeroValue194
  t213 := Tryz.underlying195
  a213 := Tryz.isAgg195
  z213 := Tryz.sizeOf195
  t232 := Tryz.underlying201
  a232 := Tryz.isAgg201
  z232 := Tryz.sizeOf201
  v232 := Tryz.zeroValue201
  t233 := Tryz.underlying202
  a233 := Tryz.isAgg202
  z233 := Tryz.sizeOf202
  v233 := Tryz.zeroValue202
  g15 := by kernel_rfl
  g16 := by kernel_rfl
  g17 := by kernel_rfl
  g18 := by kernel_rfl
  g19 := by kernel_rfl
  t80 := Tryz.underlying100
  a80 := Tryz.isAgg100
  z80 := Tryz.sizeOf100
  v80 := Tryz.zeroValue100
  i0 := by kernel_rfl
  i2 := by kernel_rfl
  i3 := by kernel_rfl
  i4 := by kernel_rfl
  i5 := by kernel_rfl
  i9 := by kernel_rfl
  i20 := by kernel_rfl
  i21 := by kernel_rfl
  i37 := by kernel_rfl
  i46 := by kernel_rfl
  i51 := by kernel_rfl
  i53 := by kernel_rfl
  i75 := by kernel_rfl
  i76 := by kernel_rfl
  i80 := by kernel_rfl
  i85 := by kernel_rfl
  i127 := by kernel_rfl
  i143 := by kernel_rfl
  i145 := by kernel_rfl
  i167 := by kernel_rfl
  i168 := by kernel_rfl
  i171 := by kernel_rfl
  i173 := by kernel_rfl
  i175 := by kernel_rfl
  i210 := by kernel_rfl
  i212 := by kernel_rfl
  i232 := by kernel_rfl
  i233 := by kernel_rfl
  m15 := by kernel_rfl
  m16 := by kernel_rfl
  m17 := by kernel_rfl
  m18 := by kernel_rfl
  m19 := by kernel_rfl
  c0 := by kernel_rfl
  c2 := by kernel_rfl
  c3 := by kernel_rfl
  c4 := by kernel_rfl
  c5 := by kernel_rfl
  c9 := by kernel_rfl
  c20 := by kernel_rfl
  c21 := by kernel_rfl
  c37 := by kernel_rfl
  c46 := by kernel_rfl
  c51 := by kernel_rfl
  c53 := by kernel_rfl
  c75 := by kernel_rfl
  c76 := by kernel_rfl
  c80 := by kernel_rfl
  c85 := by kernel_rfl
  c127 := by kernel_rfl
  c143 := by kernel_rfl
  c145 := by kernel_rfl
  c167 := by kernel_rfl
  c168 := by kernel_rfl
  c171 := by kernel_rfl
  c173 := by kernel_rfl
  c175 := by kernel_rfl
  c210 := by kernel_rfl
  c212 := by kernel_rfl
  c213 := by kernel_rfl
  c232 := by kernel_rfl
  c233 := by kernel_rfl }
open Go.RowKit in
/-- strconv.Atoi, AT EVERY STRING THAT SPELLS AN int ('Lib.atoiAll .. = .ok v'; of whatever length: leading zeros count): v, AND NO ERROR. The world: as it was, or with the one new row that '[]byte(..)' lays. (LAID: no walk: one application.) -/
theorem Tryz.strconv_Atoi_ok (s : ByteArray) (hmax : s.size ≤ 9223372036854775806) (v : Int) (h : Lib.atoiAll s.data.toList = .ok v) (w : World) :
    Calls Tryz.prog 40 #[.string s] w fun e w' => e = .returned (.tuple #[.int .i64 v, .nilIface]) ∧ (w' = w ∨ ∃ t, w' = Lib.bytesWorld w 5 t) := Any.strconv_Atoi_ok Tryz.laysC172 s hmax v h w
open Go.RowKit in
/-- strconv.Atoi, AT EVERY NUMERAL THAT NO int HOLDS ('.range'): THE GREATEST OR THE LEAST int, BY THE SIGN ('Lib.atoiSat'), AND AN ERROR THAT IS NOT nil: a *NumError in a new block N: {Func: "Atoi", Num: s's bytes, Err: what the variable ErrRange holds}. Of what was there nothing has turned. (LAID: no walk: one application.) -/
theorem Tryz.strconv_Atoi_range (s : ByteArray) (hlim : s.size ≤ 281474976710656) (h : Lib.atoiAll s.data.toList = .range) (ev : Value) (w : World) (hv : w.cell? ⟨3, 0, none⟩ = some ev) (hev : ev = .nilIface ∨ ∃ te pe, ev = .iface te pe) :
    Calls Tryz.prog 40 #[.string s] w fun e w' => ∃ N, e = .returned (.tuple #[.int .i64 (Lib.atoiSat s.data.toList), .iface 153 (.pointer (some ⟨N, 0, none⟩))]) ∧ w.heap.size ≤ N ∧ w'.heap[N]? = some (.cells #[.string ⟨#[65, 116, 111, 105]⟩, .string s, ev] 173 (0, 0)) ∧ Below w.heap.size w w' := Any.strconv_Atoi_range Tryz.laysC172 s hlim h ev w hv hev
def Tryz.lays145_ren : Go.Shelf.Ren := ⟨fun | 145 => 20 | 220 => 38 | 219 => 65 | 217 => 91 | 225 => 92 | 224 => 93 | 267 => 94 | 266 => 111 | 314 => 112 | n => n, fun | 9 => 9 | 4 => 4 | 59 => 49 | 3 => 3 | 5 => 5 | 46 => 32 | 146 => 165 | 51 => 139 | n => n, fun | 1 => 1 | n => n⟩
theorem Tryz.lays145 : Go.Proofs.Lays.n145 Tryz.prog Tryz.lays145_ren := {
  mixed := by kernel_rfl
  f145 := Tryz.func20.trans (congrArg some (by kernel_rfl))
  f217 := Tryz.func91.trans (congrArg some (by kernel_rfl))
  f219 := Tryz.func65.trans (congrArg some (by kernel_rfl))
  f220 := Tryz.func38.trans (congrArg some (by kernel_rfl))
  f224 := Tryz.func93.trans (congrArg some (by kernel_rfl))
  f225 := Tryz.func92.trans (congrArg some (by kernel_rfl))
  f266 := Tryz.func111.trans (congrArg some (by kernel_rfl))
  f267 := Tryz.func94.trans (congrArg some (by kernel_rfl))
  f314 := Tryz.func112.trans (congrArg some (by kernel_rfl))
  t3 := Tryz.underlying3
  a3 := Tryz.isAgg3
  z3 := Tryz.sizeOf3
  v3 := Tryz.zeroValue3
  t4 := Tryz.underlying4
  a4 := Tryz.isAgg4
  z4 := Tryz.sizeOf4
  v4 := Tryz.zeroValue4
  t5 := Tryz.underlying5
  a5 := Tryz.isAgg5
  z5 := Tryz.sizeOf5
  v5 := Tryz.zeroValue5
  t9 := Tryz.underlying9
  a9 := Tryz.isAgg9
  z9 := Tryz.sizeOf9
  v9 := Tryz.zeroValue9
  t46 := Tryz.underlying32
  a46 := Tryz.isAgg32
  z46 := Tryz.sizeOf32
  v46 := Tryz.zeroValue32
  t51 := Tryz.underlying139
  a51 := Tryz.isAgg139
  z51 := Tryz.sizeOf139
  v51 := Tryz.zeroValue139
  t59 := Tryz.underlying49
  a59 := Tryz.isAgg49
  z59 := Tryz.sizeOf49
  v59 := Tryz.zeroValue49
  t146 := Tryz.underlying165
  a146 := Tryz.isAgg165
  z146 := Tryz.sizeOf165
  v146 := Tryz.zeroValue165
  g1 := by kernel_rfl }
open Go.RowKit Go.Lib in
/-- strings.Cut: "Cut slices s around the first instance of sep, returning the text before and after sep. The found result reports whether sep appears in s. If sep does not appear in s, cut returns s, "", false.": IT RETURNS 'Lib.cut s sep'; the world is as it was but for the count of draws. (LAID: no walk: one application.) -/
theorem Tryz.strings_Cut (s sep : ByteArray) (m : Int) (w : World) (hs : s.size < 4294967281) (hm : w.cell? ⟨1, 0, none⟩ = some (.int .i64 m)) :
    Calls Tryz.prog 20 #[.string s, .string sep] w fun e w' => e = .returned (.tuple #[.string ⟨(Lib.cut s.data.toList sep.data.toList).1.toArray⟩, .string ⟨(Lib.cut s.data.toList sep.data.toList).2.1.toArray⟩, .bool (Lib.cut s.data.toList sep.data.toList).2.2]) ∧ ∃ n, w' = w.drewN n := Any.strings_Cut Tryz.lays145 s sep m w hs hm
def Tryz.lays147_ren : Go.Shelf.Ren := ⟨fun | 147 => 39 | 221 => 66 | 268 => 95 | 138 => 96 | 143 => 97 | 195 => 113 | 197 => 114 | 218 => 115 | 219 => 65 | 260 => 132 | 217 => 91 | 225 => 92 | 224 => 93 | 267 => 94 | 266 => 111 | 314 => 112 | n => n, fun | 9 => 9 | 3 => 3 | 31 => 75 | 4 => 4 | 0 => 0 | 105 => 167 | 21 => 21 | 5 => 5 | 46 => 32 | 119 => 196 | 139 => 199 | 138 => 198 | 146 => 165 | 51 => 139 | n => n, fun | 1 => 1 | 3 => 5 | 4 => 6 | n => n⟩
theorem Tryz.lays147 : Go.Proofs.Lays.n147 Tryz.prog Tryz.lays147_ren := {
  mixed := by kernel_rfl
  f138 := Tryz.func96.trans (congrArg some (by kernel_rfl))
  f143 := Tryz.func97.trans (congrArg some (by kernel_rfl))
  f147 := Tryz.func39.trans (congrArg some (by kernel_rfl))
  f195 := Tryz.func113.trans (congrArg some (by kernel_rfl))
  f197 := Tryz.func114.trans (congrArg some (by kernel_rfl))
  f217 := Tryz.func91.trans (congrArg some (by kernel_rfl))
  f218 := Tryz.func115.trans (congrArg some (by kernel_rfl))
  f219 := Tryz.func65.trans (congrArg some (by kernel_rfl))
  f221 := Tryz.func66.trans (congrArg some (by kernel_rfl))
  f224 := Tryz.func93.trans (congrArg some (by kernel_rfl))
  f225 := Tryz.func92.trans (congrArg some (by kernel_rfl))
  f260 := Tryz.func132.trans (congrArg some (by kernel_rfl))
  f266 := Tryz.func111.trans (congrArg some (by kernel_rfl))
  f267 := Tryz.func94.trans (congrArg some (by kernel_rfl))
  f268 := Tryz.func95.trans (congrArg some (by kernel_rfl))
  f314 := Tryz.func112.trans (congrArg some (by kernel_rfl))
  t0 := Tryz.underlying0
  a0 := Tryz.isAgg0
  z0 := Tryz.sizeOf0
  v0 := Tryz.zeroValue0
  t3 := Tryz.underlying3
  a3 := Tryz.isAgg3
  z3 := Tryz.sizeOf3
  v3 := Tryz.zeroValue3
  t4 := Tryz.underlying4
  a4 := Tryz.isAgg4
  z4 := Tryz.sizeOf4
  v4 := Tryz.zeroValue4
  t5 := Tryz.underlying5
  a5 := Tryz.isAgg5
  z5 := Tryz.sizeOf5
  v5 := Tryz.zeroValue5
  t9 := Tryz.underlying9
  a9 := Tryz.isAgg9
  z9 := Tryz.sizeOf9
  v9 := Tryz.zeroValue9
  t21 := Tryz.underlying21
  a21 := Tryz.isAgg21
  z21 := Tryz.sizeOf21
  v21 := Tryz.zeroValue21
  t31 := Tryz.underlying75
  a31 := Tryz.isAgg75
  z31 := Tryz.sizeOf75
  v31 := Tryz.zeroValue75
  t46 := Tryz.underlying32
  a46 := Tryz.isAgg32
  z46 := Tryz.sizeOf32
  v46 := Tryz.zeroValue32
  t51 := Tryz.underlying139
  a51 := Tryz.isAgg139
  z51 := Tryz.sizeOf139
  v51 := Tryz.zeroValue139
  t105 := Tryz.underlying167
  a105 := Tryz.isAgg167
  z105 := Tryz.sizeOf167
  v105 := Tryz.zeroValue167
  t119 := Tryz.underlying196
  a119 := Tryz.isAgg196
  z119 := Tryz.sizeOf196
  t138 := Tryz.underlying198
  a138 := Tryz.isAgg198
  z138 := Tryz.sizeOf198
  v138 := Tryz.zeroValue198
  t139 := Tryz.underlying199
  a139 := Tryz.isAgg199
  z139 := Tryz.sizeOf199
  v139 := Tryz.zeroValue199
  t146 := Tryz.underlying165
  a146 := Tryz.isAgg165
  z146 := Tryz.sizeOf165
  v146 := Tryz.zeroValue165
  g1 := by kernel_rfl
  g3 := by kernel_rfl
  g4 := by kernel_rfl }
open Go.RowKit Go.Lib in
/-- strings.SplitN, n > 0. (LAID: no walk: one application.) -/
theorem Tryz.strings_SplitN (s sep : ByteArray) (n : Nat) (m : Int) (w : World) (hs : s.size < 4294967281) (hm : w.cell? ⟨1, 0, none⟩ = some (.int .i64 m)) (h1 : 1 ≤ sep.size) (hn : 1 ≤ n) (hn63 : n ≤ 9223372036854775807) :
    Calls Tryz.prog 39 #[.string s, .string sep, .int .i64 n] w fun e w' =>
      e = .returned (.slice (some ⟨w.heap.size, 0, none⟩) (Lib.splitB sep 0 (min n (s.size + 1) - 1) s).length (min n (s.size + 1))) ∧ w' = w.alloc (.cells (Lib.cellsOf (Lib.splitB sep 0 (min n (s.size + 1) - 1) s) (min n (s.size + 1))) 9) := Any.strings_SplitN Tryz.lays147 (by kernel_rfl) s sep n m w hs hm h1 hn hn63
end Go.Proofs

namespace Go.Proofs.YtnlhllleipemlaaGreatDoor
open Go.RowKit Go.Sort

theorem info5b : (Tryz.prog.info? 5).map (fun i => (i.zero, i.size, i.bytes)) = some (some (.int .u8 0), 1, 1) := by kernel_rfl
theorem row_kind {w : World} {B : Nat} {e : TypeId} {v : Value} {n : Nat} {xs : List Value} (h : w.ownsRow B e 1 v n xs) : ∀ g, v.ownBlock = some g → ∃ c fz, w.heap[g]? = some (.cells c e fz) := by
  intro g hg
  rcases h.2 with ⟨rfl, _⟩ | ⟨g', cap, cur, rfl, _, hgg, _⟩
  · simp [Value.ownBlock] at hg
  · simp [Value.ownBlock] at hg
    subst hg
    exact ⟨cur, _, hgg⟩
set_option maxHeartbeats 4000000 in
set_option maxRecDepth 100000 in
theorem copyCheck_used (b : Nat) (w : World) (h0 : w.cell? ⟨b, 0, none⟩ = some (.pointer (some ⟨b, 0, none⟩))) :
    Calls Tryz.prog 86 #[.pointer (some ⟨b, 0, none⟩)] w fun e w' => e = .returned (.tuple #[]) ∧ w' = w := by
  obtain ⟨j, hj, _⟩ := Option.map_eq_some_iff.1 (show (Tryz.prog.info? 99).map (·.size) = some 2 by kernel_rfl)
  go_enter Tryz.func86, Tryz.ntmps86
  go_wp2_with fail
  rw [Lib.run_neq_ptr_same w _ Tryz.underlying96 hj]
  go_wp2_with fail
  go_end0
  exact ⟨rfl, rfl⟩
set_option maxHeartbeats 4000000 in
set_option maxRecDepth 100000 in
theorem copyCheck_fresh (b : Nat) (w : World) (h0 : w.cell? ⟨b, 0, none⟩ = some (.pointer none)) (hsh : w.shape? b = some (99, 2)) (hfz : w.frozen? ⟨b, 0, none⟩ = false) :
    Calls Tryz.prog 86 #[.pointer (some ⟨b, 0, none⟩)] w fun e w' => e = .returned (.tuple #[]) ∧ w' = w.setCell ⟨b, 0, none⟩ (.pointer (some ⟨b, 0, none⟩)) := by
  obtain ⟨j, hj, hjs⟩ := Option.map_eq_some_iff.1 (show (Tryz.prog.info? 99).map (·.size) = some 2 by kernel_rfl)
  go_enter Tryz.func86, Tryz.ntmps86
  go_wp2_with fail
  rw [Lib.run_to_unsafe w ⟨b, 0, none⟩ Tryz.underlying96 Tryz.underlying81 hj (by rw [hjs]; decide) hsh (Nat.zero_lt_succ 1)]
  simp only [Result.andThen]
  rw [Oper.upon_value]
  go_wp2_with fail
  rw [run_callFunc_extern Tryz.func109 (by kernel_rfl) (by kernel_rfl) (by kernel_rfl) (e := Extern.AbiNoEscape.same) (by kernel_rfl)]
  rw [Lib.run_noEscape]
  simp only [Result.andThen]
  rw [Oper.upon_value]
  go_wp2_with fail
  rw [Lib.run_from_unsafe w ⟨b, 0, none⟩ Tryz.underlying81 Tryz.underlying96 hj hsh (by kernel_rfl)]
  simp only [Result.andThen]
  rw [Oper.upon_value]
  go_wp2_with fail
  go_end0
  exact ⟨rfl, rfl⟩
theorem copyCheck_any (B b : Nat) (bs : List Value) (w : World) (h : Lib.IsBuilder 99 5 B b bs w) :
    Calls Tryz.prog 86 #[.pointer (some ⟨b, 0, none⟩)] w fun e w' => e = .returned (.tuple #[]) ∧ (Lib.BuilderAt 99 5 B b (.pointer (some ⟨b, 0, none⟩)) bs w' ∧ Below B w w' ∧ Lib.OthersKept 5 (some b) w w') := by
  rcases h with h | h
  · refine (copyCheck_fresh b w h.cell0 h.shape h.frozen0).mono ?_
    rintro e w' ⟨rfl, rfl⟩
    exact ⟨rfl, h.used _, (Below.refl B w).setCell (p := ⟨b, 0, none⟩) h.1 _, (Lib.OthersKept.refl _ _ _).setCell ⟨b, 0, none⟩ rfl _⟩
  · refine (copyCheck_used b w h.cell0).mono ?_
    rintro e w' ⟨rfl, rfl⟩
    exact ⟨rfl, h, Below.refl B _, Lib.OthersKept.refl _ _ _⟩
set_option maxHeartbeats 4000000 in
set_option maxRecDepth 100000 in
theorem writeString_any (B b : Nat) (bs : List Value) (s : ByteArray) (w : World) (h : Lib.IsBuilder 99 5 B b bs w) (hlen : bs.length + s.size ≤ 1000000) (hBw : B ≤ w.heap.size) :
    Calls Tryz.prog 52 #[.pointer (some ⟨b, 0, none⟩), .string s] w fun e w' => e = .returned (.tuple #[.int .i64 s.size, .nilIface]) ∧ (Lib.BuilderAt 99 5 B b (.pointer (some ⟨b, 0, none⟩)) (bs ++ Lib.strCells s) w' ∧ Below B w w' ∧ Lib.OthersKept 5 (some b) w w') := by
  obtain ⟨i0, hi, hz0, hz1, hz2⟩ := info_parts info5b
  go_enter Tryz.func52, Tryz.ntmps52
  go_wp2_with fail
  with_reducible refine (copyCheck_any B b bs _ h).mono ?_
  rintro e w1 ⟨rfl, h1, hb1, hk1⟩
  obtain ⟨hB, v, hbk, hown, hne⟩ := h1
  have c0 : w1.cell? ⟨b, 0, none⟩ = some (.pointer (some ⟨b, 0, none⟩)) := by rw [Lib.cell_of_heap hbk]; rfl
  have c1 : w1.cell? ⟨b, 1, none⟩ = some v := by rw [Lib.cell_of_heap hbk]; rfl
  go_wp2_with (at_builtin; refine Lib.wpList_append_own_string _ rfl _ _ 97 9 rfl B 5 i0 Tryz.underlying97 Tryz.underlying9 hi hz0 hz1 hz2 _ _ _ rfl hown s rfl ?c3 ?c4 ?c5 ?_)
  case c3 => unfold maxLen; omega
  case c4 => omega
  case c5 => have := hb1.size; omega
  intro v' w2 hown' hgrow _
  have hlt : b < w1.heap.size := by
    rcases Nat.lt_or_ge b w1.heap.size with h' | h'
    · exact h'
    · simp [Array.getElem?_eq_none h'] at hbk
  have hb2 : w2.heap[b]? = some (.cells #[.pointer (some ⟨b, 0, none⟩), v] 99 (0, 0)) := by
    rw [hgrow.block b hlt (fun e => hne e.symm)]
    exact hbk
  have d0 : w2.cell? ⟨b, 0, none⟩ = some (.pointer (some ⟨b, 0, none⟩)) := by rw [Lib.cell_of_heap hb2]; rfl
  have d1 : w2.cell? ⟨b, 1, none⟩ = some v := by rw [Lib.cell_of_heap hb2]; rfl
  have f1 : w2.frozen? ⟨b, 1, none⟩ = false := Lib.frozen_of_heap hb2 1
  obtain ⟨ao, n', cap, rfl⟩ : ∃ ao n' cap, v' = .slice ao n' cap := by
    rcases hown'.2 with ⟨hv, _⟩ | ⟨g, cap, cur, hv, _⟩
    · exact ⟨_, _, _, hv⟩
    · exact ⟨_, _, _, hv⟩
  clear hlen
  go_wp2_with fail
  go_ret2
  refine ⟨rfl, ?_, ?_, (hk1.grown hgrow (row_kind hown)).setCell ⟨b, 1, none⟩ rfl _⟩
  · exact Lib.BuilderAt.put (T := 99) (e := 5) hB hb2 (bs' := bs ++ Lib.strCells s) (by simpa [Lib.strCells_length] using hown') (by decide)
  · exact (hb1.grown hgrow (by have := hb1.size; omega) (fun k hk => (hown.lt k hk).1)).setCell (p := ⟨b, 1, none⟩) hB _
end Go.Proofs.YtnlhllleipemlaaGreatDoor

namespace Go.Proofs.YtnlhllleipemlaaGreatDoor
open Go.Shelf
def sortLay_ren : Go.Shelf.Ren := ⟨fun | 6 => 24 | 15 => 48 | 14 => 47 | 28 => 80 | 29 => 81 | 20 => 72 | 21 => 73 | 22 => 74 | 23 => 75 | 24 => 76 | 25 => 77 | 26 => 78 | 27 => 79 | 46 => 103 | 47 => 104 | 48 => 105 | 49 => 106 | 50 => 107 | 57 => 119 | n => n, fun | 22 => 23 | 24 => 48 | 25 => 61 | 3 => 3 | 39 => 32 | 0 => 0 | 53 => 139 | 55 => 141 | 4 => 4 | 46 => 132 | 45 => 131 | 50 => 136 | 5 => 5 | 9 => 9 | 66 => 156 | 70 => 160 | 76 => 175 | 77 => 176 | n => n, fun | n => n⟩
theorem sortLay : Go.Proofs.SlLaysF0.n6 Tryz.prog sortLay_ren := {
  mixed := by kernel_rfl
  f6 := ⟨Tryz.f24.name, by decide, Tryz.func24.trans (congrArg some (by kernel_rfl))⟩
  f14 := ⟨Tryz.f47.name, by decide, Tryz.func47.trans (congrArg some (by kernel_rfl))⟩
  f15 := Tryz.func48.trans (congrArg some (by kernel_rfl))
  f20 := ⟨Tryz.f72.name, by decide, Tryz.func72.trans (congrArg some (by kernel_rfl))⟩
  f21 := ⟨Tryz.f73.name, by decide, Tryz.func73.trans (congrArg some (by kernel_rfl))⟩
  f22 := ⟨Tryz.f74.name, by decide, Tryz.func74.trans (congrArg some (by kernel_rfl))⟩
  f23 := ⟨Tryz.f75.name, by decide, Tryz.func75.trans (congrArg some (by kernel_rfl))⟩
  f24 := ⟨Tryz.f76.name, by decide, Tryz.func76.trans (congrArg some (by kernel_rfl))⟩
  f25 := ⟨Tryz.f77.name, by decide, Tryz.func77.trans (congrArg some (by kernel_rfl))⟩
  f26 := ⟨Tryz.f78.name, by decide, Tryz.func78.trans (congrArg some (by kernel_rfl))⟩
  f27 := ⟨Tryz.f79.name, by decide, Tryz.func79.trans (congrArg some (by kernel_rfl))⟩
  f28 := Tryz.func80.trans (congrArg some (by kernel_rfl))
  f29 := Tryz.func81.trans (congrArg some (by kernel_rfl))
  f46 := ⟨Tryz.f103.name, by decide, Tryz.func103.trans (congrArg some (by kernel_rfl))⟩
  f47 := Tryz.func104.trans (congrArg some (by kernel_rfl))
  f48 := Tryz.func105.trans (congrArg some (by kernel_rfl))
  f49 := ⟨Tryz.f106.name, by decide, Tryz.func106.trans (congrArg some (by kernel_rfl))⟩
  f50 := ⟨Tryz.f107.name, by decide, Tryz.func107.trans (congrArg some (by kernel_rfl))⟩
  f57 := ⟨Tryz.f119.name, by decide, Tryz.func119.trans (congrArg some (by kernel_rfl))⟩
  t0 := Tryz.underlying0
  a0 := Tryz.isAgg0
  z0 := Tryz.sizeOf0
  v0 := Tryz.zeroValue0
  t3 := Tryz.underlying3
  a3 := Tryz.isAgg3
  z3 := Tryz.sizeOf3
  v3 := Tryz.zeroValue3
  t4 := Tryz.underlying4
  a4 := Tryz.isAgg4
  z4 := Tryz.sizeOf4
  v4 := Tryz.zeroValue4
  t5 := Tryz.underlying5
  a5 := Tryz.isAgg5
  z5 := Tryz.sizeOf5
  v5 := Tryz.zeroValue5
  t9 := Tryz.underlying9
  a9 := Tryz.isAgg9
  z9 := Tryz.sizeOf9
  v9 := Tryz.zeroValue9
  t22 := Tryz.underlying23
  a22 := Tryz.isAgg23
  z22 := Tryz.sizeOf23
  v22 := Tryz.zeroValue23
  t25 := Tryz.underlying61
  a25 := Tryz.isAgg61
  z25 := Tryz.sizeOf61
  v25 := Tryz.zeroValue61
  t39 := Tryz.underlying32
  a39 := Tryz.isAgg32
  z39 := Tryz.sizeOf32
  v39 := Tryz.zeroValue32
  t45 := Tryz.underlying131
  a45 := Tryz.isAgg131
  z45 := Tryz.sizeOf131
  v45 := Tryz.zeroValue131
  t46 := Tryz.underlying132
  a46 := Tryz.isAgg132
  z46 := Tryz.sizeOf132
  v46 := Tryz.zeroValue132
  t50 := Tryz.underlying136
  a50 := Tryz.isAgg136
  z50 := Tryz.sizeOf136
  v50 := Tryz.zeroValue136
  t53 := Tryz.underlying139
  a53 := Tryz.isAgg139
  z53 := Tryz.sizeOf139
  v53 := Tryz.zeroValue139
  t55 := Tryz.underlying141
  a55 := Tryz.isAgg141
  z55 := Tryz.sizeOf141
  v55 := Tryz.zeroValue141
  t66 := Tryz.underlying156
  a66 := Tryz.isAgg156
  z66 := Tryz.sizeOf156
  v66 := Tryz.zeroValue156
  t70 := Tryz.underlying160
  a70 := Tryz.isAgg160
  z70 := Tryz.sizeOf160
  v70 := Tryz.zeroValue160
  t76 := Tryz.underlying175
  a76 := Tryz.isAgg175
  z76 := Tryz.sizeOf175
  v76 := Tryz.zeroValue175
  t77 := Tryz.underlying176
  a77 := Tryz.isAgg176
  z77 := Tryz.sizeOf176
  v77 := Tryz.zeroValue176 }
def sortLayI_ren : Go.Shelf.Ren := ⟨fun | 6 => 83 | 15 => 48 | 14 => 108 | 28 => 80 | 29 => 81 | 20 => 120 | 21 => 121 | 22 => 122 | 23 => 123 | 24 => 124 | 25 => 125 | 26 => 126 | 27 => 127 | 46 => 135 | 47 => 104 | 48 => 105 | 49 => 136 | 50 => 137 | 57 => 142 | n => n, fun | 22 => 67 | 24 => 3 | 25 => 41 | 3 => 3 | 39 => 32 | 0 => 0 | 53 => 139 | 55 => 141 | 4 => 4 | 46 => 132 | 45 => 131 | 50 => 136 | 5 => 5 | 9 => 9 | 66 => 156 | 70 => 160 | 76 => 175 | 77 => 176 | n => n, fun | n => n⟩
theorem sortLayI : Go.Proofs.SlLaysF.n6 Tryz.prog sortLayI_ren := {
  mixed := by kernel_rfl
  f6 := ⟨Tryz.f83.name, by decide, Tryz.func83.trans (congrArg some (by kernel_rfl))⟩
  f14 := ⟨Tryz.f108.name, by decide, Tryz.func108.trans (congrArg some (by kernel_rfl))⟩
  f15 := Tryz.func48.trans (congrArg some (by kernel_rfl))
  f20 := ⟨Tryz.f120.name, by decide, Tryz.func120.trans (congrArg some (by kernel_rfl))⟩
  f21 := ⟨Tryz.f121.name, by decide, Tryz.func121.trans (congrArg some (by kernel_rfl))⟩
  f22 := ⟨Tryz.f122.name, by decide, Tryz.func122.trans (congrArg some (by kernel_rfl))⟩
  f23 := ⟨Tryz.f123.name, by decide, Tryz.func123.trans (congrArg some (by kernel_rfl))⟩
  f24 := ⟨Tryz.f124.name, by decide, Tryz.func124.trans (congrArg some (by kernel_rfl))⟩
  f25 := ⟨Tryz.f125.name, by decide, Tryz.func125.trans (congrArg some (by kernel_rfl))⟩
  f26 := ⟨Tryz.f126.name, by decide, Tryz.func126.trans (congrArg some (by kernel_rfl))⟩
  f27 := ⟨Tryz.f127.name, by decide, Tryz.func127.trans (congrArg some (by kernel_rfl))⟩
  f28 := Tryz.func80.trans (congrArg some (by kernel_rfl))
  f29 := Tryz.func81.trans (congrArg some (by kernel_rfl))
  f46 := ⟨Tryz.f135.name, by decide, Tryz.func135.trans (congrArg some (by kernel_rfl))⟩
  f47 := Tryz.func104.trans (congrArg some (by kernel_rfl))
  f48 := Tryz.func105.trans (congrArg some (by kernel_rfl))
  f49 := ⟨Tryz.f136.name, by decide, Tryz.func136.trans (congrArg some (by kernel_rfl))⟩
  f50 := ⟨Tryz.f137.name, by decide, Tryz.func137.trans (congrArg some (by kernel_rfl))⟩
  f57 := ⟨Tryz.f142.name, by decide, Tryz.func142.trans (congrArg some (by kernel_rfl))⟩
  t0 := Tryz.underlying0
  a0 := Tryz.isAgg0
  z0 := Tryz.sizeOf0
  v0 := Tryz.zeroValue0
  t3 := Tryz.underlying3
  a3 := Tryz.isAgg3
  z3 := Tryz.sizeOf3
  v3 := Tryz.zeroValue3
  t4 := Tryz.underlying4
  a4 := Tryz.isAgg4
  z4 := Tryz.sizeOf4
  v4 := Tryz.zeroValue4
  t5 := Tryz.underlying5
  a5 := Tryz.isAgg5
  z5 := Tryz.sizeOf5
  v5 := Tryz.zeroValue5
  t9 := Tryz.underlying9
  a9 := Tryz.isAgg9
  z9 := Tryz.sizeOf9
  v9 := Tryz.zeroValue9
  t22 := Tryz.underlying67
  a22 := Tryz.isAgg67
  z22 := Tryz.sizeOf67
  v22 := Tryz.zeroValue67
  a24 := Tryz.isAgg3
  z24 := Tryz.sizeOf3
  t25 := Tryz.underlying41
  a25 := Tryz.isAgg41
  z25 := Tryz.sizeOf41
  v25 := Tryz.zeroValue41
  t39 := Tryz.underlying32
  a39 := Tryz.isAgg32
  z39 := Tryz.sizeOf32
  v39 := Tryz.zeroValue32
  t45 := Tryz.underlying131
  a45 := Tryz.isAgg131
  z45 := Tryz.sizeOf131
  v45 := Tryz.zeroValue131
  t46 := Tryz.underlying132
  a46 := Tryz.isAgg132
  z46 := Tryz.sizeOf132
  v46 := Tryz.zeroValue132
  t50 := Tryz.underlying136
  a50 := Tryz.isAgg136
  z50 := Tryz.sizeOf136
  v50 := Tryz.zeroValue136
  t53 := Tryz.underlying139
  a53 := Tryz.isAgg139
  z53 := Tryz.sizeOf139
  v53 := Tryz.zeroValue139
  t55 := Tryz.underlying141
  a55 := Tryz.isAgg141
  z55 := Tryz.sizeOf141
  v55 := Tryz.zeroValue141
  t66 := Tryz.underlying156
  a66 := Tryz.isAgg156
  z66 := Tryz.sizeOf156
  v66 := Tryz.zeroValue156
  t70 := Tryz.underlying160
  a70 := Tryz.isAgg160
  z70 := Tryz.sizeOf160
  v70 := Tryz.zeroValue160
  t76 := Tryz.underlying175
  a76 := Tryz.isAgg175
  z76 := Tryz.sizeOf175
  v76 := Tryz.zeroValue175
  t77 := Tryz.underlying176
  a77 := Tryz.isAgg176
  z77 := Tryz.sizeOf176
  v77 := Tryz.zeroValue176 }
end Go.Proofs.YtnlhllleipemlaaGreatDoor

namespace Go.Proofs.YtnlhllleipemlaaGreatDoor
open Go.RowKit Go.Sort Go.Lib

section
variable {α : Type} [Inhabited α] {enc : α → List Value} {k : Nat}
omit [Inhabited α] in
theorem flatMap_len (hk : ∀ x, (enc x).length = k) (l : List α) : (l.flatMap enc).length = l.length * k := by
  induction l with
  | nil => simp
  | cons a l ih => rw [List.flatMap_cons, List.length_append, ih, hk, List.length_cons, Nat.add_mul]; omega
theorem flatMap_get (hk : ∀ x, (enc x).length = k) (l : List α) (t : Nat) (h : t < l.length * k) : (l.flatMap enc)[t]? = some (enc (l.toArray[t / k]!))[t % k]! := by
  have k0 : 0 < k := by
    rcases Nat.eq_zero_or_pos k with h0 | h0
    · subst h0; simp at h
    · exact h0
  induction l generalizing t with
  | nil => simp at h
  | cons a l ih =>
    rw [List.flatMap_cons]
    by_cases hlt : t < k
    · rw [List.getElem?_append_left (by rw [hk]; exact hlt), Nat.div_eq_of_lt hlt, Nat.mod_eq_of_lt hlt]
      rw [List.getElem?_eq_getElem (by rw [hk]; exact hlt)]
      simp [getElem!_pos, hk, hlt]
    · rw [List.getElem?_append_right (by rw [hk]; omega), hk]
      have h' : t - k < l.length * k := by rw [List.length_cons, Nat.add_mul] at h; omega
      rw [ih (t - k) h']
      have e1 : t / k = (t - k) / k + 1 := by rw [← Nat.add_div_right _ k0]; congr 1; omega
      have e2 : t % k = (t - k) % k := by rw [← Nat.add_mod_right (t - k) k]; congr 1; omega
      rw [e1, e2]
      have hd : (t - k) / k < l.length := Nat.div_lt_of_lt_mul (by rw [Nat.mul_comm]; exact h')
      simp [getElem!_pos, hd]
theorem flatK_list (hk : ∀ x, (enc x).length = k) (l : List α) : (flatK enc k l.toArray).toList = l.flatMap enc := by
  apply List.ext_getElem?
  intro t
  by_cases h : t < l.length * k
  · rw [flatMap_get hk l t h]
    have hs : t < (flatK enc k l.toArray).size := by rw [size_flatK]; simpa using h
    rw [Array.getElem?_toList, Array.getElem?_eq_getElem hs, ← get_flatK enc k l.toArray t (by simpa using h), getElem!_pos _ t hs]
  · rw [List.getElem?_eq_none (l := l.flatMap enc) (by rw [flatMap_len hk]; omega), Array.getElem?_toList, Array.getElem?_eq_none (by rw [size_flatK]; simpa using h)]
theorem holdsK_of_row (hk : ∀ x, (enc x).length = k) {w : World} {g : Nat} {cur : Array Value} {e : TypeId} {l : List α} (hb : w.heap[g]? = some (.cells cur e (0, 0))) (ht : cur.toList.take (l.length * k) = l.flatMap enc) :
    HoldsK enc k w g 0 l.toArray := by
  intro j hj
  rw [size_flatK] at hj
  have hj' : j < l.length * k := by simpa using hj
  refine ⟨?_, by simp [World.frozen?, hb]⟩
  have h1 : (cur.toList.take (l.length * k))[j]? = (l.flatMap enc)[j]? := by rw [ht]
  rw [List.getElem?_take_of_lt hj', flatMap_get hk l j hj'] at h1
  simp only [World.cell?, hb, Nat.zero_add]
  simp only [Option.isSome_none, Bool.false_eq_true, if_false]
  rw [← Array.getElem?_toList, h1, get_flatK enc k l.toArray j (by simpa using hj')]
  rfl
theorem heap_sortedK {w : World} {g n : Nat} {os : Array Obj} {cur : Array Value} {e : TypeId} {fr : Nat × Nat} (d : Array α) (hb : w.heap[g]? = some (.cells cur e fr)) :
    (sortWorldK enc k w g 0 n d os).heap[g]? = some (.cells (putCells id 0 (flatK enc k d) cur) e fr) := by
  have hg : g < w.heap.size := (Array.getElem?_eq_some_iff.1 hb).1
  unfold sortWorldK putRowK
  rw [heap_grow_old _ _ (by simpa using hg)]
  simp [putRow, mapBlock, Sort.ahead, Array.getElem?_modify, hb, onCells]
theorem grownBy_sortedK {w : World} {g n : Nat} {os : Array Obj} (d : Array α) : w.grownBy (sortWorldK enc k w g 0 n d os) (some g) := by
  unfold sortWorldK putRowK
  refine ⟨rfl, rfl, rfl, by simp, fun j hj hne => ?_⟩
  rw [heap_grow_old _ _ (by simpa using hj)]
  have : g ≠ j := fun e => hne (by rw [e])
  simp [putRow, mapBlock, Sort.ahead, Array.getElem?_modify, this]
theorem take_putCellsK (cur F : Array Value) (h : F.size ≤ cur.size) : (putCells id 0 F cur).toList.take F.size = F.toList := by
  apply List.ext_getElem?
  intro j
  by_cases hj : j < F.size
  · rw [List.getElem?_take_of_lt hj, Array.getElem?_toList]
    simp [putCells, hj, show j < cur.size by omega]
  · rw [List.getElem?_take_eq_none (by omega), List.getElem?_eq_none (by simp; omega)]
/-- Behind the sort the same slice owns the other list. -/
theorem ownsRow_sortedK (hk : ∀ x, (enc x).length = k) {w : World} {base g cap m : Nat} {e : TypeId} {os : Array Obj} {cur : Array Value} {l t : List α} (hl : t.length = l.length) (hbase : base ≤ g) (hb : w.heap[g]? = some (.cells cur e (0, 0)))
    (h1 : l.length ≤ cap) (h2 : cap ≤ maxLen) (h3 : cur.size = cap * k) :
    (sortWorldK enc k w g 0 m t.toArray os).ownsRow base e k (.slice (some ⟨g, 0, none⟩) l.length cap) l.length (t.flatMap enc) := by
  have hF : (flatK enc k t.toArray).size = l.length * k := by rw [size_flatK]; simp [hl]
  refine ⟨by rw [flatMap_len hk, hl], .inr ⟨g, cap, _, rfl, hbase, heap_sortedK _ hb, h1, h2, by simp [putCells, h3], ?_⟩⟩
  rw [← hF, take_putCellsK _ _ (by rw [hF, h3]; exact Nat.mul_le_mul_right _ h1), flatK_list hk]
end
end Go.Proofs.YtnlhllleipemlaaGreatDoor
