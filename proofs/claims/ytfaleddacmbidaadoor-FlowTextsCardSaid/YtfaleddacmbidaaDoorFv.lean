/- A field as a value in memory; a world that is only known to have grown; regions that draw their order over such worlds. -/
import Derived.Test.YtfaleddacmbidaaDoorMem
import Derived.Test.YtfaleddacmbidaaDoorPl
namespace Go.Proofs.YtfaleddacmbidaaDoor
open Go.RowKit Go.Sort

def ints (zs : List Int) : List Value := zs.map (Value.int .i64)
def ecells (e : Edg) : List Value := [.int .i64 e.1, .int .i64 e.2.1, .int .i64 e.2.2]
def edgs (es : List Edg) : List Value := es.flatMap ecells
abbrev eval_ (e : Edg) : Value := .agg #[.int .i64 e.1, .int .i64 e.2.1, .int .i64 e.2.2]

theorem ints_length (zs : List Int) : (ints zs).length = zs.length := by simp [ints]
theorem ints_get {zs : List Int} {k : Nat} (h : k < zs.length) : (ints zs)[k]? = some (.int .i64 (zs.getD k 0)) := by
  simp [ints, List.getD_eq_getElem?_getD, List.getElem?_eq_getElem h]
theorem edgs_length (es : List Edg) : (edgs es).length = es.length * 3 := by
  induction es with
  | nil => rfl
  | cons e l ih =>
    show (ecells e ++ edgs l).length = _
    rw [List.length_append, ih]; simp [ecells]; omega
theorem edgs_get {es : List Edg} {k : Nat} (h : k < es.length) :
    (edgs es)[k * 3]? = some (.int .i64 (es.getD k (0, 0, 0)).1) ∧ (edgs es)[k * 3 + 1]? = some (.int .i64 (es.getD k (0, 0, 0)).2.1) ∧ (edgs es)[k * 3 + 2]? = some (.int .i64 (es.getD k (0, 0, 0)).2.2) := by
  induction es generalizing k with
  | nil => simp at h
  | cons e l ih =>
    have hl : (ecells e).length = 3 := rfl
    show (ecells e ++ edgs l)[k * 3]? = _ ∧ (ecells e ++ edgs l)[k * 3 + 1]? = _ ∧ (ecells e ++ edgs l)[k * 3 + 2]? = _
    cases k with
    | zero => exact ⟨rfl, rfl, rfl⟩
    | succ k =>
      have := ih (k := k) (by simpa using h)
      rw [List.getElem?_append_right (by omega), List.getElem?_append_right (by omega), List.getElem?_append_right (by omega), hl]
      rw [show (k + 1) * 3 - 3 = k * 3 by omega, show (k + 1) * 3 + 1 - 3 = k * 3 + 1 by omega, show (k + 1) * 3 + 2 - 3 = k * 3 + 2 by omega]
      simpa using this
theorem edgs_append (a b : List Edg) : edgs (a ++ b) = edgs a ++ edgs b := by simp [edgs]
theorem ints_append (a b : List Int) : ints (a ++ b) = ints a ++ ints b := by simp [ints]
theorem edgs_one (es : List Edg) : ∀ u ∈ edgs es, u.oneCell' = true := by
  intro u hu
  simp only [edgs, List.mem_flatMap, ecells, List.mem_cons, List.not_mem_nil, or_false] at hu
  obtain ⟨e, _, rfl | rfl | rfl⟩ := hu <;> rfl
theorem ints_one (zs : List Int) : ∀ u ∈ ints zs, u.oneCell' = true := ints_oneCell _ _

theorem add_pos (a : Addr) (n : Nat) (h : 0 < n) : a.add n = ⟨a.block, a.off + n, none⟩ := by
  unfold Addr.add
  rw [if_neg (by omega)]
structure FV where
  f : Fld
  A : Option Addr
  B : Option Addr
  n : Nat
  c : Nat
  m : Nat
  d : Nat
abbrev FV.val (v : FV) : Value := .agg #[.int .i64 v.f.W, .int .i64 v.f.H, .slice v.A v.n v.c, .slice v.B v.m v.d]

structure FV.In (v : FV) (w : World) : Prop where
  ds : Reads w w.heap.size 1 v.A v.n (ints v.f.ds)
  ps : Reads w w.heap.size 3 v.B v.m (edgs v.f.ps)
  nb : v.n ≤ 9223372036854775807
  mb : v.m ≤ 9223372036854775807

section
variable {v : FV} {w w' : World}
theorem FV.In.len (h : v.In w) : v.n = v.f.ds.length := by have := h.ds.1; rw [ints_length] at this; omega
theorem FV.In.lenp (h : v.In w) : v.m = v.f.ps.length := by have := h.ps.1; rw [edgs_length] at this; omega
theorem FV.In.below (h : v.In w) (hb : Below w.heap.size w w') : v.In w' := ⟨(h.ds.below hb).more hb.size, (h.ps.below hb).more hb.size, h.nb, h.mb⟩
theorem psat {w : World} {B : Nat} {A : Option Addr} {m : Nat} {es : List Edg} (h : Reads w B 3 A m (edgs es)) {k : Nat} (hk : k < es.length) :
    ∃ ad e, A = some ad ∧ ad.block < B ∧ es[k]? = some e ∧ w.cell? (ad.add (k * 3)) = some (.int .i64 e.1) ∧
    w.cell? ⟨(ad.add (k * 3)).block, (ad.add (k * 3)).off + 1, none⟩ = some (.int .i64 e.2.1) ∧ w.cell? ⟨(ad.add (k * 3)).block, (ad.add (k * 3)).off + 2, none⟩ = some (.int .i64 e.2.2) := by
  have hl := h.1
  rw [edgs_length] at hl
  obtain ⟨ad, e, hb, hc⟩ := h.2 (by omega)
  obtain ⟨g0, g1, g2⟩ := edgs_get hk
  have hx : es.getD k (0, 0, 0) = es[k] := by simp [List.getD_eq_getElem?_getD, List.getElem?_eq_getElem hk]
  rw [hx] at g0 g1 g2
  have e1 := hc _ _ g1
  have e2 := hc _ _ g2
  rw [← add_of_add ad (k * 3) 1, add_pos _ _ (by omega)] at e1
  rw [← add_of_add ad (k * 3) 2, add_pos _ _ (by omega)] at e2
  exact ⟨ad, es[k], e, hb, List.getElem?_eq_getElem hk, hc _ _ g0, e1, e2⟩
theorem dsat {w : World} {B : Nat} {A : Option Addr} {n : Nat} {ds : List Int} (h : Reads w B 1 A n (ints ds)) {k : Nat} (hk : k < ds.length) :
    ∃ ad z, A = some ad ∧ ad.block < B ∧ ds[k]? = some z ∧ w.cell? (ad.add k) = some (.int .i64 z) := by
  have hl := h.1
  rw [ints_length] at hl
  obtain ⟨ad, e, hb, hc⟩ := h.2 (by omega)
  refine ⟨ad, ds[k], e, hb, List.getElem?_eq_getElem hk, hc k _ ?_⟩
  rw [ints_get hk]
  simp [List.getD_eq_getElem?_getD, List.getElem?_eq_getElem hk]
theorem FV.In.psAt (h : v.In w) {k : Nat} (hk : k < v.f.ps.length) : ∃ ad e, v.B = some ad ∧ ad.block < w.heap.size ∧ v.f.ps[k]? = some e ∧ w.cell? (ad.add (k * 3)) = some (.int .i64 e.1) ∧
    w.cell? ⟨(ad.add (k * 3)).block, (ad.add (k * 3)).off + 1, none⟩ = some (.int .i64 e.2.1) ∧ w.cell? ⟨(ad.add (k * 3)).block, (ad.add (k * 3)).off + 2, none⟩ = some (.int .i64 e.2.2) :=
  psat h.ps hk
theorem FV.In.dsAt (h : v.In w) {k : Nat} (hk : k < v.f.ds.length) : ∃ ad z, v.A = some ad ∧ ad.block < w.heap.size ∧ v.f.ds[k]? = some z ∧ w.cell? (ad.add k) = some (.int .i64 z) := dsat h.ds hk
theorem FV.In.l1 (h : v.In w) : v.n ≤ v.f.ds.length ∧ v.f.ds.length ≤ v.n := by have := h.len; omega
theorem FV.In.l2 (h : v.In w) : v.m ≤ v.f.ps.length ∧ v.f.ps.length ≤ v.m := by have := h.lenp; omega
end

/-- The walk at hand, from a world of which only F is known. -/
theorem wp_gen {P : Program} {c : Code} {Q : Exit → Act → World → Prop} {a : Act} {w : World} (F : World → Prop) (hF : F w) (h : ∀ w1, F w1 → c.wp P Q a w1) : c.wp P Q a w := h w hF

theorem add_off (ad : Addr) (i j : Nat) : (ad.add i).add j = ad.add (i + j) := add_of_add ad i j

/-- A block's cells in every world that has grown from this one. -/
theorem rg_cells {w : World} {b : Nat} {cs : Array Value} (h : ∀ i, w.cell? ⟨b, i, none⟩ = cs[i]?) (hb : b < w.heap.size) (d : Nat) (os : Array Obj) (i : Nat) : (grow (redrawn w d) os).cell? ⟨b, i, none⟩ = cs[i]? :=
  ((below_regrown w d os).cell hb).trans (h i)
theorem rg_cell {w : World} {a : Addr} {v : Value} (h : w.cell? a = some v) (d : Nat) (os : Array Obj) : (grow (redrawn w d) os).cell? a = some v := cell_regrown h d os
/-- The region's law: behind it the world has only grown. -/
theorem wp_region_qb {P : Program} {id : Nat} {Q : Exit → Act → World → Prop} {a : Act} {w : World} {l : List Oper} (hm : P.follows .mixedOrders = true) (hB : Region.lexB .any l.toArray = true)
    (h : wpQuiet P l.toArray (fun w' => ∃ p : Regrown, w' = grow (redrawn w p.d) p.os) (fun a' => ∀ w', Below w.heap.size w w' → Q .normal a' w') l a) : (Code.region id l.toArray true).wp P Q a w := by
  refine wp_region_quiet_below hm hB ?_
  have hmono : ∀ (l' : List Oper) (a' : Act), wpQuiet P l.toArray (fun w' => ∃ p : Regrown, w' = grow (redrawn w p.d) p.os) (fun a' => ∀ w', Below w.heap.size w w' → Q .normal a' w') l' a' →
      wpQuiet P l.toArray (fun w' => ∃ p : Regrown, w' = grow (redrawn w p.d) p.os) (fun a' => ∀ w', (∃ p : Regrown, w' = grow (redrawn w p.d) p.os) → Q .normal a' w') l' a' := by
    intro l'
    induction l' with
    | nil =>
      intro a' h w' ⟨p, hp⟩
      exact h w' (hp ▸ below_regrown w p.d p.os)
    | cons o l' ih =>
      intro a' h
      unfold wpQuiet at h ⊢
      split
      · rename_i hw
        rw [if_pos hw] at h
        exact Oper.quiet_mono (fun a hh => ih a hh) h
      · rename_i hw
        rw [if_neg hw] at h
        exact ih _ h
  exact hmono l a h
/-- A callee that leaves a grown world, met in a grown world. -/
theorem rg_call {P : Program} {f : FuncId} {args : Array Value} {w : World} {v : Value}
    (h : ∀ w1, Below w.heap.size w w1 → Calls P f args w1 fun e w' => e = .returned v ∧ Below w1.heap.size w1 w') (d : Nat) (os : Array Obj) :
    Calls P f args (grow (redrawn w d) os) fun e w'' => e = .returned v ∧ ∃ p : Regrown, w'' = grow (redrawn w p.d) p.os :=
  Calls.regrown_of (h _ (below_regrown w d os))
theorem below_trans' {a b c : World} (h : Below a.heap.size a b) (k : Below b.heap.size b c) : Below a.heap.size a c := h.trans (k.mono h.size)
theorem below_alloc (w : World) (o : Obj) : Below w.heap.size w (w.alloc o) := (Below.refl _ _).alloc (Nat.le_refl _) o
theorem below_drewN' {B : Nat} {a w : World} (h : Below B a w) (n : Nat) : Below B a (w.drewN n) := ⟨h.os, h.tape, h.output, h.size, h.block⟩
theorem ret_bool {a b : Bool} (h : a = b) : Ending.returned (.bool a) = .returned (.bool b) := by rw [h]
theorem ret_int {k : IntKind} {a b : Int} (h : a = b) : Ending.returned (.int k a) = .returned (.int k b) := by rw [h]
theorem bcell {W w1 : World} (hb : Below W.heap.size W w1) : (∀ b o, b < W.heap.size → w1.cell? ⟨b, o, none⟩ = W.cell? ⟨b, o, none⟩) ∧ (∀ b o, b < W.heap.size → w1.frozen? ⟨b, o, none⟩ = W.frozen? ⟨b, o, none⟩) :=
  ⟨fun b o h => hb.cell (p := ⟨b, o, none⟩) h, fun b o h => hb.frozen (p := ⟨b, o, none⟩) h⟩

/-- Block b is there and its cells read so. -/
def Box (w : World) (b : Nat) (cs : Array Value) : Prop := b < w.heap.size ∧ ∀ i, w.cell? ⟨b, i, none⟩ = cs[i]?
section
variable {w w' : World} {b : Nat} {cs : Array Value}
theorem Box.at (h : Box w b cs) : ∀ i, w.cell? ⟨b, i, none⟩ = cs[i]? := h.2
theorem Box.new (w : World) (cs : Array Value) (t : TypeId) : Box (w.alloc (.cells cs t)) w.heap.size cs := ⟨by simp, fun i => cell_of_row _ _ i cs t (0, 0) (heap_alloc_new w _)⟩
theorem Box.below (h : Box w b cs) (hb : Below w.heap.size w w') : Box w' b cs := ⟨Nat.lt_of_lt_of_le h.1 hb.size, fun i => (hb.cell (p := ⟨b, i, none⟩) h.1).trans (h.2 i)⟩
theorem Box.alloc (h : Box w b cs) (o : Obj) : Box (w.alloc o) b cs := h.below (below_alloc w o)
theorem Box.drewN (h : Box w b cs) (n : Nat) : Box (w.drewN n) b cs := h
theorem Box.drew (h : Box w b cs) : Box w.drew b cs := h
theorem Box.rg (h : Box w b cs) : ∀ (d : Nat) (os : Array Obj) (i : Nat), (grow (redrawn w d) os).cell? ⟨b, i, none⟩ = cs[i]? := fun d os i => rg_cells h.2 h.1 d os i
end
theorem Box.new2 (w : World) (cs ds : Array Value) (t u : TypeId) : Box ((w.alloc (.cells cs t)).alloc (.cells ds u)) (w.heap.size + 1) ds := by
  have := Box.new (w.alloc (.cells cs t)) ds u
  simpa using this
theorem reads_new (w : World) (xs : List Value) (t : TypeId) (size n : Nat) (h : xs.length = n * size) : Reads (w.alloc (.cells xs.toArray t)) (w.alloc (.cells xs.toArray t)).heap.size size (some ⟨w.heap.size, 0, none⟩) n xs := by
  refine ⟨h, fun _ => ⟨_, rfl, by simp, fun j u hu => ?_⟩⟩
  have e : (⟨w.heap.size, 0, none⟩ : Addr).add j = ⟨w.heap.size, j, none⟩ := by
    unfold Addr.add
    split
    · rename_i h0; rw [h0]
    · simp
  rw [e, (Box.new w xs.toArray t).at]
  simpa using hu
theorem below1 {w w' : World} (o : Obj) (h : Below (w.alloc o).heap.size (w.alloc o) w') : Below w.heap.size w w' := below_trans' (below_alloc w o) h
theorem below2 {w w' : World} (o u : Obj) (h : Below ((w.alloc o).alloc u).heap.size ((w.alloc o).alloc u) w') : Below w.heap.size w w' := below1 o (below1 u h)
theorem belowA (w : World) (o : Obj) : Below w.heap.size w (w.alloc o) := below_alloc w o
theorem belowAA (w : World) (o u : Obj) : Below w.heap.size w ((w.alloc o).alloc u) := below2 o u (Below.refl _ _)
end Go.Proofs.YtfaleddacmbidaaDoor
