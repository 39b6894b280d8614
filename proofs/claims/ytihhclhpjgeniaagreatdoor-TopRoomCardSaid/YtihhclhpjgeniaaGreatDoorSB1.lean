/- Merged texts: Ca -/
import Derived.WalkKit
import Derived.WalkSpells
import Derived.Below
import Derived.Laws.OwnMore
import Derived.Deep.AppendLies
import Derived.Deep.Draws
import Derived.Deep.OwnRows
import Derived.Laws.Rows
import Derived.Laws.AppendOwn
import Derived.Maps.AppendAt
import Derived.RegionTactic
import Derived.OwnWalk
import Derived.Lib.Hide
import Derived.Lib.QuietBelow
import Derived.Deep.QuietTactic
import Derived.BigQuiet
import Derived.ChangeSame
import Derived.Laws.MakeOwn
import Derived.Laws.Entries
import Derived.Deep.Light
import Derived.Deep.RegionHeld3
import Derived.StillTailTactics
import Derived.Deep.DeepFit
import Derived.Deep.DeepCutAuto
import Derived.Deep.RegionLaw
import Derived.ArgAppend
import Derived.WalkMore
import Derived.Test.YtihhclhpjgeniaaGreatDoorProg
namespace Go.Proofs.YtihhclhpjgeniaaGreatDoor
open Go.RowKit
theorem add_of_add (p : Addr) (i j : Nat) : (p.add i).add j = p.add (i + j) := by
 rcases Nat.eq_zero_or_pos j with rfl | hj
 ·rfl
 rcases Nat.eq_zero_or_pos i with rfl | hi
 ·rw [Nat.zero_add]; rfl
 have h1 : i ≠ 0 := by omega
 have h2 : j ≠ 0 := by omega
 have h3 : i + j ≠ 0 := by omega
 simp only [Addr.add, h1, h2, h3, if_false, Nat.add_assoc]
theorem blockAdd (p : Addr) (i : Nat) : (p.add i).block = p.block := by
 simp only [Addr.add]
 split <;> rfl
structure Reads (w : World) (B size : Nat) (A : Option Addr) (n : Nat) (xs : List Value) : Prop where
 len : xs.length = n * size
 look : 0 < n → ∃ p, A = some p ∧ p.block < B ∧ ∀ j u, xs[j]? = some u → w.cell? (p.add j) = some u
namespace Reads
variable {w w' : World} {B B' size n : Nat} {A : Option Addr} {xs : List Value}
theorem nil : Reads w B size A 0 [] := ⟨by simp, fun h => by omega⟩
theorem kept (h : Reads w B size A n xs) (hk : ∀ p : Addr, p.block < B → w'.cell? p = w.cell? p) : Reads w' B size A n xs := by
 refine ⟨h.len, fun h0 => ?_⟩
 obtain ⟨p, hp, hB, hc⟩ := h.look h0
 refine ⟨p, hp, hB, fun j u hj => ?_⟩
 rw [hk _ (by rw [blockAdd]; exact hB)]
 exact hc j u hj
theorem more (h : Reads w B size A n xs) (hB : B ≤ B') : Reads w B' size A n xs := by
 refine ⟨h.len, fun h0 => ?_⟩
 obtain ⟨p, hp, hlt, hc⟩ := h.look h0
 exact ⟨p, hp, Nat.lt_of_lt_of_le hlt hB, hc⟩
theorem below (h : Reads w B size A n xs) (hb : Below B w w') : Reads w' B size A n xs := kept h fun _ hp => hb.cell hp
theorem on (h : Reads w w.heap.size size A n xs) (hb : Below w.heap.size w w') : Reads w' w'.heap.size size A n xs := (h.below hb).more hb.size
theorem drew (h : Reads w B size A n xs) : Reads w.drew B size A n xs := h.kept fun _ _ => rfl
theorem of_own {base : Nat} {e : TypeId} {c : Nat} (h : w.ownsRow base e size (.slice A n c) n xs) : Reads w w.heap.size size A n xs := by
 refine ⟨h.1, fun h0 => ?_⟩
 obtain ⟨g, cap, hv, _, hlt⟩ := h.form h0
 obtain ⟨rfl, _, _⟩ : A = some ⟨g, 0, none⟩ ∧ n = n ∧ c = cap := by injection hv with e1 e2 e3; exact ⟨e1, rfl, e3⟩
 exact ⟨⟨g, 0, none⟩, rfl, hlt, h.cells rfl⟩
theorem take (h : Reads w B size A n xs) {k : Nat} (hk : k ≤ n) : Reads w B size A k (xs.take (k * size)) := by
 constructor
 ·rw [List.length_take, h.len]; exact Nat.min_eq_left (Nat.mul_le_mul_right _ hk)
 ·intro h0
  obtain ⟨p, hp, hB, hcell⟩ := h.look (by omega)
  refine ⟨p, hp, hB, fun j u hj => hcell j u ?_⟩
  rw [List.getElem?_take] at hj
  split at hj
  ·exact hj
  ·cases hj
end Reads
open Go.Sort
def ints (zs : List Int) : List Value := zs.map (Value.int .i64)
theorem ints_length (zs : List Int) : (ints zs).length = zs.length := by simp [ints]
theorem ints_get {zs : List Int} {k : Nat} (h : k < zs.length) : (ints zs)[k]? = some (.int .i64 (zs.getD k 0)) := by
 simp [ints, List.getD_eq_getElem?_getD, List.getElem?_eq_getElem h]
theorem ints_append (a b : List Int) : ints (a ++ b) = ints a ++ ints b := by simp [ints]
theorem ints_one (zs : List Int) : ∀ u ∈ ints zs, u.oneCell' = true := ints_oneCell _ _
theorem add_pos (a : Addr) (n : Nat) (h : 0 < n) : a.add n = ⟨a.block, a.off + n, none⟩ := by
 unfold Addr.add
 rw [if_neg (by omega)]
theorem dsat {w : World} {B : Nat} {A : Option Addr} {n : Nat} {ds : List Int} (h : Reads w B 1 A n (ints ds)) {k : Nat} (hk : k < ds.length) :
  ∃ ad z, A = some ad ∧ ad.block < B ∧ ds[k]? = some z ∧ w.cell? (ad.add k) = some (.int .i64 z) := by
 have hl := h.1
 rw [ints_length] at hl
 obtain ⟨ad, e, hb, hc⟩ := h.2 (by omega)
 refine ⟨ad, ds[k], e, hb, List.getElem?_eq_getElem hk, hc k _ ?_⟩
 rw [ints_get hk]
 simp [List.getD_eq_getElem?_getD, List.getElem?_eq_getElem hk]
theorem wp_gen {P : Program} {c : Code} {Q : Exit → Act → World → Prop} {a : Act} {w : World} (F : World → Prop) (hF : F w) (h : ∀ w1, F w1 → c.wp P Q a w1) : c.wp P Q a w := h w hF
theorem rg_cells {w : World} {b : Nat} {cs : Array Value} (h : ∀ i, w.cell? ⟨b, i, none⟩ = cs[i]?) (hb : b < w.heap.size) (d : Nat) (os : Array Obj) (i : Nat) : (grow (redrawn w d) os).cell? ⟨b, i, none⟩ = cs[i]? :=
 ((below_regrown w d os).cell hb).trans (h i)
theorem rg_cell {w : World} {a : Addr} {v : Value} (h : w.cell? a = some v) (d : Nat) (os : Array Obj) : (grow (redrawn w d) os).cell? a = some v := cell_regrown h d os
theorem wp_region_qb {P : Program} {id : Nat} {Q : Exit → Act → World → Prop} {a : Act} {w : World} {l : List Oper} (hm : P.follows .mixedOrders = true) (hB : Region.lexB .any l.toArray = true)
  (h : wpQuiet P l.toArray (fun w' => ∃ p : Regrown, w' = grow (redrawn w p.d) p.os) (fun a' => ∀ w', Below w.heap.size w w' → Q .normal a' w') l a) : (Code.region id l.toArray true).wp P Q a w := by
 refine wp_region_quiet_below hm hB ?_
 have hmono : ∀ (l' : List Oper) (a' : Act), wpQuiet P l.toArray (fun w' => ∃ p : Regrown, w' = grow (redrawn w p.d) p.os) (fun a' => ∀ w', Below w.heap.size w w' → Q .normal a' w') l' a' →
   wpQuiet P l.toArray (fun w' => ∃ p : Regrown, w' = grow (redrawn w p.d) p.os) (fun a' => ∀ w', (∃ p : Regrown, w' = grow (redrawn w p.d) p.os) → Q .normal a' w') l' a' := by
  intro l'
  induction l' with
  | nil =>
   intro a' h w' ⟨p, hp⟩
   exact h w' (hp ▸ below_regrown w p.d p.os)
  | cons o l' ih =>
   intro a' h
   unfold wpQuiet at h ⊢
   split
   ·rename_i hw
    rw [if_pos hw] at h
    exact Oper.quiet_mono (fun a hh => ih a hh) h
   ·rename_i hw
    rw [if_neg hw] at h
    exact ih _ h
 exact hmono l a h
theorem rg_call {P : Program} {f : FuncId} {args : Array Value} {w : World} {v : Value}
  (h : ∀ w1, Below w.heap.size w w1 → Calls P f args w1 fun e w' => e = .returned v ∧ Below w1.heap.size w1 w') (d : Nat) (os : Array Obj) :
  Calls P f args (grow (redrawn w d) os) fun e w'' => e = .returned v ∧ ∃ p : Regrown, w'' = grow (redrawn w p.d) p.os :=
 Calls.regrown_of (h _ (below_regrown w d os))
theorem below_trans' {a b c : World} (h : Below a.heap.size a b) (k : Below b.heap.size b c) : Below a.heap.size a c := h.trans (k.mono h.size)
theorem below_alloc (w : World) (o : Obj) : Below w.heap.size w (w.alloc o) := (Below.refl _ _).alloc (Nat.le_refl _) o
theorem below_drewN' {B : Nat} {a w : World} (h : Below B a w) (n : Nat) : Below B a (w.drewN n) := ⟨h.os, h.tape, h.output, h.size, h.block⟩
theorem ret_bool {a b : Bool} (h : a = b) : Ending.returned (.bool a) = .returned (.bool b) := by rw [h]
theorem ret_int {k : IntKind} {a b : Int} (h : a = b) : Ending.returned (.int k a) = .returned (.int k b) := by rw [h]
def Box (w : World) (b : Nat) (cs : Array Value) : Prop := b < w.heap.size ∧ ∀ i, w.cell? ⟨b, i, none⟩ = cs[i]?
section
variable {w w' : World} {b : Nat} {cs : Array Value}
theorem Box.at (h : Box w b cs) : ∀ i, w.cell? ⟨b, i, none⟩ = cs[i]? := h.2
theorem Box.new (w : World) (cs : Array Value) (t : TypeId) : Box (w.alloc (.cells cs t)) w.heap.size cs := ⟨by simp, fun i => cell_of_row _ _ i cs t (0, 0) (heap_alloc_new w _)⟩
theorem Box.below (h : Box w b cs) (hb : Below w.heap.size w w') : Box w' b cs := ⟨Nat.lt_of_lt_of_le h.1 hb.size, fun i => (hb.cell (p := ⟨b, i, none⟩) h.1).trans (h.2 i)⟩
theorem Box.alloc (h : Box w b cs) (o : Obj) : Box (w.alloc o) b cs := h.below (below_alloc w o)
theorem Box.drew (h : Box w b cs) : Box w.drew b cs := h
theorem Box.rg (h : Box w b cs) : ∀ (d : Nat) (os : Array Obj) (i : Nat), (grow (redrawn w d) os).cell? ⟨b, i, none⟩ = cs[i]? := fun d os i => rg_cells h.2 h.1 d os i
end
theorem Box.new2 (w : World) (cs ds : Array Value) (t u : TypeId) : Box ((w.alloc (.cells cs t)).alloc (.cells ds u)) (w.heap.size + 1) ds := by
 have := Box.new (w.alloc (.cells cs t)) ds u
 simpa using this
theorem reads_new (w : World) (xs : List Value) (t : TypeId) (size n : Nat) (h : xs.length = n * size) : Reads (w.alloc (.cells xs.toArray t)) (w.alloc (.cells xs.toArray t)).heap.size size (some ⟨w.heap.size, 0, none⟩) n xs := by
 refine ⟨h, fun _ => ⟨_, rfl, by simp, fun j u hu => ?_⟩⟩
 have e : (⟨w.heap.size, 0, none⟩ : Addr).add j = ⟨w.heap.size, j, none⟩ := by
  unfold Addr.add
  split
  ·rename_i h0; rw [h0]
  ·simp
 rw [e, (Box.new w xs.toArray t).at]
 simpa using hu
theorem below1 {w w' : World} (o : Obj) (h : Below (w.alloc o).heap.size (w.alloc o) w') : Below w.heap.size w w' := below_trans' (below_alloc w o) h
theorem below2 {w w' : World} (o u : Obj) (h : Below ((w.alloc o).alloc u).heap.size ((w.alloc o).alloc u) w') : Below w.heap.size w w' := below1 o (below1 u h)
theorem belowA (w : World) (o : Obj) : Below w.heap.size w (w.alloc o) := below_alloc w o
theorem belowAA (w : World) (o u : Obj) : Below w.heap.size w ((w.alloc o).alloc u) := below2 o u (Below.refl _ _)
theorem mixed : Tryz.prog.follows .mixedOrders = true := by kernel_rfl
theorem fz_new (w : World) (cs : Array Value) (t : TypeId) : ∀ i, (w.alloc (.cells cs t)).frozen? ⟨w.heap.size, i, none⟩ = false := fun i => by
 have h := heap_alloc_new w (.cells cs t)
 unfold World.frozen?
 rw [h]
 simp
theorem fz_drew {w : World} {b : Nat} (h : ∀ i, w.frozen? ⟨b, i, none⟩ = false) : ∀ i, w.drew.frozen? ⟨b, i, none⟩ = false := h
theorem fz_below {w w' : World} {b : Nat} (hb : b < w.heap.size) (h : ∀ i, w.frozen? ⟨b, i, none⟩ = false) (hw : Below w.heap.size w w') : ∀ i, w'.frozen? ⟨b, i, none⟩ = false := fun i => by
 rw [hw.frozen (p := ⟨b, i, none⟩) hb]; exact h i
theorem undrew {w w' : World} (h : Below w.drew.heap.size w.drew w') : Below w.heap.size w w' := ⟨h.os, h.tape, h.output, h.size, h.block⟩
theorem Box.far {w : World} {b : Nat} {cs : Array Value} (h : Box w b cs) {p : Addr} (hne : b ≠ p.block) (u : Value) : Box (w.setCell p u) b cs :=
 ⟨by have := h.1; simpa [World.setCell] using this, fun i => (World.cell?_setCell_other w p ⟨b, i, none⟩ u (fun e => hne (by rw [e]))).trans (h.2 i)⟩
theorem Reads.far {w : World} {B size n : Nat} {A : Option Addr} {xs : List Value} (h : Reads w B size A n xs) {q : Addr} (hne : ∀ p, A = some p → p.block ≠ q.block) (u : Value) : Reads (w.setCell q u) B size A n xs := by
 refine ⟨h.len, fun h0 => ?_⟩
 obtain ⟨p, hp, hB, hc⟩ := h.look h0
 refine ⟨p, hp, hB, fun j v hj => ?_⟩
 rw [World.cell?_setCell_other _ _ _ _ (fun e => hne p hp (by rw [← blockAdd p j, ← e]))]
 exact hc j v hj
theorem Box.set {w : World} {b : Nat} {cs : Array Value} (h : Box w b cs) {i : Nat} (hi : i < cs.size) (u : Value) : Box (w.setCell ⟨b, i, none⟩ u) b (cs.setIfInBounds i u) := by
 refine ⟨by have := h.1; simpa [World.setCell] using this, fun j => ?_⟩
 by_cases hj : j = i
 ·subst hj
  rw [World.cell?_setCell_same' _ _ _ (by rw [h.2 j, Array.getElem?_eq_getElem hi]; rfl)]
  simp [hi]
 ·rw [World.cell?_setCell_other _ _ _ _ (fun e => hj (by injection e with _ e2 _; exact e2.symm)), h.2 j]
  simp [Ne.symm hj]
theorem size_set (w : World) (p : Addr) (u : Value) : (w.setCell p u).heap.size = w.heap.size := by simp [World.setCell]
theorem row_form {w : World} {base e size n : Nat} {v : Value} {xs : List Value} (h : w.ownsRow base e size v n xs) : ∃ A c, v = .slice A n c := by
 rcases h.2 with ⟨rfl, rfl⟩ | ⟨g, cap, cur, rfl, _⟩
 ·exact ⟨_, _, rfl⟩
 ·exact ⟨_, _, rfl⟩
theorem Box.grown {w w' : World} {b : Nat} {cs : Array Value} {row : Option Nat} (h : Box w b cs) (hg : w.grownBy w' row) (hne : ∀ k, row = some k → k ≠ b) : Box w' b cs := by
 refine ⟨Nat.lt_of_lt_of_le h.1 hg.size, fun i => ?_⟩
 rw [World.cell?_of_block (a := ⟨b, i, none⟩) (hg.block b h.1 (fun e => hne b e.symm rfl))]
 exact h.2 i
theorem fz_grown {w w' : World} {b : Nat} {row : Option Nat} (hb : b < w.heap.size) (h : ∀ i, w.frozen? ⟨b, i, none⟩ = false) (hg : w.grownBy w' row) (hne : ∀ k, row = some k → k ≠ b) : ∀ i, w'.frozen? ⟨b, i, none⟩ = false := fun i => by
 rw [World.frozen?_of_block (a := ⟨b, i, none⟩) (hg.block b hb (fun e => hne b e.symm rfl))]
 exact h i
theorem row_far {w : World} {bl e sz n : Nat} {u : Value} {xs : List Value} (h : w.ownsRow bl e sz u n xs) {q : Addr} (hne : ∀ k, u.ownBlock = some k → k ≠ q.block) (x : Value) : (w.setCell q x).ownsRow bl e sz u n xs := by
 refine h.kept (row := some q.block) ⟨rfl, rfl, rfl, by simp [World.setCell], fun k _ hk => heap_setCell_other w q k x (fun e => hk (by rw [e]))⟩ ?_
 cases hu : u.ownBlock with
 | none => exact .inl rfl
 | some k => exact .inr (by simpa using hne k hu)
theorem row_mono {w : World} {base base' : Nat} {e : TypeId} {sz n : Nat} {u : Value} {xs : List Value} (h : w.ownsRow base e sz u n xs) (hb : base' ≤ base) : w.ownsRow base' e sz u n xs := by
 refine ⟨h.1, ?_⟩
 rcases h.2 with h0 | ⟨g, cap, cur, h1, h2, h3⟩
 ·exact .inl h0
 ·exact .inr ⟨g, cap, cur, h1, Nat.le_trans hb h2, h3⟩
set_option maxRecDepth 4000 in
theorem wpList_copyR {ops : Array Oper} {rest : List Oper} {o : Oper} {a : Act} {Q : Exit → Act → World → Prop} (hgd : o.guard = none) (s x : Operand) (t e : TypeId)
  (ho : o.op = .call { callee := .builtin .append, args := #[s, x], argTypes := #[t, t] }) {z : Value} {sz bytes : Nat} (ht : Tryz.prog.underlying t = some (.slice e))
  (hinfo : (Tryz.prog.info? e).map (fun i => (i.zero, i.size, i.bytes)) = some (some z, sz, bytes)) (hzs : z.cells.size = sz) (hsz : 0 < sz) (hby : bytes ≤ 1000)
  (w0 : World) (hs : a.eval s = .slice (some ⟨w0.heap.size, 0, none⟩) 0 0)
  {ad : Addr} {m c : Nat} {news : List Value} (hx : a.eval x = .slice (some ad) m c) (hr : Reads w0 w0.heap.size sz (some ad) m news) (h1 : ∀ u ∈ news, u.oneCell' = true) (hlen : m ≤ 1000000000)
  (h : ∀ A' c' w', w'.ownsRow w0.heap.size e sz (.slice A' m c') m news → Below w0.heap.size w0 w' → wpList Tryz.prog ops Q rest (a.put o.dst (.slice A' m c')) w') :
  wpList Tryz.prog ops Q (o :: rest) a (w0.alloc (.cells #[] e)) := by
 obtain ⟨i0, hi, hz0, hz1, hz2⟩ := info_parts hinfo
 have hnews : ∀ j u, news[j]? = some u → (w0.alloc (.cells #[] e)).cell? (ad.add j) = some u := fun j u hj => by
  rcases Nat.eq_zero_or_pos m with h0 | h0
  ·have := hr.len; rw [h0, Nat.zero_mul] at this
   rw [List.eq_nil_of_length_eq_zero this] at hj; cases hj
  ·obtain ⟨p, hp, _, hc⟩ := (hr.on (belowA w0 (.cells #[] e))).look h0
   injection hp with hp; subst hp
   exact hc j u hj
 refine wpList_append_own (w0.alloc (.cells #[] e)) hgd s x t ho w0.heap.size e i0 _ sz bytes ht hi hz0 hz1 hz2 hzs hsz _ 0 [] hs (World.ownsRow_made w0 #[] 0 (Nat.le_refl _) (Nat.zero_le _) (by simp)) ad m c news hx hr.len hnews h1 ?_ ?_ (by simp) ?_
 ·unfold maxLen; omega
 ·have := Nat.mul_le_mul (show 0 + m ≤ 1000000000 by omega) hby
  omega
 ·intro v' w' h1 h2 _
  have hb : Below w0.heap.size w0 w' := (belowA w0 (.cells #[] e)).grown h2 (by simp) (fun k hk => by simp [Value.ownBlock] at hk; omega)
  rw [Nat.zero_add, List.nil_append] at h1
  obtain ⟨A2, c2, rfl⟩ := row_form h1
  exact h A2 c2 w' h1 hb
def RetRow (e : TypeId) (sz n : Nat) (xs : List Value) (w : World) (r : Ending) (w' : World) : Prop :=
 ∃ B d, r = .returned (.slice B n d) ∧ w'.ownsRow w.heap.size e sz (.slice B n d) n xs ∧ Below w.heap.size w w'
section
variable {bl : Nat} {w w' : World}
theorem row_cap {e : TypeId} {sz n c : Nat} {A : Option Addr} {xs : List Value} (h : w.ownsRow bl e sz (.slice A n c) n xs) : n ≤ c ∧ c ≤ maxLen := by
 rcases h.2 with ⟨hv, h0⟩ | ⟨g, cap, cur, hv, _, _, h1, h2, _⟩
 ·injection hv with _ _ e3; subst h0 e3; exact ⟨Nat.le_refl _, Nat.zero_le _⟩
 ·injection hv with _ _ e3; subst e3; exact ⟨h1, h2⟩
theorem row_on {e : TypeId} {sz n : Nat} {u : Value} {xs : List Value} (h : w.ownsRow bl e sz u n xs) (hb : Below w.heap.size w w') : w'.ownsRow bl e sz u n xs := by
 refine h.kept (row := none) ⟨hb.os, hb.tape, hb.output, hb.size, fun k hk _ => hb.block k hk⟩ ?_
 cases hv : u.ownBlock with
 | none => exact .inl rfl
 | some k => exact .inr (by simp)
end
section
variable {e : TypeId} {sz n : Nat} {w0 w w' : World} {v : Value} {xs : List Value}
end
set_option maxRecDepth 4000 in
theorem run_pushX (bl : Nat) (w : World) (ty t e : TypeId) {z : Value} {sz bytes : Nat} (ht : Tryz.prog.underlying t = some (.slice e))
  (hinfo : (Tryz.prog.info? e).map (fun i => (i.zero, i.size, i.bytes)) = some (some z, sz, bytes)) (hzs : z.cells.size = sz) (hsz : 0 < sz) (hby : bytes ≤ 1000)
  (A : Option Addr) (n c : Nat) (xs : List Value) (ad : Addr) (m cc : Nat) (news : List Value) (hown : w.ownsRow bl e sz (.slice A n c) n xs) (hbl : bl ≤ w.heap.size)
  (hl : news.length = m * sz) (hcell : ∀ j u, news[j]? = some u → w.cell? (ad.add j) = some u) (h1 : ∀ u ∈ news, u.oneCell' = true) (hlen : n + m ≤ 1000000000) :
  ∃ A' c' w', (Builtin.append_ #[t, t] ty #[.slice A n c, .slice (some ad) m cc]).run Tryz.prog w = .ok (.slice A' (n + m) c') w' ∧ w'.ownsRow bl e sz (.slice A' (n + m) c') (n + m) (xs ++ news) ∧
   w.grownBy w' (Value.slice A n c).ownBlock ∧ (A' = A ∨ ∀ p, A' = some p → w.heap.size ≤ p.block) := by
 obtain ⟨i0, hi, hz0, hz1, hz2⟩ := info_parts hinfo
 have h63 : n + m ≤ maxLen := by unfold maxLen; omega
 have hbytes : (n + m) * bytes ≤ 140737488355328 := by
  have := Nat.mul_le_mul hlen hby
  omega
 by_cases hroom : n + m ≤ c
 ·cases A with
  | none =>
   obtain ⟨v', w', hrun, r1, r2, r3⟩ := run_append_own (P := Tryz.prog) w bl t ty e i0 _ sz bytes ht hi hz0 hz1 hz2 hzs hsz (.slice none n c) n xs hown ad m cc news hl hcell h1 h63 hbytes hbl
   obtain ⟨A', c', rfl⟩ := row_form r1
   have hn0 : n = 0 ∧ c = 0 := by
    rcases hown.2 with ⟨hv, h0⟩ | ⟨g', cap', cur, hv, _⟩
    ·injection hv with _ e2 e3; exact ⟨e2, e3⟩
    ·cases hv
   obtain ⟨rfl, rfl⟩ := hn0
   obtain rfl : m = 0 := by omega
   have : (Value.slice A' (0 + 0) c') = .slice none 0 0 := r3.2 ⟨rfl, rfl⟩
   injection this with e1 _ _
   exact ⟨A', c', w', hrun, r1, r2, .inl e1⟩
  | some p =>
   obtain ⟨g, rfl⟩ : ∃ g, p = ⟨g, 0, none⟩ := by
    rcases hown.2 with ⟨hv, h0⟩ | ⟨g', cap', cur, hv, _⟩
    ·cases hv
    ·injection hv with e1 _ _; injection e1 with e1; exact ⟨g', e1⟩
   obtain ⟨w', hr, h2, h3⟩ := run_append_fits (P := Tryz.prog) w bl t ty e i0 sz ht hi hz1 g n c xs hown ad m cc news hl hcell h1 hroom
   exact ⟨_, _, w', hr, h2, h3, .inl rfl⟩
 ·cases A with
  | none =>
   have hn0 : n = 0 ∧ c = 0 := by
    rcases hown.2 with ⟨hv, h0⟩ | ⟨g', cap', cur, hv, _⟩
    ·injection hv with _ e2 e3; exact ⟨e2, e3⟩
    ·cases hv
   obtain ⟨rfl, rfl⟩ := hn0
   obtain ⟨v', w', hrun, r1, r2, _⟩ := run_append_own (P := Tryz.prog) w w.heap.size t ty e i0 _ sz bytes ht hi hz0 hz1 hz2 hzs hsz (.slice none 0 0) 0 [] (World.ownsRow_nil w _ e sz) ad m cc news hl hcell h1 h63 hbytes (Nat.le_refl _)
   obtain ⟨A', c', rfl⟩ := row_form r1
   have r3 : w'.ownsRow bl e sz (.slice A' (0 + m) c') (0 + m) (xs ++ news) := by
    have := row_mono r1 hbl
    rw [show xs = [] from List.eq_nil_of_length_eq_zero (by simpa using hown.1)]
    exact this
   exact ⟨A', c', w', hrun, r3, ⟨r2.os, r2.tape, r2.output, r2.size, r2.block⟩, .inr fun p hp => (r1.lt p.block (by rw [hp]; rfl)).1⟩
  | some p =>
   have holds : ∀ j u, xs[j]? = some u → w.cell? (p.add j) = some u := by
    intro j u hj
    have hr := Reads.of_own hown
    have hjl := (List.getElem?_eq_some_iff.1 hj).1
    have hn0 : 0 < n := by
     rcases Nat.eq_zero_or_pos n with h0 | h0
     ·have := hown.1; rw [h0] at this; omega
     ·exact h0
    obtain ⟨q, hq, _, hc⟩ := hr.look hn0
    injection hq with hq; subst hq
    exact hc j u hj
   obtain ⟨v', w', hrun, r1, r2⟩ := run_append_arg_grows (P := Tryz.prog) w t ty e i0 _ sz bytes ht hi hz0 hz1 hz2 hzs hsz p n c xs hown.1 holds ad m cc news hl hcell (by omega) h63 hbytes
   obtain ⟨A', c', rfl⟩ := row_form r1
   exact ⟨A', c', w', hrun, row_mono r1 hbl, ⟨r2.os, r2.tape, r2.output, r2.size, fun k hk _ => r2.block k hk (by simp)⟩, .inr fun p hp => (r1.lt p.block (by rw [hp]; rfl)).1⟩
set_option maxRecDepth 4000 in
theorem run_pushXn (bl : Nat) (w : World) (ty t e : TypeId) {z : Value} {sz bytes : Nat} (ht : Tryz.prog.underlying t = some (.slice e))
  (hinfo : (Tryz.prog.info? e).map (fun i => (i.zero, i.size, i.bytes)) = some (some z, sz, bytes)) (hzs : z.cells.size = sz) (hsz : 0 < sz) (hby : bytes ≤ 1000)
  (A : Option Addr) (n c : Nat) (xs : List Value) (X : Option Addr) (m cc : Nat) (news : List Value) (hown : w.ownsRow bl e sz (.slice A n c) n xs) (hbl : bl ≤ w.heap.size)
  (hr : Reads w w.heap.size sz X m news) (hX : X = none → m = 0 ∧ cc = 0) (h1 : ∀ u ∈ news, u.oneCell' = true) (hlen : n + m ≤ 1000000000) :
  ∃ A' c' w', (Builtin.append_ #[t, t] ty #[.slice A n c, .slice X m cc]).run Tryz.prog w = .ok (.slice A' (n + m) c') w' ∧ w'.ownsRow bl e sz (.slice A' (n + m) c') (n + m) (xs ++ news) ∧
   w.grownBy w' (Value.slice A n c).ownBlock ∧ (A' = A ∨ ∀ p, A' = some p → w.heap.size ≤ p.block) := by
 cases X with
 | some ad =>
  refine run_pushX bl w ty t e ht hinfo hzs hsz hby A n c xs ad m cc news hown hbl hr.len ?_ h1 hlen
  intro j u hj
  rcases Nat.eq_zero_or_pos m with h0 | h0
  ·have := hr.len; rw [h0, Nat.zero_mul] at this
   rw [List.eq_nil_of_length_eq_zero this] at hj; cases hj
  ·obtain ⟨q, hq, _, hc⟩ := hr.look h0
   injection hq with hq; subst hq
   exact hc j u hj
 | none =>
  obtain ⟨rfl, rfl⟩ := hX rfl
  obtain ⟨i0, hi, hz0, hz1, hz2⟩ := info_parts hinfo
  obtain rfl : news = [] := List.eq_nil_of_length_eq_zero (by simpa using hr.len)
  have hrun := run_append_owned_none (P := Tryz.prog) w bl t ty e i0 sz ht hi (.slice A n c) n xs hown
  exact ⟨A, c, w, hrun, by simpa using hown, World.grownBy.refl _ _, .inl rfl⟩
set_option maxRecDepth 4000 in
theorem wpList_pushXn {ops : Array Oper} {rest : List Oper} {o : Oper} {a : Act} {Q : Exit → Act → World → Prop} (hgd : o.guard = none) (s x : Operand) (t e : TypeId)
  (ho : o.op = .call { callee := .builtin .append, args := #[s, x], argTypes := #[t, t] }) {z : Value} {sz bytes : Nat} (ht : Tryz.prog.underlying t = some (.slice e))
  (hinfo : (Tryz.prog.info? e).map (fun i => (i.zero, i.size, i.bytes)) = some (some z, sz, bytes)) (hzs : z.cells.size = sz) (hsz : 0 < sz) (hby : bytes ≤ 1000)
  (bl : Nat) (w : World) (A : Option Addr) (n c : Nat) (xs : List Value) (X : Option Addr) (m cc : Nat) (news : List Value) (hs : a.eval s = .slice A n c) (hown : w.ownsRow bl e sz (.slice A n c) n xs) (hbl : bl ≤ w.heap.size)
  (hx : a.eval x = .slice X m cc) (hr : Reads w w.heap.size sz X m news) (hX : X = none → m = 0 ∧ cc = 0) (h1 : ∀ u ∈ news, u.oneCell' = true) (hlen : n + m ≤ 1000000000)
  (h : ∀ A' c' w', w'.ownsRow bl e sz (.slice A' (n + m) c') (n + m) (xs ++ news) → w.grownBy w' (Value.slice A n c).ownBlock → (A' = A ∨ ∀ p, A' = some p → w.heap.size ≤ p.block) → wpList Tryz.prog ops Q rest (a.put o.dst (.slice A' (n + m) c')) w') :
  wpList Tryz.prog ops Q (o :: rest) a w := by
 obtain ⟨A', c', w', hrun, h2, h3, h4⟩ := run_pushXn bl w o.type t e ht hinfo hzs hsz hby A n c xs X m cc news hown hbl hr hX h1 hlen
 refine wpList_plain hgd fun K hK' => ?_
 unfold Oper.wp execOp
 simp only [ho, resolve, invoke, builtin, Sem.run_bind, Sem.run_pure, Result.andThen_ok, List.map_toArray, List.map_cons, List.map_nil, hs, hx, hrun]
 exact hK' _ _ (h A' c' w' h2 h3 h4)
theorem run_append_none (w : World) (base : Nat) (t ty e : TypeId) (i : TypeInfo) (size : Nat) (ht : Tryz.prog.underlying t = some (.slice e)) (hi : Tryz.prog.info? e = some i)
  (v : Value) (n cc : Nat) (xs : List Value) (hown : w.ownsRow base e size v n xs) :
  (Builtin.append_ #[t, t] ty #[v, .slice none 0 cc]).run Tryz.prog w = .ok v w := by
 rcases hown.2 with ⟨rfl, rfl⟩ | ⟨g, cap, cur, rfl, _, _, hnc, _⟩
 ·simp [Builtin.append_, run_underlying ht, sizeOf, typeInfo, hi, Builtin.lenOf, Builtin.firstCells]
 ·simp [Builtin.append_, run_underlying ht, sizeOf, typeInfo, hi, Builtin.lenOf, Builtin.firstCells, hnc, storeCells]
set_option maxRecDepth 4000 in
theorem wpList_pushXm {ops : Array Oper} {rest : List Oper} {o : Oper} {a : Act} {Q : Exit → Act → World → Prop} (hgd : o.guard = none) (s x : Operand) (t e : TypeId)
  (ho : o.op = .call { callee := .builtin .append, args := #[s, x], argTypes := #[t, t] }) {z : Value} {sz bytes : Nat} (ht : Tryz.prog.underlying t = some (.slice e))
  (hinfo : (Tryz.prog.info? e).map (fun i => (i.zero, i.size, i.bytes)) = some (some z, sz, bytes)) (hzs : z.cells.size = sz) (hsz : 0 < sz) (hby : bytes ≤ 1000)
  (bl : Nat) (w : World) (A : Option Addr) (n c : Nat) (xs : List Value) (X : Option Addr) (m cc : Nat) (news : List Value) (hs : a.eval s = .slice A n c) (hown : w.ownsRow bl e sz (.slice A n c) n xs) (hbl : bl ≤ w.heap.size)
  (hx : a.eval x = .slice X m cc) (hr : Reads w w.heap.size sz X m news) (h1 : ∀ u ∈ news, u.oneCell' = true) (hlen : n + m ≤ 1000000000)
  (h : ∀ A' c' w', w'.ownsRow bl e sz (.slice A' (n + m) c') (n + m) (xs ++ news) → w.grownBy w' (Value.slice A n c).ownBlock → (A' = A ∨ ∀ p, A' = some p → w.heap.size ≤ p.block) → wpList Tryz.prog ops Q rest (a.put o.dst (.slice A' (n + m) c')) w') :
  wpList Tryz.prog ops Q (o :: rest) a w := by
 cases X with
 | some ad => exact wpList_pushXn hgd s x t e ho ht hinfo hzs hsz hby bl w A n c xs (some ad) m cc news hs hown hbl hx hr (fun h => by cases h) h1 hlen h
 | none =>
  have hm : m = 0 := by
   rcases Nat.eq_zero_or_pos m with h0 | h0
   ·exact h0
   ·obtain ⟨p, hp, _⟩ := hr.look h0; cases hp
  subst hm
  obtain ⟨i0, hi, hz0, hz1, hz2⟩ := info_parts hinfo
  obtain rfl : news = [] := List.eq_nil_of_length_eq_zero (by simpa using hr.len)
  have hrun := run_append_none w bl t o.type e i0 sz ht hi (.slice A n c) n cc xs hown
  refine wpList_plain hgd fun K hK' => ?_
  unfold Oper.wp execOp
  simp only [ho, resolve, invoke, builtin, Sem.run_bind, Sem.run_pure, Result.andThen_ok, List.map_toArray, List.map_cons, List.map_nil, hs, hx, hrun]
  exact hK' _ _ (h A c w (by simpa using hown) (World.grownBy.refl _ _) (.inl rfl))
theorem take_succ_of {α : Type} {l : List α} {k : Nat} {x : α} (h : l[k]? = some x) : l.take (k + 1) = l.take k ++ [x] := by
 rw [List.take_add_one, h]; rfl
theorem gen_at {M : World → Prop} {w : World} (P : World → Prop) (h : P w) (k : ∀ W, P W → M W) : M w := k w h
end Go.Proofs.YtihhclhpjgeniaaGreatDoor
