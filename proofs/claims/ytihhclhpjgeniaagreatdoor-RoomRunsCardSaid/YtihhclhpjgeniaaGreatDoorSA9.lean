/- Merged texts: Hm Kp Ka Fa -/
import Derived.Test.YtihhclhpjgeniaaGreatDoorSA4
import Derived.Test.YtihhclhpjgeniaaGreatDoorSA8
import Derived.Deep.MidRow
import Derived.Deep.WholeRow
namespace Go.Proofs.YtihhclhpjgeniaaGreatDoor
open Go.RowKit Go.Sort
structure BV where
  h : Hr
  A : Option Addr
  B : Option Addr
  n : Nat
  c : Nat
  m : Nat
  d : Nat
def BV.val (v : BV) : Value := .agg #[.slice v.A v.n v.c, .slice v.B v.m v.d]
structure BV.In (v : BV) (w : World) : Prop where
  r : Reads w w.heap.size 1 v.A v.n (ints v.h.R)
  s : Reads w w.heap.size 1 v.B v.m (ints v.h.W)
  nc : v.n ≤ v.c
  md : v.m ≤ v.d
  ok : v.h.Ok
theorem BV.In.below {v : BV} {w w' : World} (h : v.In w) (hb : Below w.heap.size w w') : v.In w' := ⟨h.r.on hb, h.s.on hb, h.nc, h.md, h.ok⟩
theorem BV.In.nr {v : BV} {w : World} (h : v.In w) : v.n = v.h.R.length := by have := h.r.1; rw [ints_length] at this; omega
theorem BV.In.mw {v : BV} {w : World} (h : v.In w) : v.m = v.h.W.length := by have := h.s.1; rw [ints_length] at this; omega
def arrI (f : Nat → Int) : Array Value := ((List.range 50).map fun j => Value.int .i64 (f j)).toArray
theorem arrI_size (f : Nat → Int) : (arrI f).size = 50 := by simp [arrI]
theorem arrI_get (f : Nat → Int) {j : Nat} (h : j < 50) : (arrI f)[j]? = some (.int .i64 (f j)) := by simp [arrI, h]
theorem arrI_one (f : Nat → Int) : (arrI f).all (·.oneCell') = true := by
  rw [Array.all_eq_true_iff_forall_mem]
  intro v hv
  simp only [arrI, List.mem_toArray, List.mem_map] at hv
  obtain ⟨i, _, rfl⟩ := hv
  rfl
def upd (f : Nat → Int) (i : Nat) (x : Int) : Nat → Int := fun j => if j = i then x else f j
theorem arrI_set (f : Nat → Int) (i : Nat) (x : Int) : (arrI f).setIfInBounds i (.int .i64 x) = arrI (upd f i x) := by
  apply Array.ext_getElem?
  intro j
  rw [Array.getElem?_setIfInBounds, arrI_size]
  by_cases hj : j < 50
  · by_cases e : i = j
    · subst e
      rw [if_pos rfl, if_pos hj, arrI_get _ hj]
      simp [upd]
    · rw [if_neg e, arrI_get _ hj, arrI_get _ hj]
      simp [upd, show j ≠ i from fun h => e h.symm]
  · have hn : ∀ g, (arrI g)[j]? = none := fun g => Array.getElem?_eq_none (by rw [arrI_size]; omega)
    rw [hn, hn]
    split
    · rename_i e
      rw [if_neg (by rw [e]; exact hj)]
    · rfl
theorem At.set {w : World} {q : Nat} {cs : Array Value} {t : TypeId} (h : At w q cs t) (i : Nat) (u : Value) : At (w.setCell ⟨q, i, none⟩ u) q (cs.setIfInBounds i u) t := by
  have hq := (Array.getElem?_eq_some_iff.1 h).1
  unfold At World.setCell
  simp only [Array.getElem?_modify]
  simp [h]
theorem At.far {w : World} {q : Nat} {cs : Array Value} {t : TypeId} (h : At w q cs t) {p : Addr} (hp : q ≠ p.block) (u : Value) : At (w.setCell p u) q cs t := by
  unfold At World.setCell
  simp only [Array.getElem?_modify]
  rw [if_neg (fun e => hp e.symm)]
  exact h
theorem At.fz {w : World} {q : Nat} {cs : Array Value} {t : TypeId} (h : At w q cs t) (i : Nat) : w.frozen? ⟨q, i, none⟩ = false := by
  simp [World.frozen?, show w.heap[q]? = _ from h]
theorem At.cell {w : World} {q : Nat} {cs : Array Value} {t : TypeId} (h : At w q cs t) (i : Nat) : w.cell? ⟨q, i, none⟩ = cs[i]? := cell_of_row _ _ i cs t (0, 0) h
theorem At.new (w : World) (cs : Array Value) (t : TypeId) : At (w.alloc (.cells cs t)) w.heap.size cs t := heap_alloc_new w _
theorem At.lt {w : World} {q : Nat} {cs : Array Value} {t : TypeId} (h : At w q cs t) : q < w.heap.size := (Array.getElem?_eq_some_iff.1 h).1
def flatP (h : Lck) : Nat → Int := fun j => h (j % 2) (j / 2)
def setH (h : Lck) (k n : Nat) (x : Int) : Lck := fun a b => if a = k ∧ b = n then x else h a b
theorem flatP_set (h : Lck) {k : Nat} (n : Nat) (x : Int) (hk : k < 2) : upd (flatP h) (n * 2 + k) x = flatP (setH h k n x) := by
  funext j
  unfold upd flatP setH
  by_cases e : j = n * 2 + k
  · subst e
    rw [if_pos rfl, if_pos ⟨by omega, by omega⟩]
  · rw [if_neg e, if_neg (fun ⟨a, b⟩ => e (by omega))]
theorem flatP_at (h : Lck) {k : Nat} (n : Nat) (hk : k < 2) : flatP h (n * 2 + k) = h k n := by
  unfold flatP
  rw [show (n * 2 + k) % 2 = k by omega, show (n * 2 + k) / 2 = n by omega]
abbrev zeroH : Lck := fun _ _ => 0
theorem lit50 : (#[.int .i64 0, .int .i64 0, .int .i64 0, .int .i64 0, .int .i64 0, .int .i64 0, .int .i64 0, .int .i64 0, .int .i64 0, .int .i64 0, .int .i64 0, .int .i64 0, .int .i64 0, .int .i64 0, .int .i64 0, .int .i64 0, .int .i64 0, .int .i64 0, .int .i64 0, .int .i64 0, .int .i64 0, .int .i64 0, .int .i64 0, .int .i64 0, .int .i64 0, .int .i64 0, .int .i64 0, .int .i64 0, .int .i64 0, .int .i64 0, .int .i64 0, .int .i64 0, .int .i64 0, .int .i64 0, .int .i64 0, .int .i64 0, .int .i64 0, .int .i64 0, .int .i64 0, .int .i64 0, .int .i64 0, .int .i64 0, .int .i64 0, .int .i64 0, .int .i64 0, .int .i64 0, .int .i64 0, .int .i64 0, .int .i64 0, .int .i64 0] : Array Value) = arrI (flatP zeroH) := by kernel_rfl
theorem At.row {w : World} {q : Nat} {cs : Array Value} {t : TypeId} (h : At w q cs t) (ds : Array Value) : At (w.setRow q ds) q ds t := setRow_heap w q cs ds t _ h
theorem row_other {w : World} {q r : Nat} (hne : q ≠ r) (ds : Array Value) : (w.setRow r ds).heap[q]? = w.heap[q]? := by
  unfold World.setRow
  simp only [Array.getElem?_modify]
  rw [if_neg (fun e => hne e.symm)]
theorem At.rowFar {w : World} {q r : Nat} {cs : Array Value} {t : TypeId} (h : At w q cs t) (hne : q ≠ r) (ds : Array Value) : At (w.setRow r ds) q cs t := by
  unfold At
  rw [row_other hne]
  exact h
@[simp] theorem size_row (w : World) (q : Nat) (ds : Array Value) : (w.setRow q ds).heap.size = w.heap.size := by simp [World.setRow]
theorem below_row {B : Nat} {w w' : World} (h : Below B w w') {q : Nat} (hq : B ≤ q) (ds : Array Value) : Below B w (w'.setRow q ds) :=
  ⟨h.os, h.tape, h.output, by rw [size_row]; exact h.size, fun b hb => by rw [row_other (by omega)]; exact h.block b hb⟩
theorem size217 (f : Nat → Int) : (Tryz.prog.info? 217).map (·.size) = some (arrI f).size := by rw [arrI_size]; kernel_rfl
theorem wpList_load50 {ops : Array Oper} {rest : List Oper} {o : Oper} {a : Act} {w : World} {Q : Exit → Act → World → Prop} (hgd : o.guard = none) (x : Operand) (ho : o.op = .load 217 x)
    (g : Nat) (hx : a.eval x = .pointer (some ⟨g, 0, none⟩)) (f : Nat → Int) (hg : At w g (arrI f) 217)
    (h : wpList Tryz.prog ops Q rest (a.put o.dst (.agg (arrI f))) w) : wpList Tryz.prog ops Q (o :: rest) a w :=
  wpList_load_row hgd 217 x ho g hx 217 (arrI f) (0, 0) _ hg Tryz.underlying217 rfl (size217 f) h
theorem wpList_store50 {ops : Array Oper} {rest : List Oper} {o : Oper} {a : Act} {w : World} {Q : Exit → Act → World → Prop} (hgd : o.guard = none) (x y : Operand) (ho : o.op = .store 217 x y)
    (g : Nat) (f e : Nat → Int) (hx : a.eval x = .pointer (some ⟨g, 0, none⟩)) (hy : a.eval y = .agg (arrI f)) (hg : At w g (arrI e) 217)
    (h : wpList Tryz.prog ops Q rest (a.put o.dst undef) (w.setRow g (arrI f))) : wpList Tryz.prog ops Q (o :: rest) a w :=
  wpList_plain hgd fun _ hK => wp_store_row 217 x y ho g (arrI f) hx hy 217 (arrI e) hg (size217 f) (by rw [arrI_size, arrI_size]) (arrI_one f) (hK _ _ h)
theorem ret50 {fn : Func} {tmps : Array Value} {w : World} (p : Tmp) (g : Nat) (f : Nat → Int) (h : fn.results = #[.cell p 217]) (hp : tmps.getD p undef = .pointer (some ⟨g, 0, none⟩)) (hg : At w g (arrI f) 217) :
    (results fn tmps).run Tryz.prog w = .ok (.agg (arrI f)) w :=
  results_cell_row h tmps w g 217 (arrI f) (0, 0) _ hp hg Tryz.underlying217 rfl (size217 f)
theorem flatP_set0 (h : Lck) (n : Nat) (x : Int) : upd (flatP h) (n * 2) x = flatP (setH h 0 n x) := flatP_set h n x (k := 0) (by omega)
theorem flatP_set1 (h : Lck) (n : Nat) (x : Int) : upd (flatP h) (n * 2 + 1) x = flatP (setH h 1 n x) := flatP_set h n x (k := 1) (by omega)
abbrev LkP (w : World) (q : Nat) (h : Lck) : Prop := At w q (arrI (flatP h)) 217
theorem LkP.get0 {w : World} {q : Nat} {h : Lck} (k : LkP w q h) {n : Nat} (hn : n < 25) : w.cell? ⟨q, n * 2, none⟩ = some (.int .i64 (h 0 n)) := by
  rw [At.cell k, arrI_get _ (by omega), ← flatP_at h n (k := 0) (by omega)]; rfl
theorem LkP.get1 {w : World} {q : Nat} {h : Lck} (k : LkP w q h) {n : Nat} (hn : n < 25) : w.cell? ⟨q, n * 2 + 1, none⟩ = some (.int .i64 (h 1 n)) := by
  rw [At.cell k, arrI_get _ (by omega), ← flatP_at h n (k := 1) (by omega)]
theorem LkP.put0 {w : World} {q : Nat} {h : Lck} (k : LkP w q h) (n : Nat) (x : Int) : LkP (w.setCell ⟨q, n * 2, none⟩ (.int .i64 x)) q (setH h 0 n x) := by
  have := At.set k (n * 2) (.int .i64 x)
  rwa [arrI_set, flatP_set0] at this
theorem LkP.put1 {w : World} {q : Nat} {h : Lck} (k : LkP w q h) (n : Nat) (x : Int) : LkP (w.setCell ⟨q, n * 2 + 1, none⟩ (.int .i64 x)) q (setH h 1 n x) := by
  have := At.set k (n * 2 + 1) (.int .i64 x)
  rwa [arrI_set, flatP_set1] at this
theorem LkP.rg0 {w : World} {q : Nat} {h : Lck} (k : LkP w q h) {n : Nat} (hn : n < 25) : ∀ d os, (grow (redrawn w d) os).cell? ⟨q, n * 2, none⟩ = some (.int .i64 (h 0 n)) := rg_cell (k.get0 hn)
theorem LkP.rg1 {w : World} {q : Nat} {h : Lck} (k : LkP w q h) {n : Nat} (hn : n < 25) : ∀ d os, (grow (redrawn w d) os).cell? ⟨q, n * 2 + 1, none⟩ = some (.int .i64 (h 1 n)) := rg_cell (k.get1 hn)
theorem below_put {B : Nat} {w w' : World} (h : Below B w w') {p : Addr} (hp : B ≤ p.block) (u : Value) : Below B w (w'.setCell p u) := h.setCell (p := p) hp u
end Go.Proofs.YtihhclhpjgeniaaGreatDoor
namespace Go.Proofs.YtihhclhpjgeniaaGreatDoor
open Go.RowKit Go.Sort
structure Kp (S : Nat → Prop) (w w' : World) : Prop where
  os : w'.os = w.os
  tape : w'.tape = w.tape
  output : w'.output = w.output
  size : w.heap.size ≤ w'.heap.size
  block : ∀ b, b < w.heap.size → ¬ S b → w'.heap[b]? = w.heap[b]?
theorem Kp.refl (S : Nat → Prop) (w : World) : Kp S w w := ⟨rfl, rfl, rfl, Nat.le_refl _, fun _ _ _ => rfl⟩
theorem Kp.of {S : Nat → Prop} {w w' : World} (h : Below w.heap.size w w') : Kp S w w' := ⟨h.os, h.tape, h.output, h.size, fun b hb _ => h.block b hb⟩
theorem Kp.trans {S S' : Nat → Prop} {a b c : World} (h : Kp S a b) (k : Kp S' b c) (hS : ∀ x, x < a.heap.size → S' x → S x) : Kp S a c :=
  ⟨k.os.trans h.os, k.tape.trans h.tape, k.output.trans h.output, Nat.le_trans h.size k.size, fun x hx hn => (k.block x (Nat.lt_of_lt_of_le hx h.size) (fun e => hn (hS x hx e))).trans (h.block x hx hn)⟩
theorem Kp.step {S : Nat → Prop} {a b c : World} (h : Kp S a b) (k : Kp S b c) : Kp S a c := h.trans k fun _ _ e => e
theorem Kp.grow {S : Nat → Prop} {a b c : World} (h : Kp S a b) (k : Below b.heap.size b c) : Kp S a c := h.trans (Kp.of (S := S) k) fun _ _ e => e
theorem Kp.mono {S S' : Nat → Prop} {a b : World} (h : Kp S a b) (hS : ∀ x, S x → S' x) : Kp S' a b := ⟨h.os, h.tape, h.output, h.size, fun x hx hn => h.block x hx (fun e => hn (hS x e))⟩
theorem setCell_other {w : World} {p : Addr} {u : Value} {x : Nat} (hne : x ≠ p.block) : (w.setCell p u).heap[x]? = w.heap[x]? := by
  unfold World.setCell
  simp only [Array.getElem?_modify]
  rw [if_neg (fun e => hne e.symm)]
theorem Kp.set {S : Nat → Prop} {a b : World} (h : Kp S a b) {p : Addr} (hp : p.block < a.heap.size → S p.block) (u : Value) : Kp S a (b.setCell p u) :=
  ⟨h.os, h.tape, h.output, by rw [size_set]; exact h.size, fun x hx hn => by rw [setCell_other (fun e => by subst e; exact hn (hp hx))]; exact h.block x hx hn⟩
theorem Kp.row {S : Nat → Prop} {a b : World} (h : Kp S a b) {q : Nat} (hq : q < a.heap.size → S q) (ds : Array Value) : Kp S a (b.setRow q ds) :=
  ⟨h.os, h.tape, h.output, by rw [size_row]; exact h.size, fun x hx hn => by rw [row_other (fun e => by subst e; exact hn (hq hx))]; exact h.block x hx hn⟩
theorem Kp.grown {S : Nat → Prop} {a b c : World} (h : Kp S a b) {row : Option Nat} (hg : b.grownBy c row) (hr : ∀ k, row = some k → k < a.heap.size → S k) : Kp S a c :=
  ⟨hg.os.trans h.os, hg.tape.trans h.tape, hg.output.trans h.output, Nat.le_trans h.size hg.size, fun x hx hn => (hg.block x (Nat.lt_of_lt_of_le hx h.size) (fun e => hn (hr x e.symm hx))).trans (h.block x hx hn)⟩
theorem below_kp {S : Nat → Prop} {B : Nat} {w0 w w' : World} (h : Below B w0 w) (k : Kp S w w') (hB : B ≤ w.heap.size) (hS : ∀ x, x < B → ¬ S x) : Below B w0 w' :=
  ⟨k.os.trans h.os, k.tape.trans h.tape, k.output.trans h.output, Nat.le_trans h.size k.size, fun x hx => (k.block x (Nat.lt_of_lt_of_le hx hB) (hS x hx)).trans (h.block x hx)⟩
theorem At.kp {S : Nat → Prop} {w w' : World} {q : Nat} {cs : Array Value} {t : TypeId} (h : At w q cs t) (k : Kp S w w') (hq : ¬ S q) : At w' q cs t := (k.block q h.lt hq).trans h
theorem LkP.below {w w' : World} {q : Nat} {h : Lck} (k : LkP w q h) (hb : Below w.heap.size w w') : LkP w' q h := At.below k hb
theorem LkP.kp {S : Nat → Prop} {w w' : World} {q : Nat} {h : Lck} (k : LkP w q h) (hk : Kp S w w') (hq : ¬ S q) : LkP w' q h := At.kp k hk hq
theorem LkP.far {w : World} {q : Nat} {h : Lck} (k : LkP w q h) {p : Addr} (hp : q ≠ p.block) (u : Value) : LkP (w.setCell p u) q h := At.far k hp u
theorem Kp.cell {S : Nat → Prop} {w w' : World} (k : Kp S w w') {p : Addr} (hp : p.block < w.heap.size) (hn : ¬ S p.block) : w'.cell? p = w.cell? p := by
  unfold World.cell?
  rw [k.block _ hp hn]
def blk (A : Option Addr) (n : Nat) (k : Nat) : Prop := n ≠ 0 ∧ ∃ a, A = some a ∧ a.block = k
theorem Reads.blk_lt {w : World} {sz n : Nat} {A : Option Addr} {xs : List Value} (h : Reads w w.heap.size sz A n xs) {k : Nat} (hk : blk A n k) : k < w.heap.size := by
  obtain ⟨hn, a, rfl, rfl⟩ := hk
  obtain ⟨b, e, hb, _⟩ := h.2 (by omega)
  cases e
  exact hb
def BV.New (v : BV) (N : Nat) : Prop := ∀ k, blk v.A v.n k ∨ blk v.B v.m k → N ≤ k
theorem BV.New.mono {v : BV} {N M : Nat} (h : v.New N) (hM : M ≤ N) : v.New M := fun k hk => Nat.le_trans hM (h k hk)
abbrev BV.arr (v : BV) : Array Value := #[.slice v.A v.n v.c, .slice v.B v.m v.d]
abbrev noArr : Array Value := #[.slice none 0 0, .slice none 0 0]
def noB : BV := ⟨noH, none, none, 0, 0, 0, 0⟩
theorem noB_in (w : World) : noB.In w := ⟨Reads.nil, Reads.nil, Nat.le_refl _, Nat.le_refl _, noH_ok⟩
theorem noB_new (N : Nat) : noB.New N := fun k hk => by rcases hk with ⟨h, _⟩ | ⟨h, _⟩ <;> exact absurd rfl h
def RetB (h : Hr) (e : Int) (w : World) (r : Ending) (w' : World) : Prop := ∃ v : BV, v.h = h ∧ r = .returned (.tuple #[.agg v.arr, .int .i64 e]) ∧ v.In w' ∧ v.New w.heap.size ∧ Below w.heap.size w w'
theorem Reads.kb {S : Nat → Prop} {w w' : World} {sz n : Nat} {A : Option Addr} {xs : List Value} (h : Reads w w.heap.size sz A n xs) (k : Kp S w w') (hn : ∀ b, blk A n b → ¬ S b) : Reads w' w'.heap.size sz A n xs := by
  refine ⟨h.1, fun h0 => ?_⟩
  obtain ⟨a, e, hb, hc⟩ := h.2 h0
  have hne : n ≠ 0 := by omega
  refine ⟨a, e, Nat.lt_of_lt_of_le hb k.size, fun j u hu => ?_⟩
  rw [k.cell (p := a.add j) (by rw [blockAdd]; exact hb) (by rw [blockAdd]; exact hn _ ⟨hne, a, e, rfl⟩)]
  exact hc j u hu
theorem BV.In.kb {S : Nat → Prop} {v : BV} {w w' : World} (h : v.In w) (k : Kp S w w') (hA : ∀ b, blk v.A v.n b → ¬ S b) (hB : ∀ b, blk v.B v.m b → ¬ S b) : v.In w' :=
  ⟨h.r.kb k hA, h.s.kb k hB, h.nc, h.md, h.ok⟩
theorem BV.In.put {v : BV} {w : World} (h : v.In w) {N : Nat} (hn : v.New N) {g : Nat} (hg : g < N) (i : Nat) (u : Value) : v.In (w.setCell ⟨g, i, none⟩ u) :=
  h.kb (S := fun x => x = g) ((Kp.refl (fun x => x = g) w).set (p := ⟨g, i, none⟩) (fun _ => rfl) u) (fun b hb e => by have := hn b (.inl hb); omega) (fun b hb e => by have := hn b (.inr hb); omega)
theorem retB_end {h : Hr} {e : Int} {w w5 : World} {x : BV} {g N : Nat} (hx : x.h = h) (hi : x.In w5) (hn : x.New N) (hg : g < N) (hw : w.heap.size ≤ g) (hb : Below w.heap.size w w5) (a b : Value) :
    RetB h e w (.returned (.tuple #[.agg x.arr, .int .i64 e])) ((w5.setCell ⟨g, 0, none⟩ a).setCell ⟨g, 1, none⟩ b) :=
  ⟨x, hx, rfl, (hi.put hn hg 0 a).put hn hg 1 b, hn.mono (by omega : w.heap.size ≤ N), below_put (below_put hb (p := ⟨g, 0, none⟩) hw a) (p := ⟨g, 1, none⟩) hw b⟩
end Go.Proofs.YtihhclhpjgeniaaGreatDoor
namespace Go.Proofs.YtihhclhpjgeniaaGreatDoor
open Go.RowKit Go.Sort
section
variable {α : Type} {f : α → List Value} {sz : Nat}
theorem flat_len (hf : ∀ a, (f a).length = sz) (l : List α) : (l.flatMap f).length = l.length * sz := by
  induction l with
  | nil => simp
  | cons a l ih => rw [List.flatMap_cons, List.length_append, hf, ih, List.length_cons, Nat.add_mul, Nat.one_mul, Nat.add_comm]
theorem flat_at (hf : ∀ a, (f a).length = sz) {l : List α} {i : Nat} {a : α} (h : l[i]? = some a) {j : Nat} (hj : j < sz) : (l.flatMap f)[i * sz + j]? = (f a)[j]? := by
  induction l generalizing i with
  | nil => simp at h
  | cons b l ih =>
    rw [List.flatMap_cons]
    cases i with
    | zero =>
      simp only [List.getElem?_cons_zero, Option.some.injEq] at h
      subst h
      rw [Nat.zero_mul, Nat.zero_add, List.getElem?_append_left (by rw [hf]; exact hj)]
    | succ i =>
      simp only [List.getElem?_cons_succ] at h
      rw [List.getElem?_append_right (by rw [hf, Nat.add_mul]; omega), hf, show (i + 1) * sz + j - sz = i * sz + j by rw [Nat.add_mul]; omega]
      exact ih h
end
def ovr (xs : List Value) : Nat → List Value → List Value
  | _, [] => xs
  | o, v :: vs => ovr (xs.set o v) (o + 1) vs
theorem ovr_left (vs : List Value) : ∀ (xs ys : List Value) (o : Nat), o + vs.length ≤ xs.length → ovr (xs ++ ys) o vs = ovr xs o vs ++ ys := by
  induction vs with
  | nil => intro xs ys o _; rfl
  | cons v vs ih =>
    intro xs ys o h
    simp only [List.length_cons] at h
    simp only [ovr]
    rw [List.set_append_left _ _ (by omega), ih _ _ _ (by simp; omega)]
theorem ovr_right (vs : List Value) : ∀ (xs ys : List Value) (o : Nat), ovr (xs ++ ys) (xs.length + o) vs = xs ++ ovr ys o vs := by
  induction vs with
  | nil => intro xs ys o; rfl
  | cons v vs ih =>
    intro xs ys o
    simp only [ovr]
    rw [List.set_append_right _ _ (by omega), Nat.add_sub_cancel_left, Nat.add_assoc, ih]
theorem flat_ovr {α : Type} {f : α → List Value} {sz : Nat} (hf : ∀ a, (f a).length = sz) {l : List α} {i : Nat} {a b : α} (h : l[i]? = some a) {j : Nat} {vs : List Value} (hj : j + vs.length ≤ sz) (hb : f b = ovr (f a) j vs) :
    ovr (l.flatMap f) (i * sz + j) vs = (l.set i b).flatMap f := by
  induction l generalizing i with
  | nil => simp at h
  | cons c l ih =>
    rw [List.flatMap_cons]
    cases i with
    | zero =>
      simp only [List.getElem?_cons_zero, Option.some.injEq] at h
      subst h
      rw [Nat.zero_mul, Nat.zero_add, ovr_left _ _ _ _ (by rw [hf]; exact hj), List.set_cons_zero, List.flatMap_cons, hb]
    | succ i =>
      simp only [List.getElem?_cons_succ] at h
      rw [show (i + 1) * sz + j = (f c).length + (i * sz + j) by rw [hf, Nat.add_mul]; omega, ovr_right, ih h, List.set_cons_succ, List.flatMap_cons]
section
variable {w : World} {base g n cap : Nat} {e : TypeId} {sz : Nat} {xs : List Value}
theorem own_sets (vs : List Value) : ∀ (o : Nat) (w : World) (xs : List Value), w.ownsRow base e sz (.slice (some ⟨g, 0, none⟩) n cap) n xs →
    (w.setCells g o vs).ownsRow base e sz (.slice (some ⟨g, 0, none⟩) n cap) n (ovr xs o vs) ∧ w.grownBy (w.setCells g o vs) (some g) := by
  induction vs with
  | nil => exact fun o w xs h => ⟨h, ⟨rfl, rfl, rfl, Nat.le_refl _, fun _ _ _ => rfl⟩⟩
  | cons v vs ih =>
    intro o w xs h
    obtain ⟨h1, h2⟩ := h.stored o v
    obtain ⟨h3, h4⟩ := ih (o + 1) _ _ h1
    refine ⟨h3, ⟨h4.os.trans h2.os, h4.tape.trans h2.tape, h4.output.trans h2.output, Nat.le_trans h2.size h4.size, fun k hk hne => (h4.block k (Nat.lt_of_lt_of_le hk h2.size) hne).trans (h2.block k hk hne)⟩⟩
variable {α : Type} {f : α → List Value} {l : List α}
theorem own_n (hf : ∀ a, (f a).length = sz) (hz : 0 < sz) {v : Value} (h : w.ownsRow base e sz v n (l.flatMap f)) : n = l.length := by
  have := h.1
  rw [flat_len hf] at this
  exact (Nat.eq_of_mul_eq_mul_right hz this).symm
theorem own_cell (hf : ∀ a, (f a).length = sz) (hz : 0 < sz) (h : w.ownsRow base e sz (.slice (some ⟨g, 0, none⟩) n cap) n (l.flatMap f)) {i : Nat} {a : α} (hi : l[i]? = some a) {j : Nat} (hj : j < sz) : w.cell? ⟨g, i * sz + j, none⟩ = (f a)[j]? := by
  obtain rfl := own_n hf hz h
  have hl : i < l.length := (List.getElem?_eq_some_iff.1 hi).1
  have hlt : i * sz + j < l.length * sz := by
    have := Nat.mul_le_mul_right sz (show i + 1 ≤ l.length by omega)
    rw [Nat.add_mul] at this; omega
  rw [h.cellAt _ hlt, flat_at hf hi hj]
theorem own_put (hf : ∀ a, (f a).length = sz) (_hz : 0 < sz) (h : w.ownsRow base e sz (.slice (some ⟨g, 0, none⟩) n cap) n (l.flatMap f)) {i : Nat} {a b : α} (hi : l[i]? = some a) {j : Nat} {vs : List Value} (hj : j + vs.length ≤ sz) (hb : f b = ovr (f a) j vs) :
    (w.setCells g (i * sz + j) vs).ownsRow base e sz (.slice (some ⟨g, 0, none⟩) n cap) n ((l.set i b).flatMap f) ∧ w.grownBy (w.setCells g (i * sz + j) vs) (some g) := by
  have := own_sets vs (i * sz + j) w _ h
  rwa [flat_ovr hf hi hj hb] at this
end
theorem own_form {w : World} {base e sz n : Nat} {A : Option Addr} {c : Nat} {xs : List Value} (h : w.ownsRow base e sz (.slice A n c) n xs) (hn : 0 < n) : ∃ g, A = some ⟨g, 0, none⟩ := by
  rcases h.2 with ⟨h', h0⟩ | ⟨g', cap', cur, h', _, hg, _⟩
  · omega
  · simp only [Value.slice.injEq] at h'
    exact ⟨g', h'.1⟩
theorem own_kp {S : Nat → Prop} {w w' : World} {base e sz n : Nat} {v : Value} {xs : List Value} (h : w.ownsRow base e sz v n xs) (k : Kp S w w') (hn : ∀ b, v.ownBlock = some b → ¬ S b) : w'.ownsRow base e sz v n xs := by
  refine ⟨h.1, ?_⟩
  rcases h.2 with h' | ⟨g, cap, cur, rfl, h1, hg, h2⟩
  · exact .inl h'
  · exact .inr ⟨g, cap, cur, rfl, h1, (k.block g (Array.getElem?_eq_some_iff.1 hg).1 (hn g rfl)).trans hg, h2⟩
end Go.Proofs.YtihhclhpjgeniaaGreatDoor
namespace Go.Proofs.YtihhclhpjgeniaaGreatDoor
open Go.RowKit Go.Sort
def lowN (b : Int) : Prop := 97 ≤ b ∧ b ≤ 122
instance (b : Int) : Decidable (lowN b) := by unfold lowN; infer_instance
def okN (b : Int) : Prop := lowN b ∨ (48 ≤ b ∧ b ≤ 57)
instance (b : Int) : Decidable (okN b) := by unfold okN; infer_instance
def edgeN (t : ByteArray) : Prop := 1 ≤ t.size ∧ t.size ≤ 8 ∧ lowN (bt t 0)
instance (t : ByteArray) : Decidable (edgeN t) := by unfold edgeN; infer_instance
theorem okName_iff (t : ByteArray) : okName t.data.toList = true ↔ edgeN t ∧ ∀ i, i < t.size → okN (bt t i) := by
  have hl : t.data.toList.length = t.size := by simp
  have hb : ∀ i (h : i < t.size), bt t i = ((t.data.toList[i]'(by omega)).toNat : Int) := fun i h => by rw [bt_in h]; rfl
  have e1 : firstC t.data.toList = true ↔ 0 < t.size ∧ lowN (bt t 0) := by
    cases h : t.data.toList with
    | nil => rw [h] at hl; simp at hl; simp [firstC]; omega
    | cons c r =>
      have h0 : 0 < t.size := by rw [h] at hl; simp at hl; omega
      have := hb 0 h0
      simp only [h, List.getElem_cons_zero] at this
      rw [this]
      simp [firstC, lowC, lowN, h0]
      omega
  have e2 : (t.data.toList.all fun c => lowC c || digC c) = true ↔ ∀ i, i < t.size → okN (bt t i) := by
    rw [List.all_eq_true]
    constructor
    · intro h i hi
      have := h _ (List.getElem_mem (by omega : i < t.data.toList.length))
      rw [hb i hi]
      simp [lowC, digC] at this
      unfold okN lowN
      simp
      omega
    · intro h c hc
      obtain ⟨i, hi, rfl⟩ := List.getElem_of_mem hc
      have := h i (by omega)
      rw [hb i (by omega)] at this
      simp [lowC, digC]
      unfold okN lowN at this
      simp at this
      omega
  unfold okName edgeN
  rw [Bool.and_eq_true, Bool.and_eq_true, Bool.and_eq_true, e1, e2, decide_eq_true_eq, decide_eq_true_eq, hl]
  constructor
  · rintro ⟨⟨⟨h1, h2⟩, h3⟩, h4⟩; exact ⟨⟨h1, h2, h3.2⟩, h4⟩
  · rintro ⟨⟨h1, h2, h3⟩, h4⟩; exact ⟨⟨⟨h1, h2⟩, by omega, h3⟩, h4⟩
theorem okN_cases (b : Int) : (lowN b) ∨ (b < 97 ∧ 48 ≤ b ∧ b ≤ 57) ∨ (b < 97 ∧ b < 48) ∨ (b < 97 ∧ 48 ≤ b ∧ 57 < b) ∨ (97 ≤ b ∧ 122 < b) := by unfold lowN; omega
end Go.Proofs.YtihhclhpjgeniaaGreatDoor
