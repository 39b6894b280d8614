/- A field that is being made: its box and its rows; what lies beside it. -/
import Derived.Test.YtfaleddacmbidaaDoorWf
import Derived.OwnWalk
import Derived.ArgAppend
namespace Go.Proofs.YtfaleddacmbidaaDoor
open Go.RowKit Go.Sort

theorem fz_new (w : World) (cs : Array Value) (t : TypeId) : ∀ i, (w.alloc (.cells cs t)).frozen? ⟨w.heap.size, i, none⟩ = false := fun i => by
  have h := heap_alloc_new w (.cells cs t)
  unfold World.frozen?
  rw [h]
  simp
theorem fz_drew {w : World} {b : Nat} (h : ∀ i, w.frozen? ⟨b, i, none⟩ = false) : ∀ i, w.drew.frozen? ⟨b, i, none⟩ = false := h
theorem fz_below {w w' : World} {b : Nat} (hb : b < w.heap.size) (h : ∀ i, w.frozen? ⟨b, i, none⟩ = false) (hw : Below w.heap.size w w') : ∀ i, w'.frozen? ⟨b, i, none⟩ = false := fun i => by
  rw [hw.frozen (p := ⟨b, i, none⟩) hb]; exact h i
theorem undrew {w w' : World} (h : Below w.drew.heap.size w.drew w') : Below w.heap.size w w' := ⟨h.os, h.tape, h.output, h.size, h.block⟩
theorem Box.far {w : World} {b : Nat} {cs : Array Value} (h : Box w b cs) {p : Addr} (hne : b ≠ p.block) (u : Value) : Box (w.setCell p u) b cs :=
  ⟨by have := h.1; simpa [World.setCell] using this, fun i => (World.cell?_setCell_other w p ⟨b, i, none⟩ u (fun e => hne (by rw [e]))).trans (h.2 i)⟩
theorem Reads.far {w : World} {B size n : Nat} {A : Option Addr} {xs : List Value} (h : Reads w B size A n xs) {q : Addr} (hne : ∀ p, A = some p → p.block ≠ q.block) (u : Value) : Reads (w.setCell q u) B size A n xs := by
  refine ⟨h.len, fun h0 => ?_⟩
  obtain ⟨p, hp, hB, hc⟩ := h.look h0
  refine ⟨p, hp, hB, fun j v hj => ?_⟩
  rw [World.cell?_setCell_other _ _ _ _ (fun e => hne p hp (by rw [← blockAdd p j, ← e]))]
  exact hc j v hj
theorem Box.set {w : World} {b : Nat} {cs : Array Value} (h : Box w b cs) {i : Nat} (hi : i < cs.size) (u : Value) : Box (w.setCell ⟨b, i, none⟩ u) b (cs.setIfInBounds i u) := by
  refine ⟨by have := h.1; simpa [World.setCell] using this, fun j => ?_⟩
  by_cases hj : j = i
  · subst hj
    rw [World.cell?_setCell_same' _ _ _ (by rw [h.2 j, Array.getElem?_eq_getElem hi]; rfl)]
    simp [hi]
  · rw [World.cell?_setCell_other _ _ _ _ (fun e => hj (by injection e with _ e2 _; exact e2.symm)), h.2 j]
    simp [Ne.symm hj]
theorem size_set (w : World) (p : Addr) (u : Value) : (w.setCell p u).heap.size = w.heap.size := by simp [World.setCell]

theorem row_form {w : World} {base e size n : Nat} {v : Value} {xs : List Value} (h : w.ownsRow base e size v n xs) : ∃ A c, v = .slice A n c := by
  rcases h.2 with ⟨rfl, rfl⟩ | ⟨g, cap, cur, rfl, _⟩
  · exact ⟨_, _, rfl⟩
  · exact ⟨_, _, rfl⟩
theorem Box.grown {w w' : World} {b : Nat} {cs : Array Value} {row : Option Nat} (h : Box w b cs) (hg : w.grownBy w' row) (hne : ∀ k, row = some k → k ≠ b) : Box w' b cs := by
  refine ⟨Nat.lt_of_lt_of_le h.1 hg.size, fun i => ?_⟩
  rw [World.cell?_of_block (a := ⟨b, i, none⟩) (hg.block b h.1 (fun e => hne b e.symm rfl))]
  exact h.2 i
theorem fz_grown {w w' : World} {b : Nat} {row : Option Nat} (hb : b < w.heap.size) (h : ∀ i, w.frozen? ⟨b, i, none⟩ = false) (hg : w.grownBy w' row) (hne : ∀ k, row = some k → k ≠ b) : ∀ i, w'.frozen? ⟨b, i, none⟩ = false := fun i => by
  rw [World.frozen?_of_block (a := ⟨b, i, none⟩) (hg.block b hb (fun e => hne b e.symm rfl))]
  exact h i
theorem row_far {w : World} {bl e sz n : Nat} {u : Value} {xs : List Value} (h : w.ownsRow bl e sz u n xs) {q : Addr} (hne : ∀ k, u.ownBlock = some k → k ≠ q.block) (x : Value) : (w.setCell q x).ownsRow bl e sz u n xs := by
  refine h.kept (row := some q.block) ⟨rfl, rfl, rfl, by simp [World.setCell], fun k _ hk => heap_setCell_other w q k x (fun e => hk (by rw [e]))⟩ ?_
  cases hu : u.ownBlock with
  | none => exact .inl rfl
  | some k => exact .inr (by simpa using hne k hu)

set_option maxRecDepth 4000 in
theorem run_pushX (bl : Nat) (w : World) (ty t e : TypeId) {z : Value} {sz bytes : Nat} (ht : Tryd.prog.underlying t = some (.slice e))
    (hinfo : (Tryd.prog.info? e).map (fun i => (i.zero, i.size, i.bytes)) = some (some z, sz, bytes)) (hzs : z.cells.size = sz) (hsz : 0 < sz) (hby : bytes ≤ 1000)
    (A : Option Addr) (n c : Nat) (xs : List Value) (ad : Addr) (m cc : Nat) (news : List Value) (hown : w.ownsRow bl e sz (.slice A n c) n xs) (hbl : bl ≤ w.heap.size)
    (hl : news.length = m * sz) (hcell : ∀ j u, news[j]? = some u → w.cell? (ad.add j) = some u) (h1 : ∀ u ∈ news, u.oneCell' = true) (hlen : n + m ≤ 1000000000) :
    ∃ A' c' w', (Builtin.append_ #[t, t] ty #[.slice A n c, .slice (some ad) m cc]).run Tryd.prog w = .ok (.slice A' (n + m) c') w' ∧ w'.ownsRow bl e sz (.slice A' (n + m) c') (n + m) (xs ++ news) ∧
      w.grownBy w' (Value.slice A n c).ownBlock ∧ (A' = A ∨ ∀ p, A' = some p → w.heap.size ≤ p.block) := by
  obtain ⟨i0, hi, hz0, hz1, hz2⟩ := info_parts hinfo
  have h63 : n + m ≤ maxLen := by unfold maxLen; omega
  have hbytes : (n + m) * bytes ≤ 140737488355328 := by
    have := Nat.mul_le_mul hlen hby
    omega
  by_cases hroom : n + m ≤ c
  · cases A with
    | none =>
      obtain ⟨v', w', hrun, r1, r2, r3⟩ := run_append_own (P := Tryd.prog) w bl t ty e i0 _ sz bytes ht hi hz0 hz1 hz2 hzs hsz (.slice none n c) n xs hown ad m cc news hl hcell h1 h63 hbytes hbl
      obtain ⟨A', c', rfl⟩ := row_form r1
      have hn0 : n = 0 ∧ c = 0 := by
        rcases hown.2 with ⟨hv, h0⟩ | ⟨g', cap', cur, hv, _⟩
        · injection hv with _ e2 e3; exact ⟨e2, e3⟩
        · cases hv
      obtain ⟨rfl, rfl⟩ := hn0
      obtain rfl : m = 0 := by omega
      have : (Value.slice A' (0 + 0) c') = .slice none 0 0 := r3.2 ⟨rfl, rfl⟩
      injection this with e1 _ _
      exact ⟨A', c', w', hrun, r1, r2, .inl e1⟩
    | some p =>
      obtain ⟨g, rfl⟩ : ∃ g, p = ⟨g, 0, none⟩ := by
        rcases hown.2 with ⟨hv, h0⟩ | ⟨g', cap', cur, hv, _⟩
        · cases hv
        · injection hv with e1 _ _; injection e1 with e1; exact ⟨g', e1⟩
      obtain ⟨w', hr, h2, h3⟩ := run_append_fits (P := Tryd.prog) w bl t ty e i0 sz ht hi hz1 g n c xs hown ad m cc news hl hcell h1 hroom
      exact ⟨_, _, w', hr, h2, h3, .inl rfl⟩
  · cases A with
    | none =>
      have hn0 : n = 0 ∧ c = 0 := by
        rcases hown.2 with ⟨hv, h0⟩ | ⟨g', cap', cur, hv, _⟩
        · injection hv with _ e2 e3; exact ⟨e2, e3⟩
        · cases hv
      obtain ⟨rfl, rfl⟩ := hn0
      obtain ⟨v', w', hrun, r1, r2, _⟩ := run_append_own (P := Tryd.prog) w w.heap.size t ty e i0 _ sz bytes ht hi hz0 hz1 hz2 hzs hsz (.slice none 0 0) 0 [] (World.ownsRow_nil w _ e sz) ad m cc news hl hcell h1 h63 hbytes (Nat.le_refl _)
      obtain ⟨A', c', rfl⟩ := row_form r1
      have r3 : w'.ownsRow bl e sz (.slice A' (0 + m) c') (0 + m) (xs ++ news) := by
        have := row_mono r1 hbl
        rw [show xs = [] from List.eq_nil_of_length_eq_zero (by simpa using hown.1)]
        exact this
      exact ⟨A', c', w', hrun, r3, ⟨r2.os, r2.tape, r2.output, r2.size, r2.block⟩, .inr fun p hp => (r1.lt p.block (by rw [hp]; rfl)).1⟩
    | some p =>
      have holds : ∀ j u, xs[j]? = some u → w.cell? (p.add j) = some u := by
        intro j u hj
        have hr := Reads.of_own hown
        have hjl := (List.getElem?_eq_some_iff.1 hj).1
        have hn0 : 0 < n := by
          rcases Nat.eq_zero_or_pos n with h0 | h0
          · have := hown.1; rw [h0] at this; omega
          · exact h0
        obtain ⟨q, hq, _, hc⟩ := hr.look hn0
        injection hq with hq; subst hq
        exact hc j u hj
      obtain ⟨v', w', hrun, r1, r2⟩ := run_append_arg_grows (P := Tryd.prog) w t ty e i0 _ sz bytes ht hi hz0 hz1 hz2 hzs hsz p n c xs hown.1 holds ad m cc news hl hcell (by omega) h63 hbytes
      obtain ⟨A', c', rfl⟩ := row_form r1
      exact ⟨A', c', w', hrun, row_mono r1 hbl, ⟨r2.os, r2.tape, r2.output, r2.size, fun k hk _ => r2.block k hk (by simp)⟩, .inr fun p hp => (r1.lt p.block (by rw [hp]; rfl)).1⟩
set_option maxRecDepth 4000 in
/-- The same, whatever the second slice's address. -/
theorem run_pushXn (bl : Nat) (w : World) (ty t e : TypeId) {z : Value} {sz bytes : Nat} (ht : Tryd.prog.underlying t = some (.slice e))
    (hinfo : (Tryd.prog.info? e).map (fun i => (i.zero, i.size, i.bytes)) = some (some z, sz, bytes)) (hzs : z.cells.size = sz) (hsz : 0 < sz) (hby : bytes ≤ 1000)
    (A : Option Addr) (n c : Nat) (xs : List Value) (X : Option Addr) (m cc : Nat) (news : List Value) (hown : w.ownsRow bl e sz (.slice A n c) n xs) (hbl : bl ≤ w.heap.size)
    (hr : Reads w w.heap.size sz X m news) (hX : X = none → m = 0 ∧ cc = 0) (h1 : ∀ u ∈ news, u.oneCell' = true) (hlen : n + m ≤ 1000000000) :
    ∃ A' c' w', (Builtin.append_ #[t, t] ty #[.slice A n c, .slice X m cc]).run Tryd.prog w = .ok (.slice A' (n + m) c') w' ∧ w'.ownsRow bl e sz (.slice A' (n + m) c') (n + m) (xs ++ news) ∧
      w.grownBy w' (Value.slice A n c).ownBlock ∧ (A' = A ∨ ∀ p, A' = some p → w.heap.size ≤ p.block) := by
  cases X with
  | some ad =>
    refine run_pushX bl w ty t e ht hinfo hzs hsz hby A n c xs ad m cc news hown hbl hr.len ?_ h1 hlen
    intro j u hj
    rcases Nat.eq_zero_or_pos m with h0 | h0
    · have := hr.len; rw [h0, Nat.zero_mul] at this
      rw [List.eq_nil_of_length_eq_zero this] at hj; cases hj
    · obtain ⟨q, hq, _, hc⟩ := hr.look h0
      injection hq with hq; subst hq
      exact hc j u hj
  | none =>
    obtain ⟨rfl, rfl⟩ := hX rfl
    obtain ⟨i0, hi, hz0, hz1, hz2⟩ := info_parts hinfo
    obtain rfl : news = [] := List.eq_nil_of_length_eq_zero (by simpa using hr.len)
    have hrun := run_append_owned_none (P := Tryd.prog) w bl t ty e i0 sz ht hi (.slice A n c) n xs hown
    exact ⟨A, c, w, hrun, by simpa using hown, World.grownBy.refl _ _, .inl rfl⟩
set_option maxRecDepth 4000 in
theorem step_pushX {ops : Array Oper} {o : Oper} {a : Act} {K : Act → World → Prop} {Q : Exit → Act → World → Prop} {E : Prop} (hgd : o.guard = none) (s x : Operand) (t e : TypeId)
    (ho : o.op = .call { callee := .builtin .append, args := #[s, x], argTypes := #[t, t] }) {z : Value} {sz bytes : Nat} (ht : Tryd.prog.underlying t = some (.slice e))
    (hinfo : (Tryd.prog.info? e).map (fun i => (i.zero, i.size, i.bytes)) = some (some z, sz, bytes)) (hzs : z.cells.size = sz) (hsz : 0 < sz) (hby : bytes ≤ 1000)
    (bl : Nat) (w : World) (A : Option Addr) (n c : Nat) (xs : List Value) (X : Option Addr) (m cc : Nat) (news : List Value) (hs : a.eval s = .slice A n c) (hown : w.ownsRow bl e sz (.slice A n c) n xs) (hbl : bl ≤ w.heap.size)
    (hx : a.eval x = .slice X m cc) (hr : Reads w w.heap.size sz X m news) (hX : X = none → m = 0 ∧ cc = 0) (h1 : ∀ u ∈ news, u.oneCell' = true) (hlen : n + m ≤ 1000000000)
    (h : ∀ A' c' w', w'.ownsRow bl e sz (.slice A' (n + m) c') (n + m) (xs ++ news) → w.grownBy w' (Value.slice A n c).ownBlock → (A' = A ∨ ∀ p, A' = some p → w.heap.size ≤ p.block) → K (a.put o.dst (.slice A' (n + m) c')) w') :
    if Region.wanted o (yielded ops a.tmps) = true then Oper.wp Tryd.prog o a w K Q else E := by
  have hw : Region.wanted o (yielded ops a.tmps) = true := by simp [Region.wanted, hgd]
  rw [if_pos hw]
  obtain ⟨A', c', w', hrun, h2, h3, h4⟩ := run_pushXn bl w o.type t e ht hinfo hzs hsz hby A n c xs X m cc news hown hbl hr hX h1 hlen
  unfold Oper.wp execOp
  simp only [ho, resolve, invoke, builtin, Sem.run_bind, Sem.run_pure, Result.andThen_ok, List.map_toArray, List.map_cons, List.map_nil, hs, hx, hrun]
  exact h A' c' w' h2 h3 h4
set_option maxRecDepth 4000 in
theorem wpList_pushXn {ops : Array Oper} {rest : List Oper} {o : Oper} {a : Act} {Q : Exit → Act → World → Prop} (hgd : o.guard = none) (s x : Operand) (t e : TypeId)
    (ho : o.op = .call { callee := .builtin .append, args := #[s, x], argTypes := #[t, t] }) {z : Value} {sz bytes : Nat} (ht : Tryd.prog.underlying t = some (.slice e))
    (hinfo : (Tryd.prog.info? e).map (fun i => (i.zero, i.size, i.bytes)) = some (some z, sz, bytes)) (hzs : z.cells.size = sz) (hsz : 0 < sz) (hby : bytes ≤ 1000)
    (bl : Nat) (w : World) (A : Option Addr) (n c : Nat) (xs : List Value) (X : Option Addr) (m cc : Nat) (news : List Value) (hs : a.eval s = .slice A n c) (hown : w.ownsRow bl e sz (.slice A n c) n xs) (hbl : bl ≤ w.heap.size)
    (hx : a.eval x = .slice X m cc) (hr : Reads w w.heap.size sz X m news) (hX : X = none → m = 0 ∧ cc = 0) (h1 : ∀ u ∈ news, u.oneCell' = true) (hlen : n + m ≤ 1000000000)
    (h : ∀ A' c' w', w'.ownsRow bl e sz (.slice A' (n + m) c') (n + m) (xs ++ news) → w.grownBy w' (Value.slice A n c).ownBlock → (A' = A ∨ ∀ p, A' = some p → w.heap.size ≤ p.block) → wpList Tryd.prog ops Q rest (a.put o.dst (.slice A' (n + m) c')) w') :
    wpList Tryd.prog ops Q (o :: rest) a w := by
  obtain ⟨A', c', w', hrun, h2, h3, h4⟩ := run_pushXn bl w o.type t e ht hinfo hzs hsz hby A n c xs X m cc news hown hbl hr hX h1 hlen
  refine wpList_plain hgd fun K hK' => ?_
  unfold Oper.wp execOp
  simp only [ho, resolve, invoke, builtin, Sem.run_bind, Sem.run_pure, Result.andThen_ok, List.map_toArray, List.map_cons, List.map_nil, hs, hx, hrun]
  exact hK' _ _ (h A' c' w' h2 h3 h4)

theorem gen_at {M : World → Prop} {w : World} (P : World → Prop) (h : P w) (k : ∀ W, P W → M W) : M w := k w h

/-- All below bl but block p is as it was. -/
structure KB (bl p : Nat) (w w' : World) : Prop where
  os : w'.os = w.os
  tape : w'.tape = w.tape
  output : w'.output = w.output
  size : w.heap.size ≤ w'.heap.size
  block : ∀ k, k < bl → k ≠ p → w'.heap[k]? = w.heap[k]?
section
variable {bl p : Nat} {w w' w'' : World}
theorem KB.refl (bl p : Nat) (w : World) : KB bl p w w := ⟨rfl, rfl, rfl, Nat.le_refl _, fun _ _ _ => rfl⟩
theorem KB.trans (h : KB bl p w w') (k : KB bl p w' w'') : KB bl p w w'' :=
  ⟨k.os.trans h.os, k.tape.trans h.tape, k.output.trans h.output, Nat.le_trans h.size k.size, fun i h1 h2 => (k.block i h1 h2).trans (h.block i h1 h2)⟩
theorem KB.of_below (h : Below w.heap.size w w') (hb : bl ≤ w.heap.size) : KB bl p w w' :=
  ⟨h.os, h.tape, h.output, h.size, fun i h1 _ => h.block i (Nat.lt_of_lt_of_le h1 hb)⟩
theorem KB.set (i : Nat) (u : Value) : KB bl p w (w.setCell ⟨p, i, none⟩ u) :=
  ⟨rfl, rfl, rfl, by simp [World.setCell], fun k _ h2 => heap_setCell_other w ⟨p, i, none⟩ k u (fun e => h2 e)⟩
theorem KB.grown {row : Option Nat} (hg : w.grownBy w' row) (hr : ∀ k, row = some k → bl ≤ k) (hb : bl ≤ w.heap.size) : KB bl p w w' :=
  ⟨hg.os, hg.tape, hg.output, hg.size, fun i h1 _ => hg.block i (Nat.lt_of_lt_of_le h1 hb) (fun e => by have := hr i e.symm; omega)⟩
theorem KB.box (h : KB bl p w w') {b : Nat} {cs : Array Value} (hx : Box w b cs) (h1 : b < bl) (h2 : b ≠ p) : Box w' b cs :=
  ⟨Nat.lt_of_lt_of_le hx.1 h.size, fun i => by rw [World.cell?_of_block (a := ⟨b, i, none⟩) (h.block b h1 h2)]; exact hx.2 i⟩
theorem KB.fz (h : KB bl p w w') {b : Nat} (hx : ∀ i, w.frozen? ⟨b, i, none⟩ = false) (h1 : b < bl) (h2 : b ≠ p) : ∀ i, w'.frozen? ⟨b, i, none⟩ = false :=
  fun i => by rw [World.frozen?_of_block (a := ⟨b, i, none⟩) (h.block b h1 h2)]; exact hx i
theorem KB.reads (h : KB bl p w w') {sz n : Nat} {A : Option Addr} {xs : List Value} (hr : Reads w bl sz A n xs) (hne : ∀ a, A = some a → a.block ≠ p) : Reads w' bl sz A n xs := by
  refine ⟨hr.len, fun h0 => ?_⟩
  obtain ⟨a, ha, hB, hc⟩ := hr.look h0
  refine ⟨a, ha, hB, fun j v hj => ?_⟩
  rw [World.cell?_of_block (a := a.add j) (h.block (a.add j).block (by rw [blockAdd]; exact hB) (by rw [blockAdd]; exact hne a ha))]
  exact hc j v hj
theorem KB.below (h : KB bl p w w') {w0 : World} (hb : Below w0.heap.size w0 w) (h1 : w0.heap.size ≤ p) (h2 : w0.heap.size ≤ bl) : Below w0.heap.size w0 w' :=
  ⟨h.os.trans hb.os, h.tape.trans hb.tape, h.output.trans hb.output, Nat.le_trans hb.size h.size, fun k hk => (h.block k (by omega) (by omega)).trans (hb.block k hk)⟩
end
/-- A field that is being made in block p, with rows from bl on. -/
structure MK (p bl : Nat) (w : World) (v : FV) : Prop where
  box : Box w p #[.int .i64 v.f.W, .int .i64 v.f.H, .slice v.A v.n v.c, .slice v.B v.m v.d]
  fz : ∀ i, w.frozen? ⟨p, i, none⟩ = false
  ds : w.ownsRow bl 3 1 (.slice v.A v.n v.c) v.n (ints v.f.ds)
  ps : w.ownsRow bl 50 3 (.slice v.B v.m v.d) v.m (edgs v.f.ps)
  ne : ∀ a b, v.A = some a → v.B = some b → a.block ≠ b.block
  pb : p < bl
  bs : bl ≤ w.heap.size
theorem own_blk {A : Option Addr} {n c k : Nat} (h : (Value.slice A n c).ownBlock = some k) : ∃ p, A = some p ∧ p.block = k := by
  cases A with
  | none => cases h
  | some p => injection h with h; exact ⟨p, rfl, h⟩
section
variable {p bl : Nat} {w w' : World} {v : FV}
theorem MK.rowA (h : MK p bl w v) : ∀ k, (Value.slice v.A v.n v.c).ownBlock = some k → bl ≤ k := fun k hk => (h.ds.lt k hk).1
theorem MK.rowB (h : MK p bl w v) : ∀ k, (Value.slice v.B v.m v.d).ownBlock = some k → bl ≤ k := fun k hk => (h.ps.lt k hk).1
theorem MK.on (h : MK p bl w v) (hb : Below w.heap.size w w') : MK p bl w' v :=
  ⟨h.box.below hb, fz_below h.box.1 h.fz hb, row_on h.ds hb, row_on h.ps hb, h.ne, h.pb, Nat.le_trans h.bs hb.size⟩
theorem MK.inn (h : MK p bl w v) (h1 : v.n ≤ 9223372036854775807) (h2 : v.m ≤ 9223372036854775807) : v.In w := ⟨Reads.of_own h.ds, Reads.of_own h.ps, h1, h2⟩
theorem MK.setW (h : MK p bl w v) (z : Int) : MK p bl (w.setCell ⟨p, 0, none⟩ (.int .i64 z)) ⟨{ v.f with W := z }, v.A, v.B, v.n, v.c, v.m, v.d⟩ := by
  refine ⟨?_, fun i => by rw [World.frozen?_setCell]; exact h.fz i, row_far h.ds (fun k hk => ?_) _, row_far h.ps (fun k hk => ?_) _, h.ne, h.pb, by rw [size_set]; exact h.bs⟩
  · have := h.box.set (i := 0) (by simp) (.int .i64 z); simpa using this
  · have := h.rowA k hk; have := h.pb; show k ≠ p; omega
  · have := h.rowB k hk; have := h.pb; show k ≠ p; omega
theorem MK.setH (h : MK p bl w v) (z : Int) : MK p bl (w.setCell ⟨p, 1, none⟩ (.int .i64 z)) ⟨{ v.f with H := z }, v.A, v.B, v.n, v.c, v.m, v.d⟩ := by
  refine ⟨?_, fun i => by rw [World.frozen?_setCell]; exact h.fz i, row_far h.ds (fun k hk => ?_) _, row_far h.ps (fun k hk => ?_) _, h.ne, h.pb, by rw [size_set]; exact h.bs⟩
  · have := h.box.set (i := 1) (by simp) (.int .i64 z); simpa using this
  · have := h.rowA k hk; have := h.pb; show k ≠ p; omega
  · have := h.rowB k hk; have := h.pb; show k ≠ p; omega
/-- A longer row of directions is laid. -/
theorem MK.putD (h : MK p bl w v) {A' : Option Addr} {n' c' : Nat} {ds' : List Int} (hr : w'.ownsRow bl 3 1 (.slice A' n' c') n' (ints ds')) (hg : w.grownBy w' (Value.slice v.A v.n v.c).ownBlock) (hnew : A' = v.A ∨ ∀ a, A' = some a → w.heap.size ≤ a.block) :
    MK p bl (w'.setCell ⟨p, 2, none⟩ (.slice A' n' c')) ⟨{ v.f with ds := ds' }, A', v.B, n', c', v.m, v.d⟩ ∧ KB bl p w (w'.setCell ⟨p, 2, none⟩ (.slice A' n' c')) := by
  have hpb := h.pb
  have hbox := h.box.grown hg fun k hk => by have := h.rowA k hk; omega
  have hfz := fz_grown h.box.1 h.fz hg fun k hk => by have := h.rowA k hk; omega
  have hps : w'.ownsRow bl 50 3 (.slice v.B v.m v.d) v.m (edgs v.f.ps) := by
    refine h.ps.kept hg ?_
    cases hB : v.B with
    | none => exact .inl rfl
    | some q =>
      refine .inr ?_
      cases hA : v.A with
      | none => simp [Value.ownBlock]
      | some r => simp [Value.ownBlock]; exact fun e => h.ne r q hA hB e.symm
  refine ⟨⟨?_, fun i => by rw [World.frozen?_setCell]; exact hfz i, row_far hr (fun k hk => ?_) _, row_far hps (fun k hk => ?_) _, fun a b ha hb => ?_, hpb, by rw [size_set]; exact Nat.le_trans h.bs hg.size⟩, (KB.grown hg h.rowA h.bs).trans (KB.set 2 _)⟩
  · have := hbox.set (i := 2) (by simp) (.slice A' n' c'); simpa using this
  · have := (hr.lt k hk).1; show k ≠ p; omega
  · have := h.rowB k hk; show k ≠ p; omega
  · rcases hnew with h0 | h0
    · exact h.ne a b (h0 ▸ ha) hb
    · have h1 := h0 a ha
      have h2 := (h.ps.lt b.block (by rw [show v.B = some b from hb]; rfl)).2
      omega
/-- A longer row of partings is laid. -/
theorem MK.putP (h : MK p bl w v) {B' : Option Addr} {m' d' : Nat} {ps' : List Edg} (hr : w'.ownsRow bl 50 3 (.slice B' m' d') m' (edgs ps')) (hg : w.grownBy w' (Value.slice v.B v.m v.d).ownBlock) (hnew : B' = v.B ∨ ∀ a, B' = some a → w.heap.size ≤ a.block) :
    MK p bl (w'.setCell ⟨p, 3, none⟩ (.slice B' m' d')) ⟨{ v.f with ps := ps' }, v.A, B', v.n, v.c, m', d'⟩ ∧ KB bl p w (w'.setCell ⟨p, 3, none⟩ (.slice B' m' d')) := by
  have hpb := h.pb
  have hbox := h.box.grown hg fun k hk => by have := h.rowB k hk; omega
  have hfz := fz_grown h.box.1 h.fz hg fun k hk => by have := h.rowB k hk; omega
  have hds : w'.ownsRow bl 3 1 (.slice v.A v.n v.c) v.n (ints v.f.ds) := by
    refine h.ds.kept hg ?_
    cases hA : v.A with
    | none => exact .inl rfl
    | some q =>
      refine .inr ?_
      cases hB : v.B with
      | none => simp [Value.ownBlock]
      | some r => simp [Value.ownBlock]; exact fun e => h.ne q r hA hB e
  refine ⟨⟨?_, fun i => by rw [World.frozen?_setCell]; exact hfz i, row_far hds (fun k hk => ?_) _, row_far hr (fun k hk => ?_) _, fun a b ha hb => ?_, hpb, by rw [size_set]; exact Nat.le_trans h.bs hg.size⟩, (KB.grown hg h.rowB h.bs).trans (KB.set 3 _)⟩
  · have := hbox.set (i := 3) (by simp) (.slice B' m' d'); simpa using this
  · have := h.rowA k hk; show k ≠ p; omega
  · have := (hr.lt k hk).1; show k ≠ p; omega
  · rcases hnew with h0 | h0
    · exact h.ne a b ha (h0 ▸ hb)
    · have h1 := h0 b hb
      have h2 := (h.ds.lt a.block (by rw [show v.A = some a from ha]; rfl)).2
      omega
end
/-- A call's field and its error. -/
def RetPar (s : ByteArray) (w : World) (r : Ending) (w' : World) : Prop :=
  ∃ (v : FV) (e : Int), r = .returned (.tuple #[v.val, .int .i64 e]) ∧ ParseR s.data.toList v.f e ∧ v.In w' ∧ Below w.heap.size w w'
end Go.Proofs.YtfaleddacmbidaaDoor
