/- Walks: the field of a text, the program's: what stays as it was. -/
import Derived.Test.YtfaleddacmbidaaDoorWi
import Derived.Lib.ConvBytes
namespace Go.Proofs.YtfaleddacmbidaaDoor
open Go.RowKit Go.Sort

/-- All below bl but blocks p and c is as it was. -/
structure KC (bl p c : Nat) (w w' : World) : Prop where
  os : w'.os = w.os
  tape : w'.tape = w.tape
  output : w'.output = w.output
  size : w.heap.size ≤ w'.heap.size
  block : ∀ k, k < bl → k ≠ p → k ≠ c → w'.heap[k]? = w.heap[k]?
section
variable {bl p c : Nat} {w w' w'' : World}
theorem KC.refl (bl p c : Nat) (w : World) : KC bl p c w w := ⟨rfl, rfl, rfl, Nat.le_refl _, fun _ _ _ _ => rfl⟩
theorem KC.trans (h : KC bl p c w w') (k : KC bl p c w' w'') : KC bl p c w w'' :=
  ⟨k.os.trans h.os, k.tape.trans h.tape, k.output.trans h.output, Nat.le_trans h.size k.size, fun i h1 h2 h3 => (k.block i h1 h2 h3).trans (h.block i h1 h2 h3)⟩
theorem KC.of_kb (h : KB bl p w w') : KC bl p c w w' := ⟨h.os, h.tape, h.output, h.size, fun k h1 h2 _ => h.block k h1 h2⟩
theorem KC.of_below (h : Below w.heap.size w w') (hb : bl ≤ w.heap.size) : KC bl p c w w' := KC.of_kb (KB.of_below h hb)
theorem KC.setc (i : Nat) (u : Value) : KC bl p c w (w.setCell ⟨c, i, none⟩ u) :=
  ⟨rfl, rfl, rfl, by simp [World.setCell], fun k _ _ h3 => heap_setCell_other w ⟨c, i, none⟩ k u (fun e => h3 e)⟩
theorem KC.box (h : KC bl p c w w') {b : Nat} {cs : Array Value} (hx : Box w b cs) (h1 : b < bl) (h2 : b ≠ p) (h3 : b ≠ c) : Box w' b cs :=
  ⟨Nat.lt_of_lt_of_le hx.1 h.size, fun i => by rw [World.cell?_of_block (a := ⟨b, i, none⟩) (h.block b h1 h2 h3)]; exact hx.2 i⟩
theorem KC.fz (h : KC bl p c w w') {b : Nat} (hx : ∀ i, w.frozen? ⟨b, i, none⟩ = false) (h1 : b < bl) (h2 : b ≠ p) (h3 : b ≠ c) : ∀ i, w'.frozen? ⟨b, i, none⟩ = false :=
  fun i => by rw [World.frozen?_of_block (a := ⟨b, i, none⟩) (h.block b h1 h2 h3)]; exact hx i
theorem KC.cell (h : KC bl p c w w') {a : Addr} (h1 : a.block < bl) (h2 : a.block ≠ p) (h3 : a.block ≠ c) : w'.cell? a = w.cell? a := World.cell?_of_block (h.block a.block h1 h2 h3)
theorem KC.below (h : KC bl p c w w') {w0 : World} (hb : Below w0.heap.size w0 w) (h1 : w0.heap.size ≤ p) (h2 : w0.heap.size ≤ c) (h3 : w0.heap.size ≤ bl) : Below w0.heap.size w0 w' :=
  ⟨h.os.trans hb.os, h.tape.trans hb.tape, h.output.trans hb.output, Nat.le_trans hb.size h.size, fun k hk => (h.block k (by omega) (by omega) (by omega)).trans (hb.block k hk)⟩
theorem MWf.kc (h : MWf w) (k : KC bl p c w w') (h1 : 4 ≤ p) (h2 : 4 ≤ c) (h3 : 4 ≤ bl) : MWf w' := by
  obtain ⟨⟨e, a1, a2⟩, ⟨f, a3, a4⟩, ⟨m, a5⟩, a6⟩ := h
  exact ⟨⟨e, (k.cell (a := ⟨0, 0, none⟩) (by show 0 < bl; omega) (by show 0 ≠ p; omega) (by show 0 ≠ c; omega)).trans a1, a2⟩, ⟨f, (k.cell (a := ⟨1, 0, none⟩) (by show 1 < bl; omega) (by show 1 ≠ p; omega) (by show 1 ≠ c; omega)).trans a3, a4⟩,
    ⟨m, (k.cell (a := ⟨3, 0, none⟩) (by show 3 < bl; omega) (by show 3 ≠ p; omega) (by show 3 ≠ c; omega)).trans a5⟩, Nat.le_trans a6 k.size⟩
theorem ResQ.kc {q : Nat} {w0 : World} (h : ResQ q w0 w) (hk : KC bl p c w w') (h1 : q < p) (h2 : q < c) (h3 : p < bl) : ResQ q w0 w' :=
  ⟨hk.box h.box (by omega) (by omega) (by omega), hk.fz h.fz (by omega) (by omega) (by omega), hk.below h.bel (by have := h.le; omega) (by have := h.le; omega) (by have := h.le; omega), h.le⟩
end
theorem MK.far {p bl : Nat} {w : World} {v : FV} (h : MK p bl w v) {a : Addr} (h1 : a.block ≠ p) (h2 : a.block < bl) (u : Value) : MK p bl (w.setCell a u) v :=
  ⟨h.box.far (fun e => h1 e.symm) u, fun i => by rw [World.frozen?_setCell]; exact h.fz i, row_far h.ds (fun k hk => by have := h.rowA k hk; omega) _, row_far h.ps (fun k hk => by have := h.rowB k hk; omega) _, h.ne, h.pb, by rw [size_set]; exact h.bs⟩
/-- All that stands while a text is read: the field, the flag, and what was there. -/
structure PI (p bl c : Nat) (w3 : World) (b : Bool) (v : FV) (w : World) : Prop where
  fm : MK p bl w v
  kc : KC bl p c w3 w
  box : Box w c #[.bool b]
  fz : ∀ i, w.frozen? ⟨c, i, none⟩ = false
  ne : c ≠ p
  lt : c < bl
section
variable {p bl c : Nat} {w3 w w' : World} {b : Bool} {v : FV}
theorem PI.on (h : PI p bl c w3 b v w) (hb : Below w.heap.size w w') : PI p bl c w3 b v w' :=
  ⟨h.fm.on hb, h.kc.trans (KC.of_below hb h.fm.bs), h.box.below hb, fz_below h.box.1 h.fz hb, h.ne, h.lt⟩
theorem PI.flag (h : PI p bl c w3 b v w) (x : Bool) : PI p bl c w3 x v (w.setCell ⟨c, 0, none⟩ (.bool x)) :=
  ⟨h.fm.far (a := ⟨c, 0, none⟩) h.ne h.lt _, h.kc.trans (KC.setc 0 _), by have := h.box.set (i := 0) (by simp) (.bool x); simpa using this, fun i => by rw [World.frozen?_setCell]; exact h.fz i, h.ne, h.lt⟩
theorem PI.setW (h : PI p bl c w3 b v w) (z : Int) : PI p bl c w3 b ⟨{ v.f with W := z }, v.A, v.B, v.n, v.c, v.m, v.d⟩ (w.setCell ⟨p, 0, none⟩ (.int .i64 z)) :=
  ⟨h.fm.setW z, h.kc.trans (KC.of_kb (KB.set 0 _)), h.box.far (p := ⟨p, 0, none⟩) h.ne _, fun i => by rw [World.frozen?_setCell]; exact h.fz i, h.ne, h.lt⟩
theorem PI.setH (h : PI p bl c w3 b v w) (z : Int) : PI p bl c w3 b ⟨{ v.f with H := z }, v.A, v.B, v.n, v.c, v.m, v.d⟩ (w.setCell ⟨p, 1, none⟩ (.int .i64 z)) :=
  ⟨h.fm.setH z, h.kc.trans (KC.of_kb (KB.set 1 _)), h.box.far (p := ⟨p, 1, none⟩) h.ne _, fun i => by rw [World.frozen?_setCell]; exact h.fz i, h.ne, h.lt⟩
theorem PI.putD (h : PI p bl c w3 b v w) {A' : Option Addr} {n' c' : Nat} {ds' : List Int} (hr : w'.ownsRow bl 3 1 (.slice A' n' c') n' (ints ds')) (hg : w.grownBy w' (Value.slice v.A v.n v.c).ownBlock) (hnew : A' = v.A ∨ ∀ a, A' = some a → w.heap.size ≤ a.block) :
    PI p bl c w3 b ⟨{ v.f with ds := ds' }, A', v.B, n', c', v.m, v.d⟩ (w'.setCell ⟨p, 2, none⟩ (.slice A' n' c')) := by
  obtain ⟨h1, h2⟩ := h.fm.putD hr hg hnew
  exact ⟨h1, h.kc.trans (KC.of_kb h2), h2.box h.box h.lt h.ne, h2.fz h.fz h.lt h.ne, h.ne, h.lt⟩
theorem PI.putP (h : PI p bl c w3 b v w) {B' : Option Addr} {m' d' : Nat} {ps' : List Edg} (hr : w'.ownsRow bl 50 3 (.slice B' m' d') m' (edgs ps')) (hg : w.grownBy w' (Value.slice v.B v.m v.d).ownBlock) (hnew : B' = v.B ∨ ∀ a, B' = some a → w.heap.size ≤ a.block) :
    PI p bl c w3 b ⟨{ v.f with ps := ps' }, v.A, B', v.n, v.c, m', d'⟩ (w'.setCell ⟨p, 3, none⟩ (.slice B' m' d')) := by
  obtain ⟨h1, h2⟩ := h.fm.putP hr hg hnew
  exact ⟨h1, h.kc.trans (KC.of_kb h2), h2.box h.box h.lt h.ne, h2.fz h.fz h.lt h.ne, h.ne, h.lt⟩
end
theorem KC.reads {bl p c : Nat} {w w' : World} (h : KC bl p c w w') {sz n : Nat} {A : Option Addr} {xs : List Value} (hr : Reads w bl sz A n xs) (hne : ∀ a, A = some a → a.block ≠ p ∧ a.block ≠ c) : Reads w' bl sz A n xs := by
  refine ⟨hr.len, fun h0 => ?_⟩
  obtain ⟨a, ha, hB, hc⟩ := hr.look h0
  refine ⟨a, ha, hB, fun j v hj => ?_⟩
  rw [World.cell?_of_block (a := a.add j) (h.block (a.add j).block (by rw [blockAdd]; exact hB) (by rw [blockAdd]; exact (hne a ha).1) (by rw [blockAdd]; exact (hne a ha).2))]
  exact hc j v hj
/-- The rows may lie further up, if there are none. -/
theorem PI.up {p bl c : Nat} {w3 w : World} {b : Bool} {W H : Int} (h : PI p bl c w3 b ⟨⟨W, H, [], []⟩, none, none, 0, 0, 0, 0⟩ w) : PI p w.heap.size c w b ⟨⟨W, H, [], []⟩, none, none, 0, 0, 0, 0⟩ w :=
  ⟨⟨h.fm.box, h.fm.fz, World.ownsRow_nil _ _ _ _, World.ownsRow_nil _ _ _ _, (fun _ _ h => by cases h), h.fm.box.1, Nat.le_refl _⟩, KC.refl _ _ _ _, h.box, h.fz, h.ne, h.box.1⟩
theorem ix40 {g n c k : Nat} (hk : k < n) (w : World) : (Instr.indexAt 40 (.slice (some ⟨g, 0, none⟩) n c) (.int .i64 (k : Int))).run Tryd.prog w = .ok (.pointer (some ⟨g, k, none⟩)) w := by
  have h0 : (0 : Int) ≤ (k : Int) ∧ (k : Int) < (n : Int) := by omega
  have hs : (sizeOf (Tryd.prog.elem 40)).run Tryd.prog w = .ok 1 w := by kernel_rfl
  have e : (⟨g, 0, none⟩ : Addr).add k = ⟨g, k, none⟩ := by
    unfold Addr.add
    split
    · rename_i h; rw [h]
    · simp
  rw [run_indexAt_slice w 40 ⟨g, 0, none⟩ n c .i64 k (by kernel_rfl), if_pos h0, hs]
  simp [Result.andThen, e]
theorem FourS.far {a b c d : Addr} {x y z u : Value} {w : World} (h : FourS a b c d x y z u w) {q : Addr} (h1 : a.block ≠ q.block) (h2 : b.block ≠ q.block) (h3 : c.block ≠ q.block) (h4 : d.block ≠ q.block) (v : Value) : FourS a b c d x y z u (w.setCell q v) :=
  ⟨(World.cell?_setCell_other _ _ _ _ (fun e => h1 (by rw [e]))).trans h.x, (World.cell?_setCell_other _ _ _ _ (fun e => h2 (by rw [e]))).trans h.y, (World.cell?_setCell_other _ _ _ _ (fun e => h3 (by rw [e]))).trans h.z, (World.cell?_setCell_other _ _ _ _ (fun e => h4 (by rw [e]))).trans h.u⟩
/-- A word of a field's text behind the first four is a parting. -/
theorem word_body {l : List ByteArray} {t : List UInt8} {g : Fld} {x : ByteArray} {j : Nat} (hl : Pcs 32 (lists l) t) (hg : IsFld t g) (hx : l[4 + j]? = some x) : ∃ e ∈ g.ps, x.data.toList = bodyE e := by
  have e := fld_words hg hl
  have h1 : (lists l)[4 + j]? = some x.data.toList := by unfold lists; rw [List.getElem?_map, hx]; rfl
  rw [e, pieces, List.getElem?_append_right (by simp)] at h1
  simp only [List.length_cons, List.length_nil, show 4 + j - (0 + 1 + 1 + 1 + 1) = j by omega, List.getElem?_map, Option.map_eq_some_iff] at h1
  obtain ⟨e', h2, h3⟩ := h1
  exact ⟨e', List.mem_of_getElem? h2, h3.symm⟩
/-- The flag is true as long as the words are those of a field. -/
def FlagT (l : List (List UInt8)) (_j : Nat) (b : Bool) : Prop := ∀ g : Fld, Okf g → l = pieces g → b = true
theorem FlagT.start {l : List ByteArray} {x1 x2 : ByteArray} (h1 : l[1]? = some x1) (h2 : l[2]? = some x2) : FlagT (lists l) 0 (okP x1.data.toList && okP x2.data.toList) := fun g hk e => by
  have a1 : (lists l)[1]? = some x1.data.toList := by unfold lists; rw [List.getElem?_map, h1]; rfl
  have a2 : (lists l)[2]? = some x2.data.toList := by unfold lists; rw [List.getElem?_map, h2]; rfl
  rw [e] at a1 a2
  have b1 : Lib.itoa g.W = x1.data.toList := Option.some.inj a1
  have b2 : Lib.itoa g.H = x2.data.toList := Option.some.inj a2
  rw [← b1, ← b2, okP_itoa (by have := hk.w1; omega) (by have := hk.w2; omega), okP_itoa (by have := hk.h1; omega) (by have := hk.h2; omega)]
  rfl
theorem FlagT.word {l : List ByteArray} {j : Nat} {b : Bool} {x y0 y1 y2 : ByteArray} (h : FlagT (lists l) j b) (hx : l[4 + j]? = some x) (hp : Pcs 44 (lists [y0, y1, y2]) x.data.toList) : FlagT (lists l) (j + 1) (((b && okP y0.data.toList) && okP y1.data.toList) && okP y2.data.toList) := fun g hk e => by
  have h1 : (lists l)[4 + j]? = some x.data.toList := by unfold lists; rw [List.getElem?_map, hx]; rfl
  rw [e, pieces, List.getElem?_append_right (by simp)] at h1
  simp only [List.length_cons, List.length_nil, show 4 + j - (0 + 1 + 1 + 1 + 1) = j by omega, List.getElem?_map, Option.map_eq_some_iff] at h1
  obtain ⟨e', h2, h3⟩ := h1
  obtain ⟨q1, q2, q3⟩ := okf_bd hk (List.mem_of_getElem? h2)
  rw [← h3] at hp
  have hu := hp.unique (body_pcs e')
  simp only [lists, List.map_cons, List.map_nil, List.cons.injEq, and_true] at hu
  obtain ⟨u1, u2, u3⟩ := hu
  rw [h g hk e, u1, u2, u3, okP_itoa q1.1 q1.2, okP_itoa q2.1 q2.2, okP_itoa q3.1 q3.2]
  rfl
theorem FlagT.good {l : List ByteArray} {t : List UInt8} {j : Nat} {b : Bool} (h : FlagT (lists l) j b) (hl : Pcs 32 (lists l) t) {g : Fld} (hg : IsFld t g) (_ : True) : b = true := h g (okf_of_valid hg.1) (fld_words hg hl)
theorem splitS (s : ByteArray) (w : World) (hs : s.size ≤ 1000000) (hm : MWf w) : Calls Tryd.prog 20 #[.string s, .string ⟨#[32]⟩] w (RetWords 32 s w) := by
  obtain ⟨m, h⟩ := hm.mx
  exact split_any 32 s m w hs h
theorem splitC (s : ByteArray) (w : World) (hs : s.size ≤ 1000000) (hm : MWf w) : Calls Tryd.prog 20 #[.string s, .string ⟨#[44]⟩] w (RetWords 44 s w) := by
  obtain ⟨m, h⟩ := hm.mx
  exact split_any 44 s m w hs h
set_option maxRecDepth 100000 in
set_option maxHeartbeats 8000000 in
theorem Parse_any (s : ByteArray) (w : World) (hm : MWf w) : Calls Tryd.prog 8 #[.string s] w (RetPar s w) := by
  have hsl : s.data.toList.length = s.size := by simp
  have HMW := Lib.hid hm
  clear hm
  by_cases hbig : s.size ≤ 4000
  case neg =>
    go_enter Tryd.func8, Tryd.ntmps8
    go_wp2_with fail
    have HR := Lib.hid (ResQ.new w)
    have cr := HR.out.box.at
    exact bodyPost_ret (v := .tuple #[.agg #[.int .i64 0, .int .i64 0, .slice none 0 0, .slice none 0 0], .int .i64 4]) (by simp [results, Tryd.results8, go_sem, cr]) rfl
      ⟨zeroV, 4, rfl, .inl ⟨by omega, rfl, rfl⟩, zero_in _, HR.out.bel⟩
  go_enter Tryd.func8, Tryd.ntmps8
  go_wp2_with fail
  obtain ⟨q, hq⟩ : ∃ q, w.heap.size = q := ⟨_, rfl⟩
  have HR := Lib.hid (ResQ.new w)
  have HM1 := Lib.hid (HMW.out.below (belowA w (.cells #[.int .i64 0, .int .i64 0, .slice none 0 0, .slice none 0 0] 25)) HMW.out.sz)
  rw [hq] at HR ⊢
  have HQ : Hid (4 ≤ q) := Lib.hid (by rw [← hq]; exact HMW.out.sz)
  clear hq
  generalize (w.alloc (.cells #[.int .i64 0, .int .i64 0, .slice none 0 0, .slice none 0 0] 25)) = w1 at HR HM1 ⊢
  with_reducible refine (splitS s w1 (by omega) HM1.out).mono ?_
  rintro _ w2 ⟨l, A, cc, rfl, hpc, hlc, hnw, hrd, hb2⟩
  have HPC := Lib.hid hpc
  have HRD2 := Lib.hid hrd
  have HR2 := Lib.hid (HR.out.on hb2)
  have HM2 := Lib.hid (HM1.out.below hb2 HM1.out.sz)
  have HQ2 : Hid (q < w2.heap.size) := Lib.hid HR2.out.box.1
  clear hpc hrd hb2 hnw HR HM1
  have hll : (lists l).length = l.length := by simp [lists]
  by_cases hfew : 4 ≤ l.length
  case neg =>
    have HNO : Hid (∀ g, ¬ IsFld s.data.toList g) := Lib.hid fun g hg => by have := few_words HPC.out hg; omega
    have cr := HR2.out.box.at
    have fr := HR2.out.fz
    go_wp2_with fail
    have cF := (HR2.out.box.four (.int .i64 0) (.int .i64 0) (.slice none 0 0) (.slice none 0 0)).at
    exact bodyPost_ret (v := .tuple #[.agg #[.int .i64 0, .int .i64 0, .slice none 0 0, .slice none 0 0], .int .i64 3]) (by simp [results, Tryd.results8, go_sem, cF]) rfl
      ⟨zeroV, 3, rfl, .inr (.inr ⟨by omega, HNO.out, rfl, rfl⟩), zero_in _, HR2.out.four _ _ _ _⟩
  go_wp2_with fail
  obtain ⟨p, hp⟩ : ∃ p, w2.heap.size = p := ⟨_, rfl⟩
  obtain ⟨kb, hkb⟩ : ∃ k, w2.heap.size + 1 = k := ⟨_, rfl⟩
  obtain ⟨w3, hw3⟩ : ∃ W, (w2.alloc (.cells #[.int .i64 0, .int .i64 0, .slice none 0 0, .slice none 0 0] 25)).alloc (.cells #[.bool true] 4) = W := ⟨_, rfl⟩
  have hbw : Below w2.heap.size w2 w3 := by rw [← hw3]; exact belowAA _ _ _
  have hs3 : w3.heap.size = w2.heap.size + 2 := by rw [← hw3]; simp
  have HP3 : Hid (PI p w3.heap.size kb w3 true zeroV w3) := Lib.hid (by
    have hs1 : (w2.alloc (.cells #[.int .i64 0, .int .i64 0, .slice none 0 0, .slice none 0 0] 25)).heap.size = kb := by rw [← hkb]; simp
    have b1 := Box.new w2 #[.int .i64 0, .int .i64 0, .slice none 0 0, .slice none 0 0] 25
    have f1 := fz_new w2 #[.int .i64 0, .int .i64 0, .slice none 0 0, .slice none 0 0] 25
    have b2 := Box.new (w2.alloc (.cells #[.int .i64 0, .int .i64 0, .slice none 0 0, .slice none 0 0] 25)) #[.bool true] 4
    have f2 := fz_new (w2.alloc (.cells #[.int .i64 0, .int .i64 0, .slice none 0 0, .slice none 0 0] 25)) #[.bool true] 4
    rw [hs1, hw3] at b2 f2
    have hx := belowA (w2.alloc (.cells #[.int .i64 0, .int .i64 0, .slice none 0 0, .slice none 0 0] 25)) (.cells #[.bool true] 4)
    have b3 := b1.below hx
    have f3 := fz_below b1.1 f1 hx
    rw [hw3, hp] at b3 f3
    exact ⟨⟨b3, f3, World.ownsRow_nil _ _ _ _, World.ownsRow_nil _ _ _ _, (fun _ _ h => by cases h), by omega, Nat.le_refl _⟩, KC.refl _ _ _ _, b2, f2, by omega, by omega⟩)
  have HR3 := Lib.hid (HR2.out.on hbw)
  have HM3 := Lib.hid (HM2.out.below hbw HM2.out.sz)
  have HRD := Lib.hid (HRD2.out.on hbw)
  have HNE : Hid (∀ a, A = some a → a.block ≠ p ∧ a.block ≠ kb ∧ a.block < w3.heap.size) := Lib.hid fun a ha => by
    rcases Nat.eq_zero_or_pos l.length with h0 | h0
    · omega
    · obtain ⟨a', ha', hb', _⟩ := HRD2.out.look h0
      have : a = a' := Option.some.inj (ha.symm.trans ha')
      subst this
      omega
  have hqp : q < p ∧ q < kb ∧ 4 ≤ p ∧ 4 ≤ kb := by have := HQ2.out; have := HQ.out; omega
  obtain ⟨bl, hbl⟩ : ∃ bl, w3.heap.size = bl := ⟨_, rfl⟩
  rw [hbl] at HP3 HNE
  have h4bl : 4 ≤ bl := by omega
  have HBL := Lib.hid hbl
  rw [hkb, hp, hw3]
  clear hp hkb hw3 hbw hs3 HRD2 HR2 HM2 HQ2 HQ hbl
  obtain ⟨ad, x1, hA, hbk1, hx1, c1⟩ := sat HRD.out (k := 1) (by omega)
  obtain ⟨ad2, x2, hA2, hbk2, hx2, c2⟩ := sat HRD.out (k := 2) (by omega)
  obtain ⟨ad3, x3, hA3, hbk3, hx3, c3⟩ := sat HRD.out (k := 3) (by omega)
  obtain rfl : ad2 = ad := Option.some.inj (hA2.symm.trans hA)
  obtain rfl : ad3 = ad2 := Option.some.inj (hA3.symm.trans hA)
  have X1 : (1 : Int) < (l.length : Int) := by omega
  have X2 : (2 : Int) < (l.length : Int) := by omega
  have X3 : (3 : Int) < (l.length : Int) := by omega
  rw [add_pos _ _ (by omega)] at c1 c2 c3
  have s1 : x1.size ≤ 4000 := Nat.le_trans (word_size HPC.out hx1) hbig
  have s2 : x2.size ≤ 4000 := Nat.le_trans (word_size HPC.out hx2) hbig
  have s3 : x3.size ≤ 4000 := Nat.le_trans (word_size HPC.out hx3) hbig
  have hl4 : l.length ≤ 4001 := by have := words_few HPC.out; omega
  obtain ⟨hne, hnek, hbl3⟩ := HNE.out _ hA
  have HTS := Lib.hid (show TwoS ⟨ad3.block, ad3.off + 1, none⟩ ⟨ad3.block, ad3.off + 2, none⟩ (.string x1) (.string x2) w3.drew from ⟨c1, c2⟩)
  have C3 := Lib.hid c3
  clear c1 c2 c3
  refine wp_region_hv [0, 1, 2, 3, 5, 6, 7, 8, 10, 12] [4, 9, 11, 13] (TwoS ⟨ad3.block, ad3.off + 1, none⟩ ⟨ad3.block, ad3.off + 2, none⟩ (.string x1) (.string x2)) mixed (by kernel_rfl) (fun W W' h hb => h.below hb) HTS.out ?_
  iterate 10
    refine canonG_read (v := ?_) rfl (by rfl) ?_ ?_
    rotate_left
    · intro w hSw
      have hx := hSw.x
      have hy := hSw.y
      go_simp <;> with_reducible rfl
    simp only [List.getElem_toArray, List.getElem_cons_zero, List.getElem_cons_succ, Act.put, List.setIfInBounds_toArray, List.set_cons_succ, List.set_cons_zero]
  refine canonG_nil ?_
  refine tailG_one (t := 4) (ts' := [9, 11, 13]) (by kernel_rfl) rfl rfl ?_
  intro w4 hb4
  have HI4 := Lib.hid (HP3.out.on (undrew hb4))
  have HT4 := Lib.hid (HTS.out.below hb4)
  clear hb4 HTS HP3
  go_wp2_with fail
  with_reducible refine (num_any x1 kb true w4 (by omega) (HM3.out.kc HI4.out.kc hqp.2.2.1 hqp.2.2.2 h4bl) HI4.out.box HI4.out.fz).mono ?_
  rintro _ _ ⟨rfl, w5, hb5, rfl⟩
  rw [Bool.true_and]
  have HI5 := Lib.hid ((HI4.out.on hb5).flag (okP x1.data.toList))
  have HT5 := Lib.hid ((HT4.out.below hb5).far (q := ⟨kb, 0, none⟩) hnek hnek (.bool (okP x1.data.toList)))
  clear hb5 HI4 HT4
  generalize (w5.setCell ⟨kb, 0, none⟩ (.bool (okP x1.data.toList))) = w6 at HI5 HT5 ⊢
  go_wp2_with fail
  refine ⟨HT5.out, ?_⟩
  refine tailG_one (t := 9) (ts' := [11, 13]) (by kernel_rfl) rfl rfl ?_
  intro w7 hb7
  have HI7 := Lib.hid (HI5.out.on hb7)
  have HT7 := Lib.hid (HT5.out.below hb7)
  clear hb7 HI5 HT5
  go_wp2_with fail
  with_reducible refine (num_any x2 kb (okP x1.data.toList) w7 (by omega) (HM3.out.kc HI7.out.kc hqp.2.2.1 hqp.2.2.2 h4bl) HI7.out.box HI7.out.fz).mono ?_
  rintro _ _ ⟨rfl, w8, hb8, rfl⟩
  obtain ⟨ok2, hok2⟩ : ∃ b, (okP x1.data.toList && okP x2.data.toList) = b := ⟨_, rfl⟩
  have HOK2 := Lib.hid hok2
  rw [hok2]
  have HI8 := Lib.hid ((HI7.out.on hb8).flag ok2)
  have HT8 := Lib.hid ((HT7.out.below hb8).far (q := ⟨kb, 0, none⟩) hnek hnek (.bool ok2))
  clear hb8 HI7 HT7 hok2
  generalize (w8.setCell ⟨kb, 0, none⟩ (.bool ok2)) = w9 at HI8 HT8 ⊢
  go_wp2_with fail
  refine ⟨HT8.out, ?_⟩
  refine tailG_one (t := 11) (ts' := [13]) (by kernel_rfl) rfl rfl ?_
  intro w10 hb10
  have HI10 := Lib.hid (HI8.out.on hb10)
  have HT10 := Lib.hid (HT8.out.below hb10)
  have cb := HI10.out.fm.box.at
  have fb := HI10.out.fm.fz
  clear hb10 HI8 HT8
  go_wp2_with fail
  refine ⟨HT10.out.far (q := ⟨p, 0, none⟩) hne hne _, ?_⟩
  have HI11 := Lib.hid (HI10.out.setW (numP x1.data.toList))
  clear HI10 HT10 cb fb
  refine tailG_last (t := 13) (by kernel_rfl) rfl ?_
  intro w12 hb12
  have HI12 := Lib.hid (HI11.out.on hb12)
  have cb := HI12.out.fm.box.at
  have fb := HI12.out.fm.fz
  clear hb12 HI11
  go_wp2_with fail
  refine NoPanic.normal ?_
  have HI13 := Lib.hid (HI12.out.setH (numP x2.data.toList))
  clear HI12 cb fb
  generalize (w12.setCell ⟨p, 1, none⟩ (.int .i64 (numP x2.data.toList))) = w13 at HI13 ⊢
  have c3 : w13.cell? ⟨ad3.block, ad3.off + 3, none⟩ = some (.string x3) := (HI13.out.kc.cell (a := ⟨ad3.block, ad3.off + 3, none⟩) hbl3 hne hnek).trans C3.out
  have CV := fun w => Lib.run_convert_string_bytes (P := Tryd.prog) w 9 40 5 x3 Tryd.underlying9 Tryd.underlying40 Tryd.underlying5
  go_wp2_with fail
  obtain ⟨nb, hnb⟩ : ∃ b, w13.heap.size = b := ⟨_, rfl⟩
  obtain ⟨w14, hw14⟩ : ∃ W, Lib.bytesWorld w13 5 x3 = W := ⟨_, rfl⟩
  obtain ⟨cap, hcap⟩ : ∃ cp, grownCap w13 x3.size 0 5 = cp := ⟨_, rfl⟩
  have hb14 : Below w13.heap.size w13 w14 := by rw [← hw14]; exact Lib.bytesWorld_below _ _ _
  have HBY : Hid (∀ j (hj : j < x3.size), w14.cell? ⟨nb, j, none⟩ = some (.int .u8 ((x3[j].toNat : Nat) : Int))) := Lib.hid fun j hj => by
    have := Lib.bytesWorld_cell w13 5 x3 j hj
    rw [hw14, hnb] at this
    rw [this]
    simp [byte_at hj]
  have HNB : Hid (nb < w14.heap.size ∧ bl ≤ nb) := Lib.hid ⟨by rw [← hnb, ← hw14, Lib.bytesWorld_size]; omega, by rw [← hnb]; exact HI13.out.fm.bs⟩
  have HI14 := Lib.hid ((HI13.out.on hb14).up)
  have HM14 := Lib.hid ((HM3.out.kc HI13.out.kc hqp.2.2.1 hqp.2.2.2 h4bl).below hb14 (Nat.le_trans h4bl HI13.out.fm.bs))
  have HR14 := Lib.hid ((HR3.out.kc HI13.out.kc hqp.1 hqp.2.1 HI13.out.fm.pb).on hb14)
  have hrd3 : Reads w3 bl 1 A l.length (strs l) := by have := HRD.out; rwa [HBL.out] at this
  have HRD14 : Hid (Reads w14 w14.heap.size 1 A l.length (strs l)) := Lib.hid ((((HI13.out.kc.reads hrd3 fun a ha => ⟨(HNE.out a ha).1, (HNE.out a ha).2.1⟩).more HI13.out.fm.bs).on hb14))
  have HPK : Hid (p < bl ∧ kb < bl) := Lib.hid ⟨HI13.out.fm.pb, HI13.out.lt⟩
  rw [hnb, hw14, hcap]
  clear hnb hw14 hcap hb14 hrd3 HI13 HR3 HM3 HRD CV c3 C3 hbk1 hbk2 hbk3
  obtain ⟨b2, hb2⟩ : ∃ b, w14.heap.size = b := ⟨_, rfl⟩
  rw [hb2] at HI14 HNB HRD14
  go_loopw [43] (fun i wr => ∃ (k : Nat) (A' : Option Addr) (n' c' : Nat), k ≤ x3.size ∧ i = .int .i64 k ∧ n' ≤ k ∧ PI p b2 kb w14 ok2 ⟨⟨numP x1.data.toList, numP x2.data.toList, readDs (x3.data.toList.take k), []⟩, A', none, n', c', 0, 0⟩ wr) (fun i _ => x3.size - (intOf i).toNat)
  case atStart => exact ⟨0, none, 0, 0, by omega, rfl, by omega, HI14.out⟩
  case round =>
    clear HI14
    obtain ⟨k, A', n', c', hk, rfl, hnk, hpi⟩ := hrel
    have HI := Lib.hid hpi
    clear hpi
    by_cases hlt : k < x3.size
    · have cy : wr.cell? ⟨nb, k, none⟩ = some (.int .u8 ((x3[k].toNat : Nat) : Int)) := (HI.out.kc.cell (a := ⟨nb, k, none⟩) HNB.out.1 (by have := HNB.out; have := HPK.out; show nb ≠ p; omega) (by have := HNB.out; have := HPK.out; show nb ≠ kb; omega)).trans (HBY.out k hlt)
      have XY := fun w => ix40 (g := nb) (c := cap) hlt w
      have HB := Lib.hid (byte_at hlt)
      have HT := Lib.hid (take_succ_of HB.out)
      have hb1 : (x3[k].toNat : Int) ≤ 255 := by have := x3[k].toNat_lt; omega
      have HSN := Lib.hid (readDs_snoc (x3.data.toList.take k) x3[k])
      by_cases hsl' : x3[k] = 47
      · have g : ((x3[k].toNat : Int) != 47) = false := by rw [hsl']; rfl
        have HE : Hid (readDs (x3.data.toList.take (k + 1)) = readDs (x3.data.toList.take k)) := Lib.hid (by rw [HT.out, HSN.out, hsl']; simp)
        clear hsl'
        go_wp2_with fail
        go_roundw
        case rel => exact ⟨k + 1, A', n', c', by omega, by go_num, by omega, by rw [HE.out]; exact HI.out⟩
        case measure => simp [intOf]; omega
      · have g : ((x3[k].toNat : Int) != 47) = true := by
          rw [bne_iff_ne]
          exact fun e => hsl' (UInt8.toNat_inj.1 (by show x3[k].toNat = 47; omega))
        have HE : Hid (readDs (x3.data.toList.take k) ++ [(x3[k].toNat : Int) - 48] = readDs (x3.data.toList.take (k + 1))) := Lib.hid (by
          rw [HT.out, HSN.out, if_pos (by simpa using hsl')])
        have cb := HI.out.fm.box.at
        have hz : n' < 1000000000 := by omega
        have HI9 := Lib.hid (HI.out.on (belowA wr (.cells #[.int .i64 ((x3[k].toNat : Int) - 48)] 3)))
        have HX9 := Lib.hid (Box.new wr #[.int .i64 ((x3[k].toNat : Int) - 48)] 3)
        clear hsl'
        go_wp2_with (at_builtin; refine wpList_pushXn rfl _ _ 22 3 rfl Tryd.underlying22 info3 rfl (by omega) (by omega) b2 _ A' n' c' (ints (readDs (x3.data.toList.take k))) (some ⟨wr.heap.size, 0, none⟩) 1 1 [.int .i64 ((x3[k].toNat : Int) - 48)] rfl HI9.out.fm.ds HI9.out.fm.bs rfl (reads_one _ _ _ HX9.out) (fun h => by cases h) (ints_one [_]) (by omega) ?_)
        intro A2 c2 w11 hr11 hg11 hn11
        rw [ints_snoc, HE.out] at hr11
        have HI13 := Lib.hid (HI9.out.putD hr11 hg11 (hn11.imp id fun h a ha => by have := h a ha; simpa using this))
        have cb : ∀ i, w11.cell? ⟨p, i, none⟩ = _ := (HI9.out.fm.box.grown hg11 fun k hk => by have := HI9.out.fm.rowA k hk; have := HI9.out.fm.pb; omega).at
        have fb := fz_grown HI9.out.fm.box.1 HI9.out.fm.fz hg11 fun k hk => by have := HI9.out.fm.rowA k hk; have := HI9.out.fm.pb; omega
        clear hr11 hg11 hn11 HI9 HX9 HI
        go_wp2_with fail
        clear cb fb
        go_roundw
        case rel => exact ⟨k + 1, A2, n' + 1, c2, by omega, by go_num, by omega, HI13.out⟩
        case measure => simp [intOf]; omega
    · have hkx : k = x3.size := by omega
      subst hkx
      have HTK : Hid (x3.data.toList.take x3.size = x3.data.toList) := Lib.hid (List.take_of_length_le (by simp))
      rw [HTK.out] at HI
      have hn4 : n' ≤ 4000 := by omega
      obtain ⟨ds, hds⟩ : ∃ ds, readDs x3.data.toList = ds := ⟨_, rfl⟩
      have HDS := Lib.hid hds
      rw [hds] at HI
      clear hds hk hnk HTK hlt HBY
      have h40 : (4 : Int) ≤ (l.length : Int) := by omega
      have h4b2 : 4 ≤ b2 := by have := HNB.out; omega
      have hcut := HRD14.out.cut (k := 4) (cap := cc) hfew hlc
      have hst : (strs l).drop (4 * 1) = strs (l.drop 4) := by simp [strs]
      have hbl4 : ad3.block < b2 := by have := HNB.out; omega
      have HFL : Hid (FlagT (lists l) 0 ok2) := Lib.hid (by rw [← HOK2.out]; exact FlagT.start hx1 hx2)
      by_cases hcc : cc = 4
      · rw [if_pos hcc, hA, hst] at hcut
        have HRX := Lib.hid hcut
        clear hcut hst
        subst hcc
        go_wp2_with fail
        go_loopw [61] (fun i wr => ∃ (j : Nat) (b : Bool) (ps : List Edg) (B : Option Addr) (m d : Nat), j ≤ l.length - 4 ∧ i = .int .i64 j ∧ m ≤ j ∧ PI p b2 kb w14 b ⟨⟨numP x1.data.toList, numP x2.data.toList, ds, ps⟩, A', B, n', c', m, d⟩ wr ∧ TellsP (((lists l).drop 4).take j) ps ∧ FlagT (lists l) j b) (fun i _ => (l.length - 4) - (intOf i).toNat)
        case atStart => exact ⟨0, ok2, [], none, 0, 0, by omega, rfl, by omega, HI.out, by simpa using TellsP.nil, HFL.out⟩
        case round =>
          clear HI HFL
          obtain ⟨j, b, ps, B, m, d, hj, rfl, hmj, hpi, htp, hfl⟩ := hrel
          have HI := Lib.hid hpi
          have HTP := Lib.hid htp
          have HFL := Lib.hid hfl
          clear hpi htp hfl
          by_cases hlt : j < l.length - 4
          · exfalso; omega
          · have hjl : j = l.length - 4 := by omega
            subst hjl
            have HRD2 : Hid (RdT (lists l) ⟨numP x1.data.toList, numP x2.data.toList, ds, ps⟩) := Lib.hid (by
              have hget : ∀ (k : Nat) (x : ByteArray), l[k]? = some x → (lists l)[k]? = some x.data.toList := fun k x hx => by unfold lists; rw [List.getElem?_map, hx]; rfl
              refine ⟨fun x hx => ?_, fun x hx => ?_, fun x hx => ?_, ?_⟩
              · rw [hget 1 x1 hx1] at hx; injection hx with hx; rw [← hx]; exact numP_tells _
              · rw [hget 2 x2 hx2] at hx; injection hx with hx; rw [← hx]; exact numP_tells _
              · rw [hget 3 x3 hx3] at hx; injection hx with hx; rw [← hx]; exact HDS.out.symm
              · have := HTP.out
                rwa [List.take_of_length_le (by simp [lists])] at this)
            obtain ⟨W, hW⟩ : ∃ z, numP x1.data.toList = z := ⟨_, rfl⟩
            obtain ⟨H, hH⟩ : ∃ z, numP x2.data.toList = z := ⟨_, rfl⟩
            rw [hW, hH] at HI HRD2
            obtain ⟨v, hv⟩ : ∃ v : FV, (⟨⟨W, H, ds, ps⟩, A', B, n', c', m, d⟩ : FV) = v := ⟨_, rfl⟩
            have HV := Lib.hid (HI.out.fm.inn (by show n' ≤ _; omega) (by show m ≤ _; omega))
            have HRQ0 := Lib.hid (HR14.out.kc HI.out.kc hqp.1 hqp.2.1 HI.out.fm.pb)
            have HMB := Lib.hid (show (∀ a, v.A = some a → a.block ≠ q) ∧ (∀ a, v.B = some a → a.block ≠ q) from by
              subst hv
              exact ⟨fun a ha => by have := HI.out.fm.rowA a.block (by show (Value.slice A' n' c').ownBlock = _; rw [show A' = some a from ha]; rfl); have := HI.out.fm.pb; omega,
                fun a ha => by have := HI.out.fm.rowB a.block (by show (Value.slice B m d).ownBlock = _; rw [show B = some a from ha]; rfl); have := HI.out.fm.pb; omega⟩)
            have HCB : Hid (Box wr p #[.int .i64 v.f.W, .int .i64 v.f.H, .slice v.A v.n v.c, .slice v.B v.m v.d]) := Lib.hid (by subst hv; exact HI.out.fm.box)
            have HBK := Lib.hid HI.out.box
            have hvf : (⟨W, H, ds, ps⟩ : Fld) = v.f := by rw [← hv]
            rw [hv] at HV
            rw [hvf] at HRD2
            have cb := HCB.out.at
            have HFG : Hid (∀ g, IsFld s.data.toList g → b = true) := Lib.hid fun g hg => HFL.out.good HPC.out hg trivial
            clear hvf hv HI HTP hlt HFL
            go_wp2_with fail
            with_reducible refine (Format_any v _ HV.out).mono ?_
            rintro _ w5 ⟨rfl, hb5⟩
            have HV5 := Lib.hid (HV.out.below hb5)
            have HRQ := Lib.hid (HRQ0.out.on hb5)
            have HCB5 := Lib.hid (HCB.out.below hb5)
            have ck := (HBK.out.below hb5).at
            clear hb5 cb HV HRQ0 HCB HBK
            obtain ⟨e, he⟩ : ∃ e, valid v.f = e := ⟨_, rfl⟩
            obtain ⟨t, ht⟩ : ∃ t : ByteArray, (⟨(fmtX v.f).toArray⟩ : ByteArray) = t := ⟨_, rfl⟩
            have HE := Lib.hid he
            have HT := Lib.hid ht
            rw [he, ht]
            clear he ht
            cases b
            case false =>
              have HNO : Hid (∀ g, ¬ IsFld s.data.toList g) := Lib.hid fun g hg => by have := HFG.out g hg; cases this
              have cr := HRQ.out.box.at
              have fr := HRQ.out.fz
              go_wp2_with fail
              have cF := (HRQ.out.box.four (.int .i64 0) (.int .i64 0) (.slice none 0 0) (.slice none 0 0)).at
              exact bodyPost_ret (v := .tuple #[.agg #[.int .i64 0, .int .i64 0, .slice none 0 0, .slice none 0 0], .int .i64 3]) (by simp [results, Tryd.results8, go_sem, cF]) rfl
                ⟨zeroV, 3, rfl, .inr (.inr ⟨by omega, HNO.out, rfl, rfl⟩), zero_in _, HRQ.out.four _ _ _ _⟩

            by_cases hz : e = 0
            case neg =>
              have g : (e != 0) = true := by simpa using hz
              have HBAD : Hid (¬ IsFld s.data.toList v.f) := Lib.hid fun h => hz (HE.out.symm.trans h.1)
              clear hz
              have HNO : Hid (∀ g, ¬ IsFld s.data.toList g) := Lib.hid fun g hg => by
                have := HRD2.out.is HPC.out hg
                subst this
                exact HBAD.out hg
              have cr := HRQ.out.box.at
              have fr := HRQ.out.fz
              go_wp2_with fail
              have cF := (HRQ.out.box.four (.int .i64 0) (.int .i64 0) (.slice none 0 0) (.slice none 0 0)).at
              exact bodyPost_ret (v := .tuple #[.agg #[.int .i64 0, .int .i64 0, .slice none 0 0, .slice none 0 0], .int .i64 3]) (by simp [results, Tryd.results8, go_sem, cF]) rfl
                ⟨zeroV, 3, rfl, .inr (.inr ⟨by omega, HNO.out, rfl, rfl⟩), zero_in _, HRQ.out.four _ _ _ _⟩

            subst hz
            by_cases hq2 : t.toList = s.toList
            case neg =>
              have gE : (t.toList == s.toList) = false := by simpa using hq2
              have HBAD : Hid (¬ IsFld s.data.toList v.f) := Lib.hid fun h => hq2 (by
                rw [← HT.out, ByteArray.toList_eq, ByteArray.toList_eq]
                show fmtX v.f = _
                rw [show fmtX v.f = fmtL v.f from if_pos h.1, h.2])
              clear hq2
              have HNO : Hid (∀ g, ¬ IsFld s.data.toList g) := Lib.hid fun g hg => by
                have := HRD2.out.is HPC.out hg
                subst this
                exact HBAD.out hg
              have cr := HRQ.out.box.at
              have fr := HRQ.out.fz
              go_wp2_with fail
              have cF := (HRQ.out.box.four (.int .i64 0) (.int .i64 0) (.slice none 0 0) (.slice none 0 0)).at
              exact bodyPost_ret (v := .tuple #[.agg #[.int .i64 0, .int .i64 0, .slice none 0 0, .slice none 0 0], .int .i64 3]) (by simp [results, Tryd.results8, go_sem, cF]) rfl
                ⟨zeroV, 3, rfl, .inr (.inr ⟨by omega, HNO.out, rfl, rfl⟩), zero_in _, HRQ.out.four _ _ _ _⟩

            have gE : (t.toList == s.toList) = true := by simpa using hq2
            have HIS : Hid (IsFld s.data.toList v.f) := Lib.hid ⟨HE.out, by
              rw [← HT.out, ByteArray.toList_eq, ByteArray.toList_eq] at hq2
              rw [← hq2]
              show fmtL v.f = fmtX v.f
              rw [show fmtX v.f = fmtL v.f from if_pos HE.out]⟩
            have cr := HRQ.out.box.at
            have fr := HRQ.out.fz
            have cb := HCB5.out.at
            clear hq2
            go_wp2_with fail
            have cF := (HRQ.out.box.four (.int .i64 v.f.W) (.int .i64 v.f.H) (.slice v.A v.n v.c) (.slice v.B v.m v.d)).at
            exact bodyPost_ret (v := .tuple #[.agg #[.int .i64 v.f.W, .int .i64 v.f.H, .slice v.A v.n v.c, .slice v.B v.m v.d], .int .i64 0]) (by simp [results, Tryd.results8, go_sem, cF]) rfl
              ⟨v, 0, rfl, .inr (.inl ⟨by omega, HIS.out, rfl⟩), HV5.out.four HMB.out.1 HMB.out.2 _ _ _ _, HRQ.out.four _ _ _ _⟩
      · rw [if_neg hcc, hA, hst] at hcut
        have hadd : (Option.map (fun x : Addr => x.add (4 * 1)) (some ad3)) = some ⟨ad3.block, ad3.off + 4, none⟩ := by simp [add_pos]
        rw [hadd] at hcut
        have HRX := Lib.hid hcut
        clear hcut hst hadd
        go_wp2_with fail
        go_loopw [61] (fun i wr => ∃ (j : Nat) (b : Bool) (ps : List Edg) (B : Option Addr) (m d : Nat), j ≤ l.length - 4 ∧ i = .int .i64 j ∧ m ≤ j ∧ PI p b2 kb w14 b ⟨⟨numP x1.data.toList, numP x2.data.toList, ds, ps⟩, A', B, n', c', m, d⟩ wr ∧ TellsP (((lists l).drop 4).take j) ps ∧ FlagT (lists l) j b) (fun i _ => (l.length - 4) - (intOf i).toNat)
        case atStart => exact ⟨0, ok2, [], none, 0, 0, by omega, rfl, by omega, HI.out, by simpa using TellsP.nil, HFL.out⟩
        case round =>
          clear HI HFL
          obtain ⟨j, b, ps, B, m, d, hj, rfl, hmj, hpi, htp, hfl⟩ := hrel
          have HI := Lib.hid hpi
          have HTP := Lib.hid htp
          have HFL := Lib.hid hfl
          clear hpi htp hfl
          by_cases hlt : j < l.length - 4
          · obtain ⟨ad4, x, hA4, hbk4, hx4, c4⟩ := sat HRX.out (k := j) (by rw [List.length_drop]; exact hlt)
            have hb4 : ad4.block < b2 ∧ ad4.block ≠ p ∧ ad4.block ≠ kb := by
              injection hA4 with hA4; subst hA4; exact ⟨hbk4, hne, hnek⟩
            have X := fun w => ix52 (c := cc - 4) hA4 hlt w
            have c5 : wr.cell? (ad4.add j) = some (.string x) := (HI.out.kc.cell (a := ad4.add j) (by rw [blockAdd]; exact hb4.1) (by rw [blockAdd]; exact hb4.2.1) (by rw [blockAdd]; exact hb4.2.2)).trans c4
            have hx5 : l[4 + j]? = some x := by rw [← hx4, List.getElem?_drop]
            have s4 : x.size ≤ 4000 := Nat.le_trans (word_size HPC.out hx5) hbig
            have HX5 := Lib.hid hx5
            have HXS : Hid (((lists l).drop 4).take (j + 1) = ((lists l).drop 4).take j ++ [x.data.toList]) := Lib.hid (by
              refine take_succ_of ?_
              rw [List.getElem?_drop]
              unfold lists
              rw [List.getElem?_map, hx5]
              rfl)
            clear c4 hx4 hbk4 hA4 hx5 hb4
            go_wp2_with fail
            with_reducible refine (splitC x _ (by omega) (HM14.out.kc HI.out.kc hqp.2.2.1 hqp.2.2.2 h4b2)).mono ?_
            rintro _ w4 ⟨l4, A4, cc4, rfl, hpc4, hlc4, hnw4, hrd4, hb4⟩
            have HP4 := Lib.hid hpc4
            have HR4 := Lib.hid hrd4
            have HI4 := Lib.hid (HI.out.on hb4)
            have HN4 : Hid (∀ a, A4 = some a → a.block ≠ p ∧ a.block ≠ kb ∧ b2 ≤ a.block) := Lib.hid fun a ha => by have := hnw4 a ha; have := HI.out.fm.bs; have := HI.out.fm.pb; have := HI.out.lt; omega
            have HNB2 : Hid (∀ a k, A4 = some a → (Value.slice B m d).ownBlock = some k → k ≠ a.block) := Lib.hid fun a k ha hk => by have := hnw4 a ha; have := (HI.out.fm.ps.lt k hk).2; omega
            clear hpc4 hnw4 hrd4 hb4 HI c5 X
            by_cases h3 : l4.length = 3
            case neg =>
              have g : ((l4.length : Int) != 3) = true := by rw [bne_iff_ne]; omega
              have HNO : Hid (∀ g, ¬ IsFld s.data.toList g) := Lib.hid fun g hg => by
                obtain ⟨e, _, he⟩ := word_body HPC.out hg HX5.out
                rw [he] at HP4
                exact h3 (by have := congrArg List.length (HP4.out.unique (body_pcs e)); simpa [lists] using this)
              have HRQ := Lib.hid (HR14.out.kc HI4.out.kc hqp.1 hqp.2.1 HI4.out.fm.pb)
              clear h3
              have cr := HRQ.out.box.at
              have fr := HRQ.out.fz
              go_wp2_with fail
              have cF := (HRQ.out.box.four (.int .i64 0) (.int .i64 0) (.slice none 0 0) (.slice none 0 0)).at
              exact bodyPost_ret (v := .tuple #[.agg #[.int .i64 0, .int .i64 0, .slice none 0 0, .slice none 0 0], .int .i64 3]) (by simp [results, Tryd.results8, go_sem, cF]) rfl
                ⟨zeroV, 3, rfl, .inr (.inr ⟨by omega, HNO.out, rfl, rfl⟩), zero_in _, HRQ.out.four _ _ _ _⟩

            obtain ⟨y0, y1, y2, rfl⟩ : ∃ a b c, l4 = [a, b, c] := by
              match l4, h3 with
              | [a, b, c], _ => exact ⟨a, b, c, rfl⟩
            obtain ⟨ad5, z0, hA5, hbk5, hz0, d0⟩ := sat HR4.out (k := 0) (by simp)
            obtain ⟨ad6, z1, hA6, hbk6, hz1, d1⟩ := sat HR4.out (k := 1) (by simp)
            obtain ⟨ad7, z2, hA7, hbk7, hz2, d2⟩ := sat HR4.out (k := 2) (by simp)
            obtain rfl : y0 = z0 := by simpa using hz0
            obtain rfl : y1 = z1 := by simpa using hz1
            obtain rfl : y2 = z2 := by simpa using hz2
            obtain rfl : ad6 = ad5 := Option.some.inj (hA6.symm.trans hA5)
            obtain rfl : ad7 = ad6 := Option.some.inj (hA7.symm.trans hA6)
            have t0 : y0.size ≤ 4000 := Nat.le_trans (word_size HP4.out (k := 0) rfl) s4
            have t1 : y1.size ≤ 4000 := Nat.le_trans (word_size HP4.out (k := 1) rfl) s4
            have t2 : y2.size ≤ 4000 := Nat.le_trans (word_size HP4.out (k := 2) rfl) s4
            have HWD := Lib.hid (HTP.out.word (e := (numP y0.data.toList, numP y1.data.toList, numP y2.data.toList)) HP4.out (numP_tells _) (numP_tells _) (numP_tells _))
            have hne5 := HN4.out _ hA7
            have hbx := HI4.out.fm.box.at 3
            have d0' : w4.cell? ad7 = some (.string y0) := by simpa [Addr.add] using d0
            rw [add_pos _ _ (by omega)] at d1 d2
            have HT4 : Hid (FourS ⟨p, 3, none⟩ ad7 ⟨ad7.block, ad7.off + 1, none⟩ ⟨ad7.block, ad7.off + 2, none⟩ (.slice B m d) (.string y0) (.string y1) (.string y2) w4.drew) := Lib.hid ⟨hbx, d0', d1, d2⟩
            have HL4 := Lib.hid (show ad7.block < w4.heap.size from hbk7)
            have g3 : ((3 : Int) != 3) = false := rfl
            subst hA7
            clear hbx d0 d0' d1 d2 hz0 hz1 hz2 hA5 hA6 h3 hbk5 hbk6 hbk7
            go_wp2_with fail
            refine wp_region_hv [0, 1, 2, 3, 4, 5, 7, 8, 9, 10, 12, 13, 14, 15, 20] [6, 11, 16, 17, 18, 19, 21] (FourS ⟨p, 3, none⟩ ad7 ⟨ad7.block, ad7.off + 1, none⟩ ⟨ad7.block, ad7.off + 2, none⟩ (.slice B m d) (.string y0) (.string y1) (.string y2)) mixed (by kernel_rfl) (fun W W' h hb => h.below hb) HT4.out ?_
            iterate 15
              refine canonG_read (v := ?_) rfl (by rfl) ?_ ?_
              rotate_left
              · intro w hSw
                have hx := hSw.x
                have hy := hSw.y
                have hz := hSw.z
                have hu := hSw.u
                go_simp <;> with_reducible rfl
              simp only [List.getElem_toArray, List.getElem_cons_zero, List.getElem_cons_succ, Act.put, List.setIfInBounds_toArray, List.set_cons_succ, List.set_cons_zero]
            refine canonG_nil ?_
            refine tailG_one (t := 6) (ts' := [11, 16, 17, 18, 19, 21]) (by kernel_rfl) rfl rfl ?_
            intro u0a hu0
            have HIa := Lib.hid (HI4.out.on (undrew hu0))
            have HTa := Lib.hid (HT4.out.below hu0)
            have HLa : Hid (ad7.block < u0a.heap.size) := Lib.hid (Nat.lt_of_lt_of_le HL4.out (undrew hu0).size)
            clear hu0 HI4 HT4 HL4
            go_wp2_with fail
            with_reducible refine (num_any y0 kb b u0a (by omega) (HM14.out.kc HIa.out.kc hqp.2.2.1 hqp.2.2.2 h4b2) HIa.out.box HIa.out.fz).mono ?_
            rintro _ _ ⟨rfl, u0b, hv0, rfl⟩
            obtain ⟨b3, hok0⟩ : ∃ x, (b && okP y0.data.toList) = x := ⟨_, rfl⟩
            have HOK3 := Lib.hid hok0
            rw [hok0]
            have HI5 := Lib.hid ((HIa.out.on hv0).flag b3)
            have HT5 := Lib.hid ((HTa.out.below hv0).far (q := ⟨kb, 0, none⟩) (fun e => HIa.out.ne e.symm) hne5.2.1 hne5.2.1 hne5.2.1 (.bool b3))
            have HL5 : Hid (ad7.block < (u0b.setCell ⟨kb, 0, none⟩ (.bool b3)).heap.size) := Lib.hid (by rw [size_set]; exact Nat.lt_of_lt_of_le HLa.out hv0.size)
            clear hv0 HIa HTa HLa hok0
            generalize (u0b.setCell ⟨kb, 0, none⟩ (.bool b3)) = u0c at HI5 HT5 HL5 ⊢
            go_wp2_with fail
            refine ⟨HT5.out, ?_⟩
            refine tailG_one (t := 11) (ts' := [16, 17, 18, 19, 21]) (by kernel_rfl) rfl rfl ?_
            intro u1a hu1
            have HIa := Lib.hid (HI5.out.on (hu1))
            have HTa := Lib.hid (HT5.out.below hu1)
            have HLa : Hid (ad7.block < u1a.heap.size) := Lib.hid (Nat.lt_of_lt_of_le HL5.out (hu1).size)
            clear hu1 HI5 HT5 HL5
            go_wp2_with fail
            with_reducible refine (num_any y1 kb b3 u1a (by omega) (HM14.out.kc HIa.out.kc hqp.2.2.1 hqp.2.2.2 h4b2) HIa.out.box HIa.out.fz).mono ?_
            rintro _ _ ⟨rfl, u1b, hv1, rfl⟩
            obtain ⟨b4, hok1⟩ : ∃ x, (b3 && okP y1.data.toList) = x := ⟨_, rfl⟩
            have HOK4 := Lib.hid hok1
            rw [hok1]
            have HI6 := Lib.hid ((HIa.out.on hv1).flag b4)
            have HT6 := Lib.hid ((HTa.out.below hv1).far (q := ⟨kb, 0, none⟩) (fun e => HIa.out.ne e.symm) hne5.2.1 hne5.2.1 hne5.2.1 (.bool b4))
            have HL6 : Hid (ad7.block < (u1b.setCell ⟨kb, 0, none⟩ (.bool b4)).heap.size) := Lib.hid (by rw [size_set]; exact Nat.lt_of_lt_of_le HLa.out hv1.size)
            clear hv1 HIa HTa HLa hok1
            generalize (u1b.setCell ⟨kb, 0, none⟩ (.bool b4)) = u1c at HI6 HT6 HL6 ⊢
            go_wp2_with fail
            refine ⟨HT6.out, ?_⟩
            refine tailG_one (t := 16) (ts' := [17, 18, 19, 21]) (by kernel_rfl) rfl rfl ?_
            intro u2a hu2
            have HIa := Lib.hid (HI6.out.on (hu2))
            have HTa := Lib.hid (HT6.out.below hu2)
            have HLa : Hid (ad7.block < u2a.heap.size) := Lib.hid (Nat.lt_of_lt_of_le HL6.out (hu2).size)
            clear hu2 HI6 HT6 HL6
            go_wp2_with fail
            with_reducible refine (num_any y2 kb b4 u2a (by omega) (HM14.out.kc HIa.out.kc hqp.2.2.1 hqp.2.2.2 h4b2) HIa.out.box HIa.out.fz).mono ?_
            rintro _ _ ⟨rfl, u2b, hv2, rfl⟩
            obtain ⟨b5, hok2⟩ : ∃ x, (b4 && okP y2.data.toList) = x := ⟨_, rfl⟩
            have HOK5 := Lib.hid hok2
            rw [hok2]
            have HI7 := Lib.hid ((HIa.out.on hv2).flag b5)
            have HT7 := Lib.hid ((HTa.out.below hv2).far (q := ⟨kb, 0, none⟩) (fun e => HIa.out.ne e.symm) hne5.2.1 hne5.2.1 hne5.2.1 (.bool b5))
            have HL7 : Hid (ad7.block < (u2b.setCell ⟨kb, 0, none⟩ (.bool b5)).heap.size) := Lib.hid (by rw [size_set]; exact Nat.lt_of_lt_of_le HLa.out hv2.size)
            clear hv2 HIa HTa HLa hok2
            generalize (u2b.setCell ⟨kb, 0, none⟩ (.bool b5)) = u2c at HI7 HT7 HL7 ⊢
            go_wp2_with fail
            refine ⟨HT7.out, ?_⟩
            refine tailG_one (t := 17) (ts' := [18, 19, 21]) (by kernel_rfl) rfl rfl ?_
            intro w7x hb7x
            have HI7x := Lib.hid (HI7.out.on hb7x)
            have HT7x := Lib.hid (HT7.out.below hb7x)
            have HL7x : Hid (ad7.block < w7x.heap.size) := Lib.hid (Nat.lt_of_lt_of_le HL7.out hb7x.size)
            clear hb7x HI7 HT7 HL7
            go_wp2_with fail
            refine ⟨HT7x.out, ?_⟩
            refine tailG_one (t := 18) (ts' := [19, 21]) (by kernel_rfl) rfl rfl ?_
            intro w8 hb8
            have HI8 := Lib.hid (HI7x.out.on hb8)
            have HT8 := Lib.hid (HT7x.out.below hb8)
            have HZ8 : Hid (ad7.block < w8.heap.size) := Lib.hid (Nat.lt_of_lt_of_le HL7x.out hb8.size)
            clear hb8 HI7x HT7x HL7x
            go_wp2_with fail
            refine gen_at (fun W => ∃ bN, w8.heap.size = bN ∧ PI p b2 kb w14 b5 ⟨⟨numP x1.data.toList, numP x2.data.toList, ds, ps⟩, A', B, n', c', m, d⟩ W ∧ FourS ⟨p, 3, none⟩ ad7 ⟨ad7.block, ad7.off + 1, none⟩ ⟨ad7.block, ad7.off + 2, none⟩ (.slice B m d) (.string y0) (.string y1) (.string y2) W ∧ Box W bN #[.int .i64 (numP y0.data.toList), .int .i64 (numP y1.data.toList), .int .i64 (numP y2.data.toList)] ∧ ad7.block < W.heap.size) ⟨_, rfl, HI8.out.on (belowA _ _), HT8.out.below (belowA _ _), Box.new _ _ _, Nat.lt_of_lt_of_le HZ8.out (belowA _ _).size⟩ ?_
            rintro w9 ⟨bN, hbN, hm9, ht9, hx9, hz9⟩
            rw [hbN]
            have HM9 := Lib.hid hm9
            have HT9 := Lib.hid ht9
            have HX9 := Lib.hid hx9
            have HZ9 := Lib.hid hz9
            clear hm9 hx9 hbN hz9 HI8 HT8 HZ8
            refine ⟨ht9, ?_⟩
            clear ht9
            refine tailG_one (t := 19) (ts' := [21]) (by kernel_rfl) rfl rfl ?_
            intro w10 hb10
            have HM10 := Lib.hid (HM9.out.on hb10)
            have HT10 := Lib.hid (HT9.out.below hb10)
            have HZ10 : Hid (ad7.block < w10.heap.size) := Lib.hid (Nat.lt_of_lt_of_le HZ9.out hb10.size)
            refine wpList_pushXn rfl _ _ 23 50 rfl Tryd.underlying23 info33 rfl (by omega) (by omega) b2 w10 B m d (edgs ps) (some ⟨bN, 0, none⟩) 1 1 (ecells (numP y0.data.toList, numP y1.data.toList, numP y2.data.toList)) rfl HM10.out.fm.ps HM10.out.fm.bs rfl (reads_edg _ _ (numP y0.data.toList, numP y1.data.toList, numP y2.data.toList) (HX9.out.below hb10)) (fun h => by cases h) (by intro u hu; simp [ecells] at hu; rcases hu with rfl | rfl | rfl <;> rfl) (by omega) ?_
            intro B2 d2 w11 hr11 hg11 hn11
            rw [edgs_snoc] at hr11
            have HR11 := Lib.hid hr11
            have HG11 := Lib.hid hg11
            have HN11 := Lib.hid hn11
            have hcell : ∀ a : Addr, a.block = ad7.block → w11.cell? a = w10.cell? a := fun a ha => World.cell?_of_block (hg11.block a.block (by rw [ha]; exact HZ10.out) (fun e => HNB2.out ad7 a.block rfl e.symm ha))
            have HT11 : Hid (FourS ⟨p, 3, none⟩ ad7 ⟨ad7.block, ad7.off + 1, none⟩ ⟨ad7.block, ad7.off + 2, none⟩ (.slice B m d) (.string y0) (.string y1) (.string y2) w11) := Lib.hid ⟨by
              rw [(HM10.out.fm.box.grown hg11 fun k hk => by have := HM10.out.fm.rowB k hk; have := HM10.out.fm.pb; omega).at 3]; rfl, (hcell ad7 rfl).trans HT10.out.y, (hcell ⟨ad7.block, ad7.off + 1, none⟩ rfl).trans HT10.out.z, (hcell ⟨ad7.block, ad7.off + 2, none⟩ rfl).trans HT10.out.u⟩
            clear hb10 hr11 hg11 hn11 hcell HM9 HT9 HX9 HT10 HZ9 HZ10
            go_wp2_with fail
            refine ⟨HT11.out, ?_⟩
            refine tailG_last (t := 21) (by kernel_rfl) rfl ?_
            intro w12 hb12
            have HM13 := Lib.hid (HM10.out.putP (row_on HR11.out hb12) (grownBy_below HG11.out hb12) HN11.out)
            have cb : ∀ i, w12.cell? ⟨p, i, none⟩ = _ := (HM10.out.fm.box.grown (grownBy_below HG11.out hb12) fun k hk => by have := HM10.out.fm.rowB k hk; have := HM10.out.fm.pb; omega).at
            have fb := fz_grown HM10.out.fm.box.1 HM10.out.fm.fz (grownBy_below HG11.out hb12) fun k hk => by have := HM10.out.fm.rowB k hk; have := HM10.out.fm.pb; omega
            have HFL2 : Hid (FlagT (lists l) (j + 1) b5) := Lib.hid (by
              rw [← HOK5.out, ← HOK4.out, ← HOK3.out]
              exact HFL.out.word HX5.out HP4.out)
            clear hb12 HT11 HR11 HG11 HN11
            go_wp2_with fail
            refine NoPanic.normal ?_
            clear cb fb
            go_wp2_with fail
            go_roundw
            case rel => exact ⟨j + 1, b5, ps ++ [(numP y0.data.toList, numP y1.data.toList, numP y2.data.toList)], B2, m + 1, d2, by omega, by go_num, by omega, HM13.out, by rw [HXS.out]; exact HWD.out, HFL2.out⟩
            case measure => simp [intOf]; omega
          · have hjl : j = l.length - 4 := by omega
            subst hjl
            have HRD2 : Hid (RdT (lists l) ⟨numP x1.data.toList, numP x2.data.toList, ds, ps⟩) := Lib.hid (by
              have hget : ∀ (k : Nat) (x : ByteArray), l[k]? = some x → (lists l)[k]? = some x.data.toList := fun k x hx => by unfold lists; rw [List.getElem?_map, hx]; rfl
              refine ⟨fun x hx => ?_, fun x hx => ?_, fun x hx => ?_, ?_⟩
              · rw [hget 1 x1 hx1] at hx; injection hx with hx; rw [← hx]; exact numP_tells _
              · rw [hget 2 x2 hx2] at hx; injection hx with hx; rw [← hx]; exact numP_tells _
              · rw [hget 3 x3 hx3] at hx; injection hx with hx; rw [← hx]; exact HDS.out.symm
              · have := HTP.out
                rwa [List.take_of_length_le (by simp [lists])] at this)
            obtain ⟨W, hW⟩ : ∃ z, numP x1.data.toList = z := ⟨_, rfl⟩
            obtain ⟨H, hH⟩ : ∃ z, numP x2.data.toList = z := ⟨_, rfl⟩
            rw [hW, hH] at HI HRD2
            obtain ⟨v, hv⟩ : ∃ v : FV, (⟨⟨W, H, ds, ps⟩, A', B, n', c', m, d⟩ : FV) = v := ⟨_, rfl⟩
            have HV := Lib.hid (HI.out.fm.inn (by show n' ≤ _; omega) (by show m ≤ _; omega))
            have HRQ0 := Lib.hid (HR14.out.kc HI.out.kc hqp.1 hqp.2.1 HI.out.fm.pb)
            have HMB := Lib.hid (show (∀ a, v.A = some a → a.block ≠ q) ∧ (∀ a, v.B = some a → a.block ≠ q) from by
              subst hv
              exact ⟨fun a ha => by have := HI.out.fm.rowA a.block (by show (Value.slice A' n' c').ownBlock = _; rw [show A' = some a from ha]; rfl); have := HI.out.fm.pb; omega,
                fun a ha => by have := HI.out.fm.rowB a.block (by show (Value.slice B m d).ownBlock = _; rw [show B = some a from ha]; rfl); have := HI.out.fm.pb; omega⟩)
            have HCB : Hid (Box wr p #[.int .i64 v.f.W, .int .i64 v.f.H, .slice v.A v.n v.c, .slice v.B v.m v.d]) := Lib.hid (by subst hv; exact HI.out.fm.box)
            have HBK := Lib.hid HI.out.box
            have hvf : (⟨W, H, ds, ps⟩ : Fld) = v.f := by rw [← hv]
            rw [hv] at HV
            rw [hvf] at HRD2
            have cb := HCB.out.at
            have HFG : Hid (∀ g, IsFld s.data.toList g → b = true) := Lib.hid fun g hg => HFL.out.good HPC.out hg trivial
            clear hvf hv HI HTP hlt HFL
            go_wp2_with fail
            with_reducible refine (Format_any v _ HV.out).mono ?_
            rintro _ w5 ⟨rfl, hb5⟩
            have HV5 := Lib.hid (HV.out.below hb5)
            have HRQ := Lib.hid (HRQ0.out.on hb5)
            have HCB5 := Lib.hid (HCB.out.below hb5)
            have ck := (HBK.out.below hb5).at
            clear hb5 cb HV HRQ0 HCB HBK
            obtain ⟨e, he⟩ : ∃ e, valid v.f = e := ⟨_, rfl⟩
            obtain ⟨t, ht⟩ : ∃ t : ByteArray, (⟨(fmtX v.f).toArray⟩ : ByteArray) = t := ⟨_, rfl⟩
            have HE := Lib.hid he
            have HT := Lib.hid ht
            rw [he, ht]
            clear he ht
            cases b
            case false =>
              have HNO : Hid (∀ g, ¬ IsFld s.data.toList g) := Lib.hid fun g hg => by have := HFG.out g hg; cases this
              have cr := HRQ.out.box.at
              have fr := HRQ.out.fz
              go_wp2_with fail
              have cF := (HRQ.out.box.four (.int .i64 0) (.int .i64 0) (.slice none 0 0) (.slice none 0 0)).at
              exact bodyPost_ret (v := .tuple #[.agg #[.int .i64 0, .int .i64 0, .slice none 0 0, .slice none 0 0], .int .i64 3]) (by simp [results, Tryd.results8, go_sem, cF]) rfl
                ⟨zeroV, 3, rfl, .inr (.inr ⟨by omega, HNO.out, rfl, rfl⟩), zero_in _, HRQ.out.four _ _ _ _⟩

            by_cases hz : e = 0
            case neg =>
              have g : (e != 0) = true := by simpa using hz
              have HBAD : Hid (¬ IsFld s.data.toList v.f) := Lib.hid fun h => hz (HE.out.symm.trans h.1)
              clear hz
              have HNO : Hid (∀ g, ¬ IsFld s.data.toList g) := Lib.hid fun g hg => by
                have := HRD2.out.is HPC.out hg
                subst this
                exact HBAD.out hg
              have cr := HRQ.out.box.at
              have fr := HRQ.out.fz
              go_wp2_with fail
              have cF := (HRQ.out.box.four (.int .i64 0) (.int .i64 0) (.slice none 0 0) (.slice none 0 0)).at
              exact bodyPost_ret (v := .tuple #[.agg #[.int .i64 0, .int .i64 0, .slice none 0 0, .slice none 0 0], .int .i64 3]) (by simp [results, Tryd.results8, go_sem, cF]) rfl
                ⟨zeroV, 3, rfl, .inr (.inr ⟨by omega, HNO.out, rfl, rfl⟩), zero_in _, HRQ.out.four _ _ _ _⟩

            subst hz
            by_cases hq2 : t.toList = s.toList
            case neg =>
              have gE : (t.toList == s.toList) = false := by simpa using hq2
              have HBAD : Hid (¬ IsFld s.data.toList v.f) := Lib.hid fun h => hq2 (by
                rw [← HT.out, ByteArray.toList_eq, ByteArray.toList_eq]
                show fmtX v.f = _
                rw [show fmtX v.f = fmtL v.f from if_pos h.1, h.2])
              clear hq2
              have HNO : Hid (∀ g, ¬ IsFld s.data.toList g) := Lib.hid fun g hg => by
                have := HRD2.out.is HPC.out hg
                subst this
                exact HBAD.out hg
              have cr := HRQ.out.box.at
              have fr := HRQ.out.fz
              go_wp2_with fail
              have cF := (HRQ.out.box.four (.int .i64 0) (.int .i64 0) (.slice none 0 0) (.slice none 0 0)).at
              exact bodyPost_ret (v := .tuple #[.agg #[.int .i64 0, .int .i64 0, .slice none 0 0, .slice none 0 0], .int .i64 3]) (by simp [results, Tryd.results8, go_sem, cF]) rfl
                ⟨zeroV, 3, rfl, .inr (.inr ⟨by omega, HNO.out, rfl, rfl⟩), zero_in _, HRQ.out.four _ _ _ _⟩

            have gE : (t.toList == s.toList) = true := by simpa using hq2
            have HIS : Hid (IsFld s.data.toList v.f) := Lib.hid ⟨HE.out, by
              rw [← HT.out, ByteArray.toList_eq, ByteArray.toList_eq] at hq2
              rw [← hq2]
              show fmtL v.f = fmtX v.f
              rw [show fmtX v.f = fmtL v.f from if_pos HE.out]⟩
            have cr := HRQ.out.box.at
            have fr := HRQ.out.fz
            have cb := HCB5.out.at
            clear hq2
            go_wp2_with fail
            have cF := (HRQ.out.box.four (.int .i64 v.f.W) (.int .i64 v.f.H) (.slice v.A v.n v.c) (.slice v.B v.m v.d)).at
            exact bodyPost_ret (v := .tuple #[.agg #[.int .i64 v.f.W, .int .i64 v.f.H, .slice v.A v.n v.c, .slice v.B v.m v.d], .int .i64 0]) (by simp [results, Tryd.results8, go_sem, cF]) rfl
              ⟨v, 0, rfl, .inr (.inl ⟨by omega, HIS.out, rfl⟩), HV5.out.four HMB.out.1 HMB.out.2 _ _ _ _, HRQ.out.four _ _ _ _⟩
end Go.Proofs.YtfaleddacmbidaaDoor
