/- Walks: the field of a text, the reference's. -/
import Derived.Test.YtfaleddacmbidaaDoorWg
import Derived.Test.YtfaleddacmbidaaDoorHv
namespace Go.Proofs.YtfaleddacmbidaaDoor
open Go.RowKit Go.Sort

/-- Partings that words tell. -/
def TellsP (xs : List (List UInt8)) (ps : List Edg) : Prop := ∀ es : List Edg, (∀ e ∈ es, (0 ≤ e.1 ∧ e.1 ≤ 99) ∧ (0 ≤ e.2.1 ∧ e.2.1 ≤ 99) ∧ 0 ≤ e.2.2 ∧ e.2.2 ≤ 99) → xs = es.map bodyE → ps = es
theorem TellsP.nil : TellsP [] [] := fun es _ h => by
  cases es with
  | nil => rfl
  | cons e es => simp at h
theorem snoc_map {xs : List (List UInt8)} {x : List UInt8} {es : List Edg} (h : xs ++ [x] = es.map bodyE) : ∃ fs e, es = fs ++ [e] ∧ xs = fs.map bodyE ∧ x = bodyE e := by
  rcases List.eq_nil_or_concat es with rfl | ⟨fs, e, rfl⟩
  · simp at h
  · rw [List.concat_eq_append, List.map_append, List.map_singleton] at h
    obtain ⟨h1, h2⟩ := List.append_inj' h rfl
    exact ⟨fs, e, by rw [List.concat_eq_append], h1, by simpa using h2⟩
theorem TellsP.skip {xs : List (List UInt8)} {ps : List Edg} {x : List UInt8} {l : List (List UInt8)} (hl : Pcs 44 l x) (h3 : l.length ≠ 3) : TellsP (xs ++ [x]) ps := fun es _ h => by
  obtain ⟨fs, e, rfl, _, rfl⟩ := snoc_map h
  exact absurd (congrArg List.length (hl.unique (body_pcs e))) (by simpa using h3)
theorem TellsP.word {xs : List (List UInt8)} {ps : List Edg} {x a b c : List UInt8} {e : Edg} (h : TellsP xs ps) (hl : Pcs 44 [a, b, c] x) (h1 : Tells a e.1) (h2 : Tells b e.2.1) (h3 : Tells c e.2.2) : TellsP (xs ++ [x]) (ps ++ [e]) := fun es hb hx => by
  obtain ⟨fs, g, rfl, k1, rfl⟩ := snoc_map hx
  obtain ⟨q1, q2, q3⟩ := hb g (by simp)
  have hu := hl.unique (body_pcs g)
  simp only [List.cons.injEq, and_true] at hu
  obtain ⟨u1, u2, u3⟩ := hu
  rw [h fs (fun e he => hb e (List.mem_append_left _ he)) k1]
  obtain ⟨e1, e2, e3⟩ := e
  obtain ⟨g1, g2, g3⟩ := g
  dsimp only at *
  rw [h1 g1 q1.1 q1.2 u1, h2 g2 q2.1 q2.2 u2, h3 g3 q3.1 q3.2 u3]
/-- What the words of a text tell. -/
structure RdT (l : List (List UInt8)) (f : Fld) : Prop where
  w : ∀ x, l[1]? = some x → Tells x f.W
  h : ∀ x, l[2]? = some x → Tells x f.H
  d : ∀ x, l[3]? = some x → f.ds = readDs x
  p : TellsP (l.drop 4) f.ps
theorem RdT.is {t : List UInt8} {l : List (List UInt8)} {f g : Fld} (h : RdT l f) (hl : Pcs 32 l t) (hg : IsFld t g) : f = g := by
  have hk := okf_of_valid hg.1
  have e := fld_words hg hl
  subst e
  have q1 := h.w (Lib.itoa g.W) rfl g.W (by have := hk.w1; omega) (by have := hk.w2; omega) rfl
  have q2 := h.h (Lib.itoa g.H) rfl g.H (by have := hk.h1; omega) (by have := hk.h2; omega) rfl
  have q3 := h.d (dirsF g.W 0 g.ds) rfl
  rw [readDs_dirs hk.dir] at q3
  have q4 := h.p g.ps (fun e he => okf_bd hk he) rfl
  obtain ⟨_, _, _, _⟩ := f
  obtain ⟨_, _, _, _⟩ := g
  dsimp only at *
  rw [q1, q2, q3, q4]
theorem few_words {t : List UInt8} {l : List (List UInt8)} {g : Fld} (hl : Pcs 32 l t) (hg : IsFld t g) : 4 ≤ l.length := by
  rw [fld_words hg hl]
  simp [pieces]
theorem join_len (b : UInt8) : ∀ (l : List (List UInt8)), l.length ≤ (join b l).length + 1 ∧ ∀ w ∈ l, w.length ≤ (join b l).length
  | [] => ⟨by simp, fun _ h => by cases h⟩
  | [x] => ⟨by simp, fun w h => by rw [List.mem_singleton.1 h]; exact Nat.le_refl _⟩
  | x :: y :: l => by
    have ih := join_len b (y :: l)
    rw [join_cons b x (by simp)]
    simp only [List.length_append, List.length_cons] at *
    refine ⟨by omega, fun w hw => ?_⟩
    rcases List.mem_cons.1 hw with rfl | hw
    · omega
    · have := ih.2 w hw; omega
theorem word_size {b : UInt8} {s x : ByteArray} {l : List ByteArray} (h : Pcs b (lists l) s.data.toList) {k : Nat} (hx : l[k]? = some x) : x.size ≤ s.size := by
  have h1 := (join_len b (lists l)).2 x.data.toList (List.mem_map.2 ⟨x, List.mem_of_getElem? hx, rfl⟩)
  rw [h.eq] at h1
  simpa using h1
theorem words_few {b : UInt8} {s : ByteArray} {l : List ByteArray} (h : Pcs b (lists l) s.data.toList) : l.length ≤ s.size + 1 := by
  have h1 := (join_len b (lists l)).1
  rw [h.eq] at h1
  simpa [lists] using h1
abbrev zeroV : FV := ⟨noF, none, none, 0, 0, 0, 0⟩
/-- A word in memory. -/
theorem sat {w : World} {B : Nat} {A : Option Addr} {n : Nat} {l : List ByteArray} (h : Reads w B 1 A n (strs l)) {k : Nat} (hk : k < l.length) : ∃ ad x, A = some ad ∧ ad.block < B ∧ l[k]? = some x ∧ w.cell? (ad.add k) = some (.string x) := by
  have hl := h.len
  have e : (strs l).length = l.length := by simp [strs]
  obtain ⟨ad, hA, hB, hc⟩ := h.look (by omega)
  exact ⟨ad, l[k], hA, hB, List.getElem?_eq_getElem hk, hc k _ (by simp [strs, List.getElem?_eq_getElem hk])⟩
theorem ix52 {A : Option Addr} {ad : Addr} {n c k : Nat} (h : A = some ad) (hk : k < n) (w : World) : (Instr.indexAt 52 (.slice A n c) (.int .i64 (k : Int))).run Tryd.prog w = .ok (.pointer (some (ad.add k))) w := by
  subst h
  have h0 : (0 : Int) ≤ (k : Int) ∧ (k : Int) < (n : Int) := by omega
  have hs : (sizeOf (Tryd.prog.elem 52)).run Tryd.prog w = .ok 1 w := by kernel_rfl
  rw [run_indexAt_slice w 52 ad n c .i64 k (by kernel_rfl), if_pos h0, hs]
  simp [Result.andThen]
theorem wordsB (s : ByteArray) (w : World) (hs : s.size ≤ 1000000) : Calls Tryd.prog 23 #[.string s, .int .u8 32] w (RetWords 32 s w) := words_any 32 s w hs
theorem wordsC (s : ByteArray) (w : World) (hs : s.size ≤ 1000000) : Calls Tryd.prog 23 #[.string s, .int .u8 44] w (RetWords 44 s w) := words_any 44 s w hs
/-- Two cells. -/
structure TwoS (a b : Addr) (x y : Value) (w : World) : Prop where
  x : w.cell? a = some x
  y : w.cell? b = some y
theorem TwoS.below {a b : Addr} {x y : Value} {w w' : World} (h : TwoS a b x y w) (hb : Below w.heap.size w w') : TwoS a b x y w' :=
  ⟨(hb.cell (World.block_lt_of_cell? _ _ h.x)).trans h.x, (hb.cell (World.block_lt_of_cell? _ _ h.y)).trans h.y⟩
theorem TwoS.far {a b : Addr} {x y : Value} {w : World} (h : TwoS a b x y w) {q : Addr} (h1 : a.block ≠ q.block) (h2 : b.block ≠ q.block) (u : Value) : TwoS a b x y (w.setCell q u) :=
  ⟨(World.cell?_setCell_other _ _ _ _ (fun e => h1 (by rw [e]))).trans h.x, (World.cell?_setCell_other _ _ _ _ (fun e => h2 (by rw [e]))).trans h.y⟩
theorem Box.four {W : World} {B : Nat} {x y z u : Value} (h : Box W B #[x, y, z, u]) (a b c d : Value) : Box ((((W.setCell ⟨B, 0, none⟩ a).setCell ⟨B, 1, none⟩ b).setCell ⟨B, 2, none⟩ c).setCell ⟨B, 3, none⟩ d) B #[a, b, c, d] := by
  have := (((h.set (i := 0) (by simp) a).set (i := 1) (by simp) b).set (i := 2) (by simp) c).set (i := 3) (by simp) d
  simpa using this
theorem KB.cell {bl p : Nat} {w w' : World} (h : KB bl p w w') {a : Addr} (h1 : a.block < bl) (h2 : a.block ≠ p) : w'.cell? a = w.cell? a := World.cell?_of_block (h.block a.block h1 h2)
theorem grownBy_below {w w' w'' : World} {row : Option Nat} (h : w.grownBy w' row) (hb : Below w'.heap.size w' w'') : w.grownBy w'' row :=
  ⟨hb.os.trans h.os, hb.tape.trans h.tape, hb.output.trans h.output, Nat.le_trans h.size hb.size, fun k hk hne => (hb.block k (Nat.lt_of_lt_of_le hk h.size)).trans (h.block k hk hne)⟩
theorem reads_edg (w : World) (b : Nat) (e : Edg) (h : Box w b #[.int .i64 e.1, .int .i64 e.2.1, .int .i64 e.2.2]) : Reads w w.heap.size 3 (some ⟨b, 0, none⟩) 1 (ecells e) := by
  refine ⟨rfl, fun _ => ⟨⟨b, 0, none⟩, rfl, h.1, fun j u hj => ?_⟩⟩
  have e1 : (⟨b, 0, none⟩ : Addr).add j = ⟨b, j, none⟩ := by
    unfold Addr.add
    split
    · rename_i h0; rw [h0]
    · simp
  rw [e1, h.2 j]
  simpa [ecells] using hj
theorem edgs_snoc (l : List Edg) (e : Edg) : edgs l ++ ecells e = edgs (l ++ [e]) := by simp [edgs]
/-- Four cells. -/
structure FourS (a b c d : Addr) (x y z u : Value) (w : World) : Prop where
  x : w.cell? a = some x
  y : w.cell? b = some y
  z : w.cell? c = some z
  u : w.cell? d = some u
theorem FourS.below {a b c d : Addr} {x y z u : Value} {w w' : World} (h : FourS a b c d x y z u w) (hb : Below w.heap.size w w') : FourS a b c d x y z u w' :=
  ⟨(hb.cell (World.block_lt_of_cell? _ _ h.x)).trans h.x, (hb.cell (World.block_lt_of_cell? _ _ h.y)).trans h.y, (hb.cell (World.block_lt_of_cell? _ _ h.z)).trans h.z, (hb.cell (World.block_lt_of_cell? _ _ h.u)).trans h.u⟩
theorem reads_one (w : World) (b : Nat) (x : Value) (h : Box w b #[x]) : Reads w w.heap.size 1 (some ⟨b, 0, none⟩) 1 [x] := by
  refine ⟨rfl, fun _ => ⟨⟨b, 0, none⟩, rfl, h.1, fun j u hj => ?_⟩⟩
  cases j with
  | zero =>
    simp at hj; subst hj
    have := h.2 0
    simpa [Addr.add] using this
  | succ j => simp at hj
theorem ints_snoc (l : List Int) (z : Int) : ints l ++ [.int .i64 z] = ints (l ++ [z]) := by simp [ints]
/-- The result's box. -/
structure ResQ (q : Nat) (w0 w : World) : Prop where
  box : Box w q #[.int .i64 0, .int .i64 0, .slice none 0 0, .slice none 0 0]
  fz : ∀ i, w.frozen? ⟨q, i, none⟩ = false
  bel : Below w0.heap.size w0 w
  le : w0.heap.size ≤ q
theorem ResQ.on {q : Nat} {w0 w w' : World} (h : ResQ q w0 w) (hb : Below w.heap.size w w') : ResQ q w0 w' := ⟨h.box.below hb, fz_below h.box.1 h.fz hb, below_trans' h.bel hb, h.le⟩
theorem ResQ.kb {q p bl : Nat} {w0 w w' : World} (h : ResQ q w0 w) (hk : KB bl p w w') (h1 : q < p) (h2 : p < bl) : ResQ q w0 w' :=
  ⟨hk.box h.box (by omega) (by omega), hk.fz h.fz (by omega) (by omega), hk.below h.bel (by have := h.le; omega) (by have := h.le; omega), h.le⟩
theorem ResQ.new (w : World) : ResQ w.heap.size w (w.alloc (.cells #[.int .i64 0, .int .i64 0, .slice none 0 0, .slice none 0 0] 25)) := ⟨Box.new _ _ _, fz_new _ _ _, belowA _ _, Nat.le_refl _⟩
theorem ResQ.four {q : Nat} {w0 w : World} (h : ResQ q w0 w) (a b c d : Value) : Below w0.heap.size w0 ((((w.setCell ⟨q, 0, none⟩ a).setCell ⟨q, 1, none⟩ b).setCell ⟨q, 2, none⟩ c).setCell ⟨q, 3, none⟩ d) :=
  (((h.bel.setCell (p := ⟨q, 0, none⟩) h.le a).setCell (p := ⟨q, 1, none⟩) h.le b).setCell (p := ⟨q, 2, none⟩) h.le c).setCell (p := ⟨q, 3, none⟩) h.le d
theorem FV.In.four {v : FV} {w : World} (h : v.In w) {q : Nat} (h1 : ∀ a, v.A = some a → a.block ≠ q) (h2 : ∀ a, v.B = some a → a.block ≠ q) (a b c d : Value) : v.In ((((w.setCell ⟨q, 0, none⟩ a).setCell ⟨q, 1, none⟩ b).setCell ⟨q, 2, none⟩ c).setCell ⟨q, 3, none⟩ d) := by
  have step : ∀ {w : World} (i : Nat) (u : Value), v.In w → v.In (w.setCell ⟨q, i, none⟩ u) := fun {w} i u h => by
    obtain ⟨x1, x2, x3, x4⟩ := h
    refine ⟨?_, ?_, x3, x4⟩
    · rw [size_set]; exact x1.far (q := ⟨q, i, none⟩) h1 u
    · rw [size_set]; exact x2.far (q := ⟨q, i, none⟩) h2 u
  exact step 3 d (step 2 c (step 1 b (step 0 a h)))
theorem zero_in (w : World) : zeroV.In w := ⟨Reads.nil, Reads.nil, by decide, by decide⟩
set_option maxRecDepth 100000 in
set_option maxHeartbeats 4000000 in
theorem refParse_any (s : ByteArray) (w : World) : Calls Tryd.prog 9 #[.string s] w (RetPar s w) := by
  have hsl : s.data.toList.length = s.size := by simp
  by_cases hbig : s.size ≤ 4000
  case neg =>
    go_enter Tryd.func9, Tryd.ntmps9
    go_wp2_with fail
    have HR := Lib.hid (ResQ.new w)
    have cr := HR.out.box.at
    exact bodyPost_ret (v := .tuple #[.agg #[.int .i64 0, .int .i64 0, .slice none 0 0, .slice none 0 0], .int .i64 4]) (by simp [results, Tryd.results9, go_sem, cr]) rfl
      ⟨zeroV, 4, rfl, .inl ⟨by omega, rfl, rfl⟩, zero_in _, HR.out.bel⟩
  go_enter Tryd.func9, Tryd.ntmps9
  go_wp2_with fail
  obtain ⟨q, hq⟩ : ∃ q, w.heap.size = q := ⟨_, rfl⟩
  have HR := Lib.hid (ResQ.new w)
  rw [hq] at HR ⊢
  have HQ := Lib.hid hq
  have HS1 : Hid ((w.alloc (.cells #[.int .i64 0, .int .i64 0, .slice none 0 0, .slice none 0 0] 25)).heap.size = q + 1) := Lib.hid (by rw [← hq]; simp)
  clear hq
  generalize (w.alloc (.cells #[.int .i64 0, .int .i64 0, .slice none 0 0, .slice none 0 0] 25)) = w1 at HR HS1 ⊢
  obtain ⟨p, hp⟩ : ∃ p, q + 1 = p := ⟨_, rfl⟩
  have HR2 := Lib.hid (HR.out.on (belowA w1 (.cells #[.int .i64 0, .int .i64 0, .slice none 0 0, .slice none 0 0] 25)))
  have HP2 : Hid (Box (w1.alloc (.cells #[.int .i64 0, .int .i64 0, .slice none 0 0, .slice none 0 0] 25)) p #[.int .i64 0, .int .i64 0, .slice none 0 0, .slice none 0 0] ∧ ∀ i, (w1.alloc (.cells #[.int .i64 0, .int .i64 0, .slice none 0 0, .slice none 0 0] 25)).frozen? ⟨p, i, none⟩ = false) := Lib.hid (by rw [← hp, ← HS1.out]; exact ⟨Box.new _ _ _, fz_new _ _ _⟩)
  have hqp : q < p := by omega
  rw [hp]
  clear hp HR HS1
  generalize (w1.alloc (.cells #[.int .i64 0, .int .i64 0, .slice none 0 0, .slice none 0 0] 25)) = w2 at HR2 HP2 ⊢
  with_reducible refine (wordsB s w2 (by omega)).mono ?_
  rintro _ w3 ⟨l, A, c, rfl, hpc, hlc, hnw, hrd, hb3⟩
  have HPC := Lib.hid hpc
  have HRD := Lib.hid hrd
  have HNE : Hid (∀ a, A = some a → a.block ≠ p) := Lib.hid fun a ha => by have := hnw a ha; have := HP2.out.1.1; omega
  have HR3 := Lib.hid (HR2.out.on hb3)
  have HM3 : Hid (MK p w3.heap.size w3 zeroV) := Lib.hid ⟨HP2.out.1.below hb3, fz_below HP2.out.1.1 HP2.out.2 hb3, World.ownsRow_nil _ _ _ _, World.ownsRow_nil _ _ _ _, (fun _ _ h => by cases h), Nat.lt_of_lt_of_le HP2.out.1.1 hb3.size, Nat.le_refl _⟩
  clear hpc hrd hb3 HR2 HP2 hnw
  have hll : (lists l).length = l.length := by simp [lists]
  by_cases hfew : 4 ≤ l.length
  case neg =>
    have HNO : Hid (∀ g, ¬ IsFld s.data.toList g) := Lib.hid fun g hg => by have := few_words HPC.out hg; omega
    have cr := HR3.out.box.at
    have fr := HR3.out.fz
    go_wp2_with fail
    have cF := (HR3.out.box.four (.int .i64 0) (.int .i64 0) (.slice none 0 0) (.slice none 0 0)).at
    exact bodyPost_ret (v := .tuple #[.agg #[.int .i64 0, .int .i64 0, .slice none 0 0, .slice none 0 0], .int .i64 3]) (by simp [results, Tryd.results9, go_sem, cF]) rfl
      ⟨zeroV, 3, rfl, .inr (.inr ⟨by omega, HNO.out, rfl, rfl⟩), zero_in _, HR3.out.four _ _ _ _⟩
  go_wp2_with fail
  obtain ⟨ad, x1, hA, hbk1, hx1, c1⟩ := sat HRD.out (k := 1) (by omega)
  obtain ⟨ad2, x2, hA2, hbk2, hx2, c2⟩ := sat HRD.out (k := 2) (by omega)
  obtain ⟨ad3, x3, hA3, hbk3, hx3, c3⟩ := sat HRD.out (k := 3) (by omega)
  obtain rfl : ad2 = ad := Option.some.inj (hA2.symm.trans hA)
  obtain rfl : ad3 = ad2 := Option.some.inj (hA3.symm.trans hA)
  have X1 : (1 : Int) < (l.length : Int) := by omega
  have X2 : (2 : Int) < (l.length : Int) := by omega
  have X3 : (3 : Int) < (l.length : Int) := by omega
  rw [add_pos _ _ (by omega)] at c1 c2 c3
  have s1 : x1.size ≤ 4000 := Nat.le_trans (word_size HPC.out hx1) hbig
  have s2 : x2.size ≤ 4000 := Nat.le_trans (word_size HPC.out hx2) hbig
  have s3 : x3.size ≤ 4000 := Nat.le_trans (word_size HPC.out hx3) hbig
  have hl4 : l.length ≤ 4001 := by have := words_few HPC.out; omega
  have hne := HNE.out _ hA
  have HTS := Lib.hid (show TwoS ⟨ad3.block, ad3.off + 1, none⟩ ⟨ad3.block, ad3.off + 2, none⟩ (.string x1) (.string x2) w3.drew from ⟨c1, c2⟩)
  refine wp_region_hv [0, 1, 2, 3, 4, 5, 6, 7, 8, 10] [9, 11] (TwoS ⟨ad3.block, ad3.off + 1, none⟩ ⟨ad3.block, ad3.off + 2, none⟩ (.string x1) (.string x2)) mixed (by kernel_rfl) (fun W W' h hb => h.below hb) HTS.out ?_
  iterate 3
    refine canonG_read (v := ?_) rfl (by rfl) ?_ ?_
    rotate_left
    · intro w hSw
      have hx := hSw.x
      have hy := hSw.y
      go_simp <;> with_reducible rfl
    simp only [List.getElem_toArray, List.getElem_cons_zero, List.getElem_cons_succ, Act.put, List.setIfInBounds_toArray, List.set_cons_succ, List.set_cons_zero]
  refine canonG_call (v := .int .i64 (numR x1.data.toList)) (f := 24) (args := #[.string x1]) rfl (by rfl) ?_ ?_ ?_
  · intro w hSw
    go_simp
  · intro w hSw
    exact (number_any x1 w (by omega)).mono fun r w2 ⟨h1, h2⟩ => ⟨h1, by rw [h2]; exact Below.refl _ _⟩
  simp only [List.getElem_toArray, List.getElem_cons_zero, List.getElem_cons_succ, Act.put, List.setIfInBounds_toArray, List.set_cons_succ, List.set_cons_zero]
  iterate 3
    refine canonG_read (v := ?_) rfl (by rfl) ?_ ?_
    rotate_left
    · intro w hSw
      have hx := hSw.x
      have hy := hSw.y
      go_simp <;> with_reducible rfl
    simp only [List.getElem_toArray, List.getElem_cons_zero, List.getElem_cons_succ, Act.put, List.setIfInBounds_toArray, List.set_cons_succ, List.set_cons_zero]
  refine canonG_call (v := .int .i64 (numR x2.data.toList)) (f := 24) (args := #[.string x2]) rfl (by rfl) ?_ ?_ ?_
  · intro w hSw
    go_simp
  · intro w hSw
    exact (number_any x2 w (by omega)).mono fun r w2 ⟨h1, h2⟩ => ⟨h1, by rw [h2]; exact Below.refl _ _⟩
  simp only [List.getElem_toArray, List.getElem_cons_zero, List.getElem_cons_succ, Act.put, List.setIfInBounds_toArray, List.set_cons_succ, List.set_cons_zero]
  iterate 2
    refine canonG_read (v := ?_) rfl (by rfl) ?_ ?_
    rotate_left
    · intro w hSw
      have hx := hSw.x
      have hy := hSw.y
      go_simp <;> with_reducible rfl
    simp only [List.getElem_toArray, List.getElem_cons_zero, List.getElem_cons_succ, Act.put, List.setIfInBounds_toArray, List.set_cons_succ, List.set_cons_zero]
  refine canonG_nil ?_
  obtain ⟨bl, hbl⟩ : ∃ bl, w3.heap.size = bl := ⟨_, rfl⟩
  rw [hbl] at HM3
  have HBL := Lib.hid hbl
  refine tailG_one (t := 9) (ts' := [11]) (by kernel_rfl) rfl rfl ?_
  intro w4 hb4
  have HM4 := Lib.hid (HM3.out.on (undrew hb4))
  have HK4 : Hid (KB bl p w3 w4) := Lib.hid (KB.of_below (undrew hb4) (by omega))
  have HT4 := Lib.hid (HTS.out.below hb4)
  have cb := HM4.out.box.at
  have fb := HM4.out.fz
  clear hb4
  go_wp2_with fail
  refine ⟨HT4.out.far (q := ⟨p, 0, none⟩) hne hne _, ?_⟩
  have HM5 := Lib.hid (HM4.out.setW (numR x1.data.toList))
  have HK5 := Lib.hid (HK4.out.trans (KB.set 0 (.int .i64 (numR x1.data.toList))))
  clear HM4 HK4 HT4 cb fb
  refine tailG_last (t := 11) (by kernel_rfl) rfl ?_
  intro w6 hb6
  have HM6 := Lib.hid (HM5.out.on hb6)
  have HK6 : Hid (KB bl p w3 w6) := Lib.hid (HK5.out.trans (KB.of_below hb6 HM5.out.bs))
  have cb := HM6.out.box.at
  have fb := HM6.out.fz
  clear hb6 HM5 HK5 HM3
  go_wp2_with fail
  refine NoPanic.normal ?_
  have HM7 := Lib.hid (HM6.out.setH (numR x2.data.toList))
  have HK7 := Lib.hid (HK6.out.trans (KB.set 1 (.int .i64 (numR x2.data.toList))))
  clear HM6 HK6 cb fb hbl HTS
  have hg0 : w3.heap.size = bl := HBL.out
  rw [hg0] at hbk1 hbk2 hbk3
  generalize (w6.setCell ⟨p, 1, none⟩ (.int .i64 (numR x2.data.toList))) = w7 at HM7 HK7 ⊢
  clear hg0
  go_wp2_with fail
  have C3 := Lib.hid c3
  clear c1 c2 c3
  go_loopw [6] (fun i wr => ∃ (k : Nat) (A' : Option Addr) (n' c' : Nat), k ≤ x3.size ∧ i = .int .i64 k ∧ n' ≤ k ∧ MK p bl wr ⟨⟨numR x1.data.toList, numR x2.data.toList, readDs (x3.data.toList.take k), []⟩, A', none, n', c', 0, 0⟩ ∧ KB bl p w3 wr) (fun i _ => x3.size - (intOf i).toNat)
  case atStart => exact ⟨0, none, 0, 0, by omega, rfl, by omega, HM7.out, HK7.out⟩
  case round =>
    clear HM7 HK7
    obtain ⟨k, A', n', c', hk, rfl, hnk, hmk, hkb⟩ := hrel
    have HM := Lib.hid hmk
    have HK := Lib.hid hkb
    clear hmk hkb
    have c3 : wr.cell? ⟨ad3.block, ad3.off + 3, none⟩ = some (.string x3) := (HK.out.cell (a := ⟨ad3.block, ad3.off + 3, none⟩) hbk3 hne).trans C3.out
    by_cases hlt : k < x3.size
    · have HB := Lib.hid (byte_at hlt)
      have HT := Lib.hid (take_succ_of HB.out)
      have hb1 : (x3[k].toNat : Int) ≤ 255 := by have := x3[k].toNat_lt; omega
      have HSN := Lib.hid (readDs_snoc (x3.data.toList.take k) x3[k])
      by_cases hsl' : x3[k] = 47
      · have g : ((x3[k].toNat : Int) != 47) = false := by rw [hsl']; rfl
        have HE : Hid (readDs (x3.data.toList.take (k + 1)) = readDs (x3.data.toList.take k)) := Lib.hid (by rw [HT.out, HSN.out, hsl']; simp)
        clear hsl'
        go_wp2_with fail
        go_roundw
        case rel => exact ⟨k + 1, A', n', c', by omega, by go_num, by omega, by rw [HE.out]; exact HM.out, HK.out⟩
        case measure => simp [intOf]; omega
      · have g : ((x3[k].toNat : Int) != 47) = true := by
          rw [bne_iff_ne]
          exact fun e => hsl' (UInt8.toNat_inj.1 (by show x3[k].toNat = 47; omega))
        have HE : Hid (readDs (x3.data.toList.take k) ++ [(x3[k].toNat : Int) - 48] = readDs (x3.data.toList.take (k + 1))) := Lib.hid (by
          rw [HT.out, HSN.out, if_pos (by simpa using hsl')])
        have hbx := HM.out.box.at 2
        have HTS : Hid (TwoS ⟨p, 2, none⟩ ⟨ad3.block, ad3.off + 3, none⟩ (.slice A' n' c') (.string x3) wr.drew) := Lib.hid ⟨hbx, c3⟩
        clear hsl' hbx
        go_wp2_with fail
        refine wp_region_hv [0, 1, 2, 3, 4, 5, 6, 7, 8, 11] [9, 10, 12] (TwoS ⟨p, 2, none⟩ ⟨ad3.block, ad3.off + 3, none⟩ (.slice A' n' c') (.string x3)) mixed (by kernel_rfl) (fun W W' h hb => h.below hb) HTS.out ?_
        iterate 10
          refine canonG_read (v := ?_) rfl (by rfl) ?_ ?_
          rotate_left
          · intro w hSw
            have hx := hSw.x
            have hy := hSw.y
            go_simp <;> with_reducible rfl
          simp only [List.getElem_toArray, List.getElem_cons_zero, List.getElem_cons_succ, Act.put, List.setIfInBounds_toArray, List.set_cons_succ, List.set_cons_zero]
        refine canonG_nil ?_
        have hz : n' < 1000000000 := by omega
        refine tailG_one (t := 9) (ts' := [10, 12]) (by kernel_rfl) rfl rfl ?_
        intro w8 hb8
        have HM8 := Lib.hid (HM.out.on (undrew hb8))
        have HK8 : Hid (KB bl p w3 w8) := Lib.hid (HK.out.trans (KB.of_below (undrew hb8) HM.out.bs))
        have HT8 := Lib.hid (HTS.out.below hb8)
        clear hb8 HM HK HTS c3
        go_wp2_with fail
        refine gen_at (fun W => ∃ bN, w8.heap.size = bN ∧ MK p bl W ⟨⟨numR x1.data.toList, numR x2.data.toList, readDs (x3.data.toList.take k), []⟩, A', none, n', c', 0, 0⟩ ∧ KB bl p w3 W ∧ TwoS ⟨p, 2, none⟩ ⟨ad3.block, ad3.off + 3, none⟩ (.slice A' n' c') (.string x3) W ∧ Box W bN #[.int .i64 ((x3[k].toNat : Int) - 48)]) ⟨_, rfl, HM8.out.on (belowA _ _), HK8.out.trans (KB.of_below (belowA _ _) HM8.out.bs), HT8.out.below (belowA _ _), Box.new _ _ _⟩ ?_
        rintro w9 ⟨bN, hbN, hm9, hk9, ht9, hx9⟩
        rw [hbN]
        have HM9 := Lib.hid hm9
        have HK9 := Lib.hid hk9
        have HT9 := Lib.hid ht9
        have HX9 := Lib.hid hx9
        clear hm9 hk9 hx9 hbN HM8 HK8 HT8
        refine ⟨ht9, ?_⟩
        clear ht9
        refine tailG_one (t := 10) (ts' := [12]) (by kernel_rfl) rfl rfl ?_
        intro w10 hb10
        have HM10 := Lib.hid (HM9.out.on hb10)
        have HK10 : Hid (KB bl p w3 w10) := Lib.hid (HK9.out.trans (KB.of_below hb10 HM9.out.bs))
        have HT10 := Lib.hid (HT9.out.below hb10)
        refine wpList_pushXn rfl _ _ 22 3 rfl Tryd.underlying22 info3 rfl (by omega) (by omega) bl w10 A' n' c' (ints (readDs (x3.data.toList.take k))) (some ⟨bN, 0, none⟩) 1 1 [.int .i64 ((x3[k].toNat : Int) - 48)] rfl HM10.out.ds HM10.out.bs rfl (reads_one _ _ _ (HX9.out.below hb10)) (fun h => by cases h) (ints_one [_]) (by omega) ?_
        intro A2 c2 w11 hr11 hg11 hn11
        rw [ints_snoc, HE.out] at hr11
        have HR11 := Lib.hid hr11
        have HG11 := Lib.hid hg11
        have HN11 := Lib.hid hn11
        have HT11 : Hid (TwoS ⟨p, 2, none⟩ ⟨ad3.block, ad3.off + 3, none⟩ (.slice A' n' c') (.string x3) w11) := Lib.hid ⟨by
          rw [(HM10.out.box.grown hg11 fun k hk => by have := HM10.out.rowA k hk; have := HM10.out.pb; omega).at 2]; rfl, ((KB.grown (p := p) hg11 HM10.out.rowA HM10.out.bs).cell (a := ⟨ad3.block, ad3.off + 3, none⟩) hbk3 hne).trans HT10.out.y⟩
        clear hb10 hr11 hg11 hn11 HM9 HK9 HT9 HX9 HT10
        go_wp2_with fail
        refine ⟨HT11.out, ?_⟩
        refine tailG_last (t := 12) (by kernel_rfl) rfl ?_
        intro w12 hb12
        obtain ⟨hm13, hk13⟩ := HM10.out.putD (row_on HR11.out hb12) (grownBy_below HG11.out hb12) HN11.out
        have HM13 := Lib.hid hm13
        have HK13 := Lib.hid (HK10.out.trans hk13)
        have cb : ∀ i, w12.cell? ⟨p, i, none⟩ = _ := (HM10.out.box.grown (grownBy_below HG11.out hb12) fun k hk => by have := HM10.out.rowA k hk; have := HM10.out.pb; omega).at
        have fb := fz_grown HM10.out.box.1 HM10.out.fz (grownBy_below HG11.out hb12) fun k hk => by have := HM10.out.rowA k hk; have := HM10.out.pb; omega
        clear hb12 hm13 hk13 HT11
        go_wp2_with fail
        refine NoPanic.normal ?_
        clear cb fb
        go_wp2_with fail
        go_roundw
        case rel => exact ⟨k + 1, A2, n' + 1, c2, by omega, by go_num, by omega, HM13.out, HK13.out⟩
        case measure => simp [intOf]; omega
    · have hkx : k = x3.size := by omega
      subst hkx
      have HTK : Hid (x3.data.toList.take x3.size = x3.data.toList) := Lib.hid (List.take_of_length_le (by simp))
      rw [HTK.out] at HM
      clear hlt
      go_wp2_with fail
      have hn4 : n' ≤ 4000 := by omega
      obtain ⟨ds, hds⟩ : ∃ ds, readDs x3.data.toList = ds := ⟨_, rfl⟩
      have HDS := Lib.hid hds
      rw [hds] at HM
      clear hds c3 hk hnk HTK
      go_loopw [7] (fun i wr => ∃ (j : Nat) (ps : List Edg) (B : Option Addr) (m d : Nat), 4 ≤ j ∧ j ≤ l.length ∧ i = .int .i64 j ∧ m ≤ j ∧ MK p bl wr ⟨⟨numR x1.data.toList, numR x2.data.toList, ds, ps⟩, A', B, n', c', m, d⟩ ∧ KB bl p w3 wr ∧ TellsP (((lists l).drop 4).take (j - 4)) ps) (fun i _ => l.length - (intOf i).toNat)
      case atStart => exact ⟨4, [], none, 0, 0, by omega, by omega, rfl, by omega, HM.out, HK.out, by simpa using TellsP.nil⟩
      case round =>
        clear HM HK
        obtain ⟨j, ps, B, m, d, hj4, hj, rfl, hmj, hmk, hkb, htp⟩ := hrel
        have HM := Lib.hid hmk
        have HK := Lib.hid hkb
        have HTP := Lib.hid htp
        clear hmk hkb htp
        by_cases hlt : j < l.length
        · obtain ⟨ad4, x, hA4, hbk4, hx4, c4⟩ := sat HRD.out (k := j) hlt
          obtain rfl : ad4 = ad3 := Option.some.inj (hA4.symm.trans hA)
          have X := fun w => ix52 (A := some ad4) (c := c) rfl hlt w
          have c5 : wr.cell? (ad4.add j) = some (.string x) := (HK.out.cell (a := ad4.add j) (by rw [blockAdd]; exact hbk3) (by rw [blockAdd]; exact hne)).trans c4
          have s4 : x.size ≤ 4000 := Nat.le_trans (word_size HPC.out hx4) hbig
          have HXS : Hid (((lists l).drop 4).take (j + 1 - 4) = ((lists l).drop 4).take (j - 4) ++ [x.data.toList]) := Lib.hid (by
            rw [show j + 1 - 4 = (j - 4) + 1 by omega]
            refine take_succ_of ?_
            rw [List.getElem?_drop, show 4 + (j - 4) = j by omega]
            unfold lists
            rw [List.getElem?_map, hx4]
            rfl)
          clear c4 hx4 hbk4
          go_wp2_with fail
          with_reducible refine (wordsC x _ (by omega)).mono ?_
          rintro _ w4 ⟨l4, A4, cc4, rfl, hpc4, hlc4, hnw4, hrd4, hb4⟩
          have HP4 := Lib.hid hpc4
          have HR4 := Lib.hid hrd4
          have HM4 := Lib.hid (HM.out.on hb4)
          have HK4 : Hid (KB bl p w3 w4) := Lib.hid (HK.out.trans (KB.of_below hb4 HM.out.bs))
          have HN4 : Hid (∀ a, A4 = some a → a.block ≠ p ∧ bl ≤ a.block) := Lib.hid fun a ha => by have := hnw4 a ha; have := HM.out.bs; have := HM.out.pb; omega
          have HNB : Hid (∀ a k, A4 = some a → (Value.slice B m d).ownBlock = some k → k ≠ a.block) := Lib.hid fun a k ha hk => by have := hnw4 a ha; have := (HM.out.ps.lt k hk).2; omega
          clear hpc4 hnw4 hrd4 hb4 HM HK c5 X
          by_cases h3 : l4.length = 3
          case neg =>
            have g : ((l4.length : Int) == 3) = false := by rw [beq_eq_false_iff_ne]; omega
            have HSK := Lib.hid (TellsP.skip (ps := ps) (xs := ((lists l).drop 4).take (j - 4)) HP4.out (by simpa [lists] using h3))
            clear h3
            go_wp2_with fail
            go_roundw
            case rel => exact ⟨j + 1, ps, B, m, d, by omega, by omega, by go_num, by omega, HM4.out, HK4.out, by rw [HXS.out]; exact HSK.out⟩
            case measure => simp [intOf]; omega
          obtain ⟨y0, y1, y2, rfl⟩ : ∃ a b c, l4 = [a, b, c] := by
            match l4, h3 with
            | [a, b, c], _ => exact ⟨a, b, c, rfl⟩
          obtain ⟨ad5, z0, hA5, hbk5, hz0, d0⟩ := sat HR4.out (k := 0) (by simp)
          obtain ⟨ad6, z1, hA6, hbk6, hz1, d1⟩ := sat HR4.out (k := 1) (by simp)
          obtain ⟨ad7, z2, hA7, hbk7, hz2, d2⟩ := sat HR4.out (k := 2) (by simp)
          obtain rfl : y0 = z0 := by simpa using hz0
          obtain rfl : y1 = z1 := by simpa using hz1
          obtain rfl : y2 = z2 := by simpa using hz2
          obtain rfl : ad6 = ad5 := Option.some.inj (hA6.symm.trans hA5)
          obtain rfl : ad7 = ad6 := Option.some.inj (hA7.symm.trans hA6)
          have t0 : y0.size ≤ 4000 := Nat.le_trans (word_size HP4.out (k := 0) rfl) s4
          have t1 : y1.size ≤ 4000 := Nat.le_trans (word_size HP4.out (k := 1) rfl) s4
          have t2 : y2.size ≤ 4000 := Nat.le_trans (word_size HP4.out (k := 2) rfl) s4
          have HWD := Lib.hid (HTP.out.word (e := (numR y0.data.toList, numR y1.data.toList, numR y2.data.toList)) HP4.out (numR_tells _) (numR_tells _) (numR_tells _))
          have hne5 := HN4.out _ hA7
          have hbx := HM4.out.box.at 3
          have d0' : w4.cell? ad7 = some (.string y0) := by simpa [Addr.add] using d0
          rw [add_pos _ _ (by omega)] at d1 d2
          have HTS : Hid (FourS ⟨p, 3, none⟩ ad7 ⟨ad7.block, ad7.off + 1, none⟩ ⟨ad7.block, ad7.off + 2, none⟩ (.slice B m d) (.string y0) (.string y1) (.string y2) w4.drew) := Lib.hid ⟨hbx, d0', d1, d2⟩
          have HAB := Lib.hid (show ad7.block < w4.heap.size from hbk7)
          subst hA7
          clear hbx d0 d0' d1 d2 hz0 hz1 hz2 hA5 hA6 h3 hbk5 hbk6 hbk7
          go_wp2_with fail
          refine wp_region_hv [0, 1, 2, 3, 4, 5, 6, 7, 8, 9, 10, 11, 12, 13, 14, 17] [15, 16, 18] (FourS ⟨p, 3, none⟩ ad7 ⟨ad7.block, ad7.off + 1, none⟩ ⟨ad7.block, ad7.off + 2, none⟩ (.slice B m d) (.string y0) (.string y1) (.string y2)) mixed (by kernel_rfl) (fun W W' h hb => h.below hb) HTS.out ?_
          iterate 5
            refine canonG_read (v := ?_) rfl (by rfl) ?_ ?_
            rotate_left
            · intro w hSw
              have hx := hSw.x
              have hy := hSw.y
              have hz := hSw.z
              have hu := hSw.u
              go_simp <;> with_reducible rfl
            simp only [List.getElem_toArray, List.getElem_cons_zero, List.getElem_cons_succ, Act.put, List.setIfInBounds_toArray, List.set_cons_succ, List.set_cons_zero]
          refine canonG_call (v := .int .i64 (numR y0.data.toList)) (f := 24) (args := #[.string y0]) rfl (by rfl) ?_ ?_ ?_
          · intro w hSw
            go_simp
          · intro w hSw
            exact (number_any y0 w (by omega)).mono fun r w2 ⟨h1, h2⟩ => ⟨h1, by rw [h2]; exact Below.refl _ _⟩
          simp only [List.getElem_toArray, List.getElem_cons_zero, List.getElem_cons_succ, Act.put, List.setIfInBounds_toArray, List.set_cons_succ, List.set_cons_zero]
          iterate 3
            refine canonG_read (v := ?_) rfl (by rfl) ?_ ?_
            rotate_left
            · intro w hSw
              have hx := hSw.x
              have hy := hSw.y
              have hz := hSw.z
              have hu := hSw.u
              go_simp <;> with_reducible rfl
            simp only [List.getElem_toArray, List.getElem_cons_zero, List.getElem_cons_succ, Act.put, List.setIfInBounds_toArray, List.set_cons_succ, List.set_cons_zero]
          refine canonG_call (v := .int .i64 (numR y1.data.toList)) (f := 24) (args := #[.string y1]) rfl (by rfl) ?_ ?_ ?_
          · intro w hSw
            go_simp
          · intro w hSw
            exact (number_any y1 w (by omega)).mono fun r w2 ⟨h1, h2⟩ => ⟨h1, by rw [h2]; exact Below.refl _ _⟩
          simp only [List.getElem_toArray, List.getElem_cons_zero, List.getElem_cons_succ, Act.put, List.setIfInBounds_toArray, List.set_cons_succ, List.set_cons_zero]
          iterate 3
            refine canonG_read (v := ?_) rfl (by rfl) ?_ ?_
            rotate_left
            · intro w hSw
              have hx := hSw.x
              have hy := hSw.y
              have hz := hSw.z
              have hu := hSw.u
              go_simp <;> with_reducible rfl
            simp only [List.getElem_toArray, List.getElem_cons_zero, List.getElem_cons_succ, Act.put, List.setIfInBounds_toArray, List.set_cons_succ, List.set_cons_zero]
          refine canonG_call (v := .int .i64 (numR y2.data.toList)) (f := 24) (args := #[.string y2]) rfl (by rfl) ?_ ?_ ?_
          · intro w hSw
            go_simp
          · intro w hSw
            exact (number_any y2 w (by omega)).mono fun r w2 ⟨h1, h2⟩ => ⟨h1, by rw [h2]; exact Below.refl _ _⟩
          simp only [List.getElem_toArray, List.getElem_cons_zero, List.getElem_cons_succ, Act.put, List.setIfInBounds_toArray, List.set_cons_succ, List.set_cons_zero]
          iterate 2
            refine canonG_read (v := ?_) rfl (by rfl) ?_ ?_
            rotate_left
            · intro w hSw
              have hx := hSw.x
              have hy := hSw.y
              have hz := hSw.z
              have hu := hSw.u
              go_simp <;> with_reducible rfl
            simp only [List.getElem_toArray, List.getElem_cons_zero, List.getElem_cons_succ, Act.put, List.setIfInBounds_toArray, List.set_cons_succ, List.set_cons_zero]
          refine canonG_nil ?_
          refine tailG_one (t := 15) (ts' := [16, 18]) (by kernel_rfl) rfl rfl ?_
          intro w8 hb8
          have HM8 := Lib.hid (HM4.out.on (undrew hb8))
          have HK8 : Hid (KB bl p w3 w8) := Lib.hid (HK4.out.trans (KB.of_below (undrew hb8) HM4.out.bs))
          have HT8 := Lib.hid (HTS.out.below hb8)
          have HZ8 : Hid (ad7.block < w8.heap.size) := Lib.hid (Nat.lt_of_lt_of_le HAB.out (undrew hb8).size)
          clear hb8 HM4 HK4 HTS HAB
          go_wp2_with fail
          refine gen_at (fun W => ∃ bN, w8.heap.size = bN ∧ MK p bl W ⟨⟨numR x1.data.toList, numR x2.data.toList, ds, ps⟩, A', B, n', c', m, d⟩ ∧ KB bl p w3 W ∧ FourS ⟨p, 3, none⟩ ad7 ⟨ad7.block, ad7.off + 1, none⟩ ⟨ad7.block, ad7.off + 2, none⟩ (.slice B m d) (.string y0) (.string y1) (.string y2) W ∧ Box W bN #[.int .i64 (numR y0.data.toList), .int .i64 (numR y1.data.toList), .int .i64 (numR y2.data.toList)] ∧ ad7.block < W.heap.size) ⟨_, rfl, HM8.out.on (belowA _ _), HK8.out.trans (KB.of_below (belowA _ _) HM8.out.bs), HT8.out.below (belowA _ _), Box.new _ _ _, Nat.lt_of_lt_of_le HZ8.out (belowA _ _).size⟩ ?_
          rintro w9 ⟨bN, hbN, hm9, hk9, ht9, hx9, hz9⟩
          rw [hbN]
          have HM9 := Lib.hid hm9
          have HK9 := Lib.hid hk9
          have HT9 := Lib.hid ht9
          have HX9 := Lib.hid hx9
          have HZ9 := Lib.hid hz9
          clear hm9 hk9 hx9 hbN hz9 HM8 HK8 HT8 HZ8
          refine ⟨ht9, ?_⟩
          clear ht9
          refine tailG_one (t := 16) (ts' := [18]) (by kernel_rfl) rfl rfl ?_
          intro w10 hb10
          have HM10 := Lib.hid (HM9.out.on hb10)
          have HK10 : Hid (KB bl p w3 w10) := Lib.hid (HK9.out.trans (KB.of_below hb10 HM9.out.bs))
          have HT10 := Lib.hid (HT9.out.below hb10)
          have HZ10 : Hid (ad7.block < w10.heap.size) := Lib.hid (Nat.lt_of_lt_of_le HZ9.out hb10.size)
          refine wpList_pushXn rfl _ _ 23 50 rfl Tryd.underlying23 info33 rfl (by omega) (by omega) bl w10 B m d (edgs ps) (some ⟨bN, 0, none⟩) 1 1 (ecells (numR y0.data.toList, numR y1.data.toList, numR y2.data.toList)) rfl HM10.out.ps HM10.out.bs rfl (reads_edg _ _ (numR y0.data.toList, numR y1.data.toList, numR y2.data.toList) (HX9.out.below hb10)) (fun h => by cases h) (by intro u hu; simp [ecells] at hu; rcases hu with rfl | rfl | rfl <;> rfl) (by omega) ?_
          intro B2 d2 w11 hr11 hg11 hn11
          rw [edgs_snoc] at hr11
          have HR11 := Lib.hid hr11
          have HG11 := Lib.hid hg11
          have HN11 := Lib.hid hn11
          have hcell : ∀ a : Addr, a.block = ad7.block → w11.cell? a = w10.cell? a := fun a ha => World.cell?_of_block (hg11.block a.block (by rw [ha]; exact HZ10.out) (fun e => HNB.out ad7 a.block rfl e.symm ha))
          have HT11 : Hid (FourS ⟨p, 3, none⟩ ad7 ⟨ad7.block, ad7.off + 1, none⟩ ⟨ad7.block, ad7.off + 2, none⟩ (.slice B m d) (.string y0) (.string y1) (.string y2) w11) := Lib.hid ⟨by
            rw [(HM10.out.box.grown hg11 fun k hk => by have := HM10.out.rowB k hk; have := HM10.out.pb; omega).at 3]; rfl, (hcell ad7 rfl).trans HT10.out.y, (hcell ⟨ad7.block, ad7.off + 1, none⟩ rfl).trans HT10.out.z, (hcell ⟨ad7.block, ad7.off + 2, none⟩ rfl).trans HT10.out.u⟩
          clear hb10 hr11 hg11 hn11 hcell HM9 HK9 HT9 HX9 HT10 HZ9 HZ10
          go_wp2_with fail
          refine ⟨HT11.out, ?_⟩
          refine tailG_last (t := 18) (by kernel_rfl) rfl ?_
          intro w12 hb12
          obtain ⟨hm13, hk13⟩ := HM10.out.putP (row_on HR11.out hb12) (grownBy_below HG11.out hb12) HN11.out
          have HM13 := Lib.hid hm13
          have HK13 := Lib.hid (HK10.out.trans hk13)
          have cb : ∀ i, w12.cell? ⟨p, i, none⟩ = _ := (HM10.out.box.grown (grownBy_below HG11.out hb12) fun k hk => by have := HM10.out.rowB k hk; have := HM10.out.pb; omega).at
          have fb := fz_grown HM10.out.box.1 HM10.out.fz (grownBy_below HG11.out hb12) fun k hk => by have := HM10.out.rowB k hk; have := HM10.out.pb; omega
          clear hb12 hm13 hk13 HT11 HR11 HG11 HN11
          go_wp2_with fail
          refine NoPanic.normal ?_
          clear cb fb
          go_wp2_with fail
          go_roundw
          case rel => exact ⟨j + 1, ps ++ [(numR y0.data.toList, numR y1.data.toList, numR y2.data.toList)], B2, m + 1, d2, by omega, by omega, by go_num, by omega, HM13.out, HK13.out, by rw [HXS.out]; exact HWD.out⟩
          case measure => simp [intOf]; omega
        · have hjl : j = l.length := by omega
          subst hjl
          have HRD2 : Hid (RdT (lists l) ⟨numR x1.data.toList, numR x2.data.toList, ds, ps⟩) := Lib.hid (by
            have hget : ∀ (k : Nat) (x : ByteArray), l[k]? = some x → (lists l)[k]? = some x.data.toList := fun k x hx => by unfold lists; rw [List.getElem?_map, hx]; rfl
            refine ⟨fun x hx => ?_, fun x hx => ?_, fun x hx => ?_, ?_⟩
            · rw [hget 1 x1 hx1] at hx; injection hx with hx; rw [← hx]; exact numR_tells _
            · rw [hget 2 x2 hx2] at hx; injection hx with hx; rw [← hx]; exact numR_tells _
            · rw [hget 3 x3 hx3] at hx; injection hx with hx; rw [← hx]; exact HDS.out.symm
            · have := HTP.out
              rwa [List.take_of_length_le (by simp [lists])] at this)
          obtain ⟨W, hW⟩ : ∃ z, numR x1.data.toList = z := ⟨_, rfl⟩
          obtain ⟨H, hH⟩ : ∃ z, numR x2.data.toList = z := ⟨_, rfl⟩
          rw [hW, hH] at HM HRD2
          obtain ⟨v, hv⟩ : ∃ v : FV, (⟨⟨W, H, ds, ps⟩, A', B, n', c', m, d⟩ : FV) = v := ⟨_, rfl⟩
          have HV := Lib.hid (HM.out.inn (by show n' ≤ _; omega) (by show m ≤ _; omega))
          have HRQ0 := Lib.hid (HR3.out.kb HK.out hqp HM.out.pb)
          have HMB := Lib.hid (show (∀ a, v.A = some a → a.block ≠ q) ∧ (∀ a, v.B = some a → a.block ≠ q) from by
            subst hv
            exact ⟨fun a ha => by have := HM.out.rowA a.block (by show (Value.slice A' n' c').ownBlock = _; rw [show A' = some a from ha]; rfl); have := HM.out.pb; omega,
              fun a ha => by have := HM.out.rowB a.block (by show (Value.slice B m d).ownBlock = _; rw [show B = some a from ha]; rfl); have := HM.out.pb; omega⟩)
          have HCB : Hid (Box wr p #[.int .i64 v.f.W, .int .i64 v.f.H, .slice v.A v.n v.c, .slice v.B v.m v.d]) := Lib.hid (by subst hv; exact HM.out.box)
          have hvf : (⟨W, H, ds, ps⟩ : Fld) = v.f := by rw [← hv]
          rw [hv] at HV
          rw [hvf] at HRD2
          have cb := HCB.out.at
          clear hvf hv HM HK HTP hlt
          go_wp2_with fail
          with_reducible refine (refFormat_any v _ HV.out).mono ?_
          rintro _ w5 ⟨rfl, hb5⟩
          have HV5 := Lib.hid (HV.out.below hb5)
          have HRQ := Lib.hid (HRQ0.out.on hb5)
          have HCB5 := Lib.hid (HCB.out.below hb5)
          clear hb5 cb HV HRQ0 HCB
          obtain ⟨e, he⟩ : ∃ e, valid v.f = e := ⟨_, rfl⟩
          obtain ⟨t, ht⟩ : ∃ t : ByteArray, (⟨(fmtX v.f).toArray⟩ : ByteArray) = t := ⟨_, rfl⟩
          have HE := Lib.hid he
          have HT := Lib.hid ht
          rw [he, ht]
          clear he ht
          by_cases hz : e = 0
          case neg =>
            have g : (e != 0) = true := by simpa using hz
            have HBAD : Hid (¬ IsFld s.data.toList v.f) := Lib.hid fun h => hz (HE.out.symm.trans h.1)
            clear hz
            have HNO : Hid (∀ g, ¬ IsFld s.data.toList g) := Lib.hid fun g hg => by
              have := HRD2.out.is HPC.out hg
              subst this
              exact HBAD.out hg
            have cr := HRQ.out.box.at
            have fr := HRQ.out.fz
            go_wp2_with fail
            have cF := (HRQ.out.box.four (.int .i64 0) (.int .i64 0) (.slice none 0 0) (.slice none 0 0)).at
            exact bodyPost_ret (v := .tuple #[.agg #[.int .i64 0, .int .i64 0, .slice none 0 0, .slice none 0 0], .int .i64 3]) (by simp [results, Tryd.results9, go_sem, cF]) rfl
              ⟨zeroV, 3, rfl, .inr (.inr ⟨by omega, HNO.out, rfl, rfl⟩), zero_in _, HRQ.out.four _ _ _ _⟩
          subst hz
          by_cases hq2 : t.toList = s.toList
          case neg =>
            have gE : (t.toList == s.toList) = false := by simpa using hq2
            have HBAD : Hid (¬ IsFld s.data.toList v.f) := Lib.hid fun h => hq2 (by
              rw [← HT.out, ByteArray.toList_eq, ByteArray.toList_eq]
              show fmtX v.f = _
              rw [show fmtX v.f = fmtL v.f from if_pos h.1, h.2])
            clear hq2
            have HNO : Hid (∀ g, ¬ IsFld s.data.toList g) := Lib.hid fun g hg => by
              have := HRD2.out.is HPC.out hg
              subst this
              exact HBAD.out hg
            have cr := HRQ.out.box.at
            have fr := HRQ.out.fz
            go_wp2_with fail
            have cF := (HRQ.out.box.four (.int .i64 0) (.int .i64 0) (.slice none 0 0) (.slice none 0 0)).at
            exact bodyPost_ret (v := .tuple #[.agg #[.int .i64 0, .int .i64 0, .slice none 0 0, .slice none 0 0], .int .i64 3]) (by simp [results, Tryd.results9, go_sem, cF]) rfl
              ⟨zeroV, 3, rfl, .inr (.inr ⟨by omega, HNO.out, rfl, rfl⟩), zero_in _, HRQ.out.four _ _ _ _⟩
          have gE : (t.toList == s.toList) = true := by simpa using hq2
          have HIS : Hid (IsFld s.data.toList v.f) := Lib.hid ⟨HE.out, by
            rw [← HT.out, ByteArray.toList_eq, ByteArray.toList_eq] at hq2
            rw [← hq2]
            show fmtL v.f = fmtX v.f
            rw [show fmtX v.f = fmtL v.f from if_pos HE.out]⟩
          have cr := HRQ.out.box.at
          have fr := HRQ.out.fz
          have cb := HCB5.out.at
          clear hq2
          go_wp2_with fail
          have cF := (HRQ.out.box.four (.int .i64 v.f.W) (.int .i64 v.f.H) (.slice v.A v.n v.c) (.slice v.B v.m v.d)).at
          exact bodyPost_ret (v := .tuple #[.agg #[.int .i64 v.f.W, .int .i64 v.f.H, .slice v.A v.n v.c, .slice v.B v.m v.d], .int .i64 0]) (by simp [results, Tryd.results9, go_sem, cF]) rfl
            ⟨v, 0, rfl, .inr (.inl ⟨by omega, HIS.out, rfl⟩), HV5.out.four HMB.out.1 HMB.out.2 _ _ _ _, HRQ.out.four _ _ _ _⟩
end Go.Proofs.YtfaleddacmbidaaDoor
