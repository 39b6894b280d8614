/- Merged texts: Uf Ug Uh Va -/
import Derived.Test.YtihhclhpjgeniaaGreatDoorSB39
import Derived.Test.YtihhclhpjgeniaaGreatDoorSB41
import Derived.Test.YtihhclhpjgeniaaGreatDoorSB42
import Derived.Test.YtihhclhpjgeniaaGreatDoorSB43
import Derived.Test.YtihhclhpjgeniaaGreatDoorSB44
namespace Go.Proofs.YtihhclhpjgeniaaGreatDoor
open Go.RowKit Go.Sort
theorem eqS41 (a b c : Int) (d : Nat) (w : World) : (Op.equalIn (d + 2) 41 (.agg #[.int .i64 a, .int .i64 b, .int .i64 c]) (.agg #[.int .i64 a, .int .i64 b, .int .i64 c])).run Tryz.prog w = .ok true w := by
 rw [run_equalIn_struct w (d + 1) 41 _ _ (by kernel_rfl) (by kernel_rfl)]
 have hf : (Tryz.prog.fieldsOf 41).toList = [⟨"Level", 3, 0, false, "", "", 0⟩, ⟨"Tone", 3, 1, false, "", "", 8⟩, ⟨"Bleached", 3, 2, false, "", "", 16⟩] := by kernel_rfl
 have h3 : Tryz.prog.underlying 3 = some (.int .i64) := by kernel_rfl
 rw [hf]
 simp only [Op.eqFields]
 simp [go_sem, h3]
set_option maxRecDepth 10000 in
theorem eqW49 (x : Wg) (d : Nat) (w : World) : (Op.equalIn (d + 3) 49 (.agg (wgL x).toArray) (.agg (wgL x).toArray)).run Tryz.prog w = .ok true w := by
 rw [run_equalIn_struct w (d + 2) 49 _ _ (by kernel_rfl) (by kernel_rfl)]
 have hf : (Tryz.prog.fieldsOf 49).toList = [⟨"Name", 9, 0, false, "", "", 0⟩, ⟨"Bundle", 9, 1, false, "", "", 16⟩, ⟨"Hairs", 3, 2, false, "", "", 32⟩, ⟨"Done", 3, 3, false, "", "", 40⟩, ⟨"Shed", 3, 4, false, "", "", 48⟩, ⟨"Length", 3, 5, false, "", "", 56⟩, ⟨"Shade", 41, 6, false, "", "", 64⟩, ⟨"Plait", 9, 9, false, "", "", 88⟩, ⟨"State", 3, 10, false, "", "", 104⟩, ⟨"Price", 3, 11, false, "", "", 112⟩] := by kernel_rfl
 have h3 : Tryz.prog.underlying 3 = some (.int .i64) := by kernel_rfl
 have h9 : Tryz.prog.underlying 9 = some .string := by kernel_rfl
 rw [hf]
 have he := fun w => eqS41 x.lvl x.tone x.bl d w
 dsimp only [wgL]
 simp only [Op.eqFields]
 simp [go_sem, h3, h9, he]
theorem eql49 (x : Wg) (w : World) : (binOp .eql 49 (.agg (wgL x).toArray) (.agg (wgL x).toArray)).run Tryz.prog w = .ok (.bool true) w := by
 rw [run_eql_struct, eqW49 x 9997 w]; rfl
theorem neq49 (x : Wg) (w : World) : (binOp .neq 49 (.agg (wgL x).toArray) (.agg (wgL x).toArray)).run Tryz.prog w = .ok (.bool false) w := by
 rw [run_neq_struct, eqW49 x 9997 w]; rfl
theorem eqg49 (o : BinOp) (x y : Operand) (xs ys : Array Value) (w : World) : (eqGuard o 49 x y (.agg xs) (.agg ys)).run Tryz.prog w = .ok () w :=
 run_eqGuard_agg w o 49 x y xs ys (by kernel_rfl)
abbrev NB.arr (b : NB) : Array Value := #[.string (mkB b.name), .slice b.v.A b.v.n b.v.c, .slice b.v.B b.v.m b.v.d]
set_option maxRecDepth 100000 in
set_option maxHeartbeats 1000000 in
theorem eqB_any (a b : NB) (w : World) (ha : a.v.In w) (hb : b.v.In w) (hn : a.name = b.name) (hh : a.v.h = b.v.h) : Calls Tryz.prog 134 #[.agg a.arr, .agg b.arr] w fun r w' => r = .returned (.bool true) ∧ Below w.heap.size w w' := by
 obtain ⟨l1, l2⟩ := BV.ln ha
 have e1 : b.v.n = a.v.n := by rw [ha.nr, hb.nr, hh]
 have e2 : b.v.m = a.v.m := by rw [ha.mw, hb.mw, hh]
 have hr := hb.r
 have hs := hb.s
 rw [← hh, e1] at hr
 rw [← hh, e2] at hs
 rw [show b.arr = #[.string (mkB a.name), .slice b.v.A a.v.n b.v.c, .slice b.v.B a.v.m b.v.d] from by rw [NB.arr, e1, e2, hn]]
 have k1 := below_trans' (belowA w (.cells a.arr 130)) (belowA (w.alloc (.cells a.arr 130)) (.cells #[.string (mkB a.name), .slice b.v.A a.v.n b.v.c, .slice b.v.B a.v.m b.v.d] 130))
 have R1 := Lib.hid (ha.r.on k1)
 have R2 := Lib.hid (hr.on k1)
 have R3 := Lib.hid (ha.s.on k1)
 have R4 := Lib.hid (hs.on k1)
 have K1 := Lib.hid k1
 have A1 := Lib.hid ((At.new w a.arr 130).below (belowA (w.alloc (.cells a.arr 130)) (.cells #[.string (mkB a.name), .slice b.v.A a.v.n b.v.c, .slice b.v.B a.v.m b.v.d] 130)))
 have A2 : Hid (At ((w.alloc (.cells a.arr 130)).alloc (.cells #[.string (mkB a.name), .slice b.v.A a.v.n b.v.c, .slice b.v.B a.v.m b.v.d] 130)) (w.heap.size + 1) #[.string (mkB a.name), .slice b.v.A a.v.n b.v.c, .slice b.v.B a.v.m b.v.d] 130) :=
  Lib.hid (by have := At.new (w.alloc (.cells a.arr 130)) #[.string (mkB a.name), .slice b.v.A a.v.n b.v.c, .slice b.v.B a.v.m b.v.d] 130; rwa [World.size_alloc] at this)
 clear ha hb hr hs e1 e2 k1 hn hh
 go_enter Tryz.func134, Tryz.ntmps134
 go_wp2_with fail
 with_reducible refine (eqI_any a.v.A b.v.A a.v.n a.v.c b.v.c a.v.h.R _ R1.out R2.out l1).mono ?_
 rintro _ w1 ⟨rfl, hb1⟩
 have R3' := Lib.hid (R3.out.on hb1)
 have R4' := Lib.hid (R4.out.on hb1)
 have K2 := Lib.hid (below_trans' K1.out hb1)
 have x1 : w1.cell? ⟨w.heap.size, 2, none⟩ = some (.slice a.v.B a.v.m a.v.d) := (A1.out.below hb1).cell 2
 have x2 : w1.cell? ⟨w.heap.size + 1, 2, none⟩ = some (.slice b.v.B a.v.m b.v.d) := (A2.out.below hb1).cell 2
 clear hb1
 go_wp2_with fail
 with_reducible refine (eqI_any a.v.B b.v.B a.v.m a.v.d b.v.d a.v.h.W w1 R3'.out R4'.out l2).mono ?_
 rintro _ w2 ⟨rfl, hb2⟩
 have K3 := Lib.hid (below_trans' K2.out hb2)
 clear hb2
 go_wp2_with fail
 go_ret
 exact ⟨rfl, K3.out⟩
set_option maxRecDepth 100000 in
set_option maxHeartbeats 1000000 in
theorem eqW_any (a b : NW) (w : World) (ha : Reads w w.heap.size 6 a.A a.n (ents a.w.card)) (hb : Reads w w.heap.size 6 b.A b.n (ents b.w.card)) (he : a.w = b.w) (hn : a.n ≤ 1000000) :
  Calls Tryz.prog 137 #[.agg a.arr, .agg b.arr] w fun r w' => r = .returned (.bool true) ∧ Below w.heap.size w w' := by
 rw [← he] at hb
 have e1 : b.n = a.n := by have h1 := ha.1; have h2 := hb.1; rw [ents_length] at h1 h2; omega
 rw [e1] at hb
 rw [show b.arr = #[.string (mkB a.w.name), .string (mkB a.w.bun), .int .i64 a.w.hairs, .int .i64 a.w.done, .int .i64 a.w.shed, .int .i64 a.w.len, .int .i64 a.w.lvl, .int .i64 a.w.tone, .int .i64 a.w.bl, .string (mkB a.w.plait), .int .i64 a.w.state, .int .i64 a.w.price, .slice b.A a.n b.c] from by rw [NW.arr, e1, he]]
 have k1 := below_trans' (belowA w (.cells a.arr 126)) (belowA (w.alloc (.cells a.arr 126)) (.cells #[.string (mkB a.w.name), .string (mkB a.w.bun), .int .i64 a.w.hairs, .int .i64 a.w.done, .int .i64 a.w.shed, .int .i64 a.w.len, .int .i64 a.w.lvl, .int .i64 a.w.tone, .int .i64 a.w.bl, .string (mkB a.w.plait), .int .i64 a.w.state, .int .i64 a.w.price, .slice b.A a.n b.c] 126))
 have R1 := Lib.hid (ha.on k1)
 have R2 := Lib.hid (hb.on k1)
 have K1 := Lib.hid k1
 have q1 := eqg49 .eql
 have q2 := eql49 a.w
 dsimp only [wgL] at q2
 clear ha hb e1 k1 he
 go_enter Tryz.func137, Tryz.ntmps137
 go_wp2_with fail
 with_reducible refine (eqE_any a.A b.A a.n a.c b.c a.w.card _ R1.out R2.out hn).mono ?_
 rintro _ w1 ⟨rfl, hb1⟩
 have K2 := Lib.hid (below_trans' K1.out hb1)
 clear hb1
 go_wp2_with fail
 go_ret
 exact ⟨rfl, K2.out⟩
theorem map_at {α β : Type} {f : α → β} {l k : List α} (h : l.map f = k.map f) {j : Nat} (hj : j < l.length) : ∃ a b, l[j]? = some a ∧ k[j]? = some b ∧ f a = f b := by
 have e : l.length = k.length := by have := congrArg List.length h; simpa using this
 have := congrArg (fun x => x[j]?) h
 simp only [List.getElem?_map, List.getElem?_eq_getElem hj, List.getElem?_eq_getElem (e ▸ hj : j < k.length), Option.map_some, Option.some.injEq] at this
 exact ⟨_, _, List.getElem?_eq_getElem hj, List.getElem?_eq_getElem (e ▸ hj : j < k.length), this⟩
set_option maxRecDepth 100000 in
set_option maxHeartbeats 1000000 in
theorem eqBs_any (l k : List NB) (A B : Option Addr) (c d : Nat) (w : World) (h1 : w.ownsRow 0 130 3 (.slice A l.length c) l.length (l.flatMap NB.cells)) (h2 : w.ownsRow 0 130 3 (.slice B k.length d) k.length (k.flatMap NB.cells)) (i1 : ∀ b ∈ l, b.v.In w) (i2 : ∀ b ∈ k, b.v.In w)
  (he : l.map (fun b => (b.name, b.v.h)) = k.map fun b => (b.name, b.v.h)) (hl : l.length ≤ 1000) :
  Calls Tryz.prog 133 #[.slice A l.length c, .slice B k.length d, .func (.func 134) #[] #[]] w fun r w' => r = .returned (.bool true) ∧ Below w.heap.size w w' := by
 have e : k.length = l.length := by have := congrArg List.length he; simpa using this.symm
 rw [e] at h2 ⊢
 obtain ⟨N, hN⟩ : ∃ N, l.length = N := ⟨_, rfl⟩
 have HN := Lib.hid hN
 rw [hN] at h1 h2 hl ⊢
 have H1 := Lib.hid h1
 have H2 := Lib.hid h2
 have I1 := Lib.hid i1
 have I2 := Lib.hid i2
 have HE := Lib.hid he
 clear h1 h2 i1 i2 he e hN
 go_enter Tryz.func133, Tryz.ntmps133
 go_wp2_with fail
 go_loopw [17] (fun i wr => ∃ j : Nat, j ≤ N ∧ i = .int .i64 j ∧ Below w.heap.size w wr) (fun i _ => N - (intOf i).toNat)
 case atStart => exact ⟨0, by omega, rfl, Below.refl _ _⟩
 case round =>
  obtain ⟨j, hj, rfl, hbw⟩ := hrel
  have HW := Lib.hid hbw
  clear hbw
  by_cases hlt : j < N
  ·obtain ⟨a, b, ha, hb, hab⟩ := map_at HE.out (by rw [HN.out]; exact hlt)
   injection hab with hn hh
   have r1 := row_on H1.out HW.out
   have r2 := row_on H2.out HW.out
   obtain ⟨g, rfl⟩ := own_form r1 (by omega)
   obtain ⟨f, rfl⟩ := own_form r2 (by omega)
   have d0 : wr.cell? ⟨g, j * 3, none⟩ = some (.string (mkB a.name)) := own_cell nb_len (by omega) r1 ha (j := 0) (by omega)
   have d1 : wr.cell? ⟨g, j * 3 + 1, none⟩ = some (.slice a.v.A a.v.n a.v.c) := own_cell nb_len (by omega) r1 ha (j := 1) (by omega)
   have d2 : wr.cell? ⟨g, j * 3 + 2, none⟩ = some (.slice a.v.B a.v.m a.v.d) := own_cell nb_len (by omega) r1 ha (j := 2) (by omega)
   have k1 := belowA wr (.cells a.arr 130)
   have r3 := row_on r2 k1
   have q0 : (wr.alloc (.cells a.arr 130)).cell? ⟨f, j * 3, none⟩ = some (.string (mkB b.name)) := own_cell nb_len (by omega) r3 hb (j := 0) (by omega)
   have q1 : (wr.alloc (.cells a.arr 130)).cell? ⟨f, j * 3 + 1, none⟩ = some (.slice b.v.A b.v.n b.v.c) := own_cell nb_len (by omega) r3 hb (j := 1) (by omega)
   have q2 : (wr.alloc (.cells a.arr 130)).cell? ⟨f, j * 3 + 2, none⟩ = some (.slice b.v.B b.v.m b.v.d) := own_cell nb_len (by omega) r3 hb (j := 2) (by omega)
   have k2 := below_trans' k1 (belowA (wr.alloc (.cells a.arr 130)) (.cells b.arr 130))
   have J1 := Lib.hid ((I1.out a (List.mem_of_getElem? ha)).below HW.out |>.below k2)
   have J2 := Lib.hid ((I2.out b (List.mem_of_getElem? hb)).below HW.out |>.below k2)
   have K2 := Lib.hid (below_trans' HW.out k2)
   have HNM := Lib.hid hn
   have HHH := Lib.hid hh
   have v2 : IntKind.i64.wrap ((j : Int) + 1) = ((j + 1 : Nat) : Int) := by rw [IntWalk.i64_in _ (by omega)]; push_cast; rfl
   clear ha hb hn hh r1 r2 r3 k1 k2
   go_wp2_with fail
   with_reducible refine (eqB_any a b _ J1.out J2.out HNM.out HHH.out).mono ?_
   rintro _ w3 ⟨rfl, hb3⟩
   have K3 := Lib.hid (below_trans' K2.out hb3)
   clear hb3 d0 d1 d2 q0 q1 q2
   go_wp2_with fail
   go_roundw
   case rel => exact ⟨j + 1, by omega, by go_num, K3.out⟩
   case measure => simp [intOf]; omega
  ·go_wp2_with fail
   go_ret
   exact ⟨rfl, HW.out⟩
set_option maxRecDepth 100000 in
set_option maxHeartbeats 1000000 in
theorem eqWs_any (l k : List NW) (A B : Option Addr) (c d : Nat) (w : World) (h1 : w.ownsRow 0 126 13 (.slice A l.length c) l.length (l.flatMap NW.cells)) (h2 : w.ownsRow 0 126 13 (.slice B k.length d) k.length (k.flatMap NW.cells)) (i1 : ∀ y ∈ l, Reads w w.heap.size 6 y.A y.n (ents y.w.card) ∧ y.n ≤ 1000000) (i2 : ∀ y ∈ k, Reads w w.heap.size 6 y.A y.n (ents y.w.card))
  (he : l.map (·.w) = k.map (·.w)) (hl : l.length ≤ 1000) :
  Calls Tryz.prog 136 #[.slice A l.length c, .slice B k.length d, .func (.func 137) #[] #[]] w fun r w' => r = .returned (.bool true) ∧ Below w.heap.size w w' := by
 have e : k.length = l.length := by have := congrArg List.length he; simpa using this.symm
 rw [e] at h2 ⊢
 obtain ⟨N, hN⟩ : ∃ N, l.length = N := ⟨_, rfl⟩
 have HN := Lib.hid hN
 rw [hN] at h1 h2 hl ⊢
 have H1 := Lib.hid h1
 have H2 := Lib.hid h2
 have I1 := Lib.hid i1
 have I2 := Lib.hid i2
 have HE := Lib.hid he
 clear h1 h2 i1 i2 he e hN
 go_enter Tryz.func136, Tryz.ntmps136
 go_wp2_with fail
 go_loopw [17] (fun i wr => ∃ j : Nat, j ≤ N ∧ i = .int .i64 j ∧ Below w.heap.size w wr) (fun i _ => N - (intOf i).toNat)
 case atStart => exact ⟨0, by omega, rfl, Below.refl _ _⟩
 case round =>
  obtain ⟨j, hj, rfl, hbw⟩ := hrel
  have HW := Lib.hid hbw
  clear hbw
  by_cases hlt : j < N
  ·obtain ⟨a, b, ha, hb, hab⟩ := map_at HE.out (by rw [HN.out]; exact hlt)
   have r1 := row_on H1.out HW.out
   have r2 := row_on H2.out HW.out
   obtain ⟨g, rfl⟩ := own_form r1 (by omega)
   obtain ⟨f, rfl⟩ := own_form r2 (by omega)
   have d0 : wr.cell? ⟨g, j * 13, none⟩ = some (.string (mkB a.w.name)) := own_cell nw_len (by omega) r1 ha (j := 0) (by omega)
   have d1 : wr.cell? ⟨g, j * 13 + 1, none⟩ = some (.string (mkB a.w.bun)) := own_cell nw_len (by omega) r1 ha (j := 1) (by omega)
   have d2 : wr.cell? ⟨g, j * 13 + 2, none⟩ = some (.int .i64 a.w.hairs) := own_cell nw_len (by omega) r1 ha (j := 2) (by omega)
   have d3 : wr.cell? ⟨g, j * 13 + 3, none⟩ = some (.int .i64 a.w.done) := own_cell nw_len (by omega) r1 ha (j := 3) (by omega)
   have d4 : wr.cell? ⟨g, j * 13 + 4, none⟩ = some (.int .i64 a.w.shed) := own_cell nw_len (by omega) r1 ha (j := 4) (by omega)
   have d5 : wr.cell? ⟨g, j * 13 + 5, none⟩ = some (.int .i64 a.w.len) := own_cell nw_len (by omega) r1 ha (j := 5) (by omega)
   have d6 : wr.cell? ⟨g, j * 13 + 6, none⟩ = some (.int .i64 a.w.lvl) := own_cell nw_len (by omega) r1 ha (j := 6) (by omega)
   have d7 : wr.cell? ⟨g, j * 13 + 7, none⟩ = some (.int .i64 a.w.tone) := own_cell nw_len (by omega) r1 ha (j := 7) (by omega)
   have d8 : wr.cell? ⟨g, j * 13 + 8, none⟩ = some (.int .i64 a.w.bl) := own_cell nw_len (by omega) r1 ha (j := 8) (by omega)
   have d9 : wr.cell? ⟨g, j * 13 + 9, none⟩ = some (.string (mkB a.w.plait)) := own_cell nw_len (by omega) r1 ha (j := 9) (by omega)
   have d10 : wr.cell? ⟨g, j * 13 + 10, none⟩ = some (.int .i64 a.w.state) := own_cell nw_len (by omega) r1 ha (j := 10) (by omega)
   have d11 : wr.cell? ⟨g, j * 13 + 11, none⟩ = some (.int .i64 a.w.price) := own_cell nw_len (by omega) r1 ha (j := 11) (by omega)
   have d12 : wr.cell? ⟨g, j * 13 + 12, none⟩ = some (.slice a.A a.n a.c) := own_cell nw_len (by omega) r1 ha (j := 12) (by omega)
   have k1 := belowA wr (.cells a.arr 126)
   have r3 := row_on r2 k1
   have q0 : (wr.alloc (.cells a.arr 126)).cell? ⟨f, j * 13, none⟩ = some (.string (mkB b.w.name)) := own_cell nw_len (by omega) r3 hb (j := 0) (by omega)
   have q1 : (wr.alloc (.cells a.arr 126)).cell? ⟨f, j * 13 + 1, none⟩ = some (.string (mkB b.w.bun)) := own_cell nw_len (by omega) r3 hb (j := 1) (by omega)
   have q2 : (wr.alloc (.cells a.arr 126)).cell? ⟨f, j * 13 + 2, none⟩ = some (.int .i64 b.w.hairs) := own_cell nw_len (by omega) r3 hb (j := 2) (by omega)
   have q3 : (wr.alloc (.cells a.arr 126)).cell? ⟨f, j * 13 + 3, none⟩ = some (.int .i64 b.w.done) := own_cell nw_len (by omega) r3 hb (j := 3) (by omega)
   have q4 : (wr.alloc (.cells a.arr 126)).cell? ⟨f, j * 13 + 4, none⟩ = some (.int .i64 b.w.shed) := own_cell nw_len (by omega) r3 hb (j := 4) (by omega)
   have q5 : (wr.alloc (.cells a.arr 126)).cell? ⟨f, j * 13 + 5, none⟩ = some (.int .i64 b.w.len) := own_cell nw_len (by omega) r3 hb (j := 5) (by omega)
   have q6 : (wr.alloc (.cells a.arr 126)).cell? ⟨f, j * 13 + 6, none⟩ = some (.int .i64 b.w.lvl) := own_cell nw_len (by omega) r3 hb (j := 6) (by omega)
   have q7 : (wr.alloc (.cells a.arr 126)).cell? ⟨f, j * 13 + 7, none⟩ = some (.int .i64 b.w.tone) := own_cell nw_len (by omega) r3 hb (j := 7) (by omega)
   have q8 : (wr.alloc (.cells a.arr 126)).cell? ⟨f, j * 13 + 8, none⟩ = some (.int .i64 b.w.bl) := own_cell nw_len (by omega) r3 hb (j := 8) (by omega)
   have q9 : (wr.alloc (.cells a.arr 126)).cell? ⟨f, j * 13 + 9, none⟩ = some (.string (mkB b.w.plait)) := own_cell nw_len (by omega) r3 hb (j := 9) (by omega)
   have q10 : (wr.alloc (.cells a.arr 126)).cell? ⟨f, j * 13 + 10, none⟩ = some (.int .i64 b.w.state) := own_cell nw_len (by omega) r3 hb (j := 10) (by omega)
   have q11 : (wr.alloc (.cells a.arr 126)).cell? ⟨f, j * 13 + 11, none⟩ = some (.int .i64 b.w.price) := own_cell nw_len (by omega) r3 hb (j := 11) (by omega)
   have q12 : (wr.alloc (.cells a.arr 126)).cell? ⟨f, j * 13 + 12, none⟩ = some (.slice b.A b.n b.c) := own_cell nw_len (by omega) r3 hb (j := 12) (by omega)
   have k2 := below_trans' k1 (belowA (wr.alloc (.cells a.arr 126)) (.cells b.arr 126))
   have J1 := Lib.hid (((I1.out a (List.mem_of_getElem? ha)).1.on HW.out).on k2)
   have J3 := Lib.hid (I1.out a (List.mem_of_getElem? ha)).2
   have J2 := Lib.hid (((I2.out b (List.mem_of_getElem? hb)).on HW.out).on k2)
   have HAB := Lib.hid hab
   have K2 := Lib.hid (below_trans' HW.out k2)
   have v2 : IntKind.i64.wrap ((j : Int) + 1) = ((j + 1 : Nat) : Int) := by rw [IntWalk.i64_in _ (by omega)]; push_cast; rfl
   clear ha hb hab r1 r2 r3 k1 k2
   go_wp2_with fail
   with_reducible refine (eqW_any a b _ J1.out J2.out HAB.out J3.out).mono ?_
   rintro _ w3 ⟨rfl, hb3⟩
   have K3 := Lib.hid (below_trans' K2.out hb3)
   clear hb3 d0 d1 d2 d3 d4 d5 d6 d7 d8 d9 d10 d11 d12 q0 q1 q2 q3 q4 q5 q6 q7 q8 q9 q10 q11 q12
   go_wp2_with fail
   go_roundw
   case rel => exact ⟨j + 1, by omega, by go_num, K3.out⟩
   case measure => simp [intOf]; omega
  ·go_wp2_with fail
   go_ret
   exact ⟨rfl, HW.out⟩
set_option maxRecDepth 100000 in
set_option maxHeartbeats 1000000 in
theorem equal_any (v x : RV) (s t : Int) (p q : Nat) (w : World) (h : v.In s p w) (k : x.In t q w) (he : v.rm = x.rm) (hb : v.bs.length ≤ 12) (hw : v.ws.length ≤ 12) (hc : ∀ y ∈ v.ws, y.n ≤ 1000000) :
  Calls Tryz.prog 80 #[.pointer (some ⟨p, 0, none⟩), .pointer (some ⟨q, 0, none⟩)] w fun r w' => r = .returned (.bool true) ∧ Below w.heap.size w w' := by
 have e1 : x.bought = v.bought := (congrArg Rm.bought he).symm
 have e2 : x.lost = v.lost := (congrArg Rm.lost he).symm
 have e3 : x.cash = v.cash := (congrArg Rm.cash he).symm
 have e4 : v.bs.map (fun b => (b.name, b.v.h)) = x.bs.map fun b => (b.name, b.v.h) := congrArg Rm.bs he
 have e5 : v.ws.map (·.w) = x.ws.map (·.w) := congrArg Rm.ws he
 have a1 : w.cell? ⟨p, 5, none⟩ = some (.int .i64 v.bought) := At.cell h.room 5
 have a2 : w.cell? ⟨p, 6, none⟩ = some (.int .i64 v.lost) := At.cell h.room 6
 have a3 : w.cell? ⟨p, 7, none⟩ = some (.int .i64 v.cash) := At.cell h.room 7
 have a4 : w.cell? ⟨p, 2, none⟩ = some (.slice v.A v.bs.length v.ca) := At.cell h.room 2
 have a5 : w.cell? ⟨p, 3, none⟩ = some (.slice v.B v.ws.length v.cb) := At.cell h.room 3
 have b1 : w.cell? ⟨q, 5, none⟩ = some (.int .i64 v.bought) := by rw [← e1]; exact At.cell k.room 5
 have b2 : w.cell? ⟨q, 6, none⟩ = some (.int .i64 v.lost) := by rw [← e2]; exact At.cell k.room 6
 have b3 : w.cell? ⟨q, 7, none⟩ = some (.int .i64 v.cash) := by rw [← e3]; exact At.cell k.room 7
 have b4 : w.cell? ⟨q, 2, none⟩ = some (.slice x.A x.bs.length x.ca) := At.cell k.room 2
 have b5 : w.cell? ⟨q, 3, none⟩ = some (.slice x.B x.ws.length x.cb) := At.cell k.room 3
 have Q0 : Hid (∀ w4, Below w.heap.size w w4 → Calls Tryz.prog 133 #[.slice v.A v.bs.length v.ca, .slice x.A x.bs.length x.ca, .func (.func 134) #[] #[]] w4 fun r w' => r = .returned (.bool true) ∧ Below w4.heap.size w4 w') := Lib.hid fun w4 hb4 =>
  eqBs_any v.bs x.bs v.A x.A v.ca x.ca w4 (h.below hb4).rb (k.below hb4).rb (h.below hb4).hb (k.below hb4).hb e4 (by omega)
 have Q1 : Hid (∀ w4, Below w.heap.size w w4 → Calls Tryz.prog 136 #[.slice v.B v.ws.length v.cb, .slice x.B x.ws.length x.cb, .func (.func 137) #[] #[]] w4 fun r w' => r = .returned (.bool true) ∧ Below w4.heap.size w4 w') := Lib.hid fun w4 hb4 =>
  eqWs_any v.ws x.ws v.B x.B v.cb x.cb w4 (h.below hb4).rw (k.below hb4).rw (fun y hy => ⟨((h.below hb4).hw y hy).1, hc y hy⟩) (fun y hy => ((k.below hb4).hw y hy).1) e5 (by omega)
 have g1 := rg_cell a1
 have g2 := rg_cell a2
 have g3 := rg_cell a3
 have g4 := rg_cell a4
 have g5 := rg_cell a5
 have f1 := rg_cell b1
 have f2 := rg_cell b2
 have f3 := rg_cell b3
 have f4 := rg_cell b4
 have f5 := rg_cell b5
 clear h k he e1 e2 e3 e4 e5 a1 a2 a3 a4 a5 b1 b2 b3 b4 b5 hc
 go_enter Tryz.func80, Tryz.ntmps80
 go_wp2_with fail
 refine wp_region_qb mixed (by kernel_rfl) ?_
 repeat (go_big_quiet_step (first | with_reducible exact rg_call Q0.out _ _ | with_reducible exact rg_call Q1.out _ _))
 refine wpQuiet_nil ?_
 intro w5 hb5
 go_wp2_with fail
 go_ret
 exact ⟨rfl, hb5⟩
end Go.Proofs.YtihhclhpjgeniaaGreatDoor
namespace Go.Proofs.YtihhclhpjgeniaaGreatDoor
open Go.RowKit Go.Sort Go.MuLone
theorem pcs_lines {l : List (List UInt8)} (h : ∀ t ∈ l, (10 : UInt8) ∉ t) {u : List UInt8} (hu : (10 : UInt8) ∉ u) : pcs 10 (dayT l ++ u) = l ++ [u] := by
 induction l with
 | nil => exact pcs_one hu
 | cons t l ih =>
  have : dayT (t :: l) ++ u = t ++ 10 :: (dayT l ++ u) := by simp [dayT]
  rw [this, pcs_hit (h t List.mem_cons_self), ih fun x hx => h x (List.mem_cons_of_mem _ hx)]
  rfl
theorem replay_lines {l : List (List UInt8)} (h : ∀ t ∈ l, (10 : UInt8) ∉ t) : replayT (dayT l) = repR l rm0 0 := by
 rcases List.eq_nil_or_concat l with rfl | ⟨k, t, rfl⟩
 ·rfl
 ·rw [List.concat_eq_append] at h ⊢
  have e : dayT (k ++ [t]) = dayT k ++ t ++ [10] := by rw [dayT_snoc, List.append_assoc]
  have hne : dayT (k ++ [t]) ≠ [] := by rw [e]; simp
  have hsf : Lib.hasSuffix (dayT (k ++ [t])) [10] = true := by
   unfold Lib.hasSuffix
   rw [List.isSuffixOf_iff_suffix, e]
   exact ⟨_, rfl⟩
  have htk : (dayT (k ++ [t])).take ((dayT (k ++ [t])).length - 1) = dayT k ++ t := by
   have hl : (dayT k ++ t ++ [10]).length - 1 = (dayT k ++ t).length := by simp
   rw [e, hl]
   exact List.take_left
  unfold replayT
  rw [if_neg hne, if_pos hsf, htk, pcs_lines (fun x hx => h x (List.mem_append_left _ hx)) (h t (by simp))]
theorem replay_good {r : Rm} (g : r.Good) : replayT (dayT r.day) = (some r, r.day.length, 0) := by
 rw [replay_lines (good_feed g), good_again g]
set_option maxRecDepth 100000 in
set_option maxHeartbeats 1000000 in
theorem audit_any (v : RV) (p : Nat) (m : Int) (w : World) (h : v.In 0 p w) (hg : v.rm.Good) (hgl : Gl m w) : Calls Tryz.prog 45 #[.pointer (some ⟨p, 0, none⟩)] w (RetV v p w (.bool true)) := by
 have HG := Lib.hid hg
 have h1 : w.cell? ⟨p, 0, none⟩ = some (.int .i32 0) := At.cell h.room 0
 have f1 : w.frozen? ⟨p, 0, none⟩ = false := h.room.fz 0
 obtain ⟨l1, l2⟩ := h.lock 1
 have HL1 := Lib.hid l1
 have HR1 := Lib.hid l2
 have HGL1 := Lib.hid (hgl.b8 (l2.b8 h hgl.g))
 have hd3 : v.day.length ≤ 300 := hg.day
 have hd4 : ∀ t ∈ v.day, t.length ≤ 60 := fun t ht => (hg.lines t ht).2
 have HDL := Lib.hid (dayT_len hd4)
 have HD4 := Lib.hid hd4
 clear h l1 l2 hgl hg hd4
 go_enter_defers Tryz.func45, Tryz.ntmps45
 go_wp2_with (go_at_call 54; refine (lock_free muLib ⟨p, 0, none⟩ _ h1 f1).mono ?_; rintro e w' ⟨rfl, rfl⟩)
 clear h1 f1
 generalize w.setCell ⟨p, 0, none⟩ (.int .i32 1) = w1 at HL1 HR1 HGL1 ⊢
 with_reducible refine (book_any v 1 p w1 HL1.out hd3 HD4.out).mono ?_
 rintro _ w2 ⟨rfl, hb⟩
 have HL2 := Lib.hid (HL1.out.below hb)
 have HR2 := Lib.hid (HR1.out.grow hb)
 have HGL2 := Lib.hid (HGL1.out.below hb)
 clear hb HL1 HR1 HGL1
 go_wp2_with fail
 with_reducible refine (replay_any (dayT v.day) m w2 (by have := HDL.out; omega) HGL2.out).mono ?_
 rintro _ w3 ⟨hb, hq⟩
 rw [show replayT (dayT v.day) = (some v.rm, v.day.length, 0) from replay_good HG.out] at hq
 obtain ⟨x, q, rfl, hrm, hx, _⟩ := hq
 have HL3 := Lib.hid (HL2.out.below hb)
 have HR3 := Lib.hid (HR2.out.grow hb)
 have HX3 := Lib.hid hx
 have HRM := Lib.hid hrm
 clear hb hrm hx HL2 HR2 HGL2
 go_wp2_with fail
 with_reducible refine (balancedR_any v 1 p w3 HL3.out HG.out).mono ?_
 rintro _ w4 ⟨rfl, hb⟩
 have HL4 := Lib.hid (HL3.out.below hb)
 have HR4 := Lib.hid (HR3.out.grow hb)
 have HX4 := Lib.hid (HX3.out.below hb)
 clear hb HL3 HR3 HX3
 have c8 : w4.cell? ⟨p, 8, none⟩ = some (.slice v.E v.day.length v.ce) := At.cell HL4.out.room 8
 go_wp2_with fail
 clear c8
 have hnb : v.bs.length ≤ 12 := by have := HG.out.ok.nb; simpa [RV.rm] using this
 have hnw : v.ws.length ≤ 12 := by have := HG.out.ok.nw; simpa [RV.rm] using this
 have hcn : ∀ y ∈ v.ws, y.n ≤ 1000000 := fun y hy => card_n (HL4.out.hw y hy).1 (HG.out.ok.hw y.w (List.mem_map.2 ⟨y, hy, rfl⟩)).card
 with_reducible refine (equal_any v x 1 0 p q w4 HL4.out HX4.out HRM.out.symm hnb hnw hcn).mono ?_
 rintro _ w5 ⟨rfl, hb⟩
 have HL5 := Lib.hid (HL4.out.below hb)
 have HR5 := Lib.hid (HR4.out.grow hb)
 clear hb hnb hnw hcn
 go_wp2_with fail
 exact tell_door rfl HL5.out HR5.out rfl
end Go.Proofs.YtihhclhpjgeniaaGreatDoor
namespace Go.Proofs.YtihhclhpjgeniaaGreatDoor
open Go.RowKit Go.Sort Go.MuLone
set_option maxRecDepth 100000 in
set_option maxHeartbeats 1000000 in
theorem lawAudits_any (A : Option Addr) (n c : Nat) (l : List (List UInt8)) (w : World) (hmw : ∃ m, Gl m w) (hl : Reads w w.heap.size 1 A n (strL l)) (hn : n ≤ 9223372036854775807) : Calls Tryz.prog 14 #[.slice A n c] w (RetT w) := by
 obtain ⟨m, hgl⟩ := hmw
 have hnl : n = l.length := by have := hl.1; rw [strL_len] at this; omega
 have HL := Lib.hid hl
 have HN := Lib.hid hnl
 have HGL := Lib.hid hgl
 clear hl hnl hgl
 go_enter Tryz.func14, Tryz.ntmps14
 go_wp2_with fail
 with_reducible refine (long_any A n c l w HL.out hn).mono ?_
 rintro _ w0 ⟨rfl, rfl⟩
 have HKN : Hid (∀ W : World, Below w0.heap.size w0 W → Calls Tryz.prog 20 #[] W fun r w' => r = .returned (.bool true) ∧ Below w0.heap.size w0 w') := Lib.hid (fun W hb =>
  (known_any m W (HGL.out.below hb)).mono fun r w' h => ⟨h.1, hb.trans (h.2.mono hb.size)⟩)
 cases hlb : longB l with
 | true =>
  go_wp2_with fail
  with_reducible refine (HKN.out w0 (Below.refl _ _)).mono ?_
  rintro _ w2 ⟨rfl, hb⟩
  go_wp2_with fail
  go_ret
  exact ⟨rfl, hb⟩
 | false =>
  go_wp2_with fail
  with_reducible refine (new_any w0 HGL.out.g).mono ?_
  rintro _ w2 ⟨v0, p, rfl, hrm, hi, hF, hb⟩
  have HI0 := Lib.hid hi
  have HF0 := Lib.hid hF
  have HB0 := Lib.hid hb
  have HRM0 := Lib.hid hrm
  clear hi hF hb hrm
  go_wp2_with fail
  go_loopw [4] (fun i wr => ∃ (j : Nat) (v : RV), j ≤ n ∧ i = .int .i64 j ∧ v.rm = runR (l.take j) rm0 ∧ v.In 0 p wr ∧ Below w0.heap.size w0 wr ∧ ∀ k, v.F p k ∨ v.C k → w0.heap.size ≤ k) (fun i _ => n - (intOf i).toNat)
  case atStart => exact ⟨0, v0, Nat.zero_le _, rfl, HRM0.out, HI0.out, HB0.out, HF0.out⟩
  case round =>
   obtain ⟨j, v, hj, rfl, hrm, hi, hb, hF⟩ := hrel
   have HRM := Lib.hid hrm
   have HI := Lib.hid hi
   have HB := Lib.hid hb
   have HF := Lib.hid hF
   clear hrm hi hb hF HI0 HF0 HB0 HRM0
   have HGLr := Lib.hid (HGL.out.below HB.out)
   have HG : Hid v.rm.Good := Lib.hid (by rw [HRM.out]; exact runG _)
   by_cases hlt : j < n
   ·have hlj : (j : Int) < (n : Int) := by omega
    by_cases h40 : j < 40
    ·have hl40 : (j : Int) < 40 := by omega
     have hjl : j < l.length := by have := HN.out; omega
     obtain ⟨t, ht⟩ : ∃ t, l[j]? = some t := ⟨l[j], List.getElem?_eq_getElem hjl⟩
     have HTK := Lib.hid (take_succ_of ht)
     obtain ⟨ad, e1, hbk, hc⟩ := HL.out.2 (by omega)
     have f1 : wr.cell? (ad.add j) = some (.string (mkB t)) := by
      rw [← hc j _ (by simp [strL, ht])]
      exact cell_low HB.out hbk
     subst e1
     clear hc ht
     go_wp2_with fail
     clear f1
     with_reducible refine (do_any v p t m wr HI.out HG.out HGLr.out).mono ?_
     rintro _ w3 ⟨rfl, v1, hrm, hi, hr⟩
     have HI2 := Lib.hid hi
     have HRM2 : Hid (v1.rm = runR (l.take (j + 1)) rm0) := Lib.hid (by rw [hrm, HRM.out, HTK.out, runR_snoc])
     have HG2 : Hid v1.rm.Good := Lib.hid (by rw [HRM2.out]; exact runG _)
     obtain ⟨hb2, hF2⟩ := hr.fresh HF.out HB.out.size
     have HB2 := Lib.hid (HB.out.trans hb2)
     have HF2 := Lib.hid hF2
     clear hi hrm hr hb2 hF2 HI HB HF HRM HG HGLr
     have HGL3 := Lib.hid (HGL.out.below HB2.out)
     have v1' : IntKind.i64.wrap ((j : Int) + 1) = ((j + 1 : Nat) : Int) := by rw [IntWalk.i64_in _ (by omega)]; push_cast; rfl
     generalize (doR t v.rm).1 = e
     go_wp2_with fail
     ·with_reducible refine (audit_any v1 p m w3 HI2.out HG2.out HGL3.out).mono ?_
      rintro _ w4 ⟨rfl, hi, hr⟩
      have HI4 := Lib.hid hi
      obtain ⟨hb2, _⟩ := hr.fresh HF2.out HB2.out.size
      have HB4 := Lib.hid (HB2.out.trans hb2)
      clear hi hr hb2 HI2 HB2
      go_wp2_with fail
      exact ⟨⟨j + 1, v1, by omega, by go_num, HRM2.out, HI4.out, HB4.out, HF2.out⟩, by simp [intOf]; omega⟩
     ·exact ⟨⟨j + 1, v1, by omega, by go_num, HRM2.out, HI2.out, HB2.out, HF2.out⟩, by simp [intOf]; omega⟩
    ·have hl40 : ¬ (j : Int) < 40 := by omega
     go_wp2_with fail
     with_reducible refine (audit_any v p m wr HI.out HG.out HGLr.out).mono ?_
     rintro _ w4 ⟨rfl, hi, hr⟩
     obtain ⟨hb2, _⟩ := hr.fresh HF.out HB.out.size
     have HB4 := Lib.hid (HB.out.trans hb2)
     clear hi hr hb2 HI HB
     go_wp2_with fail
     with_reducible refine (HKN.out w4 HB4.out).mono ?_
     rintro _ w5 ⟨rfl, hb⟩
     go_wp2_with fail
     go_ret
     exact ⟨rfl, hb⟩
   ·have hlj : ¬ (j : Int) < (n : Int) := by omega
    go_wp2_with fail
    with_reducible refine (audit_any v p m wr HI.out HG.out HGLr.out).mono ?_
    rintro _ w4 ⟨rfl, hi, hr⟩
    obtain ⟨hb2, _⟩ := hr.fresh HF.out HB.out.size
    have HB4 := Lib.hid (HB.out.trans hb2)
    clear hi hr hb2 HI HB
    go_wp2_with fail
    with_reducible refine (HKN.out w4 HB4.out).mono ?_
    rintro _ w5 ⟨rfl, hb⟩
    go_wp2_with fail
    go_ret
    exact ⟨rfl, hb⟩
end Go.Proofs.YtihhclhpjgeniaaGreatDoor
namespace Go.Proofs.YtihhclhpjgeniaaGreatDoor
open Go.RowKit Go.Sort Go.MuLone
set_option maxRecDepth 100000 in
set_option maxHeartbeats 1000000 in
theorem hairs_any (v : RV) (p : Nat) (w : World) (h : v.In 0 p w) (hg : v.rm.Good) : Calls Tryz.prog 50 #[.pointer (some ⟨p, 0, none⟩)] w (RetV v p w (.tuple #[.int .i64 v.bought, .bool true])) := by
 have hnb : v.bs.length ≤ 12 := by have := hg.ok.nb; simpa [RV.rm] using this
 have hnw : v.ws.length ≤ 12 := by have := hg.ok.nw; simpa [RV.rm] using this
 have HG := Lib.hid hg
 have H := Lib.hid h
 have HF : Hid (∀ k, v.F p k → k < w.heap.size) := Lib.hid (fun k hk => h.lt (.inl hk))
 have HS := Lib.hid (fun j k => hairs_small hg.ok j k)
 have HL := Lib.hid (lost_small hg)
 have HB0 : Hid (v.bought = v.lost + hairsB v.rm.bs + hairsW v.rm.ws) := Lib.hid hg.ok.bal
 obtain ⟨N, hN⟩ : ∃ N, v.bs.length = N := ⟨_, rfl⟩
 obtain ⟨M, hM⟩ : ∃ M, v.ws.length = M := ⟨_, rfl⟩
 have HN := Lib.hid hN
 have HM := Lib.hid hM
 rw [hN] at hnb
 rw [hM] at hnw
 clear h hg hN hM
 go_enter Tryz.func50, Tryz.ntmps50
 go_wp2_with fail
 with_reducible refine (lost_any v p w H.out).mono ?_
 rintro _ w1 ⟨rfl, hi, hr⟩
 have H1 := Lib.hid hi
 have R1 := Lib.hid hr
 clear hi hr H
 go_wp2_with fail
 with_reducible refine (bundles_any v p w1 H1.out (by rw [HN.out]; exact hnb)).mono ?_
 rintro _ w2 ⟨B, d, rfl, ho, hi, hr⟩
 rw [HN.out] at ho ⊢
 have H2 := Lib.hid hi
 have R2 := Lib.hid (R1.out.trans hr)
 have O2 := Lib.hid ho
 have Z1 := Lib.hid R1.out.kp.size
 have Z2 := Lib.hid R2.out.kp.size
 clear hi hr ho H1 R1
 go_wp2_with fail
 go_loopw [4, 6] (fun s i wr => ∃ j : Nat, j ≤ N ∧ i = .int .i64 j ∧ s = .int .i64 (v.lost + hairsB (v.rm.bs.take j)) ∧ v.In 0 p wr ∧ Rs p v w v wr ∧ wr.ownsRow w1.heap.size 9 1 (.slice B N d) N (v.bs.flatMap nm1)) (fun _ i _ => N - (intOf i).toNat)
 case atStart => exact ⟨0, Nat.zero_le _, rfl, by simp [hairsB], H2.out, R2.out, O2.out⟩
 case round =>
  obtain ⟨j, hj, rfl, rfl, hi, hr, ho⟩ := hrel
  have HI := Lib.hid hi
  have HR := Lib.hid hr
  have HO := Lib.hid ho
  clear hi hr ho H2 R2 O2
  by_cases hlt : j < N
  ·obtain ⟨b, hb⟩ : ∃ b, v.bs[j]? = some b := ⟨v.bs[j]'(by rw [HN.out]; exact hlt), List.getElem?_eq_getElem _⟩
   have hb2 : v.rm.bs[j]? = some (b.name, b.v.h) := by show (v.bs.map fun b => (b.name, b.v.h))[j]? = _; rw [List.getElem?_map, hb]; rfl
   have HT : Hid (hairsB (v.rm.bs.take (j + 1)) = hairsB (v.rm.bs.take j) + b.v.h.cnt) := Lib.hid (hairsB_take hb2)
   have hbn : v.rm.bun b.name = some j := bun_own (b := (b.name, b.v.h)) HG.out.ok.db hb2
   have hhr : v.rm.hr j = b.v.h := by unfold Rm.hr; rw [hb2]; rfl
   have HBN := Lib.hid hbn
   have HHR := Lib.hid hhr
   obtain ⟨g, rfl⟩ := own_form HO.out (by omega)
   have HO' := HO.out
   have d0 : wr.cell? ⟨g, j, none⟩ = some (.string (mkB b.name)) := by have := own_cell nm_len (by omega) HO' hb (j := 0) (by omega); simpa [nm1] using this
   have v0 : IntKind.i64.wrap (v.lost + hairsB (v.rm.bs.take j) + b.v.h.cnt) = v.lost + hairsB (v.rm.bs.take (j + 1)) := by
    have a1 := HS.out j 0
    have a2 := HS.out (j + 1) 0
    have a3 := HL.out
    have a4 : v.rm.lost = v.lost := rfl
    have a5 := HT.out
    rw [IntWalk.i64_in _ (by omega)]; omega
   have v1' : IntKind.i64.wrap ((j : Int) + 1) = ((j + 1 : Nat) : Int) := by rw [IntWalk.i64_in _ (by omega)]; push_cast; rfl
   clear hb hb2 hbn hhr HO'
   go_wp2_with fail
   clear d0
   with_reducible refine (bundle_any v p b.name wr HI.out (by rw [HN.out]; exact hnb)).mono ?_
   rintro _ w4 ⟨u, e, rfl, hu, hm, hi, hr⟩
   simp only [HBN.out] at hm
   obtain ⟨rfl, hm⟩ := hm
   rw [HHR.out] at hm
   have HU := Lib.hid hu
   have HMU := Lib.hid hm
   have HI4 := Lib.hid hi
   have HR4 := Lib.hid (HR.out.trans hr)
   have HO4 := Lib.hid (row_rs HO.out hr fun k hk => Nat.lt_of_lt_of_le (HF.out k hk) Z1.out)
   clear hu hm hi hr HI HR HO
   go_wp2_with fail
   with_reducible refine (countB_any u _ (HU.out.below (belowA w4 (.cells u.arr 56)))).mono ?_
   rintro _ w5 ⟨rfl, hb⟩
   have HB5 := Lib.hid (below_trans' (belowA w4 (.cells u.arr 56)) hb)
   rw [HMU.out]
   clear hb
   go_wp2_with fail
   exact ⟨⟨j + 1, by omega, by go_num, rfl, HI4.out.below HB5.out, HR4.out.grow HB5.out, row_on HO4.out HB5.out⟩, by simp [intOf]; omega⟩
  ·obtain rfl : j = N := by omega
   have e : v.rm.bs.take j = v.rm.bs := List.take_of_length_le (by show (v.bs.map _).length ≤ j; rw [List.length_map, HN.out]; exact Nat.le_refl _)
   rw [e]
   have A1 := Lib.hid (HS.out j 0)
   rw [e] at A1
   clear e HO
   have Z3 := Lib.hid HR.out.kp.size
   go_wp2_with fail
   with_reducible refine (wigs_any v p wr HI.out (by rw [HM.out]; exact hnw)).mono ?_
   rintro _ w3 ⟨C, c, rfl, ho, hi, hr⟩
   rw [HM.out] at ho ⊢
   have H3 := Lib.hid hi
   have R3 := Lib.hid (HR.out.trans hr)
   have Q3 := Lib.hid ho
   clear hi hr ho HI HR
   go_wp2_with fail
   go_loopw [4, 12] (fun s i wz => ∃ k : Nat, k ≤ M ∧ i = .int .i64 k ∧ s = .int .i64 (v.lost + hairsB v.rm.bs + hairsW (v.rm.ws.take k)) ∧ v.In 0 p wz ∧ Rs p v w v wz ∧ wz.ownsRow wr.heap.size 49 12 (.slice C M c) M (v.ws.flatMap wg1)) (fun _ i _ => M - (intOf i).toNat)
   case atStart => exact ⟨0, Nat.zero_le _, rfl, by simp [hairsW], H3.out, R3.out, Q3.out⟩
   case round =>
    obtain ⟨k, hk, rfl, rfl, hi, hr, hq⟩ := hrel
    have KI := Lib.hid hi
    have KR := Lib.hid hr
    have KQ := Lib.hid hq
    clear hi hr hq H3 R3 Q3
    by_cases hlt : k < M
    ·obtain ⟨x, hx⟩ : ∃ x, v.ws[k]? = some x := ⟨v.ws[k]'(by rw [HM.out]; exact hlt), List.getElem?_eq_getElem _⟩
     have hx2 : v.rm.ws[k]? = some x.w := by show (v.ws.map (·.w))[k]? = _; rw [List.getElem?_map, hx]; rfl
     have ok := HG.out.ok.hw x.w (List.mem_of_getElem? hx2)
     have a1 := ok.hairs
     have a2 := ok.shed
     have HT : Hid (hairsW (v.rm.ws.take (k + 1)) = hairsW (v.rm.ws.take k) + (x.w.hairs - x.w.shed)) := Lib.hid (hairsW_take hx2)
     obtain ⟨g, rfl⟩ := own_form KQ.out (by omega)
     have KQ' := KQ.out
     have d2 : wr.cell? ⟨g, k * 12 + 2, none⟩ = some (.int .i64 x.w.hairs) := own_cell wg_len (by omega) KQ' hx (j := 2) (by omega)
     have d4 : wr.cell? ⟨g, k * 12 + 4, none⟩ = some (.int .i64 x.w.shed) := own_cell wg_len (by omega) KQ' hx (j := 4) (by omega)
     have g2 : ∀ d os, (grow (redrawn wr d) os).cell? ⟨g, k * 12 + 2, none⟩ = some (.int .i64 x.w.hairs) := rg_cell d2
     have g4 : ∀ d os, (grow (redrawn wr d) os).cell? ⟨g, k * 12 + 4, none⟩ = some (.int .i64 x.w.shed) := rg_cell d4
     have v0 : IntKind.i64.wrap (x.w.hairs - x.w.shed) = x.w.hairs - x.w.shed := IntWalk.i64_in _ (by omega)
     have v1 : IntKind.i64.wrap (v.lost + hairsB v.rm.bs + hairsW (v.rm.ws.take k) + (x.w.hairs - x.w.shed)) = v.lost + hairsB v.rm.bs + hairsW (v.rm.ws.take (k + 1)) := by
      have b1 := A1.out
      have b2 := HS.out 0 k
      have b3 := HL.out
      have b4 : v.rm.lost = v.lost := rfl
      have b5 := HT.out
      rw [IntWalk.i64_in _ (by omega)]; omega
     have v1' : IntKind.i64.wrap ((k : Int) + 1) = ((k + 1 : Nat) : Int) := by rw [IntWalk.i64_in _ (by omega)]; push_cast; rfl
     clear hx hx2 ok a1 a2 KQ' d2 d4
     go_wp2_with fail
     refine wp_region_qb mixed (by kernel_rfl) ?_
     repeat (go_big_quiet_step (fail))
     refine wpQuiet_nil ?_
     intro w6 hb6
     have KI6 := Lib.hid (KI.out.below hb6)
     have KR6 := Lib.hid (KR.out.grow hb6)
     have KQ6 := Lib.hid (row_on KQ.out hb6)
     clear hb6 g2 g4 v0 v1 KI KR KQ
     go_wp2_with fail
     exact ⟨⟨k + 1, by omega, by go_num, rfl, KI6.out, KR6.out, KQ6.out⟩, by simp [intOf]; omega⟩
    ·obtain rfl : k = M := by omega
     have e : v.rm.ws.take k = v.rm.ws := List.take_of_length_le (by show (v.ws.map _).length ≤ k; rw [List.length_map, HM.out]; exact Nat.le_refl _)
     rw [e, ← HB0.out]
     clear e
     go_wp2_with fail
     go_ret2
     exact ⟨rfl, KI.out, KR.out⟩
theorem kn_strB : ({ data := #[98, 117, 121, 32, 97, 32, 49, 48, 32, 49, 48, 48, 32, 50, 52, 48] } : ByteArray) = mkB (knAt 0) := rfl
set_option maxRecDepth 100000 in
set_option maxHeartbeats 1000000 in
theorem begun_any (m : Int) (w : World) (hgl : Gl m w) : Calls Tryz.prog 48 #[] w fun r w' => (∃ p : Option Addr, r = .returned (.tuple #[.pointer p, .bool true])) ∧ Below w.heap.size w w' := by
 have HGL := Lib.hid hgl
 clear hgl
 go_enter Tryz.func48, Tryz.ntmps48
 go_wp2_with fail
 with_reducible refine (new_any w HGL.out.g).mono ?_
 rintro _ w1 ⟨v, p, rfl, hrm, hi, hF, hb⟩
 have HI := Lib.hid hi
 have HF := Lib.hid hF
 have HB := Lib.hid hb
 have HRM := Lib.hid hrm
 have HGL1 := Lib.hid (HGL.out.below hb)
 have HG : Hid v.rm.Good := Lib.hid (by rw [hrm]; exact rm0_good)
 clear hi hF hb hrm
 go_wp2_with fail
 rw [kn_strB]
 with_reducible refine (do_any v p (knAt 0) m w1 HI.out HG.out HGL1.out).mono ?_
 rintro _ w2 ⟨rfl, v1, hrm, hi, hr⟩
 have hd : doR (knAt 0) v.rm = (0, kn1) := by rw [HRM.out]; exact kn_1
 rw [hd] at hrm ⊢
 have e1 : v1.bought = 100 := by have := congrArg Rm.bought hrm; exact this
 have e2 : v1.cash = -240 := by have := congrArg Rm.cash hrm; exact this
 have HI2 := Lib.hid hi
 obtain ⟨hb2, hF2⟩ := hr.fresh HF.out HB.out.size
 have HB2 := Lib.hid (HB.out.trans hb2)
 have HF2 := Lib.hid hF2
 have E1 := Lib.hid e1
 have E2 := Lib.hid e2
 clear hd hrm hi hr hb2 hF2 e1 e2 HI HF HB HGL1 HG HRM
 go_wp2_with fail
 with_reducible refine (bought_any v1 p w2 HI2.out).mono ?_
 rintro _ w3 ⟨rfl, hi, hr⟩
 rw [E1.out]
 have HI3 := Lib.hid hi
 have HB3 := Lib.hid (HB2.out.trans (hr.fresh HF2.out HB2.out.size).1)
 clear hi hr HI2 HB2
 go_wp2_with fail
 with_reducible refine (cash_any v1 p w3 HI3.out).mono ?_
 rintro _ w4 ⟨rfl, hi, hr⟩
 rw [E2.out]
 have HB4 := Lib.hid (HB3.out.trans (hr.fresh HF2.out HB3.out.size).1)
 clear hi hr HI3 HB3
 go_wp2_with fail
 go_ret2
 exact ⟨⟨_, rfl⟩, HB4.out⟩
end Go.Proofs.YtihhclhpjgeniaaGreatDoor
