/- Merged texts: Q5 -/
import Derived.Test.YtihhclhpjgeniaaGreatDoorSB11
import Derived.Defers
import Derived.Recover
namespace Go.Proofs.YtihhclhpjgeniaaGreatDoor
open Go.RowKit Go.Sort
theorem cell_lt {w : World} {p : Addr} {x : Value} (h : w.cell? p = some x) : p.block < w.heap.size := by
 rcases Nat.lt_or_ge p.block w.heap.size with h1 | h1
 ·exact h1
 ·unfold World.cell? at h
  rw [Array.getElem?_eq_none h1] at h
  cases h
theorem cell_alloc {w : World} {p : Addr} {x : Value} (h : w.cell? p = some x) (o : Obj) : (w.alloc o).cell? p = some x := by
 rw [(belowA w o).cell (p := p) (cell_lt h), h]
theorem frozen_alloc {w : World} {p : Addr} {x : Value} (h : w.cell? p = some x) (o : Obj) : (w.alloc o).frozen? p = w.frozen? p := (belowA w o).frozen (p := p) (cell_lt h)
set_option maxRecDepth 100000 in
theorem catch_bad (p q : Addr) (x y : Value) (older : List PanicEntry) (w : World) (hc : w.cell? p = some x) (hz : w.frozen? p = false) (hc2 : w.cell? q = some y) (hz2 : w.frozen? q = false) (hpq : p ≠ q) :
  CallsD Tryz.prog 315 #[.pointer (some p), .pointer (some q)] (.panicking ({ v := .iface 347 (.agg #[]), recovered := false } :: older)) w fun e u' w' =>
   e = .returned (.tuple #[]) ∧ u' = .panicking ({ v := .iface 347 (.agg #[]), recovered := true } :: older) ∧ ∃ o, w' = (((w.alloc o).setCell p (.slice none 0 0)).setCell q (.bool false)) := by
 have TA : ∀ w, (Instr.typeAssert (.iface 347 (.agg #[])) 20 347 true).run Tryz.prog w = .ok (.tuple #[.agg #[], .bool true]) w := fun w => by kernel_rfl
 have ha1 : ∀ o, (w.alloc o).cell? p = some x := fun o => cell_alloc hc o
 have ha2 : ∀ o v, ((w.alloc o).setCell p v).cell? q = some y := fun o v => by rw [World.cell?_setCell_other _ _ _ _ hpq]; exact cell_alloc hc2 o
 have hf1 : ∀ o, (w.alloc o).frozen? p = false := fun o => by rw [frozen_alloc hc o]; exact hz
 have hf2 : ∀ o, (w.alloc o).frozen? q = false := fun o => by rw [frozen_alloc hc2 o]; exact hz2
 refine callsD_of_wpS Tryz.func315 rfl fun c₀ cs hu => ?_
 apply wpS_seq
 apply wpS_region
 simp [wpOpsS, go_sem, recoverD, hu, Tryz.ntmps315, Exit.thenS]
 refine wpS_of_wp ?_
 rw [show #[Value.pointer (some p), Value.pointer (some q)] ++ ((Array.replicate 14 undef).setIfInBounds 3 (Value.iface 347 (Value.agg #[]))).setIfInBounds 0 (Value.iface 347 (Value.agg #[])) = #[Value.pointer (some p), Value.pointer (some q), .iface 347 (.agg #[]), undef, undef, .iface 347 (.agg #[]), undef, undef, undef, undef, undef, undef, undef, undef, undef, undef] from rfl]
 go_wp2_with fail
 simp [bodyPostS, results, Tryz.results315]
 exact ⟨_, rfl⟩
theorem catch_idle (p q : Addr) (w : World) :
  CallsD Tryz.prog 315 #[.pointer (some p), .pointer (some q)] .returning w fun e u' w' => e = .returned (.tuple #[]) ∧ u' = .returning ∧ w' = w := by
 refine callsD_of_wpS Tryz.func315 rfl fun c₀ cs hu => ?_
 apply wpS_seq
 apply wpS_region
 simp [wpOpsS, go_sem, recoverD, hu, Tryz.ntmps315, Exit.thenS]
 refine wpS_of_wp ?_
 rw [show #[Value.pointer (some p), Value.pointer (some q)] ++ ((Array.replicate 14 undef).setIfInBounds 3 Value.nilIface).setIfInBounds 0 Value.nilIface = #[Value.pointer (some p), Value.pointer (some q), .nilIface, undef, undef, .nilIface, undef, undef, undef, undef, undef, undef, undef, undef, undef, undef] from rfl]
 go_wp2_with fail
 cases c₀
 simp_all [bodyPostS, results, Tryz.results315]
set_option maxRecDepth 100000 in
set_option maxHeartbeats 4000000 in
theorem parse_any (s : List UInt8) (w : World) (hs : s.length ≤ 4000) :
  Calls Tryz.prog 299 #[.string (mkB s)] w fun r w' => Below w.heap.size w w' ∧ ((pItems (s.length + 1) 0 s = none ∧ r = .returned (.tuple #[.slice none 0 0, .bool false])) ∨
   ∃ rest L W A n c es, pItems (s.length + 1) 0 s = some (rest, L, W) ∧ r = .returned (.tuple #[.slice A n c, .bool rest.isEmpty]) ∧ Its w' (fun _ => False) w'.heap.size 9 A n es ∧ lenE es = L ∧ wordE es = W ∧ n ≤ s.length) := by
 have hmf : ∀ (fn : Fn) (first cap : Array Value) (w : World), (Instr.makeFunc fn first cap).run Tryz.prog w = .ok (.func fn first cap) w := fun _ _ _ _ => rfl
 have hb1 := Box.new w #[.slice none 0 0] 328
 have hz1 := fz_new w #[.slice none 0 0] 328
 generalize hw1 : w.alloc (.cells #[.slice none 0 0] 328) = w1 at hb1 hz1
 have hs1 : w1.heap.size = w.heap.size + 1 := by rw [← hw1]; simp
 have hbl1 : Below w.heap.size w w1 := by rw [← hw1]; exact belowA _ _
 have hb2 := Box.new w1 #[.bool false] 4
 have hz2 := fz_new w1 #[.bool false] 4
 replace hb1 := hb1.alloc (.cells #[.bool false] 4)
 have hz1' : ∀ i, (w1.alloc (.cells #[.bool false] 4)).frozen? ⟨w.heap.size, i, none⟩ = false := fz_below (by omega) hz1 (belowA _ _)
 have hbl2 := below_trans' hbl1 (belowA w1 (.cells #[.bool false] 4))
 generalize hw2 : w1.alloc (.cells #[.bool false] 4) = w2 at hb1 hz1' hb2 hz2 hbl2
 have hs2 : w2.heap.size = w.heap.size + 1 + 1 := by rw [← hw2, ← hs1]; simp
 rw [hs1] at hb2 hz2
 have hb3 := Box.new w2 #[.string (mkB s)] 350
 have hz3 := fz_new w2 #[.string (mkB s)] 350
 replace hb1 := hb1.alloc (.cells #[.string (mkB s)] 350)
 replace hb2 := hb2.alloc (.cells #[.string (mkB s)] 350)
 have hz1'' : ∀ i, (w2.alloc (.cells #[.string (mkB s)] 350)).frozen? ⟨w.heap.size, i, none⟩ = false := fz_below (by omega) hz1' (belowA _ _)
 have hz2' : ∀ i, (w2.alloc (.cells #[.string (mkB s)] 350)).frozen? ⟨w.heap.size + 1, i, none⟩ = false := fz_below (by omega) hz2 (belowA _ _)
 have hbl3 := below_trans' hbl2 (belowA w2 (.cells #[.string (mkB s)] 350))
 rw [hs2] at hb3 hz3
 generalize hw3 : w2.alloc (.cells #[.string (mkB s)] 350) = w3 at hb1 hz1'' hb2 hz2' hb3 hz3 hbl3
 have hs3 : w3.heap.size = w.heap.size + 1 + 1 + 1 := by rw [← hw3, ← hs2]; simp
 have H1 := Lib.hid hb1
 have Z1 := Lib.hid hz1''
 have H2 := Lib.hid hb2
 have Z2 := Lib.hid hz2'
 have HR : Hid (ReadAt w3 (w.heap.size + 1 + 1) s) := Lib.hid ⟨hb3, hz3⟩
 have HB := Lib.hid hbl3
 have HW : Hid (((w.alloc (.cells #[.slice none 0 0] 328)).alloc (.cells #[.bool false] 4)).alloc (.cells #[.string (mkB s)] 350) = w3) := Lib.hid (by rw [hw1, hw2, hw3])
 have HS := Lib.hid hs3
 clear hb1 hz1'' hb2 hz2' hb3 hz3 hbl3 hw1 hw2 hw3 hs1 hs2 hs3 hz1 hz1' hz2 hbl1 hbl2
 go_enter_defers Tryz.func299, Tryz.ntmps299
 go_wp2_with fail
 rw [HW.out]
 have hP : ∀ k, k < w.heap.size → k ≠ w.heap.size + 1 + 1 := fun k h => by omega
 have IC := items_all (s.length + 1) 0 s (w.heap.size + 1 + 1) w3 (by omega) (by omega) hs HR.out
 rw [show ((0 : Nat) : Int) = 0 from rfl] at IC
 with_reducible refine IC.mono ?_
 clear IC
 rintro _ w7 ⟨hg7, ⟨hnone, rfl⟩ | ⟨rest, L, W, A, n, c, es, hsome, rfl, hits, hL, hW, hn, hread⟩⟩
 ·have HN := Lib.hid hnone
  have HB7 := Lib.hid (HB.out.grown hg7 HB.out.size (fun k hk => by obtain rfl := Option.some.inj hk; omega))
  have H17 := Lib.hid (H1.out.grown hg7 (fun k hk => by obtain rfl := Option.some.inj hk; omega))
  have H27 := Lib.hid (H2.out.grown hg7 (fun k hk => by obtain rfl := Option.some.inj hk; omega))
  have Z17 := Lib.hid (fz_grown H1.out.1 Z1.out hg7 (fun k hk => by obtain rfl := Option.some.inj hk; omega))
  have Z27 := Lib.hid (fz_grown H2.out.1 Z2.out hg7 (fun k hk => by obtain rfl := Option.some.inj hk; omega))
  clear hnone hg7
  go_wp2_with fail
  refine leaves_cons (f := 315) (args := #[.pointer (some ⟨w.heap.size, 0, none⟩), .pointer (some ⟨w.heap.size + 1, 0, none⟩)]) (by simp) (by simp [go_sem]) ?_
  refine (catch_bad ⟨w.heap.size, 0, none⟩ ⟨w.heap.size + 1, 0, none⟩ _ _ [] _ (H17.out.2 0) (Z17.out 0) (H27.out.2 0) (Z27.out 0) (fun e => by injection e with e; omega)).mono ?_
  rintro e u' w'' ⟨rfl, rfl, o, rfl⟩
  have hb8 := (H17.out.alloc o).set (i := 0) (by simp) (.slice none 0 0)
  have hb9 := hb8.far (p := ⟨w.heap.size + 1, 0, none⟩) (show w.heap.size ≠ w.heap.size + 1 by omega) (.bool false)
  have hc9 := ((H27.out.alloc o).far (p := ⟨w.heap.size, 0, none⟩) (show w.heap.size + 1 ≠ w.heap.size by omega) (.slice none 0 0)).set (i := 0) (by simp) (.bool false)
  have hbb : Below w.heap.size w (((w7.alloc o).setCell ⟨w.heap.size, 0, none⟩ (.slice none 0 0)).setCell ⟨w.heap.size + 1, 0, none⟩ (.bool false)) := below_set (below_set (HB7.out.alloc (HB7.out.size) o) (Nat.le_refl _) _) (Nat.le_succ _) _
  have c1 := hb9.2 0
  have c2 := hc9.2 0
  simp at c1 c2
  generalize ((w7.alloc o).setCell ⟨w.heap.size, 0, none⟩ (.slice none 0 0)).setCell ⟨w.heap.size + 1, 0, none⟩ (.bool false) = w8 at *
  simp [Leaves, settle, results, Tryz.results299, go_sem, c1, c2]
  refine ⟨hbb, .inl ?_⟩
  have := HN.out
  rw [if_pos (by omega)] at this
  exact this
 ·have HSM := Lib.hid hsome
  have HB7 := Lib.hid (HB.out.grown hg7 HB.out.size (fun k hk => by obtain rfl := Option.some.inj hk; omega))
  have h17 := H1.out.grown hg7 (fun k hk => by obtain rfl := Option.some.inj hk; omega)
  have h27 := H2.out.grown hg7 (fun k hk => by obtain rfl := Option.some.inj hk; omega)
  have z17 := fz_grown H1.out.1 Z1.out hg7 (fun k hk => by obtain rfl := Option.some.inj hk; omega)
  have z27 := fz_grown H2.out.1 Z2.out hg7 (fun k hk => by obtain rfl := Option.some.inj hk; omega)
  have HI := Lib.hid hits
  have HL := Lib.hid hL
  have HWD := Lib.hid hW
  have HNN := Lib.hid hn
  have HRD := Lib.hid hread
  have H18 := Lib.hid (h17.set (i := 0) (by simp) (.slice A n c))
  have H28 := Lib.hid (h27.far (p := ⟨w.heap.size, 0, none⟩) (show w.heap.size + 1 ≠ w.heap.size by omega) (.slice A n c))
  have Z18 : Hid (∀ i, (w7.setCell ⟨w.heap.size, 0, none⟩ (.slice A n c)).frozen? ⟨w.heap.size, i, none⟩ = false) := Lib.hid fun i => by rw [World.frozen?_setCell]; exact z17 i
  have Z28 : Hid (∀ i, (w7.setCell ⟨w.heap.size, 0, none⟩ (.slice A n c)).frozen? ⟨w.heap.size + 1, i, none⟩ = false) := Lib.hid fun i => by rw [World.frozen?_setCell]; exact z27 i
  have HI8 : Hid (Its (w7.setCell ⟨w.heap.size, 0, none⟩ (.slice A n c)) (· < w3.heap.size) (w7.setCell ⟨w.heap.size, 0, none⟩ (.slice A n c)).heap.size (9 - 0) A n es) := Lib.hid
   (hits.grown (row := some w.heap.size) ⟨rfl, rfl, rfl, by rw [size_set]; exact Nat.le_refl _, fun k _ hk => Below.heap_setCell _ _ _ _ fun e => hk (by rw [e])⟩ fun r hr => by obtain rfl := Option.some.inj hr; exact H1.out.1)
  have HR8 : Hid (ReadAt (w7.setCell ⟨w.heap.size, 0, none⟩ (.slice A n c)) (w.heap.size + 1 + 1) rest) := Lib.hid ⟨hread.box.far (p := ⟨w.heap.size, 0, none⟩) (show w.heap.size + 1 + 1 ≠ w.heap.size by omega) _, fun i => by rw [World.frozen?_setCell]; exact hread.fz i⟩
  have HB8 : Hid (Below w.heap.size w (w7.setCell ⟨w.heap.size, 0, none⟩ (.slice A n c))) := Lib.hid (below_set HB7.out (Nat.le_refl _) _)
  have c0 := h17.2 0
  have f0 := z17 0
  simp only [List.getElem?_toArray, List.getElem?_cons_zero] at c0
  clear hsome hits hL hW hn hread hg7 h17 h27 z17 z27 HI HRD HB7 HR H1 H2 Z1 Z2
  go_wp2_with fail
  clear c0 f0
  generalize w7.setCell ⟨w.heap.size, 0, none⟩ (.slice A n c) = w8 at H18 H28 Z18 Z28 HI8 HR8 HB8 ⊢
  have c1 : w8.cell? ⟨w.heap.size, 0, none⟩ = some (.slice A n c) := H18.out.2 0
  have c2 := H28.out.2 0
  simp only [List.getElem?_toArray, List.getElem?_cons_zero] at c2
  have c3 := HR8.out.c0
  have f1 := Z18.out 0
  have f2 := Z28.out 0
  refine wp_region_ht [0, 1, 2, 3] [4, 5] (fun w' => w'.cell? ⟨w.heap.size, 0, none⟩ = some (.slice A n c) ∧ w'.cell? ⟨w.heap.size + 1 + 1, 0, none⟩ = some (.string (mkB rest))) mixed (by kernel_rfl) ⟨c1, c3⟩ ?_
  repeat
   refine canonH_step (v := ?_) rfl (by rfl) ?_ ?_
   rotate_left
   ·intro w hSw
    obtain ⟨s1_, s2_⟩ := hSw
    go_simp <;> with_reducible rfl
   simp only [List.getElem_toArray, List.getElem_cons_zero, List.getElem_cons_succ, Act.put, List.setIfInBounds_toArray, List.set_cons_succ, List.set_cons_zero]
  refine canonH_nil ?_
  refine tailW_step rfl ?_
  go_wp2_with fail
  have HP9 := Lib.hid (H18.out.set (i := 0) (by simp) (.slice A n c))
  have HQ9 := Lib.hid (H28.out.far (p := ⟨w.heap.size, 0, none⟩) (show w.heap.size + 1 ≠ w.heap.size by omega) (.slice A n c))
  have HR9 := Lib.hid (HR8.out.box.far (p := ⟨w.heap.size, 0, none⟩) (show w.heap.size + 1 + 1 ≠ w.heap.size by omega) (.slice A n c))
  have HI9 : Hid (Its (w8.setCell ⟨w.heap.size, 0, none⟩ (.slice A n c)) (· < w3.heap.size) (w8.setCell ⟨w.heap.size, 0, none⟩ (.slice A n c)).heap.size (9 - 0) A n es) := Lib.hid
   (HI8.out.grown (row := some w.heap.size) ⟨rfl, rfl, rfl, by rw [size_set]; exact Nat.le_refl _, fun k _ hk => Below.heap_setCell _ _ _ _ fun e => hk (by rw [e])⟩ fun r hr => by obtain rfl := Option.some.inj hr; have := HS.out; omega)
  have HB9 := Lib.hid (below_set HB8.out (p := ⟨w.heap.size, 0, none⟩) (Nat.le_refl _) (.slice A n c))
  have HZ9 : Hid (∀ i, (w8.setCell ⟨w.heap.size, 0, none⟩ (.slice A n c)).frozen? ⟨w.heap.size + 1, i, none⟩ = false) := Lib.hid fun i => by rw [World.frozen?_setCell]; exact Z28.out i
  clear c1 c2 c3 f1 f2 H18 H28 Z18 Z28 HR8 HB8 HI8
  generalize w8.setCell ⟨w.heap.size, 0, none⟩ (.slice A n c) = w9 at HP9 HQ9 HR9 HI9 HB9 HZ9 ⊢
  refine ⟨⟨HP9.out.2 0, HR9.out.2 0⟩, ?_⟩
  refine tailW_last rfl ?_
  have c4 : w9.cell? ⟨w.heap.size + 1, 0, none⟩ = some (.bool false) := HQ9.out.2 0
  have f4 := HZ9.out 0
  go_wp2_with fail
  refine NoPanic.normal ?_
  clear c4 f4
  have HP10 := Lib.hid ((HP9.out.far (p := ⟨w.heap.size + 1, 0, none⟩) (show w.heap.size ≠ w.heap.size + 1 by omega) (.bool rest.isEmpty)).drew)
  have HQ10 := Lib.hid ((HQ9.out.set (i := 0) (by simp) (.bool rest.isEmpty)).drew)
  have HB10 := Lib.hid (below_drewN' (below_set HB9.out (p := ⟨w.heap.size + 1, 0, none⟩) (Nat.le_succ _) (.bool rest.isEmpty)) 1)
  have HI10 := Lib.hid ((HI9.out.grown (w' := w9.setCell ⟨w.heap.size + 1, 0, none⟩ (.bool rest.isEmpty)) (row := some (w.heap.size + 1)) ⟨rfl, rfl, rfl, by rw [size_set]; exact Nat.le_refl _, fun k _ hk => Below.heap_setCell _ _ _ _ fun e => hk (by rw [e])⟩ (fun r hr => by obtain rfl := Option.some.inj hr; have := HS.out; omega)).below (below_drew _))
  have hdr : ∀ x : World, x.drewN 1 = x.drew := fun _ => rfl
  rw [hdr] at HB10
  generalize (w9.setCell ⟨w.heap.size + 1, 0, none⟩ (.bool rest.isEmpty)).drew = w10 at HP10 HQ10 HB10 HI10 ⊢
  clear HP9 HQ9 HR9 HI9 HB9 HZ9 hdr
  go_wp2_with fail
  refine leaves_cons (f := 315) (args := #[.pointer (some ⟨w.heap.size, 0, none⟩), .pointer (some ⟨w.heap.size + 1, 0, none⟩)]) (by simp) (by simp [go_sem]) ?_
  refine (catch_idle ⟨w.heap.size, 0, none⟩ ⟨w.heap.size + 1, 0, none⟩ _).mono ?_
  rintro e u' w'' ⟨rfl, rfl, rfl⟩
  have c1 : w''.cell? ⟨w.heap.size, 0, none⟩ = some (.slice A n c) := HP10.out.2 0
  have c2 : w''.cell? ⟨w.heap.size + 1, 0, none⟩ = some (.bool rest.isEmpty) := HQ10.out.2 0
  have hsm := HSM.out
  rw [if_pos (by omega)] at hsm
  show Leaves _ _ _ _ _ _ _
  unfold Leaves
  refine ⟨.tuple #[.slice A n c, .bool rest.isEmpty], ?_, ?_⟩
  ·simp [results, Tryz.results299, go_sem, c1, c2]
  ·exact ⟨HB10.out, .inr ⟨rest, L, W, A, n, c, es, hsm, rfl, Its.no (fun _ _ h => h.elim) HI10.out, HL.out, HWD.out, HNN.out⟩⟩
end Go.Proofs.YtihhclhpjgeniaaGreatDoor
