/- Merged texts: Gl J2 Sp Gm Gn -/
import Derived.Test.YtihhclhpjgeniaaGreatDoorSA15
import Derived.Test.YtihhclhpjgeniaaGreatDoorSA31
import Derived.Test.YtihhclhpjgeniaaGreatDoorSA35
namespace Go.Proofs.YtihhclhpjgeniaaGreatDoor
open Go.RowKit Go.Sort
set_option maxRecDepth 100000 in
set_option maxHeartbeats 1000000 in
theorem ch12_any (y : Wg) (x : OV) (a : Int) (w : World) (hk : x.o.kind = 12) (ha : x.o.nums = [a]) (hx : x.In w) (hy : y.Ok) (ht : Tab w) (hab : fits a) (hr : 0 ≤ a ∧ a ≤ 1000000) : Calls Tryz.prog 228 #[.agg (wgA y), .agg x.arr] w (RetC (trimW y a, tCu ++ Lib.itoa a) w) := by
  have HA := Lib.hid hab
  have HR := Lib.hid hr
  clear hab hr
  have hk2 : ((x.o.kind : Nat) : Int) = 12 := by rw [hk]; rfl
  have HY := Lib.hid hy
  have HS : Hid (CS w y x _) := Lib.hid (CS.new hx ht)
  clear hy hk hx ht
  obtain ⟨ae, e2, -, -, -⟩ := HS.out.o.num (k := 0) (a := a) (by rw [ha]; rfl)
  have hm : x.m = 1 := by rw [HS.out.o.m, ha]; rfl
  have hk3 : (0 : Int) < (x.m : Int) := by rw [hm]; decide
  clear hm
  go_enter Tryz.func228, Tryz.ntmps228
  go_wp2_with fail
  clear hk2
  refine gen_at (M := fun W => Code.wp Tryz.prog _ _ _ W) (fun W => CS w y x W) HS.out ?_
  clear HS
  intro w1 hs1
  have HS := Lib.hid hs1
  obtain ⟨ae', e2', hc1, _, _⟩ := hs1.o.num (k := 0) (a := a) (by rw [ha]; rfl)
  have e9 : ae' = ae := by rw [e2] at e2'; injection e2' with e2'; exact e2'.symm
  rw [e9, show ae.add 0 = ae from rfl] at hc1
  have g0 : ∀ d os, (grow (redrawn w1 d) os).cell? ae = some (.int .i64 a) := rg_cell hc1
  have g1 : ∀ d os, (grow (redrawn w1 d) os).cell? ⟨w.heap.size + 1, 5, none⟩ = some (.slice x.B x.m x.d) := rg_cell (hs1.k1.cell 5)
  have g2 : ∀ d os, (grow (redrawn w1 d) os).cell? ⟨w.heap.size, 5, none⟩ = some (.int .i64 y.len) := rg_cell (hs1.k0.cell 5)
  rw [e2] at g1
  clear hs1 hc1 e2' e9
  by_cases h0 : a = 0
  · have h1 : (a == 0) = true := by simpa using h0
    have HE : Hid (trimW y a = (1, y)) := Lib.hid (if_pos (.inl h0))
    refine wp_region_qb mixed (by kernel_rfl) ?_
    repeat (go_big_quiet_step (fail))
    refine wpQuiet_nil ?_
    intro w2 hb2
    have H2 := Lib.hid (HS.out.below hb2)
    clear hb2 g0 g1 g2 HS h0 h1
    have v1 : IntKind.i64.wrap (y.len - a) = y.len - a := IntWalk.i64_in _ (by have := HY.out.len; have := HR.out; omega)
    go_wp2_with fail
    refine wp_region_hk [0, 1, 2, 3, 4, 5, 6, 7] [] [8] (fun W => CS w y x W) mixed (by kernel_rfl) (fun W W' h hb => h.below hb) (H2.out.below (below_drew _)) ?_
    iterate 8
      refine canonG_read (v := ?_) rfl (by rfl) ?_ ?_
      rotate_left
      · intro W hS
        have c0 := hS.k0.cell
        have c5 : W.cell? ⟨w.heap.size + 1, 5, none⟩ = some (.slice x.B x.m x.d) := hS.k1.cell 5
        obtain ⟨ae', e2', hc1, _, _⟩ := hS.o.num (k := 0) (a := a) (by rw [ha]; rfl)
        have e9 : ae' = ae := by rw [e2] at e2'; injection e2' with e2'; exact e2'.symm
        rw [e9, show ae.add 0 = ae from rfl] at hc1
        clear e2' e9
        go_simp <;> with_reducible rfl
      simp only [List.getElem_toArray, List.getElem_cons_zero, List.getElem_cons_succ, Act.put, List.setIfInBounds_toArray, List.set_cons_succ, List.set_cons_zero]
    refine canonG_nil ?_
    refine tailK_last (t := 8) (by kernel_rfl) rfl ?_
    intro w3 hb3
    have H3 := Lib.hid (H2.out.below (undrew hb3))
    clear hb3 H2
    have c5 := H3.out.k0.cell 5
    have f5 := H3.out.k0.fz 5
    go_wp2_with fail
    refine NoPanic.normal ?_
    have H4 := Lib.hid (H3.out.cell (z := { y with len := y.len - a }) 5 (.int .i64 (y.len - a)) rfl)
    clear H3 c5 f5 v1
    generalize w3.setCell ⟨w.heap.size, 5, none⟩ (.int .i64 (y.len - a)) = w4 at H4 ⊢
    have k5 : w4.cell? ⟨w.heap.size + 1, 5, none⟩ = some (.slice x.B x.m x.d) := H4.out.k1.cell 5
    obtain ⟨ae2, e3, hc1, _, _⟩ := H4.out.o.num (k := 0) (a := a) (by rw [ha]; rfl)
    have e9 : ae2 = ae := by rw [e2] at e3; injection e3 with e3; exact e3.symm
    rw [e9, show ae.add 0 = ae from rfl] at hc1
    rw [e2] at k5
    clear e3 e9
    go_wp2_with fail
    clear hc1 k5
    with_reducible refine (itoa_any a w4 HA.out H4.out.t).mono ?_
    rintro _ w5 ⟨rfl, hb5⟩
    have H5 := Lib.hid (H4.out.below hb5)
    clear hb5 H4
    have hln := itoa_len HA.out
    have hno : ¬ 9223372036854775807 < 4 + (Lib.itoa a).length := by omega
    have happ : (ByteArray.mk #[99, 117, 116, 32] ++ mkB (Lib.itoa a)) = mkB (tCu ++ Lib.itoa a) := mk_append tCu (Lib.itoa a)
    have c0 := H5.out.k0.cell
    have c2 := H5.out.k2.cell
    have f2 := H5.out.k2.fz
    go_wp2_with fail
    refine bodyPost_ret (retWE 4 5 6 (w.heap.size + 1 + 1) (wgA { y with len := y.len - a }) rfl rfl (H5.out.k2.set12 _ _ _ _ _ _ _ _ _ _ _ _) rfl) rfl ?_
    exact ch_end (z := { y with len := y.len - a }) (t := tCu ++ Lib.itoa a) (e := 1) (by rw [HE.out]) (fun h => by rw [HE.out] at h ⊢; cases h) (below_put12 H5.out.b (by omega) _ _ _ _ _ _ _ _ _ _ _ _)
  by_cases h2 : y.len ≤ a
  · have h1 : (a == 0) = false := by simpa using h0
    have HE : Hid (trimW y a = (1, y)) := Lib.hid (if_pos (.inr h2))
    refine wp_region_qb mixed (by kernel_rfl) ?_
    repeat (go_big_quiet_step (fail))
    refine wpQuiet_nil ?_
    intro w2 hb2
    have H2 := Lib.hid (HS.out.below hb2)
    clear hb2 g0 g1 g2 HS h0 h1 h2
    have v1 : IntKind.i64.wrap (y.len - a) = y.len - a := IntWalk.i64_in _ (by have := HY.out.len; have := HR.out; omega)
    go_wp2_with fail
    refine wp_region_hk [0, 1, 2, 3, 4, 5, 6, 7] [] [8] (fun W => CS w y x W) mixed (by kernel_rfl) (fun W W' h hb => h.below hb) (H2.out.below (below_drew _)) ?_
    iterate 8
      refine canonG_read (v := ?_) rfl (by rfl) ?_ ?_
      rotate_left
      · intro W hS
        have c0 := hS.k0.cell
        have c5 : W.cell? ⟨w.heap.size + 1, 5, none⟩ = some (.slice x.B x.m x.d) := hS.k1.cell 5
        obtain ⟨ae', e2', hc1, _, _⟩ := hS.o.num (k := 0) (a := a) (by rw [ha]; rfl)
        have e9 : ae' = ae := by rw [e2] at e2'; injection e2' with e2'; exact e2'.symm
        rw [e9, show ae.add 0 = ae from rfl] at hc1
        clear e2' e9
        go_simp <;> with_reducible rfl
      simp only [List.getElem_toArray, List.getElem_cons_zero, List.getElem_cons_succ, Act.put, List.setIfInBounds_toArray, List.set_cons_succ, List.set_cons_zero]
    refine canonG_nil ?_
    refine tailK_last (t := 8) (by kernel_rfl) rfl ?_
    intro w3 hb3
    have H3 := Lib.hid (H2.out.below (undrew hb3))
    clear hb3 H2
    have c5 := H3.out.k0.cell 5
    have f5 := H3.out.k0.fz 5
    go_wp2_with fail
    refine NoPanic.normal ?_
    have H4 := Lib.hid (H3.out.cell (z := { y with len := y.len - a }) 5 (.int .i64 (y.len - a)) rfl)
    clear H3 c5 f5 v1
    generalize w3.setCell ⟨w.heap.size, 5, none⟩ (.int .i64 (y.len - a)) = w4 at H4 ⊢
    have k5 : w4.cell? ⟨w.heap.size + 1, 5, none⟩ = some (.slice x.B x.m x.d) := H4.out.k1.cell 5
    obtain ⟨ae2, e3, hc1, _, _⟩ := H4.out.o.num (k := 0) (a := a) (by rw [ha]; rfl)
    have e9 : ae2 = ae := by rw [e2] at e3; injection e3 with e3; exact e3.symm
    rw [e9, show ae.add 0 = ae from rfl] at hc1
    rw [e2] at k5
    clear e3 e9
    go_wp2_with fail
    clear hc1 k5
    with_reducible refine (itoa_any a w4 HA.out H4.out.t).mono ?_
    rintro _ w5 ⟨rfl, hb5⟩
    have H5 := Lib.hid (H4.out.below hb5)
    clear hb5 H4
    have hln := itoa_len HA.out
    have hno : ¬ 9223372036854775807 < 4 + (Lib.itoa a).length := by omega
    have happ : (ByteArray.mk #[99, 117, 116, 32] ++ mkB (Lib.itoa a)) = mkB (tCu ++ Lib.itoa a) := mk_append tCu (Lib.itoa a)
    have c0 := H5.out.k0.cell
    have c2 := H5.out.k2.cell
    have f2 := H5.out.k2.fz
    go_wp2_with fail
    refine bodyPost_ret (retWE 4 5 6 (w.heap.size + 1 + 1) (wgA { y with len := y.len - a }) rfl rfl (H5.out.k2.set12 _ _ _ _ _ _ _ _ _ _ _ _) rfl) rfl ?_
    exact ch_end (z := { y with len := y.len - a }) (t := tCu ++ Lib.itoa a) (e := 1) (by rw [HE.out]) (fun h => by rw [HE.out] at h ⊢; cases h) (below_put12 H5.out.b (by omega) _ _ _ _ _ _ _ _ _ _ _ _)
  · have h1 : (a == 0) = false := by simpa using h0
    have HE : Hid (trimW y a = (0, { y with len := y.len - a })) := Lib.hid (if_neg (fun h => h.elim h0 h2))
    refine wp_region_qb mixed (by kernel_rfl) ?_
    repeat (go_big_quiet_step (fail))
    refine wpQuiet_nil ?_
    intro w2 hb2
    have H2 := Lib.hid (HS.out.below hb2)
    clear hb2 g0 g1 g2 HS h0 h1 h2
    have v1 : IntKind.i64.wrap (y.len - a) = y.len - a := IntWalk.i64_in _ (by have := HY.out.len; have := HR.out; omega)
    go_wp2_with fail
    refine wp_region_hk [0, 1, 2, 3, 4, 5, 6, 7] [] [8] (fun W => CS w y x W) mixed (by kernel_rfl) (fun W W' h hb => h.below hb) (H2.out.below (below_drew _)) ?_
    iterate 8
      refine canonG_read (v := ?_) rfl (by rfl) ?_ ?_
      rotate_left
      · intro W hS
        have c0 := hS.k0.cell
        have c5 : W.cell? ⟨w.heap.size + 1, 5, none⟩ = some (.slice x.B x.m x.d) := hS.k1.cell 5
        obtain ⟨ae', e2', hc1, _, _⟩ := hS.o.num (k := 0) (a := a) (by rw [ha]; rfl)
        have e9 : ae' = ae := by rw [e2] at e2'; injection e2' with e2'; exact e2'.symm
        rw [e9, show ae.add 0 = ae from rfl] at hc1
        clear e2' e9
        go_simp <;> with_reducible rfl
      simp only [List.getElem_toArray, List.getElem_cons_zero, List.getElem_cons_succ, Act.put, List.setIfInBounds_toArray, List.set_cons_succ, List.set_cons_zero]
    refine canonG_nil ?_
    refine tailK_last (t := 8) (by kernel_rfl) rfl ?_
    intro w3 hb3
    have H3 := Lib.hid (H2.out.below (undrew hb3))
    clear hb3 H2
    have c5 := H3.out.k0.cell 5
    have f5 := H3.out.k0.fz 5
    go_wp2_with fail
    refine NoPanic.normal ?_
    have H4 := Lib.hid (H3.out.cell (z := { y with len := y.len - a }) 5 (.int .i64 (y.len - a)) rfl)
    clear H3 c5 f5 v1
    generalize w3.setCell ⟨w.heap.size, 5, none⟩ (.int .i64 (y.len - a)) = w4 at H4 ⊢
    have k5 : w4.cell? ⟨w.heap.size + 1, 5, none⟩ = some (.slice x.B x.m x.d) := H4.out.k1.cell 5
    obtain ⟨ae2, e3, hc1, _, _⟩ := H4.out.o.num (k := 0) (a := a) (by rw [ha]; rfl)
    have e9 : ae2 = ae := by rw [e2] at e3; injection e3 with e3; exact e3.symm
    rw [e9, show ae.add 0 = ae from rfl] at hc1
    rw [e2] at k5
    clear e3 e9
    go_wp2_with fail
    clear hc1 k5
    with_reducible refine (itoa_any a w4 HA.out H4.out.t).mono ?_
    rintro _ w5 ⟨rfl, hb5⟩
    have H5 := Lib.hid (H4.out.below hb5)
    clear hb5 H4
    have hln := itoa_len HA.out
    have hno : ¬ 9223372036854775807 < 4 + (Lib.itoa a).length := by omega
    have happ : (ByteArray.mk #[99, 117, 116, 32] ++ mkB (Lib.itoa a)) = mkB (tCu ++ Lib.itoa a) := mk_append tCu (Lib.itoa a)
    have c0 := H5.out.k0.cell
    have c2 := H5.out.k2.cell
    have f2 := H5.out.k2.fz
    go_wp2_with fail
    refine bodyPost_ret (retWE 4 5 6 (w.heap.size + 1 + 1) (wgA { y with len := y.len - a }) rfl rfl (H5.out.k2.set12 _ _ _ _ _ _ _ _ _ _ _ _) rfl) rfl ?_
    exact ch_end (z := { y with len := y.len - a }) (t := tCu ++ Lib.itoa a) (e := 0) (by rw [HE.out]) (fun h => by rw [HE.out] at h ⊢; exact ⟨rfl, rfl⟩) (below_put12 H5.out.b (by omega) _ _ _ _ _ _ _ _ _ _ _ _)
end Go.Proofs.YtihhclhpjgeniaaGreatDoor
namespace Go.Proofs.YtihhclhpjgeniaaGreatDoor
open Go.RowKit Go.Sort
end Go.Proofs.YtihhclhpjgeniaaGreatDoor
namespace Go.Proofs.YtihhclhpjgeniaaGreatDoor
open Go.RowKit Go.Sort
abbrev thenI (l : Nat) (w : List UInt8) (o : Option PR) : Option PR := o.map fun y => (y.1, l + y.2.1, w ++ y.2.2)
theorem wordL_signW (c : UInt8) {w : List UInt8} (h : wordL w) : wordL (signW c w) := by
  unfold signW
  split
  · exact wordL_in h
  · split
    · exact wordL_mi h
    · split
      · exact wordL_fl h
      · exact h
theorem wordL_signsW (ss : List UInt8) {w : List UInt8} (h : wordL w) : wordL (signsW ss w) := by
  unfold signsW
  induction ss with
  | nil => exact h
  | cons c l ih => exact wordL_signW c ih
theorem wordL_append {u v : List UInt8} (hu : wordL u) (hv : wordL v) : wordL (u ++ v) := fun c hc => (List.mem_append.1 hc).elim (hu c) (hv c)
theorem wordL_rep (n : Nat) {w : List UInt8} (h : wordL w) : wordL (rep n w) := by
  intro c hc
  unfold rep at hc
  obtain ⟨l, hl, hc⟩ := List.mem_flatten.1 hc
  rw [List.eq_of_mem_replicate hl] at hc
  exact h c hc
def Good (r : PR) : Prop := r.2.2.length = r.2.1 ∧ wordL r.2.2
theorem pTail_good {u : List UInt8} {l : Nat} {w : List UInt8} (h1 : w.length = l) (h2 : wordL w) : Good (pTail u l w) := by
  cases u with
  | nil => exact ⟨h1, h2⟩
  | cons c v =>
    by_cases hc : isDig c = true
    · rw [pTail_dig hc]
      exact ⟨by show (rep _ w).length = _; rw [rep_length, h1], wordL_rep _ h2⟩
    · have : pTail (c :: v) l w = (c :: v, l, w) := pTail_no fun e v h => by rw [← (List.cons.inj h).1]; simpa using hc
      rw [this]; exact ⟨h1, h2⟩
theorem pOne_good {inner : List UInt8 → Option PR} (hi : ∀ t r, inner t = some r → Good r) {s : List UInt8} {r : PR} (h : pOne inner s = some r) : Good r := by
  unfold pOne at h
  generalize s.dropWhile isSign = R at h
  split at h
  · cases h
  · rename_i c t
    split at h
    · rename_i hc
      cases h
      exact ⟨by show (signsW _ [c]).length = 1; rw [signsW_length]; rfl, wordL_signsW _ (by intro d hd; rw [List.mem_singleton.1 hd]; exact hc)⟩
    · split at h
      · split at h
        · rename_i u l w hx
          cases h
          obtain ⟨h1, h2⟩ := hi _ _ hx
          obtain ⟨h3, h4⟩ := pTail_good (u := u) h1 h2
          exact ⟨(signsW_length _ _).trans h3, wordL_signsW _ h4⟩
        · cases h
      · cases h
theorem pItems_good : ∀ (f d : Nat) (s : List UInt8) (r : PR), pItems f d s = some r → Good r ∧ (r.1 = [] ∨ ∃ u, r.1 = 41 :: u)
  | 0, _, _, _, h => by cases h
  | f + 1, d, s, r, h => by
    cases s with
    | nil => cases h; exact ⟨⟨rfl, fun c hc => absurd hc (by simp)⟩, .inl rfl⟩
    | cons c u =>
      by_cases hc : c = 41
      · subst hc
        cases h; exact ⟨⟨rfl, fun c hc => absurd hc (by simp)⟩, .inr ⟨u, rfl⟩⟩
      · rw [pItems_one hc] at h
        cases h1 : pOne (fun t => if d < 8 then pItems f (d + 1) t else none) (c :: u) with
        | none => rw [h1] at h; cases h
        | some r1 =>
          rw [h1] at h
          dsimp only at h
          cases h2 : pItems f d r1.1 with
          | none => rw [h2] at h; cases h
          | some r2 =>
            rw [h2] at h
            cases h
            obtain ⟨g2, e2⟩ := pItems_good f d _ _ h2
            obtain ⟨a1, b1⟩ := pOne_good (fun t r h => by
              split at h
              · exact (pItems_good f (d + 1) _ _ h).1
              · cases h) h1
            exact ⟨⟨by show (r1.2.2 ++ r2.2.2).length = _; rw [List.length_append, a1, g2.1], wordL_append b1 g2.2⟩, e2⟩
def nd (y : List UInt8) : Prop := ∀ e u, y = e :: u → isDig e = false
theorem pStyle_ok {s : List UInt8} {u : List UInt8} (h : pStyle s = (u, 0)) : s.length ≤ 4000 ∧ pItems (s.length + 1) 0 s = some ([], u.length, u) ∧ wordL u ∧ u.length ≤ 60 := by
  unfold pStyle at h
  split at h
  · cases h
  · rename_i h4
    split at h
    · rename_i L W hp
      split at h
      · cases h
      · rename_i h60
        cases h
        obtain ⟨⟨h1, h2⟩, _⟩ := pItems_good _ _ _ _ hp
        dsimp only at h1 h2
        exact ⟨by omega, by rw [h1]; exact hp, h2, by omega⟩
    · cases h
end Go.Proofs.YtihhclhpjgeniaaGreatDoor
namespace Go.Proofs.YtihhclhpjgeniaaGreatDoor
open Go.RowKit Go.Sort
set_option maxRecDepth 100000 in
set_option maxHeartbeats 1000000 in
theorem ch10_any (y : Wg) (x : OV) (w : World) (hk : x.o.kind = 10) (hx : x.In w) (hy : y.Ok) (ht : Tab w) (hs : x.o.style.length ≤ 400) : Calls Tryz.prog 228 #[.agg (wgA y), .agg x.arr] w (RetC (plaitW y x.o.style, tPl ++ x.o.style) w) := by
  have hk2 : ((x.o.kind : Nat) : Int) = 10 := by rw [hk]; rfl
  have HY := Lib.hid hy
  have HS : Hid (CS w y x _) := Lib.hid (CS.new hx ht)
  have HL := Lib.hid hs
  clear hy hk hx ht hs
  go_enter Tryz.func228, Tryz.ntmps228
  go_wp2_with fail
  clear hk2
  refine gen_at (M := fun W => Calls Tryz.prog 272 _ W _) (fun W => CS w y x W) HS.out ?_
  clear HS
  intro w1 hs1
  have H1 := Lib.hid hs1
  clear hs1
  with_reducible refine (parseE_any x.o.style w1 (Nat.le_trans HL.out (by decide))).mono ?_
  rintro _ w2 ⟨rfl, hb2⟩
  have H2 := Lib.hid (H1.out.below hb2)
  clear hb2 H1
  obtain ⟨ps, hps⟩ : ∃ ps, pStyle x.o.style = ps := ⟨_, rfl⟩
  have HP := Lib.hid hps
  rw [hps]
  clear hps
  obtain ⟨v, e⟩ := ps
  dsimp only
  have hno : ¬ 9223372036854775807 < 6 + x.o.style.length := by have := HL.out; omega
  have happ : (ByteArray.mk #[112, 108, 97, 105, 116, 32] ++ mkB x.o.style) = mkB (tPl ++ x.o.style) := mk_append tPl x.o.style
  have c0 := H2.out.k0.cell
  have c4 : w2.cell? ⟨w.heap.size + 1, 4, none⟩ = some (.string (mkB x.o.style)) := H2.out.k1.cell 4
  by_cases he : e = 0
  rotate_left
  · have h1 : (e == 0) = false := by simpa using he
    have HE : Hid (plaitW y x.o.style = (e, y)) := Lib.hid (by unfold plaitW; rw [HP.out]; exact if_pos he)
    have c2 := H2.out.k2.cell
    have f2 := H2.out.k2.fz
    go_wp2_with fail
    refine bodyPost_ret (retWE 4 5 6 (w.heap.size + 1 + 1) (wgA y) rfl rfl (H2.out.k2.set12 _ _ _ _ _ _ _ _ _ _ _ _) rfl) rfl ?_
    exact ch_end (z := y) (t := tPl ++ x.o.style) (e := e) (by rw [HE.out]) (fun h => by rw [HE.out] at h; exact absurd h he) (below_put12 H2.out.b (by omega) _ _ _ _ _ _ _ _ _ _ _ _)
  · subst he
    have HV : Hid (v.length ≤ 60) := Lib.hid (pStyle_ok HP.out).2.2.2
    have HP2 : Hid ((mkB y.plait).size ≤ 60) := Lib.hid (okW_iff.1 HY.out.plait).1
    go_wp2_with fail
    clear c0 c4
    with_reducible refine (join_any (mkB y.plait) (mkB v) w2 (Nat.le_trans HP2.out (by decide)) (by rw [size_mk]; exact Nat.le_trans HV.out (by decide))).mono ?_
    rintro _ w3 ⟨rfl, hb3⟩
    have H3 := Lib.hid (H2.out.below hb3)
    clear hb3 H2
    obtain ⟨js, hjs⟩ : ∃ js, joinR (mkB y.plait) (mkB v) = js := ⟨_, rfl⟩
    have HJ := Lib.hid hjs
    rw [hjs]
    clear hjs
    obtain ⟨u, e⟩ := js
    dsimp only
    have HE : Hid (plaitW y x.o.style = if e ≠ 0 then (e, y) else (0, { y with plait := u })) := Lib.hid (by unfold plaitW; rw [HP.out]; show (if (0 : Int) ≠ 0 then _ else _) = _; rw [if_neg (by simp), show joinR (mkB y.plait) (mkB (v, (0 : Int)).1) = (u, e) from HJ.out])
    have c0 := H3.out.k0.cell
    have f0 := H3.out.k0.fz
    have c4 : w3.cell? ⟨w.heap.size + 1, 4, none⟩ = some (.string (mkB x.o.style)) := H3.out.k1.cell 4
    have c2 := H3.out.k2.cell
    have f2 := H3.out.k2.fz
    go_wp2_with fail
    have hn0 : w.heap.size + 1 + 1 ≠ w.heap.size := by omega
    refine bodyPost_ret (retWE 4 5 6 (w.heap.size + 1 + 1) (wgA { y with plait := u }) rfl rfl ((H3.out.k2.far (p := ⟨w.heap.size, 9, none⟩) hn0 _).set12 _ _ _ _ _ _ _ _ _ _ _ _) rfl) rfl ?_
    refine ch_end (z := { y with plait := u }) (t := tPl ++ x.o.style) (e := e) ?_ ?_ (below_put12 (below_put H3.out.b (p := ⟨w.heap.size, 9, none⟩) (Nat.le_refl _) _) (by omega) _ _ _ _ _ _ _ _ _ _ _ _)
    · rw [HE.out]
      by_cases h : e = 0
      · rw [if_neg (by simpa using h)]; exact h
      · rw [if_pos h]
    · rw [HE.out]
      by_cases h : e = 0
      · rw [if_neg (by simpa using h)]; exact fun _ => ⟨rfl, rfl⟩
      · rw [if_pos h]; exact fun k => absurd k h
def WOk (o : Ordr) : Prop := (o.kind = 8) ∨ (o.kind = 9 ∧ ∃ a b, o.nums = [a, b] ∧ inN a ∧ inN b) ∨ (o.kind = 10 ∧ o.style.length ≤ 400) ∨ o.kind = 11 ∨ (o.kind = 12 ∧ ∃ a, o.nums = [a] ∧ inN a) ∨ o.kind = 13
theorem changed_any (y : Wg) (x : OV) (w : World) (hk : WOk x.o) (hx : x.In w) (hy : y.Ok) (ht : Tab w) : Calls Tryz.prog 228 #[.agg (wgA y), .agg x.arr] w (RetC (dressW x.o y) w) := by
  have hf : ∀ n, inN n → fits n := fun n hn => by unfold fits; unfold inN at hn; omega
  rcases hk with h | ⟨h, a, b, hn, ha, hb⟩ | ⟨h, hs⟩ | h | ⟨h, a, hn, ha⟩ | h
  · have e : dressW x.o y = (bleachW y, tBl) := by unfold dressW; rw [h]; rfl
    rw [e]; exact ch8_any y x w h hy
  · have e : dressW x.o y = (dyeW' y a b, dyeT a b) := by unfold dressW; rw [h, hn]; rfl
    rw [e]; exact ch9_any y x a b w h hn hx hy ht ⟨hf a ha, hf b hb⟩
  · have e : dressW x.o y = (plaitW y x.o.style, tPl ++ x.o.style) := by unfold dressW; rw [h]; rfl
    rw [e]; exact ch10_any y x w h hx hy ht hs
  · have e : dressW x.o y = ((0, { y with plait := [] }), tCo) := by unfold dressW; rw [h]; rfl
    rw [e]; exact ch11_any y x w h
  · have e : dressW x.o y = (trimW y a, tCu ++ Lib.itoa a) := by unfold dressW; rw [h, hn]; rfl
    rw [e]; exact ch12_any y x a w h hn hx hy ht (hf a ha) ha
  · have e : dressW x.o y = ((0, y), tWa) := by unfold dressW; rw [h]; rfl
    rw [e]; exact ch13_any y x w h
end Go.Proofs.YtihhclhpjgeniaaGreatDoor
namespace Go.Proofs.YtihhclhpjgeniaaGreatDoor
open Go.RowKit Go.Sort
theorem wok_of {o : Ordr} (h : OrdS o) (hs : o.style.length ≤ 400) (hk : 8 ≤ o.kind ∧ o.kind ≤ 13) : WOk o := by
  cases h with
  | nccc k n a b c hk' => simp only at hk; omega
  | nn => simp only at hk; omega
  | ncn => simp only at hk; omega
  | nc k n a hk' hn ha => simp only at hk; exact .inr (.inr (.inr (.inr (.inl ⟨by show k = 12; omega, a, rfl, ha⟩))))
  | n k n hk' hn =>
    simp only at hk
    rcases hk' with h | h | h | h | h | h
    · omega
    · exact .inl h
    · exact .inr (.inr (.inr (.inl h)))
    · exact .inr (.inr (.inr (.inr (.inr h))))
    · omega
    · omega
  | nncc => simp only at hk; omega
  | ncc n a b hn ha hb => exact .inr (.inl ⟨rfl, a, b, rfl, ha, hb⟩)
  | ns n s hn hs' => exact .inr (.inr (.inl ⟨rfl, hs⟩))
  | nnc => simp only at hk; omega
theorem dress_txt {o : Ordr} (h : WOk o) (y : Wg) : (dressW o y).2.length ≤ 1000 := by
  have hf : ∀ n, inN n → (Lib.itoa n).length ≤ 21 := fun n hn => itoa_len (by unfold fits; unfold inN at hn; omega)
  rcases h with h | ⟨h, a, b, hn, ha, hb⟩ | ⟨h, hs⟩ | h | ⟨h, a, hn, ha⟩ | h
  · unfold dressW; rw [h]; show tBl.length ≤ 1000; decide
  · unfold dressW; rw [h, hn]; show (dyeT a b).length ≤ 1000
    have h1 := hf a ha; have h2 := hf b hb
    simp only [dyeT, List.length_append, tDy, List.length_cons, List.length_nil]; omega
  · unfold dressW; rw [h]; show (tPl ++ o.style).length ≤ 1000
    simp only [List.length_append, tPl, List.length_cons, List.length_nil]; omega
  · unfold dressW; rw [h]; show tCo.length ≤ 1000; decide
  · unfold dressW; rw [h, hn]; show (tCu ++ Lib.itoa a).length ≤ 1000
    have h1 := hf a ha
    simp only [List.length_append, tCu, List.length_cons, List.length_nil]; omega
  · unfold dressW; rw [h]; show tWa.length ≤ 1000; decide
theorem work_fin {v : RV} {st : Int} {p : Nat} {w W : World} {g i : Nat} {y : NW} {z : Wg} {es : List Ent} {B : Option Addr} {d N : Nat} (h0 : v.In st p w) (h : v.In st p W) (hb : Below w.heap.size w W) (hg : v.B = some ⟨g, 0, none⟩) (hy : v.ws[i]? = some y)
    (ho : W.ownsRow N 47 6 (.slice B es.length d) es.length (ents es)) (hN : w.heap.size ≤ N) :
    ({ v with ws := v.ws.set i ⟨{ z with card := es }, B, es.length, d⟩ } : RV).In st p (((((((((((((W.setCell ⟨g, i * 13, none⟩ (.string (mkB z.name))).setCell ⟨g, i * 13 + 1, none⟩ (.string (mkB z.bun))).setCell ⟨g, i * 13 + 2, none⟩ (.int .i64 z.hairs)).setCell ⟨g, i * 13 + 3, none⟩ (.int .i64 z.done)).setCell ⟨g, i * 13 + 4, none⟩ (.int .i64 z.shed)).setCell ⟨g, i * 13 + 5, none⟩ (.int .i64 z.len)).setCell ⟨g, i * 13 + 6, none⟩ (.int .i64 z.lvl)).setCell ⟨g, i * 13 + 7, none⟩ (.int .i64 z.tone)).setCell ⟨g, i * 13 + 8, none⟩ (.int .i64 z.bl)).setCell ⟨g, i * 13 + 9, none⟩ (.string (mkB z.plait))).setCell ⟨g, i * 13 + 10, none⟩ (.int .i64 z.state)).setCell ⟨g, i * 13 + 11, none⟩ (.int .i64 z.price)).setCell ⟨g, i * 13 + 12, none⟩ (.slice B es.length d)) ∧
    Rs p v w { v with ws := v.ws.set i ⟨{ z with card := es }, B, es.length, d⟩ } (((((((((((((W.setCell ⟨g, i * 13, none⟩ (.string (mkB z.name))).setCell ⟨g, i * 13 + 1, none⟩ (.string (mkB z.bun))).setCell ⟨g, i * 13 + 2, none⟩ (.int .i64 z.hairs)).setCell ⟨g, i * 13 + 3, none⟩ (.int .i64 z.done)).setCell ⟨g, i * 13 + 4, none⟩ (.int .i64 z.shed)).setCell ⟨g, i * 13 + 5, none⟩ (.int .i64 z.len)).setCell ⟨g, i * 13 + 6, none⟩ (.int .i64 z.lvl)).setCell ⟨g, i * 13 + 7, none⟩ (.int .i64 z.tone)).setCell ⟨g, i * 13 + 8, none⟩ (.int .i64 z.bl)).setCell ⟨g, i * 13 + 9, none⟩ (.string (mkB z.plait))).setCell ⟨g, i * 13 + 10, none⟩ (.int .i64 z.state)).setCell ⟨g, i * 13 + 11, none⟩ (.int .i64 z.price)).setCell ⟨g, i * 13 + 12, none⟩ (.slice B es.length d)) := by
  have hnew : ∀ k, blk B es.length k → w.heap.size ≤ k := by
    rintro k ⟨_, a, rfl, rfl⟩
    exact Nat.le_trans hN (ho.lt a.block rfl).1
  have hr0 : Reads W W.heap.size 6 B es.length (ents es) := Reads.of_own ho
  have hc0 := (row_cap ho).1
  exact wig_end h0 h (Rs.below hb) (fun _ k => k) hg hy (z := ⟨{ z with card := es }, B, es.length, d⟩) (j := 0) (vs := [.string (mkB z.name), .string (mkB z.bun), .int .i64 z.hairs, .int .i64 z.done, .int .i64 z.shed, .int .i64 z.len, .int .i64 z.lvl, .int .i64 z.tone, .int .i64 z.bl, .string (mkB z.plait), .int .i64 z.state, .int .i64 z.price, .slice B es.length d]) (by simp) rfl ⟨hr0, hc0⟩ (fun k hk => .inr (hnew k hk))
set_option maxRecDepth 100000 in
set_option maxHeartbeats 1000000 in
theorem workO_any (v : RV) (st : Int) (p : Nat) (x : OV) (a : List UInt8) (w : World) (h : v.In st p w) (hx : x.In w) (ha : x.o.names[0]? = some a) (ho : OrdS x.o) (hs : x.o.style.length ≤ 400) (hk : 8 ≤ x.o.kind ∧ x.o.kind ≤ 13) (hok : ∀ y ∈ v.ws, y.w.Ok) (ht : Tab w) (hl : v.ws.length ≤ 12) :
    Calls Tryz.prog 162 #[.pointer (some ⟨p, 0, none⟩), .agg x.arr] w (RetO v st p w (workR v.rm x.o a)) := by
  have H0 := Lib.hid h
  have H := Lib.hid (h.below (belowA w (.cells x.arr 114)))
  have HX := Lib.hid (hx.below (belowA w (.cells x.arr 114)))
  have KB := Lib.hid (At.new w x.arr 114)
  have HO := Lib.hid ho
  have HWO := Lib.hid (wok_of ho hs hk)
  clear h hx ho hs hk
  go_enter Tryz.func162, Tryz.ntmps162
  go_wp2_with fail
  with_reducible refine (inR_any v st p x a 1 _ H.out HX.out ha hl).mono ?_
  rintro _ w2 ⟨⟨q, rfl, hq⟩, hb⟩
  have H2 := Lib.hid (H.out.below hb)
  have HX2 := Lib.hid (HX.out.below hb)
  have KB2 := Lib.hid (KB.out.below hb)
  have HB := Lib.hid (below1 _ hb)
  have HQ := Lib.hid hq
  clear hb hq H HX KB
  obtain ⟨e, he⟩ : ∃ e, (inW v.rm a 1).1 = e := ⟨_, rfl⟩
  have HE := Lib.hid he
  rw [he]
  clear he
  by_cases h0 : e = 0
  rotate_left
  · have HL : Hid (workR v.rm x.o a = (e, v.rm)) := Lib.hid (by unfold workR; rw [if_pos (by rw [HE.out]; exact h0), HE.out])
    have h1 : (e != 0) = true := by simpa using h0
    go_wp2_with fail
    go_ret
    exact retO_no HL.out H2.out HB.out
  obtain ⟨g, hg, rfl⟩ := HQ.out (by rw [HE.out, h0])
  obtain ⟨y, hy, hyw⟩ := wig_nw (show (inW v.rm a 1).1 = 0 by rw [HE.out, h0])
  have HY := Lib.hid hy
  have HG := Lib.hid hg
  have HL0 : Hid (workR v.rm x.o a = if (dressW x.o y.w).1.1 ≠ 0 then ((dressW x.o y.w).1.1, v.rm) else writeR v.rm (inW v.rm a 1).2.1 (dressW x.o y.w).1.2 0 (dressW x.o y.w).2) := Lib.hid (by
    unfold workR; rw [if_neg (by rw [HE.out, h0]; simp), ← hyw])
  have HK := Lib.hid (hok y (List.mem_of_getElem? hy))
  have HT := Lib.hid (tab_below ht HB.out)
  clear hy hyw hg ht
  generalize (inW v.rm a 1).2.1 = i at HY HL0 ⊢
  subst h0
  have HS2 : Hid (OS st p w.heap.size v x w2) := Lib.hid ⟨H2.out, HX2.out, KB2.out, HT.out⟩
  clear H2 HX2 KB2 HT
  go_wp2_with fail
  refine wp_region_hj [0, 1, 2, 3, 4] [6, 7, 8, 9] [5, 10, 11, 12, 13] (fun W => OS st p w.heap.size v x W) mixed (by kernel_rfl) (fun W W' h hb => h.below hb) (HS2.out.below (below_drew _)) ?_
  iterate 5
    refine canonG_read (v := ?_) rfl (by rfl) ?_ ?_
    rotate_left
    · intro W hS
      have hrow := hS.a.rw
      rw [HG.out] at hrow
      have d0 : W.cell? ⟨g, i * 13, none⟩ = _ := own_cell nw_len (by omega) hrow HY.out (j := 0) (by omega)
      have d1 : W.cell? ⟨g, i * 13 + 1, none⟩ = _ := own_cell nw_len (by omega) hrow HY.out (j := 1) (by omega)
      have d2 : W.cell? ⟨g, i * 13 + 2, none⟩ = _ := own_cell nw_len (by omega) hrow HY.out (j := 2) (by omega)
      have d3 : W.cell? ⟨g, i * 13 + 3, none⟩ = _ := own_cell nw_len (by omega) hrow HY.out (j := 3) (by omega)
      have d4 : W.cell? ⟨g, i * 13 + 4, none⟩ = _ := own_cell nw_len (by omega) hrow HY.out (j := 4) (by omega)
      have d5 : W.cell? ⟨g, i * 13 + 5, none⟩ = _ := own_cell nw_len (by omega) hrow HY.out (j := 5) (by omega)
      have d6 : W.cell? ⟨g, i * 13 + 6, none⟩ = _ := own_cell nw_len (by omega) hrow HY.out (j := 6) (by omega)
      have d7 : W.cell? ⟨g, i * 13 + 7, none⟩ = _ := own_cell nw_len (by omega) hrow HY.out (j := 7) (by omega)
      have d8 : W.cell? ⟨g, i * 13 + 8, none⟩ = _ := own_cell nw_len (by omega) hrow HY.out (j := 8) (by omega)
      have d9 : W.cell? ⟨g, i * 13 + 9, none⟩ = _ := own_cell nw_len (by omega) hrow HY.out (j := 9) (by omega)
      have d10 : W.cell? ⟨g, i * 13 + 10, none⟩ = _ := own_cell nw_len (by omega) hrow HY.out (j := 10) (by omega)
      have d11 : W.cell? ⟨g, i * 13 + 11, none⟩ = _ := own_cell nw_len (by omega) hrow HY.out (j := 11) (by omega)
      simp only [NW.cells, wgL, List.cons_append, List.getElem?_cons_zero, List.getElem?_cons_succ] at d0 d1 d2 d3 d4 d5 d6 d7 d8 d9 d10 d11
      have ck := hS.k.cell
      clear hrow
      go_simp <;> with_reducible rfl
    simp only [List.getElem_toArray, List.getElem_cons_zero, List.getElem_cons_succ, Act.put, List.setIfInBounds_toArray, List.set_cons_succ, List.set_cons_zero]
  refine canonG_nil ?_
  apply later
  · intro fin
    refine tailJ_two (t := 5) (t' := 10) (ts1 := [10, 11, 12, 13]) (ps1 := []) (ns1 := [6, 7, 8, 9]) (ts2 := [5, 11, 12, 13]) (ps2 := [6, 7, 8, 9]) (ns2 := []) (by kernel_rfl) rfl (by kernel_rfl) (by kernel_rfl) rfl (by kernel_rfl) (by kernel_rfl) rfl rfl ?_ ?_
    · skip
      intro W4 hb
      have BW4 : Hid (Below w2.heap.size w2 W4) := Lib.hid (undrew hb)
      clear hb
      have hs := HS2.out.below BW4.out
      go_wp2_with fail
      with_reducible refine (changed_any y.w x W4 HWO.out hs.o HK.out hs.t).mono ?_
      rintro _ W5 ⟨⟨z, t, rfl, hz⟩, hb⟩
      have BW5 := Lib.hid (below_trans' BW4.out hb)
      have HZ := Lib.hid hz
      clear hz hb hs
      go_wp2_with fail
      refine ⟨HS2.out.below BW5.out, ?_⟩
      iterate 4
        refine canonG_read (v := ?_) rfl (by rfl) ?_ ?_
        rotate_left
        · intro W hS
          go_simp <;> with_reducible rfl
        simp only [List.getElem_toArray, List.getElem_cons_zero, List.getElem_cons_succ, Act.put, List.setIfInBounds_toArray, List.set_cons_succ, List.set_cons_zero]
      refine canonG_nil ?_
      refine tailJ_one (t := 10) (ts' := [11, 12, 13]) (ps' := []) (ns := []) (by kernel_rfl) rfl (by kernel_rfl) (by kernel_rfl) rfl ?_
      intro W6 hb
      have BW6 := Lib.hid (below_trans' BW5.out hb)
      clear hb
      go_wp2_with fail
      have hb := belowA W6 (.cells wgZ 49)
      have k := At.new W6 wgZ 49
      have BA := Lib.hid (below_trans' BW6.out hb)
      have KA := Lib.hid k
      have hq := BW6.out.size
      clear hb k
      refine ⟨HS2.out.below BA.out, canonG_nil ?_⟩
      generalize hQ : W6.heap.size = q at KA hq ⊢
      generalize W6.alloc (.cells _ 49) = W7 at BA KA ⊢
      have BW7 := BA
      have KW7 := KA
      clear BA KA
      refine tailJ_one (t := 11) (ts' := [12, 13]) (ps' := []) (ns := []) (by kernel_rfl) rfl (by kernel_rfl) (by kernel_rfl) rfl ?_
      intro W8 hb
      have BW8 := Lib.hid (below_trans' BW7.out hb)
      have KW8 := Lib.hid (KW7.out.below hb)
      clear hb
      have fr := KW8.out.fz
      have cr := KW8.out.cell
      have BA := Lib.hid (below_put12 BW8.out hq (.string (mkB z.name)) (.string (mkB z.bun)) (.int .i64 z.hairs) (.int .i64 z.done) (.int .i64 z.shed) (.int .i64 z.len) (.int .i64 z.lvl) (.int .i64 z.tone) (.int .i64 z.bl) (.string (mkB z.plait)) (.int .i64 z.state) (.int .i64 z.price))
      have KA := Lib.hid (KW8.out.set12 (.string (mkB z.name)) (.string (mkB z.bun)) (.int .i64 z.hairs) (.int .i64 z.done) (.int .i64 z.shed) (.int .i64 z.len) (.int .i64 z.lvl) (.int .i64 z.tone) (.int .i64 z.bl) (.string (mkB z.plait)) (.int .i64 z.state) (.int .i64 z.price))
      go_wp2_with fail
      refine ⟨HS2.out.below BA.out, canonG_nil ?_⟩
      generalize (((((((((((W8.setCell ⟨q, 0, none⟩ (.string (mkB z.name))).setCell ⟨q, 1, none⟩ (.string (mkB z.bun))).setCell ⟨q, 2, none⟩ (.int .i64 z.hairs)).setCell ⟨q, 3, none⟩ (.int .i64 z.done)).setCell ⟨q, 4, none⟩ (.int .i64 z.shed)).setCell ⟨q, 5, none⟩ (.int .i64 z.len)).setCell ⟨q, 6, none⟩ (.int .i64 z.lvl)).setCell ⟨q, 7, none⟩ (.int .i64 z.tone)).setCell ⟨q, 8, none⟩ (.int .i64 z.bl)).setCell ⟨q, 9, none⟩ (.string (mkB z.plait))).setCell ⟨q, 10, none⟩ (.int .i64 z.state)).setCell ⟨q, 11, none⟩ (.int .i64 z.price) = W9 at BA KA ⊢
      have BW9 := BA
      have KW9 := KA
      clear BA KA fr cr
      refine tailJ_one (t := 12) (ts' := [13]) (ps' := []) (ns := []) (by kernel_rfl) rfl (by kernel_rfl) (by kernel_rfl) rfl ?_
      intro W10 hb
      have BW10 := Lib.hid (below_trans' BW9.out hb)
      have KW10 := Lib.hid (KW9.out.below hb)
      clear hb
      go_wp2_with fail
      refine ⟨HS2.out.below BW10.out, canonG_nil ?_⟩
      refine tailJ_last (t := 13) (by kernel_rfl) rfl ?_
      intro W11 hb
      have BW11 := Lib.hid (below_trans' BW10.out hb)
      have KW11 := Lib.hid (KW10.out.below hb)
      clear hb
      go_wp2_with fail
      refine NoPanic.normal ?_
      try clear hQ
      try clear BW10
      try clear KW10
      try clear BW9
      try clear KW9
      try clear BW8
      try clear KW8
      try clear BW7
      try clear KW7
      try clear BW6
      try clear KW6
      try clear BW5
      try clear KW5
      try clear BW4
      try clear KW4
      revert hq
      revert HZ
      revert KW11
      revert BW11
      revert t
      revert z
      revert q
      revert W11
      exact fin
    · skip
      intro W4 hb
      have BW4 : Hid (Below w2.heap.size w2 W4) := Lib.hid (undrew hb)
      clear hb
      go_wp2_with fail
      have hb := belowA W4 (.cells wgZ 49)
      have k := At.new W4 wgZ 49
      have BA := Lib.hid (below_trans' BW4.out hb)
      have KA := Lib.hid k
      have hq := BW4.out.size
      clear hb k
      refine ⟨HS2.out.below BA.out, canonG_nil ?_⟩
      generalize hQ : W4.heap.size = q at KA hq ⊢
      generalize W4.alloc (.cells _ 49) = W5 at BA KA ⊢
      have BW5 := BA
      have KW5 := KA
      clear BA KA
      refine tailJ_one (t := 5) (ts' := [11, 12, 13]) (ps' := []) (ns := [6, 7, 8, 9]) (by kernel_rfl) rfl (by kernel_rfl) (by kernel_rfl) rfl ?_
      intro W6 hb
      have BW6 := Lib.hid (below_trans' BW5.out hb)
      have KW6 := Lib.hid (KW5.out.below hb)
      clear hb
      have hs := HS2.out.below BW6.out
      go_wp2_with fail
      with_reducible refine (changed_any y.w x W6 HWO.out hs.o HK.out hs.t).mono ?_
      rintro _ W7 ⟨⟨z, t, rfl, hz⟩, hb⟩
      have BW7 := Lib.hid (below_trans' BW6.out hb)
      have HZ := Lib.hid hz
      have KW7 := Lib.hid (KW6.out.below hb)
      clear hz hb hs
      go_wp2_with fail
      refine ⟨HS2.out.below BW7.out, ?_⟩
      iterate 4
        refine canonG_read (v := ?_) rfl (by rfl) ?_ ?_
        rotate_left
        · intro W hS
          go_simp <;> with_reducible rfl
        simp only [List.getElem_toArray, List.getElem_cons_zero, List.getElem_cons_succ, Act.put, List.setIfInBounds_toArray, List.set_cons_succ, List.set_cons_zero]
      refine canonG_nil ?_
      refine tailJ_one (t := 11) (ts' := [12, 13]) (ps' := []) (ns := []) (by kernel_rfl) rfl (by kernel_rfl) (by kernel_rfl) rfl ?_
      intro W8 hb
      have BW8 := Lib.hid (below_trans' BW7.out hb)
      have KW8 := Lib.hid (KW7.out.below hb)
      clear hb
      have fr := KW8.out.fz
      have cr := KW8.out.cell
      have BA := Lib.hid (below_put12 BW8.out hq (.string (mkB z.name)) (.string (mkB z.bun)) (.int .i64 z.hairs) (.int .i64 z.done) (.int .i64 z.shed) (.int .i64 z.len) (.int .i64 z.lvl) (.int .i64 z.tone) (.int .i64 z.bl) (.string (mkB z.plait)) (.int .i64 z.state) (.int .i64 z.price))
      have KA := Lib.hid (KW8.out.set12 (.string (mkB z.name)) (.string (mkB z.bun)) (.int .i64 z.hairs) (.int .i64 z.done) (.int .i64 z.shed) (.int .i64 z.len) (.int .i64 z.lvl) (.int .i64 z.tone) (.int .i64 z.bl) (.string (mkB z.plait)) (.int .i64 z.state) (.int .i64 z.price))
      go_wp2_with fail
      refine ⟨HS2.out.below BA.out, canonG_nil ?_⟩
      generalize (((((((((((W8.setCell ⟨q, 0, none⟩ (.string (mkB z.name))).setCell ⟨q, 1, none⟩ (.string (mkB z.bun))).setCell ⟨q, 2, none⟩ (.int .i64 z.hairs)).setCell ⟨q, 3, none⟩ (.int .i64 z.done)).setCell ⟨q, 4, none⟩ (.int .i64 z.shed)).setCell ⟨q, 5, none⟩ (.int .i64 z.len)).setCell ⟨q, 6, none⟩ (.int .i64 z.lvl)).setCell ⟨q, 7, none⟩ (.int .i64 z.tone)).setCell ⟨q, 8, none⟩ (.int .i64 z.bl)).setCell ⟨q, 9, none⟩ (.string (mkB z.plait))).setCell ⟨q, 10, none⟩ (.int .i64 z.state)).setCell ⟨q, 11, none⟩ (.int .i64 z.price) = W9 at BA KA ⊢
      have BW9 := BA
      have KW9 := KA
      clear BA KA fr cr
      refine tailJ_one (t := 12) (ts' := [13]) (ps' := []) (ns := []) (by kernel_rfl) rfl (by kernel_rfl) (by kernel_rfl) rfl ?_
      intro W10 hb
      have BW10 := Lib.hid (below_trans' BW9.out hb)
      have KW10 := Lib.hid (KW9.out.below hb)
      clear hb
      go_wp2_with fail
      refine ⟨HS2.out.below BW10.out, canonG_nil ?_⟩
      refine tailJ_last (t := 13) (by kernel_rfl) rfl ?_
      intro W11 hb
      have BW11 := Lib.hid (below_trans' BW10.out hb)
      have KW11 := Lib.hid (KW10.out.below hb)
      clear hb
      go_wp2_with fail
      refine NoPanic.normal ?_
      try clear hQ
      try clear BW10
      try clear KW10
      try clear BW9
      try clear KW9
      try clear BW8
      try clear KW8
      try clear BW7
      try clear KW7
      try clear BW6
      try clear KW6
      try clear BW5
      try clear KW5
      try clear BW4
      try clear KW4
      revert hq
      revert HZ
      revert KW11
      revert BW11
      revert t
      revert z
      revert q
      revert W11
      exact fin
  · intro W3 q z t HB3 HK3 HZ hq
    clear hq
    have HS3 := Lib.hid (HS2.out.below HB3.out)
    have HBB := Lib.hid (below_trans' HB.out HB3.out)
    have HTL := Lib.hid (dress_txt HWO.out y.w)
    have HCD : Hid ((dressW x.o y.w).1.1 = 0 → z.card = y.w.card) := Lib.hid (fun h => by rw [(HZ.out h).1]; exact (dress_ok HK.out HO.out h).card)
    generalize dressW x.o y.w = D at HZ HL0 HTL HCD ⊢
    obtain ⟨⟨e, z'⟩, t'⟩ := D
    dsimp only at HZ HL0 HTL HCD ⊢
    by_cases he : e = 0
    rotate_left
    · have HL : Hid (workR v.rm x.o a = (e, v.rm)) := Lib.hid (by rw [HL0.out, if_pos he])
      have h1 : (e != 0) = true := by simpa using he
      go_wp2_with fail
      go_ret
      exact retO_no HL.out HS3.out.a HBB.out
    subst he
    obtain ⟨rfl, rfl⟩ := HZ.out rfl
    rw [if_neg (by simp)] at HL0
    have hrow := HS3.out.a.rw
    rw [HG.out] at hrow
    have d12 : W3.cell? ⟨g, i * 13 + 12, none⟩ = some (.slice y.A y.n y.c) := own_cell nw_len (by omega) hrow HY.out (j := 12) (by omega)
    have hcd := HS3.out.a.hw y (List.mem_of_getElem? HY.out)
    have hn60 : y.n ≤ 60 := by rw [nw_n hcd.1]; exact HK.out.card.len
    have HC := Lib.hid hcd.1
    have hsz : (mkB t).size ≤ 1000000 := by rw [size_mk]; exact Nat.le_trans HTL.out (by decide)
    have hcz := HCD.out rfl
    clear hrow hcd HTL HCD HZ
    go_wp2_with fail
    clear d12
    with_reducible refine (add_any y.A y.n y.c y.w.card 0 (mkB t) W3 HC.out (by omega) (card_short HK.out.card) hsz).mono ?_
    rintro _ W4 ⟨B4, d4, rfl, ho4, hb4⟩
    have HS4 := Lib.hid (HS3.out.below hb4)
    have HK4 := Lib.hid (HK3.out.below hb4)
    have HB4 := Lib.hid (below_trans' HBB.out hb4)
    have HO4 := Lib.hid ho4
    have HZ4 : Hid (w.heap.size ≤ W3.heap.size) := Lib.hid HBB.out.size
    have HAL : Hid (addE y.w.card 0 (mkB t) = 0 → addL' y.w.card 0 (mkB t) = addR y.w.card 0 (mkB t)) := Lib.hid (fun h => if_pos h)
    have HL1 : Hid (workR v.rm x.o a = if addE y.w.card 0 (mkB t) ≠ 0 then (addE y.w.card 0 (mkB t), v.rm) else (0, v.rm.setW i { z with card := addR y.w.card 0 (mkB t) })) := Lib.hid (by rw [HL0.out]; unfold writeR; rw [hcz])
    clear hb4 ho4 hsz HS3 HK3 HB3 HBB hcz HL0 HC hn60
    generalize mkB t = tx at HL1 HO4 HAL ⊢
    generalize addL' y.w.card 0 tx = es at HO4 HAL ⊢
    generalize addE y.w.card 0 tx = er at HL1 HAL ⊢
    by_cases her : er = 0
    rotate_left
    · have HL : Hid (workR v.rm x.o a = (er, v.rm)) := Lib.hid (by rw [HL1.out, if_pos her])
      have h1 : (er != 0) = true := by simpa using her
      go_wp2_with fail
      go_ret
      exact retO_no HL.out HS4.out.a HB4.out
    subst her
    rw [if_neg (by simp)] at HL1
    have hrow := HS4.out.a.rw
    rw [HG.out] at hrow
    have d0 : W4.cell? ⟨g, i * 13, none⟩ = _ := own_cell nw_len (by omega) hrow HY.out (j := 0) (by omega)
    have d1 : W4.cell? ⟨g, i * 13 + 1, none⟩ = _ := own_cell nw_len (by omega) hrow HY.out (j := 1) (by omega)
    have d2 : W4.cell? ⟨g, i * 13 + 2, none⟩ = _ := own_cell nw_len (by omega) hrow HY.out (j := 2) (by omega)
    have d3 : W4.cell? ⟨g, i * 13 + 3, none⟩ = _ := own_cell nw_len (by omega) hrow HY.out (j := 3) (by omega)
    have d4 : W4.cell? ⟨g, i * 13 + 4, none⟩ = _ := own_cell nw_len (by omega) hrow HY.out (j := 4) (by omega)
    have d5 : W4.cell? ⟨g, i * 13 + 5, none⟩ = _ := own_cell nw_len (by omega) hrow HY.out (j := 5) (by omega)
    have d6 : W4.cell? ⟨g, i * 13 + 6, none⟩ = _ := own_cell nw_len (by omega) hrow HY.out (j := 6) (by omega)
    have d7 : W4.cell? ⟨g, i * 13 + 7, none⟩ = _ := own_cell nw_len (by omega) hrow HY.out (j := 7) (by omega)
    have d8 : W4.cell? ⟨g, i * 13 + 8, none⟩ = _ := own_cell nw_len (by omega) hrow HY.out (j := 8) (by omega)
    have d9 : W4.cell? ⟨g, i * 13 + 9, none⟩ = _ := own_cell nw_len (by omega) hrow HY.out (j := 9) (by omega)
    have d10 : W4.cell? ⟨g, i * 13 + 10, none⟩ = _ := own_cell nw_len (by omega) hrow HY.out (j := 10) (by omega)
    have d11 : W4.cell? ⟨g, i * 13 + 11, none⟩ = _ := own_cell nw_len (by omega) hrow HY.out (j := 11) (by omega)
    have d12 : W4.cell? ⟨g, i * 13 + 12, none⟩ = _ := own_cell nw_len (by omega) hrow HY.out (j := 12) (by omega)
    simp only [NW.cells, wgL, List.cons_append, List.getElem?_cons_zero, List.getElem?_cons_succ] at d0 d1 d2 d3 d4 d5 d6 d7 d8 d9 d10 d11 d12
    have fg : ∀ j, W4.frozen? ⟨g, j, none⟩ = false := fun j => hrow.frozenAt j
    have cq := HK4.out.cell
    obtain ⟨r1, r2⟩ := work_fin (z := z) H0.out HS4.out.a HB4.out HG.out HY.out HO4.out HZ4.out
    have R1 := Lib.hid r1
    have R2 := Lib.hid r2
    clear hrow r1 r2
    go_wp2_with fail
    go_ret
    rw [HL1.out, ← HAL.out trivial]
    refine ⟨rfl, _, ?_, R1.out, R2.out⟩
    rw [rm_setW]
end Go.Proofs.YtihhclhpjgeniaaGreatDoor
