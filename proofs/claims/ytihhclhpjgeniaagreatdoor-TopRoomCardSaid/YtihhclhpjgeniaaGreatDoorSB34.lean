/- Merged texts: Go Gp Hl -/
import Derived.Test.YtihhclhpjgeniaaGreatDoorSB28
import Derived.Test.YtihhclhpjgeniaaGreatDoorSB29
namespace Go.Proofs.YtihhclhpjgeniaaGreatDoor
open Go.RowKit Go.Sort
def cutX (r : Rm) (k : Nat) (x : Int × Hr) : Int × Rm := (x.1, if x.1 = 0 then r.setH k x.2 else r)
theorem bun_end {v : RV} {st : Int} {p : Nat} {w W : World} {gb k : Nat} {y2 : NB} {c : BV} (h0 : v.In st p w) (h : v.In st p W) (hb : Below w.heap.size w W) (hgb : v.A = some ⟨gb, 0, none⟩) (hy2 : v.bs[k]? = some y2) (hc : c.In W) (hcn : c.New w.heap.size) :
  ({ v with bs := v.bs.set k ⟨y2.name, c⟩ } : RV).In st p ((W.setCell ⟨gb, k * 3 + 1, none⟩ (.slice c.A c.n c.c)).setCell ⟨gb, k * 3 + 1 + 1, none⟩ (.slice c.B c.m c.d)) ∧
  Rs p v w { v with bs := v.bs.set k ⟨y2.name, c⟩ } ((W.setCell ⟨gb, k * 3 + 1, none⟩ (.slice c.A c.n c.c)).setCell ⟨gb, k * 3 + 1 + 1, none⟩ (.slice c.B c.m c.d)) := by
 have hbF : v.F p gb := .inr (.inr (.inl ⟨_, hgb, rfl⟩))
 obtain ⟨a1, a2, a3⟩ := h.putB hgb hy2 hc fun j hj => h0.far (.inr (hcn j hj))
 exact ⟨a1, (Rs.below hb).step a2 (fun x _ e => by rw [e]; exact hbF) (fun j hj => .inl hj) fun j hj => (a3 j hj).imp id (hcn j)⟩
set_option maxRecDepth 100000 in
set_option maxHeartbeats 1000000 in
theorem cutR_any (v : RV) (st : Int) (p k : Nat) (y2 : NB) (n len : Int) (w : World) (h : v.In st p w) (hy2 : v.bs[k]? = some y2) (hn : 0 ≤ n ∧ n ≤ 1000000) (hlen : 1 ≤ len ∧ len ≤ 24) (hlb : v.bs.length ≤ 12) :
  Calls Tryz.prog 226 #[.pointer (some ⟨p, 0, none⟩), .int .i64 (k : Int), .int .i64 n, .int .i64 len] w (RetO v st p w (cutX v.rm k (cutH y2.v.h (ofH n len)))) := by
 have hkl : k < v.bs.length := (List.getElem?_eq_some_iff.1 hy2).1
 have hkl' : (k : Int) < (v.bs.length : Int) := by omega
 have hk0 : ¬ ((k : Int) < 0) := by omega
 obtain ⟨gb, hgb⟩ : ∃ gb, v.A = some ⟨gb, 0, none⟩ := own_form h.rb (by omega)
 have H0 := Lib.hid h
 have HB2 := Lib.hid hy2
 have HGB := Lib.hid hgb
 have HNN := Lib.hid hn
 have HLN := Lib.hid hlen
 clear h hy2 hgb hn hlen
 go_enter Tryz.func226, Tryz.ntmps226
 go_wp2_with fail
 refine wp_region_hj [0, 1, 2, 3, 4, 5, 6, 7, 8, 9] [12, 13, 14, 15] [10, 11, 16, 17, 18, 19] (fun W => v.In st p W) mixed (by kernel_rfl) (fun W W' h hb => h.below hb) (H0.out.below (below_drew _)) ?_
 iterate 10
  refine canonG_read (v := ?_) rfl (by rfl) ?_ ?_
  rotate_left
  ·intro W hS
   have hrob := hS.rb
   have c2 : W.cell? ⟨p, 2, none⟩ = some (.slice v.A v.bs.length v.ca) := At.cell hS.room 2
   rw [HGB.out] at c2 hrob
   have b1 : W.cell? ⟨gb, k * 3 + 1, none⟩ = some (.slice y2.v.A y2.v.n y2.v.c) := own_cell nb_len (by omega) hrob HB2.out (j := 1) (by omega)
   have b2 : W.cell? ⟨gb, k * 3 + 1 + 1, none⟩ = some (.slice y2.v.B y2.v.m y2.v.d) := own_cell nb_len (by omega) hrob HB2.out (j := 2) (by omega)
   clear hrob
   go_simp <;> with_reducible rfl
  simp only [List.getElem_toArray, List.getElem_cons_zero, List.getElem_cons_succ, Act.put, List.setIfInBounds_toArray, List.set_cons_succ, List.set_cons_zero]
 refine canonG_nil ?_
 apply later
 ·intro fin
  refine tailJ_two (t := 10) (t' := 16) (ts1 := [11, 16, 17, 18, 19]) (ps1 := [12, 13, 14, 15]) (ns1 := []) (ts2 := [10, 11, 17, 18, 19]) (ps2 := [12, 13, 14, 15]) (ns2 := []) (by kernel_rfl) rfl (by kernel_rfl) (by kernel_rfl) rfl (by kernel_rfl) (by kernel_rfl) rfl rfl ?_ ?_
  ·skip
   intro W5 hb
   have BW5 : Hid (Below w.heap.size w W5) := Lib.hid (undrew hb)
   clear hb
   go_wp2_with fail
   with_reducible refine (of2_any n len W5 HNN.out HLN.out).mono ?_
   rintro _ W6 ⟨u, hu, rfl, hin, hnew, hb⟩
   have BW6 := Lib.hid (below_trans' BW5.out hb)
   have HU := Lib.hid hu
   have UW6 := Lib.hid hin
   clear hu hin hnew hb
   go_wp2_with fail
   refine ⟨H0.out.below BW6.out, canonG_nil ?_⟩
   refine tailJ_two (t := 11) (t' := 16) (ts1 := [16, 17, 18, 19]) (ps1 := []) (ns1 := [12, 13, 14, 15]) (ts2 := [11, 17, 18, 19]) (ps2 := [12, 13, 14, 15]) (ns2 := []) (by kernel_rfl) rfl (by kernel_rfl) (by kernel_rfl) rfl (by kernel_rfl) (by kernel_rfl) rfl rfl ?_ ?_
   ·skip
    intro W7 hb
    have BW7 := Lib.hid (below_trans' BW6.out hb)
    have UW7 := Lib.hid (UW6.out.below hb)
    clear hb
    have hy2 := (H0.out.below BW7.out).hb y2 (List.mem_of_getElem? HB2.out)
    go_wp2_with fail
    with_reducible refine (cutB_any y2.v u W7 hy2 UW7.out).mono ?_
    rw [HU.out]
    rintro _ W8 ⟨c, z, hc, rfl, hci, hcn, hb⟩
    have BW8 := Lib.hid (below_trans' BW7.out hb)
    have HC := Lib.hid hc
    have CW8 := Lib.hid hci
    have CN : Hid (c.New w.heap.size) := Lib.hid (hcn.mono BW7.out.size)
    clear hc hci hcn hb hy2
    go_wp2_with fail
    refine ⟨H0.out.below BW8.out, ?_⟩
    iterate 4
     refine canonG_read (v := ?_) rfl (by rfl) ?_ ?_
     rotate_left
     ·intro W hS
      go_simp <;> with_reducible rfl
     simp only [List.getElem_toArray, List.getElem_cons_zero, List.getElem_cons_succ, Act.put, List.setIfInBounds_toArray, List.set_cons_succ, List.set_cons_zero]
    refine canonG_nil ?_
    refine tailJ_one (t := 16) (ts' := [17, 18, 19]) (ps' := []) (ns := []) (by kernel_rfl) rfl (by kernel_rfl) (by kernel_rfl) rfl ?_
    intro W9 hb
    have BW9 := Lib.hid (below_trans' BW8.out hb)
    have CW9 := Lib.hid (CW8.out.below hb)
    clear hb
    go_wp2_with fail
    have hb := belowA W9 (.cells noArr 56)
    have k := At.new W9 noArr 56
    have BA := Lib.hid (below_trans' BW9.out hb)
    have KA := Lib.hid k
    have CA := Lib.hid (CW9.out.below hb)
    have hq := BW9.out.size
    clear hb k
    refine ⟨H0.out.below BA.out, canonG_nil ?_⟩
    generalize hQ : W9.heap.size = q at KA hq ⊢
    generalize W9.alloc (.cells noArr 56) = W10 at BA KA CA ⊢
    have BW10 := BA
    have KW10 := KA
    have CW10 := CA
    clear BA KA CA
    refine tailJ_one (t := 17) (ts' := [18, 19]) (ps' := []) (ns := []) (by kernel_rfl) rfl (by kernel_rfl) (by kernel_rfl) rfl ?_
    intro W11 hb
    have BW11 := Lib.hid (below_trans' BW10.out hb)
    have CW11 := Lib.hid (CW10.out.below hb)
    have KW11 := Lib.hid (KW10.out.below hb)
    clear hb
    have fr := KW11.out.fz
    have cr := KW11.out.cell
    have hne : ∀ k, blk c.A c.n k ∨ blk c.B c.m k → k ≠ q := fun k hk => by have := hk.elim CW9.out.r.blk_lt CW9.out.s.blk_lt; omega
    have BA := Lib.hid (below_put (below_put BW11.out (p := ⟨q, 0, none⟩) hq (.slice c.A c.n c.c)) (p := ⟨q, 1, none⟩) hq (.slice c.B c.m c.d))
    have KA : Hid (At _ q c.arr 56) := Lib.hid ((KW11.out.set 0 (.slice c.A c.n c.c)).set 1 (.slice c.B c.m c.d))
    have CA := Lib.hid ((CW11.out.kb (S := fun x => x = q) (((Kp.refl (fun x => x = q) W11).set (p := ⟨q, 0, none⟩) (fun _ => rfl) (.slice c.A c.n c.c)).set (p := ⟨q, 1, none⟩) (fun _ => rfl) (.slice c.B c.m c.d))) (fun b hb => hne b (.inl hb)) (fun b hb => hne b (.inr hb)))
    go_wp2_with fail
    refine ⟨H0.out.below BA.out, canonG_nil ?_⟩
    generalize (W11.setCell ⟨q, 0, none⟩ (.slice c.A c.n c.c)).setCell ⟨q, 1, none⟩ (.slice c.B c.m c.d) = W12 at BA KA CA ⊢
    have BW12 := BA
    have KW12 := KA
    have CW12 := CA
    clear BA KA CA fr cr
    refine tailJ_one (t := 18) (ts' := [19]) (ps' := []) (ns := []) (by kernel_rfl) rfl (by kernel_rfl) (by kernel_rfl) rfl ?_
    intro W13 hb
    have BW13 := Lib.hid (below_trans' BW12.out hb)
    have CW13 := Lib.hid (CW12.out.below hb)
    have KW13 := Lib.hid (KW12.out.below hb)
    clear hb
    go_wp2_with fail
    refine ⟨H0.out.below BW13.out, canonG_nil ?_⟩
    refine tailJ_last (t := 19) (by kernel_rfl) rfl ?_
    intro W14 hb
    have BW14 := Lib.hid (below_trans' BW13.out hb)
    have CW14 := Lib.hid (CW13.out.below hb)
    have KW14 := Lib.hid (KW13.out.below hb)
    clear hb
    go_wp2_with fail
    refine NoPanic.normal ?_
    try clear hQ
    try clear hne
    try clear HN
    try clear HU
    try clear BW13
    try clear UW13
    try clear CW13
    try clear KW13
    try clear BW12
    try clear UW12
    try clear CW12
    try clear KW12
    try clear BW11
    try clear UW11
    try clear CW11
    try clear KW11
    try clear BW10
    try clear UW10
    try clear CW10
    try clear KW10
    try clear BW9
    try clear UW9
    try clear CW9
    try clear KW9
    try clear BW8
    try clear UW8
    try clear CW8
    try clear KW8
    try clear BW7
    try clear UW7
    try clear CW7
    try clear KW7
    try clear BW6
    try clear UW6
    try clear CW6
    try clear KW6
    try clear BW5
    try clear UW5
    try clear CW5
    try clear KW5
    revert hq
    revert CN
    revert HC
    revert KW14
    revert CW14
    revert BW14
    revert u
    revert c
    revert z
    revert q
    revert W14
    exact fin
   ·skip
    intro W7 hb
    have BW7 := Lib.hid (below_trans' BW6.out hb)
    have UW7 := Lib.hid (UW6.out.below hb)
    clear hb
    go_wp2_with fail
    have hb := belowA W7 (.cells noArr 56)
    have k := At.new W7 noArr 56
    have BA := Lib.hid (below_trans' BW7.out hb)
    have KA := Lib.hid k
    have UA := Lib.hid (UW7.out.below hb)
    have hq := BW7.out.size
    clear hb k
    refine ⟨H0.out.below BA.out, canonG_nil ?_⟩
    generalize hQ : W7.heap.size = q at KA hq ⊢
    generalize W7.alloc (.cells noArr 56) = W8 at BA KA UA ⊢
    have BW8 := BA
    have KW8 := KA
    have UW8 := UA
    clear BA KA UA
    refine tailJ_one (t := 11) (ts' := [17, 18, 19]) (ps' := []) (ns := [12, 13, 14, 15]) (by kernel_rfl) rfl (by kernel_rfl) (by kernel_rfl) rfl ?_
    intro W9 hb
    have BW9 := Lib.hid (below_trans' BW8.out hb)
    have UW9 := Lib.hid (UW8.out.below hb)
    have KW9 := Lib.hid (KW8.out.below hb)
    clear hb
    have hy2 := (H0.out.below BW9.out).hb y2 (List.mem_of_getElem? HB2.out)
    go_wp2_with fail
    with_reducible refine (cutB_any y2.v u W9 hy2 UW9.out).mono ?_
    rw [HU.out]
    rintro _ W10 ⟨c, z, hc, rfl, hci, hcn, hb⟩
    have BW10 := Lib.hid (below_trans' BW9.out hb)
    have KW10 := Lib.hid (KW9.out.below hb)
    have HC := Lib.hid hc
    have CW10 := Lib.hid hci
    have CN : Hid (c.New w.heap.size) := Lib.hid (hcn.mono BW9.out.size)
    have HN : Hid (∀ k, blk c.A c.n k ∨ blk c.B c.m k → k ≠ q) := Lib.hid (fun k hk e => by have h1 := hcn k hk; have h2 := KW9.out.lt; omega)
    clear hc hci hcn hb hy2
    go_wp2_with fail
    refine ⟨H0.out.below BW10.out, ?_⟩
    iterate 4
     refine canonG_read (v := ?_) rfl (by rfl) ?_ ?_
     rotate_left
     ·intro W hS
      go_simp <;> with_reducible rfl
     simp only [List.getElem_toArray, List.getElem_cons_zero, List.getElem_cons_succ, Act.put, List.setIfInBounds_toArray, List.set_cons_succ, List.set_cons_zero]
    refine canonG_nil ?_
    refine tailJ_one (t := 17) (ts' := [18, 19]) (ps' := []) (ns := []) (by kernel_rfl) rfl (by kernel_rfl) (by kernel_rfl) rfl ?_
    intro W11 hb
    have BW11 := Lib.hid (below_trans' BW10.out hb)
    have CW11 := Lib.hid (CW10.out.below hb)
    have KW11 := Lib.hid (KW10.out.below hb)
    clear hb
    have fr := KW11.out.fz
    have cr := KW11.out.cell
    have hne : ∀ k, blk c.A c.n k ∨ blk c.B c.m k → k ≠ q := HN.out
    have BA := Lib.hid (below_put (below_put BW11.out (p := ⟨q, 0, none⟩) hq (.slice c.A c.n c.c)) (p := ⟨q, 1, none⟩) hq (.slice c.B c.m c.d))
    have KA : Hid (At _ q c.arr 56) := Lib.hid ((KW11.out.set 0 (.slice c.A c.n c.c)).set 1 (.slice c.B c.m c.d))
    have CA := Lib.hid ((CW11.out.kb (S := fun x => x = q) (((Kp.refl (fun x => x = q) W11).set (p := ⟨q, 0, none⟩) (fun _ => rfl) (.slice c.A c.n c.c)).set (p := ⟨q, 1, none⟩) (fun _ => rfl) (.slice c.B c.m c.d))) (fun b hb => hne b (.inl hb)) (fun b hb => hne b (.inr hb)))
    go_wp2_with fail
    refine ⟨H0.out.below BA.out, canonG_nil ?_⟩
    generalize (W11.setCell ⟨q, 0, none⟩ (.slice c.A c.n c.c)).setCell ⟨q, 1, none⟩ (.slice c.B c.m c.d) = W12 at BA KA CA ⊢
    have BW12 := BA
    have KW12 := KA
    have CW12 := CA
    clear BA KA CA fr cr
    refine tailJ_one (t := 18) (ts' := [19]) (ps' := []) (ns := []) (by kernel_rfl) rfl (by kernel_rfl) (by kernel_rfl) rfl ?_
    intro W13 hb
    have BW13 := Lib.hid (below_trans' BW12.out hb)
    have CW13 := Lib.hid (CW12.out.below hb)
    have KW13 := Lib.hid (KW12.out.below hb)
    clear hb
    go_wp2_with fail
    refine ⟨H0.out.below BW13.out, canonG_nil ?_⟩
    refine tailJ_last (t := 19) (by kernel_rfl) rfl ?_
    intro W14 hb
    have BW14 := Lib.hid (below_trans' BW13.out hb)
    have CW14 := Lib.hid (CW13.out.below hb)
    have KW14 := Lib.hid (KW13.out.below hb)
    clear hb
    go_wp2_with fail
    refine NoPanic.normal ?_
    try clear hQ
    try clear hne
    try clear HN
    try clear HU
    try clear BW13
    try clear UW13
    try clear CW13
    try clear KW13
    try clear BW12
    try clear UW12
    try clear CW12
    try clear KW12
    try clear BW11
    try clear UW11
    try clear CW11
    try clear KW11
    try clear BW10
    try clear UW10
    try clear CW10
    try clear KW10
    try clear BW9
    try clear UW9
    try clear CW9
    try clear KW9
    try clear BW8
    try clear UW8
    try clear CW8
    try clear KW8
    try clear BW7
    try clear UW7
    try clear CW7
    try clear KW7
    try clear BW6
    try clear UW6
    try clear CW6
    try clear KW6
    try clear BW5
    try clear UW5
    try clear CW5
    try clear KW5
    revert hq
    revert CN
    revert HC
    revert KW14
    revert CW14
    revert BW14
    revert u
    revert c
    revert z
    revert q
    revert W14
    exact fin
  ·skip
   intro W5 hb
   have BW5 : Hid (Below w.heap.size w W5) := Lib.hid (undrew hb)
   clear hb
   go_wp2_with fail
   have hb := belowA W5 (.cells noArr 56)
   have k := At.new W5 noArr 56
   have BA := Lib.hid (below_trans' BW5.out hb)
   have KA := Lib.hid k
   have hq := BW5.out.size
   clear hb k
   refine ⟨H0.out.below BA.out, canonG_nil ?_⟩
   generalize hQ : W5.heap.size = q at KA hq ⊢
   generalize W5.alloc (.cells noArr 56) = W6 at BA KA  ⊢
   have BW6 := BA
   have KW6 := KA
   clear BA KA 
   refine tailJ_one (t := 10) (ts' := [11, 17, 18, 19]) (ps' := [12, 13, 14, 15]) (ns := []) (by kernel_rfl) rfl (by kernel_rfl) (by kernel_rfl) rfl ?_
   intro W7 hb
   have BW7 := Lib.hid (below_trans' BW6.out hb)
   have KW7 := Lib.hid (KW6.out.below hb)
   clear hb
   go_wp2_with fail
   with_reducible refine (of2_any n len W7 HNN.out HLN.out).mono ?_
   rintro _ W8 ⟨u, hu, rfl, hin, hnew, hb⟩
   have BW8 := Lib.hid (below_trans' BW7.out hb)
   have KW8 := Lib.hid (KW7.out.below hb)
   have HU := Lib.hid hu
   have UW8 := Lib.hid hin
   clear hu hin hnew hb
   go_wp2_with fail
   refine ⟨H0.out.below BW8.out, canonG_nil ?_⟩
   refine tailJ_one (t := 11) (ts' := [17, 18, 19]) (ps' := []) (ns := [12, 13, 14, 15]) (by kernel_rfl) rfl (by kernel_rfl) (by kernel_rfl) rfl ?_
   intro W9 hb
   have BW9 := Lib.hid (below_trans' BW8.out hb)
   have UW9 := Lib.hid (UW8.out.below hb)
   have KW9 := Lib.hid (KW8.out.below hb)
   clear hb
   have hy2 := (H0.out.below BW9.out).hb y2 (List.mem_of_getElem? HB2.out)
   go_wp2_with fail
   with_reducible refine (cutB_any y2.v u W9 hy2 UW9.out).mono ?_
   rw [HU.out]
   rintro _ W10 ⟨c, z, hc, rfl, hci, hcn, hb⟩
   have BW10 := Lib.hid (below_trans' BW9.out hb)
   have KW10 := Lib.hid (KW9.out.below hb)
   have HC := Lib.hid hc
   have CW10 := Lib.hid hci
   have CN : Hid (c.New w.heap.size) := Lib.hid (hcn.mono BW9.out.size)
   have HN : Hid (∀ k, blk c.A c.n k ∨ blk c.B c.m k → k ≠ q) := Lib.hid (fun k hk e => by have h1 := hcn k hk; have h2 := KW9.out.lt; omega)
   clear hc hci hcn hb hy2
   go_wp2_with fail
   refine ⟨H0.out.below BW10.out, ?_⟩
   iterate 4
    refine canonG_read (v := ?_) rfl (by rfl) ?_ ?_
    rotate_left
    ·intro W hS
     go_simp <;> with_reducible rfl
    simp only [List.getElem_toArray, List.getElem_cons_zero, List.getElem_cons_succ, Act.put, List.setIfInBounds_toArray, List.set_cons_succ, List.set_cons_zero]
   refine canonG_nil ?_
   refine tailJ_one (t := 17) (ts' := [18, 19]) (ps' := []) (ns := []) (by kernel_rfl) rfl (by kernel_rfl) (by kernel_rfl) rfl ?_
   intro W11 hb
   have BW11 := Lib.hid (below_trans' BW10.out hb)
   have CW11 := Lib.hid (CW10.out.below hb)
   have KW11 := Lib.hid (KW10.out.below hb)
   clear hb
   have fr := KW11.out.fz
   have cr := KW11.out.cell
   have hne : ∀ k, blk c.A c.n k ∨ blk c.B c.m k → k ≠ q := HN.out
   have BA := Lib.hid (below_put (below_put BW11.out (p := ⟨q, 0, none⟩) hq (.slice c.A c.n c.c)) (p := ⟨q, 1, none⟩) hq (.slice c.B c.m c.d))
   have KA : Hid (At _ q c.arr 56) := Lib.hid ((KW11.out.set 0 (.slice c.A c.n c.c)).set 1 (.slice c.B c.m c.d))
   have CA := Lib.hid ((CW11.out.kb (S := fun x => x = q) (((Kp.refl (fun x => x = q) W11).set (p := ⟨q, 0, none⟩) (fun _ => rfl) (.slice c.A c.n c.c)).set (p := ⟨q, 1, none⟩) (fun _ => rfl) (.slice c.B c.m c.d))) (fun b hb => hne b (.inl hb)) (fun b hb => hne b (.inr hb)))
   go_wp2_with fail
   refine ⟨H0.out.below BA.out, canonG_nil ?_⟩
   generalize (W11.setCell ⟨q, 0, none⟩ (.slice c.A c.n c.c)).setCell ⟨q, 1, none⟩ (.slice c.B c.m c.d) = W12 at BA KA CA ⊢
   have BW12 := BA
   have KW12 := KA
   have CW12 := CA
   clear BA KA CA fr cr
   refine tailJ_one (t := 18) (ts' := [19]) (ps' := []) (ns := []) (by kernel_rfl) rfl (by kernel_rfl) (by kernel_rfl) rfl ?_
   intro W13 hb
   have BW13 := Lib.hid (below_trans' BW12.out hb)
   have CW13 := Lib.hid (CW12.out.below hb)
   have KW13 := Lib.hid (KW12.out.below hb)
   clear hb
   go_wp2_with fail
   refine ⟨H0.out.below BW13.out, canonG_nil ?_⟩
   refine tailJ_last (t := 19) (by kernel_rfl) rfl ?_
   intro W14 hb
   have BW14 := Lib.hid (below_trans' BW13.out hb)
   have CW14 := Lib.hid (CW13.out.below hb)
   have KW14 := Lib.hid (KW13.out.below hb)
   clear hb
   go_wp2_with fail
   refine NoPanic.normal ?_
   try clear hQ
   try clear hne
   try clear HN
   try clear HU
   try clear BW13
   try clear UW13
   try clear CW13
   try clear KW13
   try clear BW12
   try clear UW12
   try clear CW12
   try clear KW12
   try clear BW11
   try clear UW11
   try clear CW11
   try clear KW11
   try clear BW10
   try clear UW10
   try clear CW10
   try clear KW10
   try clear BW9
   try clear UW9
   try clear CW9
   try clear KW9
   try clear BW8
   try clear UW8
   try clear CW8
   try clear KW8
   try clear BW7
   try clear UW7
   try clear CW7
   try clear KW7
   try clear BW6
   try clear UW6
   try clear CW6
   try clear KW6
   try clear BW5
   try clear UW5
   try clear CW5
   try clear KW5
   revert hq
   revert CN
   revert HC
   revert KW14
   revert CW14
   revert BW14
   revert u
   revert c
   revert z
   revert q
   revert W14
   exact fin
 ·intro W5 q z c u HB5 HC5 HK5 HC HCN HQ5
  clear HQ5
  obtain ⟨D, hD⟩ : ∃ D, cutH y2.v.h (ofH n len) = D := ⟨_, rfl⟩
  have HD := Lib.hid hD
  rw [hD] at HC ⊢
  clear hD
  obtain ⟨er, hr⟩ := D
  dsimp only at HC ⊢
  by_cases hz : er = 0
  rotate_left
  ·have h1 : (er == 0) = false := by simpa using hz
   have HI := Lib.hid (H0.out.below HB5.out)
   go_wp2_with fail
   go_ret
   exact retO_no (by rw [HD.out]; unfold cutX; rw [if_neg hz]) HI.out HB5.out
  subst hz
  go_wp2_with fail
  refine wp_region_hj [0, 1, 2, 3, 4, 5, 6, 7] [] [8] (fun W => v.In st p W ∧ At W q c.arr 56) mixed (by kernel_rfl) (fun W W' h hb => ⟨h.1.below hb, h.2.below hb⟩) ⟨(H0.out.below HB5.out).below (below_drew _), HK5.out.below (below_drew _)⟩ ?_
  iterate 8
   refine canonG_read (v := ?_) rfl (by rfl) ?_ ?_
   rotate_left
   ·intro W hS
    have c2 : W.cell? ⟨p, 2, none⟩ = some (.slice v.A v.bs.length v.ca) := At.cell hS.1.room 2
    rw [HGB.out] at c2
    have cq := hS.2.cell
    go_simp <;> with_reducible rfl
   simp only [List.getElem_toArray, List.getElem_cons_zero, List.getElem_cons_succ, Act.put, List.setIfInBounds_toArray, List.set_cons_succ, List.set_cons_zero]
  refine canonG_nil ?_
  refine tailJ_last (t := 8) (by kernel_rfl) rfl ?_
  intro W10 hb
  have HB10 := Lib.hid (below_trans' HB5.out (undrew hb))
  have HC10 := Lib.hid (HC5.out.below (undrew hb))
  clear hb HB5 HC5 HK5
  have HI := Lib.hid (H0.out.below HB10.out)
  have hrob := HI.out.rb
  rw [HGB.out] at hrob
  have b1 : W10.cell? ⟨gb, k * 3 + 1, none⟩ = some (.slice y2.v.A y2.v.n y2.v.c) := own_cell nb_len (by omega) hrob HB2.out (j := 1) (by omega)
  have b2 : W10.cell? ⟨gb, k * 3 + 1 + 1, none⟩ = some (.slice y2.v.B y2.v.m y2.v.d) := own_cell nb_len (by omega) hrob HB2.out (j := 2) (by omega)
  have fb : ∀ j, W10.frozen? ⟨gb, j, none⟩ = false := fun j => hrob.frozenAt j
  obtain ⟨r1, r2⟩ := bun_end H0.out HI.out HB10.out HGB.out HB2.out HC10.out HCN.out
  have R1 := Lib.hid r1
  have R2 := Lib.hid r2
  clear hrob r1 r2
  go_wp2_with fail
  refine NoPanic.normal ?_
  go_wp2_with fail
  go_ret
  rw [HD.out]
  refine ⟨rfl, _, ?_, R1.out, R2.out⟩
  rw [rm_setB v k y2 c HB2.out, HC.out]
  rfl
end Go.Proofs.YtihhclhpjgeniaaGreatDoor
namespace Go.Proofs.YtihhclhpjgeniaaGreatDoor
open Go.RowKit Go.Sort
theorem rm_put (v : RV) (A : Option Addr) (c : Nat) (n : List UInt8) (u : BV) : ({ v with A := A, ca := c, bs := v.bs ++ [⟨n, u⟩], used := v.used ++ [n] } : RV).rm = v.rm.put n u.h := by
 simp [RV.rm, Rm.put]
theorem OS.box {v : RV} {st : Int} {p : Nat} {x : OV} {w : World} (h : v.In st p w) (hx : x.In w) (ht : Tab w) : OS st p w.heap.size v x (w.alloc (.cells x.arr 114)) :=
 ⟨h.below (belowA _ _), hx.below (belowA _ _), At.new _ _ _, tab_below ht (belowA _ _)⟩
set_option maxRecDepth 100000 in
set_option maxHeartbeats 1000000 in
theorem buyO_any (v : RV) (st : Int) (p : Nat) (x : OV) (n : List UInt8) (len c m : Int) (w : World) (h : v.In st p w) (hx : x.In w) (hn : x.o.names[0]? = some n) (ha : x.o.nums = [len, c, m]) (hlen : inN len) (hc : inN c) (hm : inN m) (hnl : n.length ≤ 1000000) (ht : Tab w) (hul : v.used.length ≤ 1000000) (hlb : v.bs.length ≤ 12) (hcash : -1000000000 ≤ v.cash ∧ v.cash ≤ 1000000000) (hbo : 0 ≤ v.bought ∧ v.bought ≤ 1000000000) :
  Calls Tryz.prog 156 #[.pointer (some ⟨p, 0, none⟩), .agg x.arr] w (RetO v st p w (buyR v.rm n len c m)) := by
 have H0 := Lib.hid h
 have HS := Lib.hid (OS.box h hx ht)
 have HB := Lib.hid (belowA w (.cells x.arr 114))
 have HC := Lib.hid hc
 have HM := Lib.hid hm
 have HLN := Lib.hid hlen
 clear h hx hlen hc hm ht
 go_enter Tryz.func156, Tryz.ntmps156
 go_wp2_with fail
 refine gen_at (M := fun W => Code.wp Tryz.prog _ _ _ W) (fun W => OS st p w.heap.size v x W ∧ Below w.heap.size w W) ⟨HS.out, HB.out⟩ ?_
 clear HS HB
 rintro w1 ⟨hs, hb⟩
 have HS := Lib.hid hs
 have HB := Lib.hid hb
 obtain ⟨ad, e1, hc1, hk1, -⟩ := hs.o.name hn
 obtain ⟨ae, e2, hd0, -, -⟩ := hs.o.num (k := 0) (a := len) (by rw [ha]; rfl)
 obtain ⟨ae1, e3, hd1, -, -⟩ := hs.o.num (k := 1) (a := c) (by rw [ha]; rfl)
 obtain ⟨ae2, e4, hd2, -, -⟩ := hs.o.num (k := 2) (a := m) (by rw [ha]; rfl)
 have e5 : ae1 = ae := by rw [e2] at e3; injection e3 with e3; exact e3.symm
 have e6 : ae2 = ae := by rw [e2] at e4; injection e4 with e4; exact e4.symm
 rw [show ad.add 0 = ad from rfl] at hc1
 rw [show ae.add 0 = ae from rfl] at hd0
 rw [e5, show ae.add 1 = ⟨ae.block, ae.off + 1, none⟩ from rfl] at hd1
 rw [e6, show ae.add 2 = ⟨ae.block, ae.off + 2, none⟩ from rfl] at hd2
 have hm3 : x.m = 3 := by rw [hs.o.m, ha]; rfl
 have k0 : (0 : Int) < (x.m : Int) := by rw [hm3]; decide
 have k1 : (1 : Int) < (x.m : Int) := by rw [hm3]; decide
 have k2 : (2 : Int) < (x.m : Int) := by rw [hm3]; decide
 have k3 : (0 : Int) < (x.n : Int) := by omega
 have g0 : ∀ d os, (grow (redrawn w1 d) os).cell? ad = some (.string (mkB n)) := rg_cell hc1
 have g1 : ∀ d os, (grow (redrawn w1 d) os).cell? ae = some (.int .i64 len) := rg_cell hd0
 have g2 : ∀ d os, (grow (redrawn w1 d) os).cell? ⟨ae.block, ae.off + 1, none⟩ = some (.int .i64 c) := rg_cell hd1
 have g3 : ∀ d os, (grow (redrawn w1 d) os).cell? ⟨ae.block, ae.off + 2, none⟩ = some (.int .i64 m) := rg_cell hd2
 have g4 : ∀ d os, (grow (redrawn w1 d) os).cell? ⟨w.heap.size, 3, none⟩ = some (.slice x.A x.n x.c) := rg_cell (hs.k.cell 3)
 have g5 : ∀ d os, (grow (redrawn w1 d) os).cell? ⟨w.heap.size, 5, none⟩ = some (.slice x.B x.m x.d) := rg_cell (hs.k.cell 5)
 rw [e1] at g4
 rw [e2] at g5
 clear hs hb hc1 hk1 hd0 hd1 hd2 e3 e4 e5 e6 hm3
 refine wp_region_qb mixed (by kernel_rfl) ?_
 repeat (go_big_quiet_step (fail))
 refine wpQuiet_nil ?_
 intro w2 hb2
 have HS2 := Lib.hid (HS.out.below hb2)
 have HB2 := Lib.hid (below_trans' HB.out hb2)
 clear hb2 g0 g1 g2 g3 g4 g5 HS HB k0 k1 k2 k3 e1 e2
 go_wp2_with fail
 with_reducible refine (freshR_any v st p n w2 HS2.out.a hnl).mono ?_
 rintro _ w3 ⟨rfl, rfl⟩
 obtain ⟨f, hf⟩ : ∃ f, v.rm.fresh n = f := ⟨_, rfl⟩
 have HF := Lib.hid hf
 rw [hf]
 clear hf
 cases f with
 | false =>
  have HL : Hid (buyR v.rm n len c m = (2, v.rm)) := Lib.hid (by unfold buyR; rw [if_pos HF.out])
  go_wp2_with fail
  go_ret
  exact retO_no HL.out HS2.out.a HB2.out
 | true =>
  by_cases h1 : len < 1
  ·have HL : Hid (buyR v.rm n len c m = (1, v.rm)) := Lib.hid (by unfold buyR; rw [if_neg (by rw [HF.out]; simp), if_pos (.inl h1)])
   go_wp2_with fail
   go_ret
   exact retO_no HL.out HS2.out.a HB2.out
  by_cases h2 : 24 < len
  ·have HL : Hid (buyR v.rm n len c m = (1, v.rm)) := Lib.hid (by unfold buyR; rw [if_neg (by rw [HF.out]; simp), if_pos (.inr (.inl h2))])
   go_wp2_with fail
   go_ret
   exact retO_no HL.out HS2.out.a HB2.out
  by_cases h3 : c = 0
  ·have h3' : (c == 0) = true := by simpa using h3
   have HL : Hid (buyR v.rm n len c m = (1, v.rm)) := Lib.hid (by unfold buyR; rw [if_neg (by rw [HF.out]; simp), if_pos (.inr (.inr h3))])
   go_wp2_with fail
   go_ret
   exact retO_no HL.out HS2.out.a HB2.out
  have h3' : (c == 0) = false := by simpa using h3
  have c2 : w3.cell? ⟨p, 2, none⟩ = some (.slice v.A v.bs.length v.ca) := At.cell HS2.out.a.room 2
  by_cases h4 : 12 ≤ v.bs.length
  ·have h4' : (12 : Int) ≤ (v.bs.length : Int) := by omega
   have HL : Hid (buyR v.rm n len c m = (4, v.rm)) := Lib.hid (by
    unfold buyR; rw [if_neg (by rw [HF.out]; simp), if_neg (by omega), if_pos]
    show 12 ≤ (v.bs.map _).length
    simpa using h4)
   go_wp2_with fail
   go_ret
   exact retO_no HL.out HS2.out.a HB2.out
  have h4' : ¬ (12 : Int) ≤ (v.bs.length : Int) := by omega
  have HL : Hid (buyR v.rm n len c m = (0, { v.rm.put n (ofH c len) with cash := v.rm.cash - m, bought := v.rm.bought + c })) := Lib.hid (by
   unfold buyR; rw [if_neg (by rw [HF.out]; simp), if_neg (by omega), if_neg]
   show ¬ 12 ≤ (v.bs.map _).length
   simpa using h4)
  have HH : Hid (1 ≤ len ∧ len ≤ 24) := Lib.hid (by omega)
  go_wp2_with fail
  clear c2 h1 h2 h3 h3' h4 h4'
  have HC2 : Hid (0 ≤ c ∧ c ≤ 1000000) := Lib.hid HC.out
  with_reducible refine (of2_any c len w3 HC2.out HH.out).mono ?_
  rintro _ w4 ⟨u, hu, rfl, hin, hnew, hb⟩
  have HU := Lib.hid hu
  have HI := Lib.hid hin
  have HN : Hid (u.New w.heap.size) := Lib.hid (hnew.mono HB2.out.size)
  have HS4 := Lib.hid (HS2.out.below hb)
  have HB4 := Lib.hid (below_trans' HB2.out hb)
  clear hu hin hnew hb HS2 HB2
  go_wp2_with fail
  have hfar : ∀ k, blk u.A u.n k ∨ blk u.B u.m k → ¬ v.F p k ∧ 8 ≤ k := fun k hk => H0.out.far (.inr (HN.out k hk))
  with_reducible refine (addR_any v st p n u w4 HS4.out.a HI.out hnl hul hfar (Nat.le_trans hlb (by decide))).mono ?_
  rintro _ w5 ⟨rfl, A', c', hi5, hr5⟩
  have H5 := Lib.hid hi5
  have R5 := Lib.hid (hr5 v w (Rs.below HB4.out) HN.out)
  clear hi5 hr5 hfar
  have c7 : w5.cell? ⟨p, 7, none⟩ = some (.int .i64 v.cash) := At.cell H5.out.room 7
  have c5 : w5.cell? ⟨p, 5, none⟩ = some (.int .i64 v.bought) := At.cell H5.out.room 5
  have fp := H5.out.room.fz
  have v1 : IntKind.i64.wrap (v.cash - m) = v.cash - m := IntWalk.i64_in _ (by have := HM.out; unfold inN at this; omega)
  have v2 : IntKind.i64.wrap (v.bought + c) = v.bought + c := IntWalk.i64_in _ (by have := HC2.out; omega)
  go_wp2_with fail
  go_ret
  obtain ⟨a1, a2⟩ := H5.out.setN (v' := { v with A := A', ca := c', bs := v.bs ++ [⟨n, u⟩], used := v.used ++ [n], cash := v.cash - m }) (s' := st) 7 (.int .i64 (v.cash - m)) rfl ⟨rfl, rfl, rfl, rfl⟩ ⟨rfl, rfl, rfl, rfl⟩ ⟨rfl, rfl, rfl⟩
  obtain ⟨b1, b2⟩ := a1.setN (v' := { v with A := A', ca := c', bs := v.bs ++ [⟨n, u⟩], used := v.used ++ [n], cash := v.cash - m, bought := v.bought + c }) (s' := st) 5 (.int .i64 (v.bought + c)) rfl ⟨rfl, rfl, rfl, rfl⟩ ⟨rfl, rfl, rfl, rfl⟩ ⟨rfl, rfl, rfl⟩
  rw [HL.out]
  refine ⟨rfl, _, ?_, b1, (R5.out.trans a2).trans b2⟩
  rw [← HU.out, ← rm_put v A' c' n u]
  rfl
end Go.Proofs.YtihhclhpjgeniaaGreatDoor
namespace Go.Proofs.YtihhclhpjgeniaaGreatDoor
open Go.RowKit Go.Sort
section
variable {P : Program} {ops : Array Oper} {md : Region.Mode} {Q : Exit → Act → World → Prop} {S : World → Prop}
theorem tailJ_three {n t1 t2 t3 : Nat} {ps ts ns1 ps1 ts1 ns2 ps2 ts2 ns3 ps3 ts3 : List Nat} {o1 o2 o3 : Oper} {a : Act} {w : World} (hr : readyT md ops ts = [t1, t2, t3]) (he1 : ts.erase t1 = ts1) (hn1 : newH md ops ps ts1 = ns1) (hp1 : oldH md ops ps ts1 = ps1)
  (he2 : ts.erase t2 = ts2) (hn2 : newH md ops ps ts2 = ns2) (hp2 : oldH md ops ps ts2 = ps2) (he3 : ts.erase t3 = ts3) (hn3 : newH md ops ps ts3 = ns3) (hp3 : oldH md ops ps ts3 = ps3) (ho1 : ops[t1]? = some o1) (ho2 : ops[t2]? = some o2) (ho3 : ops[t3]? = some o3)
  (h1 : ∀ W, Below w.heap.size w W → wpList P ops (Thn Q fun a' w' => S w' ∧ canonG P ops S (fun a'' => tailJ P md ops Q S (n + 1) ps1 ts1 a'' w') ns1 a') [o1] a W) (h2 : ∀ W, Below w.heap.size w W → wpList P ops (Thn Q fun a' w' => S w' ∧ canonG P ops S (fun a'' => tailJ P md ops Q S (n + 1) ps2 ts2 a'' w') ns2 a') [o2] a W)
  (h3 : ∀ W, Below w.heap.size w W → wpList P ops (Thn Q fun a' w' => S w' ∧ canonG P ops S (fun a'' => tailJ P md ops Q S (n + 1) ps3 ts3 a'' w') ns3 a') [o3] a W) : tailJ P md ops Q S (n + 2) ps ts a w := by
 intro W hW u hu
 rw [hr] at hu
 simp only [List.mem_cons, List.not_mem_nil, or_false] at hu
 rcases hu with rfl | rfl | rfl
 ·rw [he1, hn1, hp1]; exact wpOp_of_list ho1 (h1 W hW)
 ·rw [he2, hn2, hp2]; exact wpOp_of_list ho2 (h2 W hW)
 ·rw [he3, hn3, hp3]; exact wpOp_of_list ho3 (h3 W hW)
end
end Go.Proofs.YtihhclhpjgeniaaGreatDoor
