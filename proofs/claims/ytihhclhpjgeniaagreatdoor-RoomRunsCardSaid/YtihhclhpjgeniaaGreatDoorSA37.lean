/- Merged texts: Go -/
import Derived.Test.YtihhclhpjgeniaaGreatDoorSA31
namespace Go.Proofs.YtihhclhpjgeniaaGreatDoor
open Go.RowKit Go.Sort
def cutX (r : Rm) (k : Nat) (x : Int × Hr) : Int × Rm := (x.1, if x.1 = 0 then r.setH k x.2 else r)
theorem bun_end {v : RV} {st : Int} {p : Nat} {w W : World} {gb k : Nat} {y2 : NB} {c : BV} (h0 : v.In st p w) (h : v.In st p W) (hb : Below w.heap.size w W) (hgb : v.A = some ⟨gb, 0, none⟩) (hy2 : v.bs[k]? = some y2) (hc : c.In W) (hcn : c.New w.heap.size) :
    ({ v with bs := v.bs.set k ⟨y2.name, c⟩ } : RV).In st p ((W.setCell ⟨gb, k * 3 + 1, none⟩ (.slice c.A c.n c.c)).setCell ⟨gb, k * 3 + 1 + 1, none⟩ (.slice c.B c.m c.d)) ∧
    Rs p v w { v with bs := v.bs.set k ⟨y2.name, c⟩ } ((W.setCell ⟨gb, k * 3 + 1, none⟩ (.slice c.A c.n c.c)).setCell ⟨gb, k * 3 + 1 + 1, none⟩ (.slice c.B c.m c.d)) := by
  have hbF : v.F p gb := .inr (.inr (.inl ⟨_, hgb, rfl⟩))
  obtain ⟨a1, a2, a3⟩ := h.putB hgb hy2 hc fun j hj => h0.far (.inr (hcn j hj))
  exact ⟨a1, (Rs.below hb).step a2 (fun x _ e => by rw [e]; exact hbF) (fun j hj => .inl hj) fun j hj => (a3 j hj).imp id (hcn j)⟩
set_option maxRecDepth 100000 in
set_option maxHeartbeats 1000000 in
theorem cutR_any (v : RV) (st : Int) (p k : Nat) (y2 : NB) (n len : Int) (w : World) (h : v.In st p w) (hy2 : v.bs[k]? = some y2) (hn : 0 ≤ n ∧ n ≤ 1000000) (hlen : 1 ≤ len ∧ len ≤ 24) (hlb : v.bs.length ≤ 12) :
    Calls Tryz.prog 226 #[.pointer (some ⟨p, 0, none⟩), .int .i64 (k : Int), .int .i64 n, .int .i64 len] w (RetO v st p w (cutX v.rm k (cutH y2.v.h (ofH n len)))) := by
  have hkl : k < v.bs.length := (List.getElem?_eq_some_iff.1 hy2).1
  have hkl' : (k : Int) < (v.bs.length : Int) := by omega
  have hk0 : ¬ ((k : Int) < 0) := by omega
  obtain ⟨gb, hgb⟩ : ∃ gb, v.A = some ⟨gb, 0, none⟩ := own_form h.rb (by omega)
  have H0 := Lib.hid h
  have HB2 := Lib.hid hy2
  have HGB := Lib.hid hgb
  have HNN := Lib.hid hn
  have HLN := Lib.hid hlen
  clear h hy2 hgb hn hlen
  go_enter Tryz.func226, Tryz.ntmps226
  go_wp2_with fail
  refine wp_region_hj [0, 1, 2, 3, 4, 5, 6, 7, 8, 9] [12, 13, 14, 15] [10, 11, 16, 17, 18, 19] (fun W => v.In st p W) mixed (by kernel_rfl) (fun W W' h hb => h.below hb) (H0.out.below (below_drew _)) ?_
  iterate 10
    refine canonG_read (v := ?_) rfl (by rfl) ?_ ?_
    rotate_left
    · intro W hS
      have hrob := hS.rb
      have c2 : W.cell? ⟨p, 2, none⟩ = some (.slice v.A v.bs.length v.ca) := At.cell hS.room 2
      rw [HGB.out] at c2 hrob
      have b1 : W.cell? ⟨gb, k * 3 + 1, none⟩ = some (.slice y2.v.A y2.v.n y2.v.c) := own_cell nb_len (by omega) hrob HB2.out (j := 1) (by omega)
      have b2 : W.cell? ⟨gb, k * 3 + 1 + 1, none⟩ = some (.slice y2.v.B y2.v.m y2.v.d) := own_cell nb_len (by omega) hrob HB2.out (j := 2) (by omega)
      clear hrob
      go_simp <;> with_reducible rfl
    simp only [List.getElem_toArray, List.getElem_cons_zero, List.getElem_cons_succ, Act.put, List.setIfInBounds_toArray, List.set_cons_succ, List.set_cons_zero]
  refine canonG_nil ?_
  apply later
  · intro fin
    refine tailJ_two (t := 10) (t' := 16) (ts1 := [11, 16, 17, 18, 19]) (ps1 := [12, 13, 14, 15]) (ns1 := []) (ts2 := [10, 11, 17, 18, 19]) (ps2 := [12, 13, 14, 15]) (ns2 := []) (by kernel_rfl) rfl (by kernel_rfl) (by kernel_rfl) rfl (by kernel_rfl) (by kernel_rfl) rfl rfl ?_ ?_
    · skip
      intro W5 hb
      have BW5 : Hid (Below w.heap.size w W5) := Lib.hid (undrew hb)
      clear hb
      go_wp2_with fail
      with_reducible refine (of2_any n len W5 HNN.out HLN.out).mono ?_
      rintro _ W6 ⟨u, hu, rfl, hin, hnew, hb⟩
      have BW6 := Lib.hid (below_trans' BW5.out hb)
      have HU := Lib.hid hu
      have UW6 := Lib.hid hin
      clear hu hin hnew hb
      go_wp2_with fail
      refine ⟨H0.out.below BW6.out, canonG_nil ?_⟩
      refine tailJ_two (t := 11) (t' := 16) (ts1 := [16, 17, 18, 19]) (ps1 := []) (ns1 := [12, 13, 14, 15]) (ts2 := [11, 17, 18, 19]) (ps2 := [12, 13, 14, 15]) (ns2 := []) (by kernel_rfl) rfl (by kernel_rfl) (by kernel_rfl) rfl (by kernel_rfl) (by kernel_rfl) rfl rfl ?_ ?_
      · skip
        intro W7 hb
        have BW7 := Lib.hid (below_trans' BW6.out hb)
        have UW7 := Lib.hid (UW6.out.below hb)
        clear hb
        have hy2 := (H0.out.below BW7.out).hb y2 (List.mem_of_getElem? HB2.out)
        go_wp2_with fail
        with_reducible refine (cutB_any y2.v u W7 hy2 UW7.out).mono ?_
        rw [HU.out]
        rintro _ W8 ⟨c, z, hc, rfl, hci, hcn, hb⟩
        have BW8 := Lib.hid (below_trans' BW7.out hb)
        have HC := Lib.hid hc
        have CW8 := Lib.hid hci
        have CN : Hid (c.New w.heap.size) := Lib.hid (hcn.mono BW7.out.size)
        clear hc hci hcn hb hy2
        go_wp2_with fail
        refine ⟨H0.out.below BW8.out, ?_⟩
        iterate 4
          refine canonG_read (v := ?_) rfl (by rfl) ?_ ?_
          rotate_left
          · intro W hS
            go_simp <;> with_reducible rfl
          simp only [List.getElem_toArray, List.getElem_cons_zero, List.getElem_cons_succ, Act.put, List.setIfInBounds_toArray, List.set_cons_succ, List.set_cons_zero]
        refine canonG_nil ?_
        refine tailJ_one (t := 16) (ts' := [17, 18, 19]) (ps' := []) (ns := []) (by kernel_rfl) rfl (by kernel_rfl) (by kernel_rfl) rfl ?_
        intro W9 hb
        have BW9 := Lib.hid (below_trans' BW8.out hb)
        have CW9 := Lib.hid (CW8.out.below hb)
        clear hb
        go_wp2_with fail
        have hb := belowA W9 (.cells noArr 56)
        have k := At.new W9 noArr 56
        have BA := Lib.hid (below_trans' BW9.out hb)
        have KA := Lib.hid k
        have CA := Lib.hid (CW9.out.below hb)
        have hq := BW9.out.size
        clear hb k
        refine ⟨H0.out.below BA.out, canonG_nil ?_⟩
        generalize hQ : W9.heap.size = q at KA hq ⊢
        generalize W9.alloc (.cells noArr 56) = W10 at BA KA CA ⊢
        have BW10 := BA
        have KW10 := KA
        have CW10 := CA
        clear BA KA CA
        refine tailJ_one (t := 17) (ts' := [18, 19]) (ps' := []) (ns := []) (by kernel_rfl) rfl (by kernel_rfl) (by kernel_rfl) rfl ?_
        intro W11 hb
        have BW11 := Lib.hid (below_trans' BW10.out hb)
        have CW11 := Lib.hid (CW10.out.below hb)
        have KW11 := Lib.hid (KW10.out.below hb)
        clear hb
        have fr := KW11.out.fz
        have cr := KW11.out.cell
        have hne : ∀ k, blk c.A c.n k ∨ blk c.B c.m k → k ≠ q := fun k hk => by have := hk.elim CW9.out.r.blk_lt CW9.out.s.blk_lt; omega
        have BA := Lib.hid (below_put (below_put BW11.out (p := ⟨q, 0, none⟩) hq (.slice c.A c.n c.c)) (p := ⟨q, 1, none⟩) hq (.slice c.B c.m c.d))
        have KA : Hid (At _ q c.arr 56) := Lib.hid ((KW11.out.set 0 (.slice c.A c.n c.c)).set 1 (.slice c.B c.m c.d))
        have CA := Lib.hid ((CW11.out.kb (S := fun x => x = q) (((Kp.refl (fun x => x = q) W11).set (p := ⟨q, 0, none⟩) (fun _ => rfl) (.slice c.A c.n c.c)).set (p := ⟨q, 1, none⟩) (fun _ => rfl) (.slice c.B c.m c.d))) (fun b hb => hne b (.inl hb)) (fun b hb => hne b (.inr hb)))
        go_wp2_with fail
        refine ⟨H0.out.below BA.out, canonG_nil ?_⟩
        generalize (W11.setCell ⟨q, 0, none⟩ (.slice c.A c.n c.c)).setCell ⟨q, 1, none⟩ (.slice c.B c.m c.d) = W12 at BA KA CA ⊢
        have BW12 := BA
        have KW12 := KA
        have CW12 := CA
        clear BA KA CA fr cr
        refine tailJ_one (t := 18) (ts' := [19]) (ps' := []) (ns := []) (by kernel_rfl) rfl (by kernel_rfl) (by kernel_rfl) rfl ?_
        intro W13 hb
        have BW13 := Lib.hid (below_trans' BW12.out hb)
        have CW13 := Lib.hid (CW12.out.below hb)
        have KW13 := Lib.hid (KW12.out.below hb)
        clear hb
        go_wp2_with fail
        refine ⟨H0.out.below BW13.out, canonG_nil ?_⟩
        refine tailJ_last (t := 19) (by kernel_rfl) rfl ?_
        intro W14 hb
        have BW14 := Lib.hid (below_trans' BW13.out hb)
        have CW14 := Lib.hid (CW13.out.below hb)
        have KW14 := Lib.hid (KW13.out.below hb)
        clear hb
        go_wp2_with fail
        refine NoPanic.normal ?_
        try clear hQ
        try clear hne
        try clear HN
        try clear HU
        try clear BW13
        try clear UW13
        try clear CW13
        try clear KW13
        try clear BW12
        try clear UW12
        try clear CW12
        try clear KW12
        try clear BW11
        try clear UW11
        try clear CW11
        try clear KW11
        try clear BW10
        try clear UW10
        try clear CW10
        try clear KW10
        try clear BW9
        try clear UW9
        try clear CW9
        try clear KW9
        try clear BW8
        try clear UW8
        try clear CW8
        try clear KW8
        try clear BW7
        try clear UW7
        try clear CW7
        try clear KW7
        try clear BW6
        try clear UW6
        try clear CW6
        try clear KW6
        try clear BW5
        try clear UW5
        try clear CW5
        try clear KW5
        revert hq
        revert CN
        revert HC
        revert KW14
        revert CW14
        revert BW14
        revert u
        revert c
        revert z
        revert q
        revert W14
        exact fin
      · skip
        intro W7 hb
        have BW7 := Lib.hid (below_trans' BW6.out hb)
        have UW7 := Lib.hid (UW6.out.below hb)
        clear hb
        go_wp2_with fail
        have hb := belowA W7 (.cells noArr 56)
        have k := At.new W7 noArr 56
        have BA := Lib.hid (below_trans' BW7.out hb)
        have KA := Lib.hid k
        have UA := Lib.hid (UW7.out.below hb)
        have hq := BW7.out.size
        clear hb k
        refine ⟨H0.out.below BA.out, canonG_nil ?_⟩
        generalize hQ : W7.heap.size = q at KA hq ⊢
        generalize W7.alloc (.cells noArr 56) = W8 at BA KA UA ⊢
        have BW8 := BA
        have KW8 := KA
        have UW8 := UA
        clear BA KA UA
        refine tailJ_one (t := 11) (ts' := [17, 18, 19]) (ps' := []) (ns := [12, 13, 14, 15]) (by kernel_rfl) rfl (by kernel_rfl) (by kernel_rfl) rfl ?_
        intro W9 hb
        have BW9 := Lib.hid (below_trans' BW8.out hb)
        have UW9 := Lib.hid (UW8.out.below hb)
        have KW9 := Lib.hid (KW8.out.below hb)
        clear hb
        have hy2 := (H0.out.below BW9.out).hb y2 (List.mem_of_getElem? HB2.out)
        go_wp2_with fail
        with_reducible refine (cutB_any y2.v u W9 hy2 UW9.out).mono ?_
        rw [HU.out]
        rintro _ W10 ⟨c, z, hc, rfl, hci, hcn, hb⟩
        have BW10 := Lib.hid (below_trans' BW9.out hb)
        have KW10 := Lib.hid (KW9.out.below hb)
        have HC := Lib.hid hc
        have CW10 := Lib.hid hci
        have CN : Hid (c.New w.heap.size) := Lib.hid (hcn.mono BW9.out.size)
        have HN : Hid (∀ k, blk c.A c.n k ∨ blk c.B c.m k → k ≠ q) := Lib.hid (fun k hk e => by have h1 := hcn k hk; have h2 := KW9.out.lt; omega)
        clear hc hci hcn hb hy2
        go_wp2_with fail
        refine ⟨H0.out.below BW10.out, ?_⟩
        iterate 4
          refine canonG_read (v := ?_) rfl (by rfl) ?_ ?_
          rotate_left
          · intro W hS
            go_simp <;> with_reducible rfl
          simp only [List.getElem_toArray, List.getElem_cons_zero, List.getElem_cons_succ, Act.put, List.setIfInBounds_toArray, List.set_cons_succ, List.set_cons_zero]
        refine canonG_nil ?_
        refine tailJ_one (t := 17) (ts' := [18, 19]) (ps' := []) (ns := []) (by kernel_rfl) rfl (by kernel_rfl) (by kernel_rfl) rfl ?_
        intro W11 hb
        have BW11 := Lib.hid (below_trans' BW10.out hb)
        have CW11 := Lib.hid (CW10.out.below hb)
        have KW11 := Lib.hid (KW10.out.below hb)
        clear hb
        have fr := KW11.out.fz
        have cr := KW11.out.cell
        have hne : ∀ k, blk c.A c.n k ∨ blk c.B c.m k → k ≠ q := HN.out
        have BA := Lib.hid (below_put (below_put BW11.out (p := ⟨q, 0, none⟩) hq (.slice c.A c.n c.c)) (p := ⟨q, 1, none⟩) hq (.slice c.B c.m c.d))
        have KA : Hid (At _ q c.arr 56) := Lib.hid ((KW11.out.set 0 (.slice c.A c.n c.c)).set 1 (.slice c.B c.m c.d))
        have CA := Lib.hid ((CW11.out.kb (S := fun x => x = q) (((Kp.refl (fun x => x = q) W11).set (p := ⟨q, 0, none⟩) (fun _ => rfl) (.slice c.A c.n c.c)).set (p := ⟨q, 1, none⟩) (fun _ => rfl) (.slice c.B c.m c.d))) (fun b hb => hne b (.inl hb)) (fun b hb => hne b (.inr hb)))
        go_wp2_with fail
        refine ⟨H0.out.below BA.out, canonG_nil ?_⟩
        generalize (W11.setCell ⟨q, 0, none⟩ (.slice c.A c.n c.c)).setCell ⟨q, 1, none⟩ (.slice c.B c.m c.d) = W12 at BA KA CA ⊢
        have BW12 := BA
        have KW12 := KA
        have CW12 := CA
        clear BA KA CA fr cr
        refine tailJ_one (t := 18) (ts' := [19]) (ps' := []) (ns := []) (by kernel_rfl) rfl (by kernel_rfl) (by kernel_rfl) rfl ?_
        intro W13 hb
        have BW13 := Lib.hid (below_trans' BW12.out hb)
        have CW13 := Lib.hid (CW12.out.below hb)
        have KW13 := Lib.hid (KW12.out.below hb)
        clear hb
        go_wp2_with fail
        refine ⟨H0.out.below BW13.out, canonG_nil ?_⟩
        refine tailJ_last (t := 19) (by kernel_rfl) rfl ?_
        intro W14 hb
        have BW14 := Lib.hid (below_trans' BW13.out hb)
        have CW14 := Lib.hid (CW13.out.below hb)
        have KW14 := Lib.hid (KW13.out.below hb)
        clear hb
        go_wp2_with fail
        refine NoPanic.normal ?_
        try clear hQ
        try clear hne
        try clear HN
        try clear HU
        try clear BW13
        try clear UW13
        try clear CW13
        try clear KW13
        try clear BW12
        try clear UW12
        try clear CW12
        try clear KW12
        try clear BW11
        try clear UW11
        try clear CW11
        try clear KW11
        try clear BW10
        try clear UW10
        try clear CW10
        try clear KW10
        try clear BW9
        try clear UW9
        try clear CW9
        try clear KW9
        try clear BW8
        try clear UW8
        try clear CW8
        try clear KW8
        try clear BW7
        try clear UW7
        try clear CW7
        try clear KW7
        try clear BW6
        try clear UW6
        try clear CW6
        try clear KW6
        try clear BW5
        try clear UW5
        try clear CW5
        try clear KW5
        revert hq
        revert CN
        revert HC
        revert KW14
        revert CW14
        revert BW14
        revert u
        revert c
        revert z
        revert q
        revert W14
        exact fin
    · skip
      intro W5 hb
      have BW5 : Hid (Below w.heap.size w W5) := Lib.hid (undrew hb)
      clear hb
      go_wp2_with fail
      have hb := belowA W5 (.cells noArr 56)
      have k := At.new W5 noArr 56
      have BA := Lib.hid (below_trans' BW5.out hb)
      have KA := Lib.hid k
      have hq := BW5.out.size
      clear hb k
      refine ⟨H0.out.below BA.out, canonG_nil ?_⟩
      generalize hQ : W5.heap.size = q at KA hq ⊢
      generalize W5.alloc (.cells noArr 56) = W6 at BA KA  ⊢
      have BW6 := BA
      have KW6 := KA
      clear BA KA 
      refine tailJ_one (t := 10) (ts' := [11, 17, 18, 19]) (ps' := [12, 13, 14, 15]) (ns := []) (by kernel_rfl) rfl (by kernel_rfl) (by kernel_rfl) rfl ?_
      intro W7 hb
      have BW7 := Lib.hid (below_trans' BW6.out hb)
      have KW7 := Lib.hid (KW6.out.below hb)
      clear hb
      go_wp2_with fail
      with_reducible refine (of2_any n len W7 HNN.out HLN.out).mono ?_
      rintro _ W8 ⟨u, hu, rfl, hin, hnew, hb⟩
      have BW8 := Lib.hid (below_trans' BW7.out hb)
      have KW8 := Lib.hid (KW7.out.below hb)
      have HU := Lib.hid hu
      have UW8 := Lib.hid hin
      clear hu hin hnew hb
      go_wp2_with fail
      refine ⟨H0.out.below BW8.out, canonG_nil ?_⟩
      refine tailJ_one (t := 11) (ts' := [17, 18, 19]) (ps' := []) (ns := [12, 13, 14, 15]) (by kernel_rfl) rfl (by kernel_rfl) (by kernel_rfl) rfl ?_
      intro W9 hb
      have BW9 := Lib.hid (below_trans' BW8.out hb)
      have UW9 := Lib.hid (UW8.out.below hb)
      have KW9 := Lib.hid (KW8.out.below hb)
      clear hb
      have hy2 := (H0.out.below BW9.out).hb y2 (List.mem_of_getElem? HB2.out)
      go_wp2_with fail
      with_reducible refine (cutB_any y2.v u W9 hy2 UW9.out).mono ?_
      rw [HU.out]
      rintro _ W10 ⟨c, z, hc, rfl, hci, hcn, hb⟩
      have BW10 := Lib.hid (below_trans' BW9.out hb)
      have KW10 := Lib.hid (KW9.out.below hb)
      have HC := Lib.hid hc
      have CW10 := Lib.hid hci
      have CN : Hid (c.New w.heap.size) := Lib.hid (hcn.mono BW9.out.size)
      have HN : Hid (∀ k, blk c.A c.n k ∨ blk c.B c.m k → k ≠ q) := Lib.hid (fun k hk e => by have h1 := hcn k hk; have h2 := KW9.out.lt; omega)
      clear hc hci hcn hb hy2
      go_wp2_with fail
      refine ⟨H0.out.below BW10.out, ?_⟩
      iterate 4
        refine canonG_read (v := ?_) rfl (by rfl) ?_ ?_
        rotate_left
        · intro W hS
          go_simp <;> with_reducible rfl
        simp only [List.getElem_toArray, List.getElem_cons_zero, List.getElem_cons_succ, Act.put, List.setIfInBounds_toArray, List.set_cons_succ, List.set_cons_zero]
      refine canonG_nil ?_
      refine tailJ_one (t := 17) (ts' := [18, 19]) (ps' := []) (ns := []) (by kernel_rfl) rfl (by kernel_rfl) (by kernel_rfl) rfl ?_
      intro W11 hb
      have BW11 := Lib.hid (below_trans' BW10.out hb)
      have CW11 := Lib.hid (CW10.out.below hb)
      have KW11 := Lib.hid (KW10.out.below hb)
      clear hb
      have fr := KW11.out.fz
      have cr := KW11.out.cell
      have hne : ∀ k, blk c.A c.n k ∨ blk c.B c.m k → k ≠ q := HN.out
      have BA := Lib.hid (below_put (below_put BW11.out (p := ⟨q, 0, none⟩) hq (.slice c.A c.n c.c)) (p := ⟨q, 1, none⟩) hq (.slice c.B c.m c.d))
      have KA : Hid (At _ q c.arr 56) := Lib.hid ((KW11.out.set 0 (.slice c.A c.n c.c)).set 1 (.slice c.B c.m c.d))
      have CA := Lib.hid ((CW11.out.kb (S := fun x => x = q) (((Kp.refl (fun x => x = q) W11).set (p := ⟨q, 0, none⟩) (fun _ => rfl) (.slice c.A c.n c.c)).set (p := ⟨q, 1, none⟩) (fun _ => rfl) (.slice c.B c.m c.d))) (fun b hb => hne b (.inl hb)) (fun b hb => hne b (.inr hb)))
      go_wp2_with fail
      refine ⟨H0.out.below BA.out, canonG_nil ?_⟩
      generalize (W11.setCell ⟨q, 0, none⟩ (.slice c.A c.n c.c)).setCell ⟨q, 1, none⟩ (.slice c.B c.m c.d) = W12 at BA KA CA ⊢
      have BW12 := BA
      have KW12 := KA
      have CW12 := CA
      clear BA KA CA fr cr
      refine tailJ_one (t := 18) (ts' := [19]) (ps' := []) (ns := []) (by kernel_rfl) rfl (by kernel_rfl) (by kernel_rfl) rfl ?_
      intro W13 hb
      have BW13 := Lib.hid (below_trans' BW12.out hb)
      have CW13 := Lib.hid (CW12.out.below hb)
      have KW13 := Lib.hid (KW12.out.below hb)
      clear hb
      go_wp2_with fail
      refine ⟨H0.out.below BW13.out, canonG_nil ?_⟩
      refine tailJ_last (t := 19) (by kernel_rfl) rfl ?_
      intro W14 hb
      have BW14 := Lib.hid (below_trans' BW13.out hb)
      have CW14 := Lib.hid (CW13.out.below hb)
      have KW14 := Lib.hid (KW13.out.below hb)
      clear hb
      go_wp2_with fail
      refine NoPanic.normal ?_
      try clear hQ
      try clear hne
      try clear HN
      try clear HU
      try clear BW13
      try clear UW13
      try clear CW13
      try clear KW13
      try clear BW12
      try clear UW12
      try clear CW12
      try clear KW12
      try clear BW11
      try clear UW11
      try clear CW11
      try clear KW11
      try clear BW10
      try clear UW10
      try clear CW10
      try clear KW10
      try clear BW9
      try clear UW9
      try clear CW9
      try clear KW9
      try clear BW8
      try clear UW8
      try clear CW8
      try clear KW8
      try clear BW7
      try clear UW7
      try clear CW7
      try clear KW7
      try clear BW6
      try clear UW6
      try clear CW6
      try clear KW6
      try clear BW5
      try clear UW5
      try clear CW5
      try clear KW5
      revert hq
      revert CN
      revert HC
      revert KW14
      revert CW14
      revert BW14
      revert u
      revert c
      revert z
      revert q
      revert W14
      exact fin
  · intro W5 q z c u HB5 HC5 HK5 HC HCN HQ5
    clear HQ5
    obtain ⟨D, hD⟩ : ∃ D, cutH y2.v.h (ofH n len) = D := ⟨_, rfl⟩
    have HD := Lib.hid hD
    rw [hD] at HC ⊢
    clear hD
    obtain ⟨er, hr⟩ := D
    dsimp only at HC ⊢
    by_cases hz : er = 0
    rotate_left
    · have h1 : (er == 0) = false := by simpa using hz
      have HI := Lib.hid (H0.out.below HB5.out)
      go_wp2_with fail
      go_ret
      exact retO_no (by rw [HD.out]; unfold cutX; rw [if_neg hz]) HI.out HB5.out
    subst hz
    go_wp2_with fail
    refine wp_region_hj [0, 1, 2, 3, 4, 5, 6, 7] [] [8] (fun W => v.In st p W ∧ At W q c.arr 56) mixed (by kernel_rfl) (fun W W' h hb => ⟨h.1.below hb, h.2.below hb⟩) ⟨(H0.out.below HB5.out).below (below_drew _), HK5.out.below (below_drew _)⟩ ?_
    iterate 8
      refine canonG_read (v := ?_) rfl (by rfl) ?_ ?_
      rotate_left
      · intro W hS
        have c2 : W.cell? ⟨p, 2, none⟩ = some (.slice v.A v.bs.length v.ca) := At.cell hS.1.room 2
        rw [HGB.out] at c2
        have cq := hS.2.cell
        go_simp <;> with_reducible rfl
      simp only [List.getElem_toArray, List.getElem_cons_zero, List.getElem_cons_succ, Act.put, List.setIfInBounds_toArray, List.set_cons_succ, List.set_cons_zero]
    refine canonG_nil ?_
    refine tailJ_last (t := 8) (by kernel_rfl) rfl ?_
    intro W10 hb
    have HB10 := Lib.hid (below_trans' HB5.out (undrew hb))
    have HC10 := Lib.hid (HC5.out.below (undrew hb))
    clear hb HB5 HC5 HK5
    have HI := Lib.hid (H0.out.below HB10.out)
    have hrob := HI.out.rb
    rw [HGB.out] at hrob
    have b1 : W10.cell? ⟨gb, k * 3 + 1, none⟩ = some (.slice y2.v.A y2.v.n y2.v.c) := own_cell nb_len (by omega) hrob HB2.out (j := 1) (by omega)
    have b2 : W10.cell? ⟨gb, k * 3 + 1 + 1, none⟩ = some (.slice y2.v.B y2.v.m y2.v.d) := own_cell nb_len (by omega) hrob HB2.out (j := 2) (by omega)
    have fb : ∀ j, W10.frozen? ⟨gb, j, none⟩ = false := fun j => hrob.frozenAt j
    obtain ⟨r1, r2⟩ := bun_end H0.out HI.out HB10.out HGB.out HB2.out HC10.out HCN.out
    have R1 := Lib.hid r1
    have R2 := Lib.hid r2
    clear hrob r1 r2
    go_wp2_with fail
    refine NoPanic.normal ?_
    go_wp2_with fail
    go_ret
    rw [HD.out]
    refine ⟨rfl, _, ?_, R1.out, R2.out⟩
    rw [rm_setB v k y2 c HB2.out, HC.out]
    rfl
end Go.Proofs.YtihhclhpjgeniaaGreatDoor
