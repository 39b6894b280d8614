/- Merged texts: Gu Ya Lk -/
import Derived.Test.YtihhclhpjgeniaaGreatDoorSA18
import Derived.Test.YtihhclhpjgeniaaGreatDoorSA27
import Derived.Test.YtihhclhpjgeniaaGreatDoorSA33
import Derived.Test.YtihhclhpjgeniaaGreatDoorSA36
import Derived.Test.YtihhclhpjgeniaaGreatDoorSA39
import Derived.Test.YtihhclhpjgeniaaGreatDoorSA41
import Derived.Test.YtihhclhpjgeniaaGreatDoorSA42
import Derived.Conc.MuLone
import Derived.KernelRfl
namespace Go.Proofs.YtihhclhpjgeniaaGreatDoor
open Go.RowKit Go.Sort
theorem RV.In.delB {v : RV} {s : Int} {p : Nat} {w : World} (h : v.In s p w) {g k : Nat} (hg : v.A = some ⟨g, 0, none⟩) (hk : k < v.bs.length) {w1 : World}
    (ho : w1.ownsRow 0 130 3 (.slice (some ⟨g, 0, none⟩) (v.bs.length - 1) v.ca) (v.bs.length - 1) (nbs (v.bs.take k ++ v.bs.drop (k + 1)))) (hgr : w.grownBy w1 (some g)) :
    ({ v with bs := v.bs.take k ++ v.bs.drop (k + 1) } : RV).In s p (w1.setCell ⟨p, 2, none⟩ (.slice (some ⟨g, 0, none⟩) (v.bs.length - 1) v.ca)) ∧ Kp (fun j => j = p ∨ j = g) w (w1.setCell ⟨p, 2, none⟩ (.slice (some ⟨g, 0, none⟩) (v.bs.length - 1) v.ca)) ∧
      (∀ j, ({ v with bs := v.bs.take k ++ v.bs.drop (k + 1) } : RV).C j → v.C j) := by
  obtain ⟨n1, n2, n3, n4⟩ := h.ne_b hg
  obtain ⟨m1, m2, m3, m4⟩ := h.ne_p
  have k1 := kp_of_grown hgr
  have k2 : Kp (fun j => j = p ∨ j = g) w (w1.setCell ⟨p, 2, none⟩ (.slice (some ⟨g, 0, none⟩) (v.bs.length - 1) v.ca)) := (k1.mono fun x e => .inr e).set (p := ⟨p, 2, none⟩) (fun _ => .inl rfl) _
  have hS : ∀ j, (j = p ∨ j = g) → v.F p j := by
    rintro j (rfl | rfl)
    · exact .inl rfl
    · exact .inr (.inr (.inl ⟨_, hg, rfl⟩))
  have hlen : (v.bs.take k ++ v.bs.drop (k + 1)).length = v.bs.length - 1 := by rw [List.length_append, List.length_take, List.length_drop]; omega
  have hmem : ∀ x, x ∈ v.bs.take k ++ v.bs.drop (k + 1) → x ∈ v.bs := fun x hx => by
    rcases List.mem_append.1 hx with h | h
    · exact List.mem_of_mem_take h
    · exact List.mem_of_mem_drop h
  have hC : ∀ j, ({ v with bs := v.bs.take k ++ v.bs.drop (k + 1) } : RV).C j → v.C j := by
    rintro j (⟨x, hx, hj⟩ | hj)
    · exact .inl ⟨x, hmem x hx, hj⟩
    · exact .inr hj
  refine ⟨⟨?_, ?_, ?_, ?_, ?_, ?_, ?_, fun j hj => h.sep j (hC j hj), fun j hj => h.g j (hj.imp id (hC j))⟩, k2, hC⟩
  · have := (h.room.kp k1 fun e => n1 e.symm).set 2 (.slice (some ⟨g, 0, none⟩) (v.bs.length - 1) v.ca)
    have e : ({ v with bs := v.bs.take k ++ v.bs.drop (k + 1) } : RV).cells s = (v.cells s).setIfInBounds 2 (.slice (some ⟨g, 0, none⟩) (v.bs.length - 1) v.ca) := by
      unfold RV.cells
      dsimp only
      rw [hlen, hg]
      simp
    rw [e]; exact this
  · show World.ownsRow _ 0 130 3 (.slice v.A (v.bs.take k ++ v.bs.drop (k + 1)).length v.ca) (v.bs.take k ++ v.bs.drop (k + 1)).length _
    rw [hlen, hg]
    exact row_far ho (fun j hj e => by
      obtain ⟨a, ha, hb⟩ := ownb hj
      injection ha with ha
      subst ha
      exact n1 (hb.trans e)) _
  · exact own_kp h.rw k2 fun j hj e => by
      obtain ⟨a, ha, hj'⟩ := ownb hj
      rcases e with e | e
      · exact m3 a ha (hj'.trans e)
      · exact n3 a ha (hj'.trans e)
  · exact own_kp h.rd k2 fun j hj e => by
      obtain ⟨a, ha, hj'⟩ := ownb hj
      rcases e with e | e
      · exact m4 a ha (hj'.trans e)
      · exact n4 a ha (hj'.trans e)
  · refine h.mp.kp k2 ?_
    rintro (e | e)
    · exact m1 e.symm
    · exact n2 e.symm
  · intro x hx
    exact (h.hb x (hmem x hx)).kb k2 (fun j hj e => h.sep j (.inl ⟨x, hmem x hx, .inl hj⟩) (hS j e)) (fun j hj e => h.sep j (.inl ⟨x, hmem x hx, .inr hj⟩) (hS j e))
  · exact fun x hx => ⟨(h.hw x hx).1.kb k2 (fun j hj e => h.sep j (.inr ⟨x, hx, hj⟩) (hS j e)), (h.hw x hx).2⟩
set_option maxRecDepth 100000 in
set_option maxHeartbeats 1000000 in
theorem mixO_any (v : RV) (st : Int) (p : Nat) (x : OV) (a b : List UInt8) (w : World) (h : v.In st p w) (hx : x.In w) (han : x.o.names[0]? = some a) (hbn : x.o.names[1]? = some b) (ht : Tab w) (hlb : v.bs.length ≤ 12) :
    Calls Tryz.prog 157 #[.pointer (some ⟨p, 0, none⟩), .agg x.arr] w (RetO v st p w (mixR v.rm a b)) := by
  have H0 := Lib.hid h
  have HS := Lib.hid (OS.box h hx ht)
  have HB := Lib.hid (belowA w (.cells x.arr 114))
  obtain ⟨ad, e1, -, hk1, -⟩ := hx.name hbn
  have hk0 : (0 : Int) < (x.n : Int) := by omega
  have hk3 : (1 : Int) < (x.n : Int) := by omega
  have hkn0 : 0 < x.n := by omega
  clear h hx ht hk1
  go_enter Tryz.func157, Tryz.ntmps157
  go_wp2_with fail
  refine gen_at (M := fun W => Code.wp Tryz.prog _ _ _ W) (fun W => OS st p w.heap.size v x W ∧ Below w.heap.size w W) ⟨HS.out, HB.out⟩ ?_
  clear HS HB
  rintro w1 ⟨hs, hb⟩
  have HS := Lib.hid hs
  have HB := Lib.hid hb
  clear hs hb
  refine wp_region_hj [0, 1, 2, 3, 4, 5, 6, 7, 8, 9, 10, 11] [] [12, 13] (fun W => OS st p w.heap.size v x W) mixed (by kernel_rfl) (fun W W' h hb => h.below hb) (HS.out.below (below_drew _)) ?_
  iterate 5
    refine canonG_read (v := ?_) rfl (by rfl) ?_ ?_
    rotate_left
    · intro W hS
      have ck := hS.k.cell
      have c3 : W.cell? ⟨w.heap.size, 3, none⟩ = some (.slice x.A x.n x.c) := hS.k.cell 3
      rw [e1] at c3
      obtain ⟨ad4, e4, hc4, -, -⟩ := hS.o.name (k := 0) han
      have z4 : ad4 = ad := by rw [e1] at e4; injection e4 with e4; exact e4.symm
      rw [z4, show ad.add 0 = ad from rfl] at hc4
      clear e4 z4
      go_simp <;> with_reducible rfl
    simp only [List.getElem_toArray, List.getElem_cons_zero, List.getElem_cons_succ, Act.put, List.setIfInBounds_toArray, List.set_cons_succ, List.set_cons_zero]
  refine canonG_call (v := .int .i64 (idxI (v.rm.bun a))) (f := 68) (args := #[.pointer (some ⟨p, 0, none⟩), .string (mkB a)]) rfl (by rfl) ?_ ?_ ?_
  · intro W hS
    go_simp
  · intro W hS
    exact bundleR_any v st p a W hS.a hlb
  simp only [List.getElem_toArray, List.getElem_cons_zero, List.getElem_cons_succ, Act.put, List.setIfInBounds_toArray, List.set_cons_succ, List.set_cons_zero]
  iterate 5
    refine canonG_read (v := ?_) rfl (by rfl) ?_ ?_
    rotate_left
    · intro W hS
      have ck := hS.k.cell
      have c3 : W.cell? ⟨w.heap.size, 3, none⟩ = some (.slice x.A x.n x.c) := hS.k.cell 3
      rw [e1] at c3
      obtain ⟨ad4, e4, hc4, -, -⟩ := hS.o.name (k := 1) hbn
      have z4 : ad4 = ad := by rw [e1] at e4; injection e4 with e4; exact e4.symm
      rw [z4, show ad.add 1 = ⟨ad.block, ad.off + 1, none⟩ from rfl] at hc4
      clear e4 z4
      go_simp <;> with_reducible rfl
    simp only [List.getElem_toArray, List.getElem_cons_zero, List.getElem_cons_succ, Act.put, List.setIfInBounds_toArray, List.set_cons_succ, List.set_cons_zero]
  refine canonG_call (v := .int .i64 (idxI (v.rm.bun b))) (f := 68) (args := #[.pointer (some ⟨p, 0, none⟩), .string (mkB b)]) rfl (by rfl) ?_ ?_ ?_
  · intro W hS
    go_simp
  · intro W hS
    exact bundleR_any v st p b W hS.a hlb
  simp only [List.getElem_toArray, List.getElem_cons_zero, List.getElem_cons_succ, Act.put, List.setIfInBounds_toArray, List.set_cons_succ, List.set_cons_zero]
  refine canonG_nil ?_
  refine tailJ_one (t := 12) (ts' := [13]) (ps' := []) (ns := []) (by kernel_rfl) rfl (by kernel_rfl) (by kernel_rfl) rfl ?_
  intro W2 hb
  have BW2 : Hid (Below w1.heap.size w1 W2) := Lib.hid (undrew hb)
  clear hb
  go_wp2_with fail
  refine ⟨HS.out.below BW2.out, canonG_nil ?_⟩
  refine tailJ_last (t := 13) (by kernel_rfl) rfl ?_
  intro W3 hb
  have BW3 := Lib.hid (below_trans' BW2.out hb)
  clear hb
  have HS3 := Lib.hid (HS.out.below BW3.out)
  have HB3 := Lib.hid (below_trans' HB.out BW3.out)
  clear HS HB BW2 BW3
  go_wp2_with fail
  refine NoPanic.normal ?_
  cases hba : v.rm.bun a with
  | none =>
    have HL : Hid (mixR v.rm a b = (5, v.rm)) := Lib.hid (by unfold mixR; rw [hba])
    rw [show idxI none = -1 from rfl]
    go_wp2_with fail
    go_ret
    exact retO_no HL.out HS3.out.a HB3.out
  | some i =>
  rw [show idxI (some i) = (i : Int) from rfl]
  have hin : ¬ ((i : Int) < 0) := by omega
  cases hbb : v.rm.bun b with
  | none =>
    have HL : Hid (mixR v.rm a b = (5, v.rm)) := Lib.hid (by unfold mixR; rw [hba, hbb])
    rw [show idxI none = -1 from rfl]
    go_wp2_with fail
    go_ret
    exact retO_no HL.out HS3.out.a HB3.out
  | some k =>
  rw [show idxI (some k) = (k : Int) from rfl]
  have hkn : ¬ ((k : Int) < 0) := by omega
  have HL0 : Hid (mixR v.rm a b = if i = k then (1, v.rm)
    else if (mixH (v.rm.hr i) (v.rm.hr k)).1 ≠ 0 then ((mixH (v.rm.hr i) (v.rm.hr k)).1, v.rm)
    else (0, { v.rm.setH i (mixH (v.rm.hr i) (v.rm.hr k)).2 with bs := (v.rm.setH i (mixH (v.rm.hr i) (v.rm.hr k)).2).bs.eraseIdx k })) := Lib.hid (by unfold mixR; rw [hba, hbb])
  by_cases hik : i = k
  · have hik1 : ((i : Int) == (k : Int)) = true := beq_iff_eq.2 (by omega)
    rw [if_pos hik] at HL0
    subst hik
    go_wp2_with fail
    go_ret
    exact retO_no HL0.out HS3.out.a HB3.out
  have hik1 : ((i : Int) == (k : Int)) = false := beq_false_of_ne (fun e => hik (by omega))
  rw [if_neg hik] at HL0
  obtain ⟨y1, hy1⟩ : ∃ y1 : NB, v.bs[i]? = some y1 := by
    rw [bun_idx] at hba
    obtain ⟨hk, _⟩ := List.findIdx?_eq_some_iff_getElem.1 hba
    exact ⟨v.bs[i], List.getElem?_eq_getElem hk⟩
  obtain ⟨y2, hy2, gb, hgb⟩ : ∃ y2 : NB, v.bs[k]? = some y2 ∧ ∃ gb, v.A = some ⟨gb, 0, none⟩ := by
    rw [bun_idx] at hbb
    obtain ⟨hk, _⟩ := List.findIdx?_eq_some_iff_getElem.1 hbb
    refine ⟨v.bs[k], List.getElem?_eq_getElem hk, ?_⟩
    exact own_form HS3.out.a.rb (by omega)
  have HB1 := Lib.hid hy1
  have HB2 := Lib.hid hy2
  have HGB := Lib.hid hgb
  have hkl : k < v.bs.length := (List.getElem?_eq_some_iff.1 hy2).1
  have hkl' : (k : Int) < (v.bs.length : Int) := by omega
  have hil : i < v.bs.length := (List.getElem?_eq_some_iff.1 hy1).1
  have hil' : (i : Int) < (v.bs.length : Int) := by omega
  have hh1 : v.rm.hr i = y1.v.h := by rw [bs_at, hy1]; rfl
  have hh2 : v.rm.hr k = y2.v.h := by rw [bs_at, hy2]; rfl
  rw [hh1, hh2] at HL0
  clear hy1 hy2 hgb hh1 hh2 hba hbb
  have HIK := Lib.hid hik
  go_wp2_with fail
  clear hik hik1
  refine wp_region_hj [0, 1, 2, 3, 4, 5, 6, 7, 8, 9, 10, 11, 12, 13, 14, 15] [17, 18, 19] [16, 20, 21, 22] (fun W => OS st p w.heap.size v x W) mixed (by kernel_rfl) (fun W W' h hb => h.below hb) (HS3.out.below (below_drew _)) ?_
  iterate 16
    refine canonG_read (v := ?_) rfl (by rfl) ?_ ?_
    rotate_left
    · intro W hS
      have hrob := hS.a.rb
      have c2 : W.cell? ⟨p, 2, none⟩ = some (.slice v.A v.bs.length v.ca) := At.cell hS.a.room 2
      rw [HGB.out] at c2 hrob
      have b1 : W.cell? ⟨gb, k * 3 + 1, none⟩ = some (.slice y2.v.A y2.v.n y2.v.c) := own_cell nb_len (by omega) hrob HB2.out (j := 1) (by omega)
      have b2 : W.cell? ⟨gb, k * 3 + 1 + 1, none⟩ = some (.slice y2.v.B y2.v.m y2.v.d) := own_cell nb_len (by omega) hrob HB2.out (j := 2) (by omega)
      have b3 : W.cell? ⟨gb, i * 3 + 1, none⟩ = some (.slice y1.v.A y1.v.n y1.v.c) := own_cell nb_len (by omega) hrob HB1.out (j := 1) (by omega)
      have b4 : W.cell? ⟨gb, i * 3 + 1 + 1, none⟩ = some (.slice y1.v.B y1.v.m y1.v.d) := own_cell nb_len (by omega) hrob HB1.out (j := 2) (by omega)
      clear hrob
      go_simp <;> with_reducible rfl
    simp only [List.getElem_toArray, List.getElem_cons_zero, List.getElem_cons_succ, Act.put, List.setIfInBounds_toArray, List.set_cons_succ, List.set_cons_zero]
  refine canonG_nil ?_
  apply later
  · intro fin
    refine tailJ_two (t := 16) (t' := 20) (ts1 := [20, 21, 22]) (ps1 := []) (ns1 := [17, 18, 19]) (ts2 := [16, 21, 22]) (ps2 := [17, 18, 19]) (ns2 := []) (by kernel_rfl) rfl (by kernel_rfl) (by kernel_rfl) rfl (by kernel_rfl) (by kernel_rfl) rfl rfl ?_ ?_
    · skip
      intro W6 hb
      have BW6 : Hid (Below W3.heap.size W3 W6) := Lib.hid (undrew hb)
      clear hb
      have hy1 := (HS3.out.below BW6.out).a.hb y1 (List.mem_of_getElem? HB1.out)
      have hy2 := (HS3.out.below BW6.out).a.hb y2 (List.mem_of_getElem? HB2.out)
      go_wp2_with fail
      with_reducible refine (mix_any y1.v y2.v W6 hy1 hy2).mono ?_
      rintro _ W7 ⟨c, hc, rfl, hci, hcn, hb⟩
      have HC := Lib.hid hc
      have BW7 := Lib.hid (below_trans' BW6.out hb)
      have C_cW7 := Lib.hid hci
      have N_c : Hid (c.New W3.heap.size) := Lib.hid (hcn.mono BW6.out.size)
      clear hb hci hcn hc hy1 hy2
      try clear BW6
      go_wp2_with fail
      refine ⟨HS3.out.below BW7.out, ?_⟩
      iterate 3
        refine canonG_read (v := ?_) rfl (by rfl) ?_ ?_
        rotate_left
        · intro W hS
          go_simp <;> with_reducible rfl
        simp only [List.getElem_toArray, List.getElem_cons_zero, List.getElem_cons_succ, Act.put, List.setIfInBounds_toArray, List.set_cons_succ, List.set_cons_zero]
      refine canonG_nil ?_
      refine tailJ_one (t := 20) (ts' := [21, 22]) (ps' := []) (ns := []) (by kernel_rfl) rfl (by kernel_rfl) (by kernel_rfl) rfl ?_
      intro W8 hb
      have BW8 := Lib.hid (below_trans' BW7.out hb)
      have C_cW8 := Lib.hid (C_cW7.out.below hb)
      clear hb
      try clear BW7 C_cW7
      go_wp2_with fail
      have hb := belowA W8 (.cells noArr 56)
      have k := At.new W8 noArr 56
      have BA := Lib.hid (below_trans' BW8.out hb)
      have KA := Lib.hid k
      have L_q := BW8.out.size
      have C_cA := Lib.hid (C_cW8.out.below hb)
      clear hb k
      refine ⟨HS3.out.below BA.out, canonG_nil ?_⟩
      generalize hQ : W8.heap.size = q at KA L_q ⊢
      generalize W8.alloc (.cells noArr 56) = W9 at BA KA C_cA ⊢
      have X_c_q : Hid (∀ k, blk c.A c.n k ∨ blk c.B c.m k → k ≠ q) := Lib.hid (fun k hk => by have := hk.elim C_cW8.out.r.blk_lt C_cW8.out.s.blk_lt; omega)
      clear hQ
      have BW9 := BA
      have K_qW9 := KA
      have C_cW9 := C_cA
      clear BA KA C_cA
      try clear BW8 C_cW8
      revert BW9
      revert C_cW9
      revert K_qW9
      revert L_q
      revert N_c
      revert X_c_q
      revert HC
      revert q
      revert c
      revert W9
      exact fin
    · skip
      intro W6 hb
      have BW6 : Hid (Below W3.heap.size W3 W6) := Lib.hid (undrew hb)
      clear hb
      go_wp2_with fail
      have hb := belowA W6 (.cells noArr 56)
      have k := At.new W6 noArr 56
      have BA := Lib.hid (below_trans' BW6.out hb)
      have KA := Lib.hid k
      have L_q := BW6.out.size
      clear hb k
      refine ⟨HS3.out.below BA.out, canonG_nil ?_⟩
      generalize hQ : W6.heap.size = q at KA L_q ⊢
      generalize W6.alloc (.cells noArr 56) = W7 at BA KA  ⊢
      clear hQ
      have BW7 := BA
      have K_qW7 := KA
      clear BA KA 
      try clear BW6
      refine tailJ_one (t := 16) (ts' := [21, 22]) (ps' := []) (ns := [17, 18, 19]) (by kernel_rfl) rfl (by kernel_rfl) (by kernel_rfl) rfl ?_
      intro W8 hb
      have BW8 := Lib.hid (below_trans' BW7.out hb)
      have K_qW8 := Lib.hid (K_qW7.out.below hb)
      clear hb
      try clear BW7 K_qW7
      have hy1 := (HS3.out.below BW8.out).a.hb y1 (List.mem_of_getElem? HB1.out)
      have hy2 := (HS3.out.below BW8.out).a.hb y2 (List.mem_of_getElem? HB2.out)
      go_wp2_with fail
      with_reducible refine (mix_any y1.v y2.v W8 hy1 hy2).mono ?_
      rintro _ W9 ⟨c, hc, rfl, hci, hcn, hb⟩
      have HC := Lib.hid hc
      have BW9 := Lib.hid (below_trans' BW8.out hb)
      have K_qW9 := Lib.hid (K_qW8.out.below hb)
      have C_cW9 := Lib.hid hci
      have N_c : Hid (c.New W3.heap.size) := Lib.hid (hcn.mono BW8.out.size)
      have X_c_q : Hid (∀ k, blk c.A c.n k ∨ blk c.B c.m k → k ≠ q) := Lib.hid (fun k hk e => by have h1 := hcn k hk; have h2 := K_qW8.out.lt; omega)
      clear hb hci hcn hc hy1 hy2
      try clear BW8 K_qW8
      go_wp2_with fail
      refine ⟨HS3.out.below BW9.out, ?_⟩
      iterate 3
        refine canonG_read (v := ?_) rfl (by rfl) ?_ ?_
        rotate_left
        · intro W hS
          go_simp <;> with_reducible rfl
        simp only [List.getElem_toArray, List.getElem_cons_zero, List.getElem_cons_succ, Act.put, List.setIfInBounds_toArray, List.set_cons_succ, List.set_cons_zero]
      refine canonG_nil ?_
      revert BW9
      revert C_cW9
      revert K_qW9
      revert L_q
      revert N_c
      revert X_c_q
      revert HC
      revert q
      revert c
      revert W9
      exact fin
  · intro W5 c q HC X_c_q N_c L_q K_qW5 C_cW5 BW5
    refine tailJ_one (t := 21) (ts' := [22]) (ps' := []) (ns := []) (by kernel_rfl) rfl (by kernel_rfl) (by kernel_rfl) rfl ?_
    intro W6 hb
    have BW6 := Lib.hid (below_trans' BW5.out hb)
    have C_cW6 := Lib.hid (C_cW5.out.below hb)
    have K_qW6 := Lib.hid (K_qW5.out.below hb)
    clear hb
    have fr := K_qW6.out.fz
    have cr := K_qW6.out.cell
    have BA := Lib.hid (below_put (below_put BW6.out (p := ⟨q, 0, none⟩) L_q (.slice c.A c.n c.c)) (p := ⟨q, 1, none⟩) L_q (.slice c.B c.m c.d))
    have K_qA : Hid (At _ q c.arr 56) := Lib.hid ((K_qW6.out.set 0 (.slice c.A c.n c.c)).set 1 (.slice c.B c.m c.d))
    have C_cA := Lib.hid ((C_cW6.out.kb (S := fun x => x = q) (((Kp.refl (fun x => x = q) W6).set (p := ⟨q, 0, none⟩) (fun _ => rfl) (.slice c.A c.n c.c)).set (p := ⟨q, 1, none⟩) (fun _ => rfl) (.slice c.B c.m c.d))) (fun j hj => X_c_q.out j (.inl hj)) (fun j hj => X_c_q.out j (.inr hj)))
    go_wp2_with fail
    refine ⟨HS3.out.below BA.out, canonG_nil ?_⟩
    generalize (W6.setCell ⟨q, 0, none⟩ (.slice c.A c.n c.c)).setCell ⟨q, 1, none⟩ (.slice c.B c.m c.d) = W7 at BA K_qA C_cA ⊢
    have BW7 := BA
    have K_qW7 := K_qA
    have C_cW7 := C_cA
    clear BA K_qA C_cA fr cr
    try clear BW6 K_qW6 C_cW6
    refine tailJ_last (t := 22) (by kernel_rfl) rfl ?_
    intro W8 hb
    have BW8 := Lib.hid (below_trans' BW7.out hb)
    have C_cW8 := Lib.hid (C_cW7.out.below hb)
    have K_qW8 := Lib.hid (K_qW7.out.below hb)
    clear hb
    go_wp2_with fail
    refine NoPanic.normal ?_
    have HI := Lib.hid (HS3.out.below BW8.out)
    have HBB := Lib.hid (below_trans' HB3.out BW8.out)
    rw [← HC.out] at HL0
    generalize (mixH y1.v.h y2.v.h).1 = er at HL0 ⊢
    by_cases hz : er = 0
    rotate_left
    · have HL : Hid (mixR v.rm a b = (er, v.rm)) := Lib.hid (by rw [HL0.out, if_pos hz])
      have h1 : (er != 0) = true := by simpa using hz
      go_wp2_with fail
      go_ret
      exact retO_no HL.out HI.out.a HBB.out
    subst hz
    rw [if_neg (by simp)] at HL0
    go_wp2_with fail
    refine wp_region_hj [0, 1, 2, 3, 4, 5, 6, 7] [] [8] (fun W => v.In st p W ∧ At W q c.arr 56) mixed (by kernel_rfl) (fun W W' h hb => ⟨h.1.below hb, h.2.below hb⟩) ⟨HI.out.a.below (below_drew _), K_qW8.out.below (below_drew _)⟩ ?_
    iterate 8
      refine canonG_read (v := ?_) rfl (by rfl) ?_ ?_
      rotate_left
      · intro W hS
        have c2 : W.cell? ⟨p, 2, none⟩ = some (.slice v.A v.bs.length v.ca) := At.cell hS.1.room 2
        rw [HGB.out] at c2
        have cq := hS.2.cell
        go_simp <;> with_reducible rfl
      simp only [List.getElem_toArray, List.getElem_cons_zero, List.getElem_cons_succ, Act.put, List.setIfInBounds_toArray, List.set_cons_succ, List.set_cons_zero]
    refine canonG_nil ?_
    refine tailJ_last (t := 8) (by kernel_rfl) rfl ?_
    intro W11 hb
    have HB11 := Lib.hid (below_trans' HBB.out (undrew hb))
    have HI11 := Lib.hid (HI.out.a.below (undrew hb))
    have HC11 := Lib.hid (C_cW8.out.below (undrew hb))
    clear hb
    have hrob := HI11.out.rb
    rw [HGB.out] at hrob
    have b1 : W11.cell? ⟨gb, i * 3 + 1, none⟩ = some (.slice y1.v.A y1.v.n y1.v.c) := own_cell nb_len (by omega) hrob HB1.out (j := 1) (by omega)
    have b2 : W11.cell? ⟨gb, i * 3 + 1 + 1, none⟩ = some (.slice y1.v.B y1.v.m y1.v.d) := own_cell nb_len (by omega) hrob HB1.out (j := 2) (by omega)
    have fb : ∀ j, W11.frozen? ⟨gb, j, none⟩ = false := fun j => hrob.frozenAt j
    have NCw : Hid (c.New w.heap.size) := Lib.hid (N_c.out.mono HB3.out.size)
    obtain ⟨r1, r2⟩ := bun_end H0.out HI11.out HB11.out HGB.out HB1.out HC11.out NCw.out
    have R1 := Lib.hid r1
    have R2 := Lib.hid r2
    clear hrob r1 r2
    go_wp2_with fail
    refine NoPanic.normal ?_
    clear b1 b2 fb
    generalize (W11.setCell ⟨gb, i * 3 + 1, none⟩ (.slice c.A c.n c.c)).setCell ⟨gb, i * 3 + 1 + 1, none⟩ (.slice c.B c.m c.d) = W12 at R1 R2 ⊢
    obtain ⟨v1, hv1⟩ : ∃ v1 : RV, v1 = { v with bs := v.bs.set i ⟨y1.name, c⟩ } := ⟨_, rfl⟩
    have hl1 : v1.bs.length = v.bs.length := by rw [hv1]; exact List.length_set
    have hA1 : v1.A = some ⟨gb, 0, none⟩ := by rw [hv1]; exact HGB.out
    have hca : v1.ca = v.ca := by rw [hv1]
    have HRM : Hid (v1.rm = v.rm.setH i c.h) := Lib.hid (by rw [hv1]; exact rm_setB v i y1 c HB1.out)
    rw [← hv1] at R1 R2
    clear hv1 hca
    have HL1 := Lib.hid hl1
    clear hl1
    have HA1 := Lib.hid hA1
    have c2 : W12.cell? ⟨p, 2, none⟩ = some (.slice (some ⟨gb, 0, none⟩) v1.bs.length v1.ca) := by rw [← HA1.out]; exact At.cell R1.out.room 2
    have v2 : IntKind.i64.wrap ((k : Int) + 1) = (k : Int) + 1 := IntWalk.i64_in _ (by omega)
    clear hA1
    go_wp2_with fail
    clear c2
    have hrow := R1.out.rb
    rw [HA1.out] at hrow
    with_reducible refine (delete_any 0 gb v1.bs.length v1.ca k v1.bs W12 hrow (by have := HL1.out; omega) (by have := HL1.out; omega)).mono ?_
    rintro _ W13 ⟨rfl, ho, hg⟩
    obtain ⟨r1, r2, r3⟩ := R1.out.delB HA1.out (by have := HL1.out; omega) ho hg
    have hrs := R2.out.step r2 (fun x _ e => by
      rcases e with rfl | rfl
      · exact .inl rfl
      · exact .inr (.inr (.inl ⟨_, HA1.out, rfl⟩))) (v2 := { v1 with bs := v1.bs.take k ++ v1.bs.drop (k + 1) }) (fun j hj => .inl hj) (fun j hj => .inl (r3 j hj))
    have HR1 := Lib.hid r1
    have HR2 := Lib.hid hrs
    have kg := kp_of_grown hg
    have hpg : p ≠ gb := fun e => (R1.out.ne_b HA1.out).1 e.symm
    have c2 : W13.cell? ⟨p, 2, none⟩ = some (.slice v1.A v1.bs.length v1.ca) := by
      have := At.cell (R1.out.room.kp kg hpg) 2
      exact this
    have fp : ∀ j, W13.frozen? ⟨p, j, none⟩ = false := (R1.out.room.kp kg hpg).fz
    clear r1 r2 r3 ho hg hrs kg hpg hrow
    go_wp2_with fail
    go_ret
    rw [HL0.out]
    refine ⟨rfl, _, ?_, HR1.out, HR2.out⟩
    have hm : ({ v1 with bs := v1.bs.take k ++ v1.bs.drop (k + 1) } : RV).rm = { v1.rm with bs := v1.rm.bs.eraseIdx k } := by
      show Rm.mk _ _ _ _ _ _ _ = Rm.mk _ _ _ _ _ _ _
      congr 1
      show List.map _ (v1.bs.take k ++ v1.bs.drop (k + 1)) = (v1.bs.map _).eraseIdx k
      rw [List.eraseIdx_eq_take_drop_succ, List.map_append, List.map_take, List.map_drop]
    rw [hm, HRM.out]
end Go.Proofs.YtihhclhpjgeniaaGreatDoor
namespace Go.Proofs.YtihhclhpjgeniaaGreatDoor
open Go.RowKit Go.Sort
theorem used_do (r : Rm) (o : Ordr) : (doO r o).2.used.length ≤ r.used.length + 1 := by
  unfold doO
  split
  · unfold buyR; (repeat' split) <;> simp [Rm.put]
  · unfold mixR; (repeat' split) <;> simp [Rm.setH]
  · unfold drawR; (repeat' split) <;> simp [Rm.put, Rm.setH]
  · unfold hackR; (repeat' split) <;> simp [Rm.setH]
  · unfold turnR; (repeat' split) <;> simp [Rm.setH]
  · unfold snapR; (repeat' split) <;> simp [Rm.setH]
  · unfold beginR; (repeat' split) <;> simp
  · unfold knotR; (repeat' split) <;> simp [Rm.setW]
  · unfold lendR; (repeat' split) <;> simp [Rm.setW]
  · unfold backR; (repeat' split) <;> simp [Rm.setW]
  · unfold mendR; (repeat' split) <;> simp [Rm.setW, Rm.setH]
  · unfold sellR; (repeat' split) <;> simp [Rm.setW]
  · unfold claimR; (repeat' split) <;> simp [Rm.setW]
  · unfold workR writeR; (repeat' split) <;> simp [Rm.setW]
  · simp
theorem used_doR (t : List UInt8) (r : Rm) : (doR t r).2.used.length ≤ r.used.length + 1 := by
  unfold doR
  split
  · simp
  · rename_i o _
    have := used_do r o
    split
    · simp
    · split
      · simp
      · exact this
theorem used_run (l : List (List UInt8)) : ∀ r : Rm, (runR l r).used.length ≤ r.used.length + l.length := by
  induction l with
  | nil => intro r; exact Nat.le_refl _
  | cons t l ih =>
    intro r
    have h1 := ih (doR t r).2
    have h2 := used_doR t r
    show (runR l (doR t r).2).used.length ≤ _
    rw [List.length_cons]
    omega
theorem Rm.Good.used {r : Rm} (h : r.Good) : r.used.length ≤ 300 := by
  have := used_run r.day rm0
  rw [h.again] at this
  have h2 := h.day
  simp [rm0] at this
  omega
theorem Rm.Good.bounds {r : Rm} (h : r.Good) : (0 ≤ r.lost ∧ r.lost ≤ 1000000000) ∧ (0 ≤ r.bought ∧ r.bought ≤ 1000000000) ∧ (-1000000000 ≤ r.cash ∧ r.cash ≤ 1000000000) := by
  have h1 := hairsB_in fun b hb => (h.ok.hb b hb).2
  have h2 := hairsW_in h.ok.hw
  have h3 := h.ok.bal
  have h4 := h.few.bought
  have h5 := h.few.cash
  have h6 := h.day
  have h7 := h.ok.lost
  omega
theorem readO_short : ∀ (fs : List Nat) (ws : List (List UInt8)) (o o' : Ordr), (∀ x ∈ ws, x.length ≤ 60) → (∀ a ∈ o.names, a.length ≤ 60) → o.style.length ≤ 60 → readO o fs ws = some o' → (∀ a ∈ o'.names, a.length ≤ 60) ∧ o'.style.length ≤ 60
  | [], ws, o, o', _, h1, h2, h => by
    have : o = o' := by simpa [readO] using h
    subst this
    exact ⟨h1, h2⟩
  | f :: fs, [], o, o', _, h1, h2, h => by
    have : o = o' := by simpa [readO] using h
    subst this
    exact ⟨h1, h2⟩
  | f :: fs, x :: ws, o, o', hw, h1, h2, h => by
    unfold readO at h
    split at h
    · rename_i o1 ho
      have hx := hw x (by simp)
      have hk : (∀ a ∈ o1.names, a.length ≤ 60) ∧ o1.style.length ≤ 60 := by
        unfold putW at ho
        split at ho
        · split at ho
          · injection ho with ho
            subst ho
            refine ⟨fun a ha => ?_, h2⟩
            rcases List.mem_append.1 ha with ha | ha
            · exact h1 a ha
            · rw [List.mem_singleton.1 ha]; exact hx
          · cases ho
        · split at ho
          · split at ho
            · injection ho with ho
              subst ho
              exact ⟨h1, h2⟩
            · cases ho
          · split at ho
            · cases ho
            · injection ho with ho
              subst ho
              exact ⟨h1, hx⟩
      exact readO_short fs ws o1 o' (fun x hx => hw x (by simp [hx])) hk.1 hk.2 h
    · cases h
theorem parseO_short {s : List UInt8} {o : Ordr} (h : parseO s = some o) : (∀ a ∈ o.names, a.length ≤ 60) ∧ o.style.length ≤ 60 := by
  have hf := (parseO_form h).2.2
  unfold parseO at h
  split at h
  · cases h
  · split at h
    · cases h
    · rename_i hd ws hp
      unfold wordsO at h
      split at h
      · split at h
        · exact readO_short _ ws _ o (fun x hx => Nat.le_trans (pcs_len (b := 32) (s := s) (by rw [hp]; simp [hx])) hf) (fun a ha => by cases ha) (Nat.zero_le _) h
        · cases h
      · cases h
theorem doO_any (v : RV) (st : Int) (p : Nat) (x : OV) (w : World) (h : v.In st p w) (hx : x.In w) (hxF : ∀ k, blk x.A x.n k ∨ blk x.B x.m k → ¬ v.F p k) (ho : OrdS x.o) (hs : (∀ a ∈ x.o.names, a.length ≤ 60) ∧ x.o.style.length ≤ 60) (ht : Tab w) (hg : v.rm.Good) :
    Calls Tryz.prog (doF x.o.kind) #[.pointer (some ⟨p, 0, none⟩), .agg x.arr] w (RetO v st p w (doO v.rm x.o)) := by
  obtain ⟨hlost, hbo, hcash⟩ := hg.bounds
  have hlb : v.bs.length ≤ 12 := by have := hg.ok.nb; simpa [RV.rm] using this
  have hlw : v.ws.length ≤ 12 := by have := hg.ok.nw; simpa [RV.rm] using this
  have hul : v.used.length ≤ 1000000 := Nat.le_trans hg.used (by decide)
  have hok : ∀ y ∈ v.ws, y.w.Ok := fun y hy => hg.ok.hw y.w (List.mem_map.2 ⟨y, hy, rfl⟩)
  have hnl : ∀ a, a ∈ x.o.names → a.length ≤ 1000000 := fun a ha => Nat.le_trans (hs.1 a ha) (by decide)
  have hs2 : x.o.style.length ≤ 400 := Nat.le_trans hs.2 (by decide)
  obtain ⟨o, form, f, A, n, c, B, m, d⟩ := x
  dsimp only at ho hs hnl hs2 hxF ⊢
  have ho' := ho
  cases ho with
  | nccc k n a b c hk hn ha hb hc =>
    rcases hk with rfl | rfl
    · exact buyO_any v st p _ n a b c w h hx rfl rfl ha hb hc (hnl n (by simp)) ht hul hlb hcash hbo
    · exact snapO_any v st p _ n a b c w h hx rfl rfl rfl ha hb hc ht hlb hlost hbo
  | nn n m hn hm => exact mixO_any v st p _ n m w h hx rfl rfl ht hlb
  | ncn n m a hn hm ha => exact drawO_any v st p _ n m a w h hx rfl rfl rfl ha (hnl m (by simp)) ht hul hlb
  | nc k n a hk hn ha =>
    rcases hk with rfl | rfl | rfl | rfl | rfl
    · exact hackO_any v st p _ n a w h hx rfl rfl rfl ha ht hlb hlost hbo
    · exact knotO_any v st p _ n a w h hx rfl rfl ha hok hlw
    · exact workO_any v st p _ n w h hx rfl ho' hs2 (by simp) hok ht hlw
    · exact backO_any v st p _ n a w h hx rfl rfl ha hok hlost ht hlw
    · exact sellO_any v st p _ n a w h hx rfl rfl ha hlw hcash
  | n k n hk hn =>
    rcases hk with rfl | rfl | rfl | rfl | rfl | rfl
    · exact turnO_any v st p _ n w h hx rfl rfl rfl ht hlb hlost hbo
    · exact workO_any v st p _ n w h hx rfl ho' hs2 (by simp) hok ht hlw
    · exact workO_any v st p _ n w h hx rfl ho' hs2 (by simp) hok ht hlw
    · exact workO_any v st p _ n w h hx rfl ho' hs2 (by simp) hok ht hlw
    · exact lendO_any v st p _ n w h hx rfl hlw
    · exact claimO_any v st p _ n w h hx rfl hok hcash hlw
  | nncc n m a b hn hm ha hb => exact beginO_any v st p _ n m a b w h hx hxF rfl rfl rfl ha hb (hnl n (by simp)) ht hul hlb hlw
  | ncc n a b hn ha hb => exact workO_any v st p _ n w h hx rfl ho' hs2 (by simp) hok ht hlw
  | ns n s hn hs' => exact workO_any v st p _ n w h hx rfl ho' hs2 (by simp) hok ht hlw
  | nnc n m a hn hm ha => exact mendO_any v st p _ n m a w h hx rfl rfl rfl ha hok ht hlb hlw
end Go.Proofs.YtihhclhpjgeniaaGreatDoor
namespace Go.Proofs.YtihhclhpjgeniaaGreatDoor
abbrev muL : Go.Conc.Locks.MuLink := { lock := 54, unlock := 55, ilock := 88, iunlock := 89, lockSlow := 151, unlockSlow := 154, disable := 147, enable := 149, acquire := 150, relMerge := 152, cas32 := 148, add32 := 153, tMutex := 104, tIMutex := 102, tPMutex := 153, tPIMutex := 220, tPI32 := 222, tUP := 224, tNoCopy := 99, tU32 := 100 }
theorem muLib : Go.Conc.Locks.MuLib Tryz.prog muL :=
  ⟨Tryz.func54, Tryz.func55, Tryz.func88, Tryz.func89, Tryz.func147, Tryz.func149, Tryz.func150, Tryz.func152, Tryz.func148, Tryz.func153, Tryz.underlying102, Tryz.runUnderlying102, Tryz.sizeOf102, Tryz.isAgg102, Tryz.zeroValue102, Tryz.underlying104, Tryz.runUnderlying104, Tryz.sizeOf104, Tryz.isAgg104, Tryz.zeroValue104, Tryz.underlying153, Tryz.runUnderlying153, Tryz.sizeOf153, Tryz.isAgg153, Tryz.zeroValue153, Tryz.underlying220, Tryz.runUnderlying220, Tryz.sizeOf220, Tryz.isAgg220, Tryz.zeroValue220, Tryz.underlying222, Tryz.runUnderlying222, Tryz.sizeOf222, Tryz.isAgg222, Tryz.zeroValue222, Tryz.underlying224, Tryz.runUnderlying224, Tryz.sizeOf224, Tryz.isAgg224, Tryz.zeroValue224, Tryz.underlying99, Tryz.runUnderlying99, Tryz.sizeOf99, Tryz.isAgg99, Tryz.zeroValue99, Tryz.underlying21, Tryz.runUnderlying21, Tryz.sizeOf21, Tryz.isAgg21, Tryz.zeroValue21, (by kernel_rfl)⟩
end Go.Proofs.YtihhclhpjgeniaaGreatDoor
