/- Merged texts: Gx -/
import Derived.Test.YtihhclhpjgeniaaGreatDoorSB29
namespace Go.Proofs.YtihhclhpjgeniaaGreatDoor
open Go.RowKit Go.Sort
def RetP (s : List UInt8) (w : World) (r : Ending) (w' : World) : Prop :=
 (match parseO s with
  | none => r = .returned (.tuple #[.agg oZ, .bool false])
  | some o => ∃ x : OV, x.o = o ∧ x.f = .func (.func (doF o.kind)) #[] #[] ∧ r = .returned (.tuple #[.agg x.arr, .bool true]) ∧ x.In w' ∧ ∀ k, blk x.A x.n k ∨ blk x.B x.m k → w.heap.size ≤ k) ∧ Below w.heap.size w w'
theorem retP_no {s : List UInt8} {w w' : World} (h : parseO s = none) (hb : Below w.heap.size w w') (_z : Value) : RetP s w (.returned (.tuple #[.agg oZ, .bool false])) w' := by
 unfold RetP
 rw [h]
 exact ⟨rfl, hb⟩
theorem cmd_form : ∀ x ∈ cmds, x.2.2 ≠ [] := by decide
theorem cmdOf_form {h : List UInt8} {k : Nat} {f : List Nat} (hc : cmdOf h = some (k, f)) : f ≠ [] := by
 unfold cmdOf at hc
 cases hf : cmds.find? (fun x => x.1 == h) with
 | none => rw [hf] at hc; cases hc
 | some x =>
  rw [hf] at hc
  have hc' : x.2 = (k, f) := Option.some.inj hc
  have := cmd_form x (List.mem_of_find?_eq_some hf)
  rw [hc'] at this
  exact this
theorem fm_char {f : List Nat} {j : Nat} {c : Nat} (hj : f[j]? = some c) (h : j < (mkB (fmV f)).size) : (((mkB (fmV f))[j]).toNat : Int) = if c = 0 then 110 else if c = 1 then 99 else 115 := by
 have e : (fmV f)[j]? = some ((mkB (fmV f))[j]) := byte_toList h
 generalize (mkB (fmV f))[j] = z at e ⊢
 unfold fmV at e
 rw [List.getElem?_map, hj] at e
 injection e with e
 rw [← e]
 dsimp only
 split
 ·rfl
 ·split <;> rfl
theorem retOE {fn : Func} {tmps : Array Value} {w : World} (p u : _root_.Go.Tmp) (g : Nat) (cs : Array Value) (h : fn.results = #[.cell p 114, .tmp u]) (hp : tmps.getD p undef = .pointer (some ⟨g, 0, none⟩)) (hg : At w g cs 114) (hc : cs.size = 6) :
  (results fn tmps).run Tryz.prog w = .ok (.tuple #[.agg cs, tmps.getD u undef]) w := by
 rw [results_cell_tmp h, hp]
 simp [asAddr, run_loadVar_row w g 114 114 cs (0, 0) _ hg Tryz.underlying114 rfl (by rw [hc]; kernel_rfl)]
theorem At.set6 {w : World} {q : Nat} {a b c d e f : Value} {t : TypeId} (h : At w q #[a, b, c, d, e, f] t) (a' b' c' d' e' f' : Value) : At ((((((w.setCell ⟨q, 0, none⟩ a').setCell ⟨q, 1, none⟩ b').setCell ⟨q, 2, none⟩ c').setCell ⟨q, 3, none⟩ d').setCell ⟨q, 4, none⟩ e').setCell ⟨q, 5, none⟩ f') q #[a', b', c', d', e', f'] t :=
 (((((h.set 0 a').set 1 b').set 2 c').set 3 d').set 4 e').set 5 f'
theorem below_put6 {B : Nat} {w w' : World} (h : Below B w w') {M : Nat} (h1 : B ≤ M) (a b c d e f : Value) : Below B w ((((((w'.setCell ⟨M, 0, none⟩ a).setCell ⟨M, 1, none⟩ b).setCell ⟨M, 2, none⟩ c).setCell ⟨M, 3, none⟩ d).setCell ⟨M, 4, none⟩ e).setCell ⟨M, 5, none⟩ f) :=
 below_put (below_put (below_put (below_put (below_put (below_put h (p := ⟨M, 0, none⟩) h1 a) (p := ⟨M, 1, none⟩) h1 b) (p := ⟨M, 2, none⟩) h1 c) (p := ⟨M, 3, none⟩) h1 d) (p := ⟨M, 4, none⟩) h1 e) (p := ⟨M, 5, none⟩) h1 f
set_option maxRecDepth 100000 in
set_option maxHeartbeats 1000000 in
theorem parseT_any (s : List UInt8) (m : Int) (w : World) (hm : w.cell? ⟨1, 0, none⟩ = some (.int .i64 m)) (hg : 8 ≤ w.heap.size) : Calls Tryz.prog 56 #[.string (mkB s)] w (RetP s w) := by
 have n1 := fun (w : World) (a : Addr) => run_store Tryz.prog w a .nilFunc .plain rfl
 have n2 := fun (w : World) (a : Addr) (f : Fn) (x y : Array Value) => run_store Tryz.prog w a (.func f x y) .plain rfl
 go_enter Tryz.func56, Tryz.ntmps56
 have hK2 := Lib.hid (At.new w oZ 114)
 have hB2 := Lib.hid (belowA w (.cells oZ 114))
 by_cases h1 : s.length < 1
 ·have HP : Hid (parseO s = none) := Lib.hid (by unfold parseO; rw [if_pos (.inl h1)])
  have h1' : (s.length : Int) < 1 := by omega
  go_wp2_with fail
  refine bodyPost_ret (retOE 2 3 w.heap.size oZ rfl rfl hK2.out rfl) rfl ?_
  exact retP_no HP.out hB2.out .nilFunc
 by_cases h2 : 60 < s.length
 ·have HP : Hid (parseO s = none) := Lib.hid (by unfold parseO; rw [if_pos (.inr h2)])
  have h1' : ¬ (s.length : Int) < 1 := by omega
  have h2' : (60 : Int) < (s.length : Int) := by omega
  go_wp2_with fail
  refine bodyPost_ret (retOE 2 3 w.heap.size oZ rfl rfl hK2.out rfl) rfl ?_
  exact retP_no HP.out hB2.out .nilFunc
 have hP0 : parseO s = match pcs 32 s with
  | [] => none
  | h :: ws => wordsO h ws := by unfold parseO; rw [if_neg (by omega)]; rfl
 obtain ⟨h, ws, hws⟩ : ∃ h ws, pcs 32 s = h :: ws := by
  cases hc : pcs 32 s with
  | nil => exact absurd hc (pcs_ne 32 s)
  | cons h ws => exact ⟨h, ws, rfl⟩
 rw [hws] at hP0
 have HP0 : Hid (parseO s = wordsO h ws) := Lib.hid hP0
 have HHL : Hid (h.length ≤ 1000000) := Lib.hid (by have := pcs_len (b := 32) (s := s) (w := h) (by rw [hws]; simp); omega)
 have HWL : Hid (∀ x ∈ ws, x.length ≤ 60) := Lib.hid (fun x hx => by have := pcs_len (b := 32) (s := s) (w := x) (by rw [hws]; simp [hx]); omega)
 have hsl : s.length ≤ 1000000 := by omega
 have HWN : Hid (ws.length ≤ 60) := Lib.hid (by have := pcs_many 32 s; rw [hws, List.length_cons] at this; omega)
 have h1' : ¬ (s.length : Int) < 1 := by omega
 have h2' : ¬ (60 : Int) < (s.length : Int) := by omega
 clear hP0
 go_wp2_with fail
 with_reducible refine (split_any 32 s m _ hsl ((World.cell?_alloc_past _ _ _ (by show 1 < w.heap.size; omega)).trans hm)).mono ?_
 rintro _ w3 ⟨rfl, hw3⟩
 have h3 : PWs w (h :: ws) w3 := by
  rw [hw3, hws]
  have hr := reads_new (w.alloc (.cells oZ 114)) (strL (h :: ws)) 9 1 (h :: ws).length (by rw [strL_len]; omega)
  have hz : (w.alloc (.cells oZ 114)).heap.size = w.heap.size + 1 := World.size_alloc _ _
  rw [hz] at hr
  exact ⟨hK2.out.al _, hr, below_trans' hB2.out (belowA _ _)⟩
 rw [hws, World.size_alloc]
 clear h1 h2 h1' h2' hsl hK2 hB2 hw3
 have HS3 := Lib.hid h3
 have HS3b := Lib.hid h3.b.size
 have hlen : (h :: ws).length = ws.length + 1 := rfl
 rw [hlen]
 clear h3 hws hlen hm
 have hl0 : (0 : Int) < (ws.length : Int) + 1 := by omega
 go_wp2_with fail
 cases hc : cmdOf h with
 | none =>
  have HP : Hid (parseO s = none) := Lib.hid (by rw [HP0.out]; unfold wordsO; rw [hc])
  have HCV : Hid (cmdV h = .agg #[.int .i64 0, .string (ByteArray.mk #[]), .nilFunc] ∧ (cmdOf h).isSome = false) := Lib.hid ⟨by unfold cmdV; rw [hc]; rfl, by rw [hc]; rfl⟩
  clear hc
  refine wp_region_hj [1, 2, 3] [5, 6, 7] [0, 4, 8, 9, 10] (fun W => PWs w (h :: ws) W) mixed (by kernel_rfl) (fun W W' h hb => h.below hb) (HS3.out.below (below_drew _)) ?_
  iterate 3
   refine canonG_read (v := ?_) rfl (by rfl) ?_ ?_
   rotate_left
   ·intro W hS
    have c0 : W.cell? ⟨w.heap.size + 1, 0, none⟩ = some (.string (mkB h)) := hS.cell (k := 0) rfl
    go_simp <;> with_reducible rfl
   simp only [List.getElem_toArray, List.getElem_cons_zero, List.getElem_cons_succ, Act.put, List.setIfInBounds_toArray, List.set_cons_succ, List.set_cons_zero]
  refine canonG_nil ?_
  apply later
  ·intro fin
   refine tailJ_two (t := 0) (t' := 8) (ts1 := [4, 8, 9, 10]) (ps1 := [5, 6, 7]) (ns1 := []) (ts2 := [0, 4, 9, 10]) (ps2 := [5, 6, 7]) (ns2 := []) (by kernel_rfl) rfl (by kernel_rfl) (by kernel_rfl) rfl (by kernel_rfl) (by kernel_rfl) rfl rfl ?_ ?_
   ·skip
    intro W6 hb
    have BW6 : Hid (Below w3.heap.size w3 W6) := Lib.hid (undrew hb)
    clear hb
    go_wp2_with fail
    with_reducible refine (commands_any W6).mono ?_
    rintro _ W7 ⟨b, rfl, hm, -, hb⟩
    have BW7 := Lib.hid (below_trans' BW6.out hb)
    have MW7 := Lib.hid hm
    clear hm hb BW6
    go_wp2_with fail
    refine ⟨HS3.out.below BW7.out, canonG_nil ?_⟩
    refine tailJ_two (t := 4) (t' := 8) (ts1 := [8, 9, 10]) (ps1 := []) (ns1 := [5, 6, 7]) (ts2 := [4, 9, 10]) (ps2 := [5, 6, 7]) (ns2 := []) (by kernel_rfl) rfl (by kernel_rfl) (by kernel_rfl) rfl (by kernel_rfl) (by kernel_rfl) rfl rfl ?_ ?_
    ·skip
     intro W8 hb
     have BW8 := Lib.hid (below_trans' BW7.out hb)
     have MW8 := Lib.hid (MW7.out.below hb)
     clear hb
     clear BW7 MW7
     have hl := MW8.out.look h HHL.out
     rw [HCV.out.1, HCV.out.2] at hl
     go_wp2_with fail
     clear hl
     refine ⟨HS3.out.below BW8.out, ?_⟩
     iterate 3
      refine canonG_read (v := ?_) rfl (by rfl) ?_ ?_
      rotate_left
      ·intro W hS
       go_simp <;> with_reducible rfl
      simp only [List.getElem_toArray, List.getElem_cons_zero, List.getElem_cons_succ, Act.put, List.setIfInBounds_toArray, List.set_cons_succ, List.set_cons_zero]
     refine canonG_nil ?_
     generalize hgw : W8 = W9 at BW8 MW8 ⊢
     clear hgw
     have BW9 := BW8
     have MW9 := MW8
     clear BW8 MW8
     refine tailJ_one (t := 8) (ts' := [9, 10]) (ps' := []) (ns := []) (by kernel_rfl) rfl (by kernel_rfl) (by kernel_rfl) rfl ?_
     intro W10 hb
     have BW10 := Lib.hid (below_trans' BW9.out hb)
     have MW10 := Lib.hid (MW9.out.below hb)
     clear hb
     clear BW9 MW9
     go_wp2_with fail
     have hb := belowA W10 (.cells #[.int .i64 0, .string (ByteArray.mk #[]), .nilFunc] 112)
     have k := At.new W10 #[.int .i64 0, .string (ByteArray.mk #[]), .nilFunc] 112
     have BA := Lib.hid (below_trans' BW10.out hb)
     have KA := Lib.hid k
     have L_q := BW10.out.size
     have MA := Lib.hid (MW10.out.below hb)
     clear hb k
     refine ⟨HS3.out.below BA.out, canonG_nil ?_⟩
     generalize hQ : W10.heap.size = q at KA L_q ⊢
     clear hQ
     generalize W10.alloc (.cells _ 112) = W11 at BA KA MA ⊢
     have BW11 := BA
     have KW11 := KA
     have MW11 := MA
     clear BA KA MA BW10 MW10
     revert L_q
     revert KW11
     revert MW11
     revert BW11
     revert q
     revert b
     revert W11
     exact fin
    ·skip
     intro W8 hb
     have BW8 := Lib.hid (below_trans' BW7.out hb)
     have MW8 := Lib.hid (MW7.out.below hb)
     clear hb
     clear BW7 MW7
     go_wp2_with fail
     have hb := belowA W8 (.cells #[.int .i64 0, .string (ByteArray.mk #[]), .nilFunc] 112)
     have k := At.new W8 #[.int .i64 0, .string (ByteArray.mk #[]), .nilFunc] 112
     have BA := Lib.hid (below_trans' BW8.out hb)
     have KA := Lib.hid k
     have L_q := BW8.out.size
     have MA := Lib.hid (MW8.out.below hb)
     clear hb k
     refine ⟨HS3.out.below BA.out, canonG_nil ?_⟩
     generalize hQ : W8.heap.size = q at KA L_q ⊢
     clear hQ
     generalize W8.alloc (.cells _ 112) = W9 at BA KA MA ⊢
     have BW9 := BA
     have KW9 := KA
     have MW9 := MA
     clear BA KA MA BW8 MW8
     refine tailJ_one (t := 4) (ts' := [9, 10]) (ps' := []) (ns := [5, 6, 7]) (by kernel_rfl) rfl (by kernel_rfl) (by kernel_rfl) rfl ?_
     intro W10 hb
     have BW10 := Lib.hid (below_trans' BW9.out hb)
     have MW10 := Lib.hid (MW9.out.below hb)
     have KW10 := Lib.hid (KW9.out.below hb)
     clear hb
     clear BW9 MW9 KW9
     have hl := MW10.out.look h HHL.out
     rw [HCV.out.1, HCV.out.2] at hl
     go_wp2_with fail
     clear hl
     refine ⟨HS3.out.below BW10.out, ?_⟩
     iterate 3
      refine canonG_read (v := ?_) rfl (by rfl) ?_ ?_
      rotate_left
      ·intro W hS
       go_simp <;> with_reducible rfl
      simp only [List.getElem_toArray, List.getElem_cons_zero, List.getElem_cons_succ, Act.put, List.setIfInBounds_toArray, List.set_cons_succ, List.set_cons_zero]
     refine canonG_nil ?_
     generalize hgw : W10 = W11 at BW10 MW10 KW10 ⊢
     clear hgw
     have BW11 := BW10
     have MW11 := MW10
     have KW11 := KW10
     clear BW10 MW10 KW10
     revert L_q
     revert KW11
     revert MW11
     revert BW11
     revert q
     revert b
     revert W11
     exact fin
   ·skip
    intro W6 hb
    have BW6 : Hid (Below w3.heap.size w3 W6) := Lib.hid (undrew hb)
    clear hb
    go_wp2_with fail
    have hb := belowA W6 (.cells #[.int .i64 0, .string (ByteArray.mk #[]), .nilFunc] 112)
    have k := At.new W6 #[.int .i64 0, .string (ByteArray.mk #[]), .nilFunc] 112
    have BA := Lib.hid (below_trans' BW6.out hb)
    have KA := Lib.hid k
    have L_q := BW6.out.size
    clear hb k
    refine ⟨HS3.out.below BA.out, canonG_nil ?_⟩
    generalize hQ : W6.heap.size = q at KA L_q ⊢
    clear hQ
    generalize W6.alloc (.cells _ 112) = W7 at BA KA  ⊢
    have BW7 := BA
    have KW7 := KA
    clear BA KA  BW6
    refine tailJ_one (t := 0) (ts' := [4, 9, 10]) (ps' := [5, 6, 7]) (ns := []) (by kernel_rfl) rfl (by kernel_rfl) (by kernel_rfl) rfl ?_
    intro W8 hb
    have BW8 := Lib.hid (below_trans' BW7.out hb)
    have KW8 := Lib.hid (KW7.out.below hb)
    clear hb
    clear BW7 KW7
    go_wp2_with fail
    with_reducible refine (commands_any W8).mono ?_
    rintro _ W9 ⟨b, rfl, hm, -, hb⟩
    have BW9 := Lib.hid (below_trans' BW8.out hb)
    have MW9 := Lib.hid hm
    have KW9 := Lib.hid (KW8.out.below hb)
    clear hm hb BW8 KW8
    go_wp2_with fail
    refine ⟨HS3.out.below BW9.out, canonG_nil ?_⟩
    refine tailJ_one (t := 4) (ts' := [9, 10]) (ps' := []) (ns := [5, 6, 7]) (by kernel_rfl) rfl (by kernel_rfl) (by kernel_rfl) rfl ?_
    intro W10 hb
    have BW10 := Lib.hid (below_trans' BW9.out hb)
    have MW10 := Lib.hid (MW9.out.below hb)
    have KW10 := Lib.hid (KW9.out.below hb)
    clear hb
    clear BW9 MW9 KW9
    have hl := MW10.out.look h HHL.out
    rw [HCV.out.1, HCV.out.2] at hl
    go_wp2_with fail
    clear hl
    refine ⟨HS3.out.below BW10.out, ?_⟩
    iterate 3
     refine canonG_read (v := ?_) rfl (by rfl) ?_ ?_
     rotate_left
     ·intro W hS
      go_simp <;> with_reducible rfl
     simp only [List.getElem_toArray, List.getElem_cons_zero, List.getElem_cons_succ, Act.put, List.setIfInBounds_toArray, List.set_cons_succ, List.set_cons_zero]
    refine canonG_nil ?_
    generalize hgw : W10 = W11 at BW10 MW10 KW10 ⊢
    clear hgw
    have BW11 := BW10
    have MW11 := MW10
    have KW11 := KW10
    clear BW10 MW10 KW10
    revert L_q
    revert KW11
    revert MW11
    revert BW11
    revert q
    revert b
    revert W11
    exact fin
  ·intro W5 b q BW5 MW5 KW5 L_q
   refine tailJ_one (t := 9) (ts' := [10]) (ps' := []) (ns := []) (by kernel_rfl) rfl (by kernel_rfl) (by kernel_rfl) rfl ?_
   intro W6 hb
   have B6 := Lib.hid (below_trans' BW5.out hb)
   have K6 := Lib.hid (KW5.out.below hb)
   clear hb BW5 KW5 MW5
   have fr := K6.out.fz
   have cr := K6.out.cell
   have BA := Lib.hid (below_put (below_put (below_put B6.out (p := ⟨q, 0, none⟩) L_q (.int .i64 0)) (p := ⟨q, 1, none⟩) L_q (.string (ByteArray.mk #[]))) (p := ⟨q, 2, none⟩) L_q (.nilFunc))
   have KA : Hid (At _ q #[.int .i64 0, .string (ByteArray.mk #[]), .nilFunc] 112) := Lib.hid (((K6.out.set 0 (.int .i64 0)).set 1 (.string (ByteArray.mk #[]))).set 2 (.nilFunc))
   go_wp2_with fail
   refine ⟨HS3.out.below BA.out, canonG_nil ?_⟩
   generalize ((W6.setCell ⟨q, 0, none⟩ (.int .i64 0)).setCell ⟨q, 1, none⟩ (.string (ByteArray.mk #[]))).setCell ⟨q, 2, none⟩ (.nilFunc) = W7 at BA KA ⊢
   clear fr cr B6 K6
   refine tailJ_last (t := 10) (by kernel_rfl) rfl ?_
   intro w4 hb
   have HS4 := Lib.hid (HS3.out.below (below_trans' BA.out hb))
   have K5 := Lib.hid (KA.out.below hb)
   clear BA KA hb HS3
   go_wp2_with fail
   refine NoPanic.normal ?_
   have cr := HS4.out.k2.cell
   have fr := HS4.out.k2.fz
   go_wp2_with fail
   refine bodyPost_ret (retOE 2 3 w.heap.size oZ rfl rfl (HS4.out.k2.set6 _ _ _ _ _ _) rfl) rfl ?_
   exact retP_no HP.out (below_put6 HS4.out.b (Nat.le_refl _) _ _ _ _ _ _) .nilFunc
 | some c =>
  obtain ⟨k, f⟩ := c
  have HCV : Hid (cmdV h = .agg #[.int .i64 k, .string (mkB (fmV f)), .func (.func (doF k)) #[] #[]] ∧ (cmdOf h).isSome = true) := Lib.hid ⟨by unfold cmdV; rw [hc]; rfl, by rw [hc]; rfl⟩
  have HP1 : Hid (parseO s = if ws.length = f.length then readO ⟨k, [], [], []⟩ f ws else none) := Lib.hid (by rw [HP0.out]; unfold wordsO; rw [hc])
  have HFN := Lib.hid (cmdOf_form hc)
  clear hc
  refine wp_region_hj [1, 2, 3] [5, 6, 7] [0, 4, 8, 9, 10] (fun W => PWs w (h :: ws) W) mixed (by kernel_rfl) (fun W W' h hb => h.below hb) (HS3.out.below (below_drew _)) ?_
  iterate 3
   refine canonG_read (v := ?_) rfl (by rfl) ?_ ?_
   rotate_left
   ·intro W hS
    have c0 : W.cell? ⟨w.heap.size + 1, 0, none⟩ = some (.string (mkB h)) := hS.cell (k := 0) rfl
    go_simp <;> with_reducible rfl
   simp only [List.getElem_toArray, List.getElem_cons_zero, List.getElem_cons_succ, Act.put, List.setIfInBounds_toArray, List.set_cons_succ, List.set_cons_zero]
  refine canonG_nil ?_
  apply later
  ·intro fin
   refine tailJ_two (t := 0) (t' := 8) (ts1 := [4, 8, 9, 10]) (ps1 := [5, 6, 7]) (ns1 := []) (ts2 := [0, 4, 9, 10]) (ps2 := [5, 6, 7]) (ns2 := []) (by kernel_rfl) rfl (by kernel_rfl) (by kernel_rfl) rfl (by kernel_rfl) (by kernel_rfl) rfl rfl ?_ ?_
   ·skip
    intro W6 hb
    have BW6 : Hid (Below w3.heap.size w3 W6) := Lib.hid (undrew hb)
    clear hb
    go_wp2_with fail
    with_reducible refine (commands_any W6).mono ?_
    rintro _ W7 ⟨b, rfl, hm, -, hb⟩
    have BW7 := Lib.hid (below_trans' BW6.out hb)
    have MW7 := Lib.hid hm
    clear hm hb BW6
    go_wp2_with fail
    refine ⟨HS3.out.below BW7.out, canonG_nil ?_⟩
    refine tailJ_two (t := 4) (t' := 8) (ts1 := [8, 9, 10]) (ps1 := []) (ns1 := [5, 6, 7]) (ts2 := [4, 9, 10]) (ps2 := [5, 6, 7]) (ns2 := []) (by kernel_rfl) rfl (by kernel_rfl) (by kernel_rfl) rfl (by kernel_rfl) (by kernel_rfl) rfl rfl ?_ ?_
    ·skip
     intro W8 hb
     have BW8 := Lib.hid (below_trans' BW7.out hb)
     have MW8 := Lib.hid (MW7.out.below hb)
     clear hb
     clear BW7 MW7
     have hl := MW8.out.look h HHL.out
     rw [HCV.out.1, HCV.out.2] at hl
     go_wp2_with fail
     clear hl
     refine ⟨HS3.out.below BW8.out, ?_⟩
     iterate 3
      refine canonG_read (v := ?_) rfl (by rfl) ?_ ?_
      rotate_left
      ·intro W hS
       go_simp <;> with_reducible rfl
      simp only [List.getElem_toArray, List.getElem_cons_zero, List.getElem_cons_succ, Act.put, List.setIfInBounds_toArray, List.set_cons_succ, List.set_cons_zero]
     refine canonG_nil ?_
     generalize hgw : W8 = W9 at BW8 MW8 ⊢
     clear hgw
     have BW9 := BW8
     have MW9 := MW8
     clear BW8 MW8
     refine tailJ_one (t := 8) (ts' := [9, 10]) (ps' := []) (ns := []) (by kernel_rfl) rfl (by kernel_rfl) (by kernel_rfl) rfl ?_
     intro W10 hb
     have BW10 := Lib.hid (below_trans' BW9.out hb)
     have MW10 := Lib.hid (MW9.out.below hb)
     clear hb
     clear BW9 MW9
     go_wp2_with fail
     have hb := belowA W10 (.cells #[.int .i64 0, .string (ByteArray.mk #[]), .nilFunc] 112)
     have k := At.new W10 #[.int .i64 0, .string (ByteArray.mk #[]), .nilFunc] 112
     have BA := Lib.hid (below_trans' BW10.out hb)
     have KA := Lib.hid k
     have L_q := BW10.out.size
     have MA := Lib.hid (MW10.out.below hb)
     clear hb k
     refine ⟨HS3.out.below BA.out, canonG_nil ?_⟩
     generalize hQ : W10.heap.size = q at KA L_q ⊢
     clear hQ
     generalize W10.alloc (.cells _ 112) = W11 at BA KA MA ⊢
     have BW11 := BA
     have KW11 := KA
     have MW11 := MA
     clear BA KA MA BW10 MW10
     revert L_q
     revert KW11
     revert MW11
     revert BW11
     revert q
     revert b
     revert W11
     exact fin
    ·skip
     intro W8 hb
     have BW8 := Lib.hid (below_trans' BW7.out hb)
     have MW8 := Lib.hid (MW7.out.below hb)
     clear hb
     clear BW7 MW7
     go_wp2_with fail
     have hb := belowA W8 (.cells #[.int .i64 0, .string (ByteArray.mk #[]), .nilFunc] 112)
     have k := At.new W8 #[.int .i64 0, .string (ByteArray.mk #[]), .nilFunc] 112
     have BA := Lib.hid (below_trans' BW8.out hb)
     have KA := Lib.hid k
     have L_q := BW8.out.size
     have MA := Lib.hid (MW8.out.below hb)
     clear hb k
     refine ⟨HS3.out.below BA.out, canonG_nil ?_⟩
     generalize hQ : W8.heap.size = q at KA L_q ⊢
     clear hQ
     generalize W8.alloc (.cells _ 112) = W9 at BA KA MA ⊢
     have BW9 := BA
     have KW9 := KA
     have MW9 := MA
     clear BA KA MA BW8 MW8
     refine tailJ_one (t := 4) (ts' := [9, 10]) (ps' := []) (ns := [5, 6, 7]) (by kernel_rfl) rfl (by kernel_rfl) (by kernel_rfl) rfl ?_
     intro W10 hb
     have BW10 := Lib.hid (below_trans' BW9.out hb)
     have MW10 := Lib.hid (MW9.out.below hb)
     have KW10 := Lib.hid (KW9.out.below hb)
     clear hb
     clear BW9 MW9 KW9
     have hl := MW10.out.look h HHL.out
     rw [HCV.out.1, HCV.out.2] at hl
     go_wp2_with fail
     clear hl
     refine ⟨HS3.out.below BW10.out, ?_⟩
     iterate 3
      refine canonG_read (v := ?_) rfl (by rfl) ?_ ?_
      rotate_left
      ·intro W hS
       go_simp <;> with_reducible rfl
      simp only [List.getElem_toArray, List.getElem_cons_zero, List.getElem_cons_succ, Act.put, List.setIfInBounds_toArray, List.set_cons_succ, List.set_cons_zero]
     refine canonG_nil ?_
     generalize hgw : W10 = W11 at BW10 MW10 KW10 ⊢
     clear hgw
     have BW11 := BW10
     have MW11 := MW10
     have KW11 := KW10
     clear BW10 MW10 KW10
     revert L_q
     revert KW11
     revert MW11
     revert BW11
     revert q
     revert b
     revert W11
     exact fin
   ·skip
    intro W6 hb
    have BW6 : Hid (Below w3.heap.size w3 W6) := Lib.hid (undrew hb)
    clear hb
    go_wp2_with fail
    have hb := belowA W6 (.cells #[.int .i64 0, .string (ByteArray.mk #[]), .nilFunc] 112)
    have k := At.new W6 #[.int .i64 0, .string (ByteArray.mk #[]), .nilFunc] 112
    have BA := Lib.hid (below_trans' BW6.out hb)
    have KA := Lib.hid k
    have L_q := BW6.out.size
    clear hb k
    refine ⟨HS3.out.below BA.out, canonG_nil ?_⟩
    generalize hQ : W6.heap.size = q at KA L_q ⊢
    clear hQ
    generalize W6.alloc (.cells _ 112) = W7 at BA KA  ⊢
    have BW7 := BA
    have KW7 := KA
    clear BA KA  BW6
    refine tailJ_one (t := 0) (ts' := [4, 9, 10]) (ps' := [5, 6, 7]) (ns := []) (by kernel_rfl) rfl (by kernel_rfl) (by kernel_rfl) rfl ?_
    intro W8 hb
    have BW8 := Lib.hid (below_trans' BW7.out hb)
    have KW8 := Lib.hid (KW7.out.below hb)
    clear hb
    clear BW7 KW7
    go_wp2_with fail
    with_reducible refine (commands_any W8).mono ?_
    rintro _ W9 ⟨b, rfl, hm, -, hb⟩
    have BW9 := Lib.hid (below_trans' BW8.out hb)
    have MW9 := Lib.hid hm
    have KW9 := Lib.hid (KW8.out.below hb)
    clear hm hb BW8 KW8
    go_wp2_with fail
    refine ⟨HS3.out.below BW9.out, canonG_nil ?_⟩
    refine tailJ_one (t := 4) (ts' := [9, 10]) (ps' := []) (ns := [5, 6, 7]) (by kernel_rfl) rfl (by kernel_rfl) (by kernel_rfl) rfl ?_
    intro W10 hb
    have BW10 := Lib.hid (below_trans' BW9.out hb)
    have MW10 := Lib.hid (MW9.out.below hb)
    have KW10 := Lib.hid (KW9.out.below hb)
    clear hb
    clear BW9 MW9 KW9
    have hl := MW10.out.look h HHL.out
    rw [HCV.out.1, HCV.out.2] at hl
    go_wp2_with fail
    clear hl
    refine ⟨HS3.out.below BW10.out, ?_⟩
    iterate 3
     refine canonG_read (v := ?_) rfl (by rfl) ?_ ?_
     rotate_left
     ·intro W hS
      go_simp <;> with_reducible rfl
     simp only [List.getElem_toArray, List.getElem_cons_zero, List.getElem_cons_succ, Act.put, List.setIfInBounds_toArray, List.set_cons_succ, List.set_cons_zero]
    refine canonG_nil ?_
    generalize hgw : W10 = W11 at BW10 MW10 KW10 ⊢
    clear hgw
    have BW11 := BW10
    have MW11 := MW10
    have KW11 := KW10
    clear BW10 MW10 KW10
    revert L_q
    revert KW11
    revert MW11
    revert BW11
    revert q
    revert b
    revert W11
    exact fin
  ·intro W5 b q BW5 MW5 KW5 L_q
   refine tailJ_one (t := 9) (ts' := [10]) (ps' := []) (ns := []) (by kernel_rfl) rfl (by kernel_rfl) (by kernel_rfl) rfl ?_
   intro W6 hb
   have B6 := Lib.hid (below_trans' BW5.out hb)
   have K6 := Lib.hid (KW5.out.below hb)
   clear hb BW5 KW5 MW5
   have fr := K6.out.fz
   have cr := K6.out.cell
   have BA := Lib.hid (below_put (below_put (below_put B6.out (p := ⟨q, 0, none⟩) L_q (.int .i64 k)) (p := ⟨q, 1, none⟩) L_q (.string (mkB (fmV f)))) (p := ⟨q, 2, none⟩) L_q (.func (.func (doF k)) #[] #[]))
   have KA : Hid (At _ q #[.int .i64 k, .string (mkB (fmV f)), .func (.func (doF k)) #[] #[]] 112) := Lib.hid (((K6.out.set 0 (.int .i64 k)).set 1 (.string (mkB (fmV f)))).set 2 (.func (.func (doF k)) #[] #[]))
   go_wp2_with fail
   refine ⟨HS3.out.below BA.out, canonG_nil ?_⟩
   generalize ((W6.setCell ⟨q, 0, none⟩ (.int .i64 k)).setCell ⟨q, 1, none⟩ (.string (mkB (fmV f)))).setCell ⟨q, 2, none⟩ (.func (.func (doF k)) #[] #[]) = W7 at BA KA ⊢
   clear fr cr B6 K6
   refine tailJ_last (t := 10) (by kernel_rfl) rfl ?_
   intro w4 hb
   have HS4 := Lib.hid (HS3.out.below (below_trans' BA.out hb))
   have K5 := Lib.hid (KA.out.below hb)
   clear BA KA hb HS3
   go_wp2_with fail
   refine NoPanic.normal ?_
   have HFL : Hid ((fmV f).length = f.length) := Lib.hid (by unfold fmV; rw [List.length_map])
   have hfl := HFL.out
   have ck := K5.out.cell
   have v1 : IntKind.i64.wrap ((ws.length : Int) + 1 - 1) = (ws.length : Int) := by rw [show (ws.length : Int) + 1 - 1 = ws.length by omega]; exact IntWalk.i64_in _ (by have := HWN.out; omega)
   have v2 : wrap64 (ws.length : Int) = (ws.length : Int) := IntWalk.wrap64_in _ (by have := HWN.out; omega)
   by_cases hlf : ws.length = f.length
   rotate_left
   ·have HP : Hid (parseO s = none) := Lib.hid (by rw [HP1.out, if_neg hlf])
    have hb1 : ((ws.length : Int) != (f.length : Int)) = true := by simp; omega
    have cr := HS4.out.k2.cell
    have fr := HS4.out.k2.fz
    go_wp2_with fail
    refine bodyPost_ret (retOE 2 3 w.heap.size oZ rfl rfl (HS4.out.k2.set6 _ _ _ _ _ _) rfl) rfl ?_
    exact retP_no HP.out (below_put6 HS4.out.b (Nat.le_refl _) _ _ _ _ _ _) .nilFunc
   have hb1 : ((ws.length : Int) != (f.length : Int)) = false := by simp; omega
   have HLF := Lib.hid hlf
   clear hlf
   have hw0 : ¬ ws = [] := fun e => HFN.out (List.eq_nil_of_length_eq_zero (by rw [← HLF.out, e]; rfl))
   have HL4 : Hid (w.heap.size + 1 < w4.heap.size ∧ q < w4.heap.size) := Lib.hid ⟨by have := HS4.out.wd.2 (by simp); obtain ⟨a, e, hb, _⟩ := this; injection e with e; subst e; exact hb, K5.out.lt⟩
   have HPL : Hid (PL w (h :: ws) q w4.heap.size k (mkB (fmV f)) (.func (.func (doF k)) #[] #[]) [] none 0 0 none 0 0 [] [] _) := Lib.hid ⟨HS4.out.below (belowA w4 _), K5.out.al _, At.new w4 _ 114, World.ownsRow_nil _ _ _ _, World.ownsRow_nil _ _ _ _, HL4.out⟩
   go_wp2_with fail
   clear v1 v2 hb1 hfl ck hw0 hl0
   have HQ : Hid (w.heap.size ≤ q) := Lib.hid (Nat.le_trans HS3b.out L_q)
   have HNW : Hid (w.heap.size ≤ w4.heap.size) := Lib.hid HS4.out.b.size
   clear HS4 K5 HL4 L_q
   generalize w4.heap.size = N at HPL HNW ⊢
   generalize w4.alloc _ = w5 at HPL ⊢
   go_loopw [48] (fun i wr => ∃ (j : Nat) (o : Ordr) (A : Option Addr) (n c : Nat) (B : Option Addr) (m d : Nat), j ≤ ws.length ∧ i = .int .i64 j ∧ o.kind = k ∧ readO ⟨k, [], [], []⟩ f ws = readO o (f.drop j) (ws.drop j) ∧ n ≤ j ∧ m ≤ j ∧ PL w (h :: ws) q N k (mkB (fmV f)) (.func (.func (doF k)) #[] #[]) o.style A n c B m d o.names o.nums wr) (fun i _ => ws.length - (intOf i).toNat)
   case atStart => exact ⟨0, ⟨k, [], [], []⟩, none, 0, 0, none, 0, 0, Nat.zero_le _, rfl, rfl, rfl, Nat.le_refl _, Nat.le_refl _, HPL.out⟩
   case round =>
    obtain ⟨j, o, A, n, c, B, m, d, hj, rfl, hok, hrd, hnj, hmj, hpl⟩ := hrel
    have HR := Lib.hid hrd
    have H := Lib.hid hpl
    have HOK := Lib.hid hok
    clear hrd hpl HPL hok
    by_cases hlt : j < ws.length
    ·have hjf : j < f.length := by have := HLF.out; omega
     obtain ⟨x, hx⟩ : ∃ x, ws[j]? = some x := ⟨ws[j], List.getElem?_eq_getElem hlt⟩
     obtain ⟨ch, hch⟩ : ∃ ch, f[j]? = some ch := ⟨f[j], List.getElem?_eq_getElem hjf⟩
     have hd1 : ws.drop j = x :: ws.drop (j + 1) := by rw [List.drop_eq_getElem_cons hlt]; rw [List.getElem?_eq_getElem hlt] at hx; injection hx with hx; rw [hx]
     have hd2 : f.drop j = ch :: f.drop (j + 1) := by rw [List.drop_eq_getElem_cons hjf]; rw [List.getElem?_eq_getElem hjf] at hch; injection hch with hch; rw [hch]
     have HR1 : Hid (readO ⟨k, [], [], []⟩ f ws = match putW o ch x with
      | some o' => readO o' (f.drop (j + 1)) (ws.drop (j + 1))
      | none => none) := Lib.hid (by rw [HR.out, hd1, hd2]; rfl)
     have HXL := Lib.hid (HWL.out x (List.mem_of_getElem? hx))
     have cw : wr.cell? ⟨w.heap.size + 1, 1 + j, none⟩ = some (.string (mkB x)) := by
      rw [Nat.add_comm 1 j]
      exact H.out.s.cell (k := j + 1) (a := x) (by simpa using hx)
     have c51 : wr.cell? ⟨q, 1, none⟩ = some (.string (mkB (fmV f))) := H.out.k5.cell 1
     have HCH := Lib.hid hch
     have hjw : (j : Int) < (ws.length : Int) := by omega
     clear hd1 hd2 hx hch HR
     go_wp2_with fail
     with_reducible refine (number_any (mkB x) wr (Nat.le_trans HXL.out (by decide))).mono ?_
     rintro _ w6 ⟨⟨v, rfl, hv⟩, rfl⟩
     have HV : Hid (∀ n, numV x = some n → v = n) := Lib.hid hv
     clear hv
     rw [show numV (mkB x).data.toList = numV x from rfl]
     obtain ⟨nb, hnb⟩ : ∃ nb, (numV x).isSome = nb := ⟨_, rfl⟩
     have HNB := Lib.hid hnb
     rw [hnb]
     clear hnb
     have hfl := HFL.out
     have v1 : IntKind.i64.wrap ((j : Int) + 1) = ((j + 1 : Nat) : Int) := by rw [IntWalk.i64_in _ (by have := HWN.out; omega)]; push_cast; rfl
     by_cases c0 : ch = 0
     ·have hcv := fm_char HCH.out (show j < (mkB (fmV f)).size by show j < (fmV f).length; omega)
      rw [if_pos c0] at hcv
      go_wp2_with fail
      with_reducible refine (letters_any (mkB x) w6 (Nat.le_trans HXL.out (by decide))).mono ?_
      rintro _ w7 ⟨rfl, rfl⟩
      rw [show letW (mkB x).data.toList = letW x from rfl]
      obtain ⟨lb, hlb⟩ : ∃ lb, letW x = lb := ⟨_, rfl⟩
      have HLB := Lib.hid hlb
      rw [hlb]
      clear hlb
      cases lb with
      | false =>
       have HPN : Hid (parseO s = none) := Lib.hid (by rw [HP1.out, if_pos HLF.out, HR1.out, show putW o ch x = none from by unfold putW; rw [if_pos c0, HLB.out]; rfl])
       have cr := H.out.s.k2.cell
       have fr := H.out.s.k2.fz
       go_wp2_with fail
       refine bodyPost_ret (retOE 2 3 w.heap.size oZ rfl rfl (H.out.s.k2.set6 _ _ _ _ _ _) rfl) rfl ?_
       exact retP_no HPN.out (below_put6 H.out.s.b (Nat.le_refl _) _ _ _ _ _ _) .nilFunc
      | true =>
       have HR2 : Hid (readO ⟨k, [], [], []⟩ f ws = readO { o with names := o.names ++ [x] } (f.drop (j + 1)) (ws.drop (j + 1))) := Lib.hid (by rw [HR1.out, show putW o ch x = some { o with names := o.names ++ [x] } from by unfold putW; rw [if_pos c0, HLB.out]; rfl])
       have c73 : w7.cell? ⟨N, 3, none⟩ = some (.slice A n c) := H.out.k7.cell 3
       have HA := Lib.hid (H.out.below (belowA w7 (.cells #[.string (mkB x)] 9)))
       have hrd := reads_new w7 [.string (mkB x)] 9 1 1 rfl
       go_wp2_with (at_builtin; refine wpList_pushXm rfl _ _ 22 9 rfl Tryz.underlying22 info9 rfl (by decide) (by decide) N _ A n c (strL o.names) (some ⟨w7.heap.size, 0, none⟩) 1 1 [.string (mkB x)] rfl HA.out.rn (Nat.le_of_lt HA.out.k7.lt) rfl hrd (fun u hu => by rw [List.mem_singleton.1 hu]; rfl) (by have := HWN.out; omega) ?_; intro A' c' X ho hg hl; have cX := (HA.out.gn hg).cell; have fX := (HA.out.gn hg).fz)
       exact ⟨⟨j + 1, { o with names := o.names ++ [x] }, A', n + 1, c', B, m, d, by omega, by go_num, HOK.out, HR2.out, by omega, by omega, HA.out.name ho hg⟩, by simp [intOf]; omega⟩
     by_cases c1 : ch = 1
     ·have hcv := fm_char HCH.out (show j < (mkB (fmV f)).size by show j < (fmV f).length; omega)
      rw [if_neg c0, if_pos c1] at hcv
      cases nb with
      | false =>
       have hnn : numV x = none := Option.isSome_eq_false_iff.1 HNB.out |> Option.isNone_iff_eq_none.1
       have HPN : Hid (parseO s = none) := Lib.hid (by rw [HP1.out, if_pos HLF.out, HR1.out, show putW o ch x = none from by unfold putW; rw [if_neg c0, if_pos c1, hnn]])
       have cr := H.out.s.k2.cell
       have fr := H.out.s.k2.fz
       go_wp2_with fail
       refine bodyPost_ret (retOE 2 3 w.heap.size oZ rfl rfl (H.out.s.k2.set6 _ _ _ _ _ _) rfl) rfl ?_
       exact retP_no HPN.out (below_put6 H.out.s.b (Nat.le_refl _) _ _ _ _ _ _) .nilFunc
      | true =>
       obtain ⟨nv, hnv⟩ := Option.isSome_iff_exists.1 HNB.out
       obtain rfl := HV.out nv hnv
       have HR2 : Hid (readO ⟨k, [], [], []⟩ f ws = readO { o with nums := o.nums ++ [v] } (f.drop (j + 1)) (ws.drop (j + 1))) := Lib.hid (by rw [HR1.out, show putW o ch x = some { o with nums := o.nums ++ [v] } from by unfold putW; rw [if_neg c0, if_pos c1, hnv]])
       have c75 : w6.cell? ⟨N, 5, none⟩ = some (.slice B m d) := H.out.k7.cell 5
       have HA := Lib.hid (H.out.below (belowA w6 (.cells #[.int .i64 v] 3)))
       have hrd := reads_new w6 [.int .i64 v] 3 1 1 rfl
       clear hnv
       go_wp2_with (at_builtin; refine wpList_pushXm rfl _ _ 54 3 rfl Tryz.underlying54 info3h rfl (by decide) (by decide) N _ B m d (ints o.nums) (some ⟨w6.heap.size, 0, none⟩) 1 1 [.int .i64 v] rfl HA.out.rm (Nat.le_of_lt HA.out.k7.lt) rfl hrd (fun u hu => by rw [List.mem_singleton.1 hu]; rfl) (by have := HWN.out; omega) ?_; intro A' c' X ho hg hl; have cX := (HA.out.gm hg).cell; have fX := (HA.out.gm hg).fz)
       exact ⟨⟨j + 1, { o with nums := o.nums ++ [v] }, A, n, c, A', m + 1, c', by omega, by go_num, HOK.out, HR2.out, by omega, by omega, HA.out.num ho hg⟩, by simp [intOf]; omega⟩
     ·have hcv := fm_char HCH.out (show j < (mkB (fmV f)).size by show j < (fmV f).length; omega)
      rw [if_neg c0, if_neg c1] at hcv
      by_cases hxe : x = []
      ·have hb : x.isEmpty = true := by rw [hxe]; rfl
       have HPN : Hid (parseO s = none) := Lib.hid (by rw [HP1.out, if_pos HLF.out, HR1.out, show putW o ch x = none from by unfold putW; rw [if_neg c0, if_neg c1, if_pos hxe]])
       have cr := H.out.s.k2.cell
       have fr := H.out.s.k2.fz
       go_wp2_with fail
       refine bodyPost_ret (retOE 2 3 w.heap.size oZ rfl rfl (H.out.s.k2.set6 _ _ _ _ _ _) rfl) rfl ?_
       exact retP_no HPN.out (below_put6 H.out.s.b (Nat.le_refl _) _ _ _ _ _ _) .nilFunc
      ·have hb : x.isEmpty = false := by simpa using hxe
       have HR2 : Hid (readO ⟨k, [], [], []⟩ f ws = readO { o with style := x } (f.drop (j + 1)) (ws.drop (j + 1))) := Lib.hid (by rw [HR1.out, show putW o ch x = some { o with style := x } from by unfold putW; rw [if_neg c0, if_neg c1, if_neg hxe]])
       have c7 := H.out.k7.cell
       have f7 := H.out.k7.fz
       have HA := Lib.hid (H.out.style x)
       go_wp2_with fail
       exact ⟨⟨j + 1, { o with style := x }, A, n, c, B, m, d, by omega, by go_num, HOK.out, HR2.out, by omega, by omega, HA.out⟩, by simp [intOf]; omega⟩
    ·obtain rfl : j = ws.length := by omega
     have HPO : Hid (parseO s = some o) := Lib.hid (by rw [HP1.out, if_pos HLF.out, HR.out, List.drop_length, HLF.out, List.drop_length]; rfl)
     have c7 := H.out.k7.cell
     have cr := H.out.s.k2.cell
     have fr := H.out.s.k2.fz
     have hjn : ¬ (ws.length : Int) < (ws.length : Int) := by omega
     go_wp2_with fail
     refine bodyPost_ret (retOE 2 3 w.heap.size #[.int .i64 k, .string (mkB (fmV f)), .func (.func (doF k)) #[] #[], .slice A n c, .string (mkB o.style), .slice B m d] rfl rfl (H.out.s.k2.set6 _ _ _ _ _ _) rfl) rfl ?_
     have hk := HOK.out
     unfold RetP
     rw [HPO.out]
     obtain ⟨r1, r2⟩ := H.out.reads (.int .i64 k) (.string (mkB (fmV f))) (.func (.func (doF k)) #[] #[]) (.slice A n c) (.string (mkB o.style)) (.slice B m d)
     refine ⟨⟨⟨o, fmV f, .func (.func (doF k)) #[] #[], A, n, c, B, m, d⟩, rfl, by rw [hk], by subst hk; rfl, ⟨r1, r2⟩, fun b hb => ?_⟩, below_put6 H.out.s.b (Nat.le_refl _) _ _ _ _ _ _⟩
     have h1 := H.out.l.1
     rcases hb with ⟨_, ad, ha, hb⟩ | ⟨_, ad, ha, hb⟩
     ·have := (H.out.rn.lt b (by rw [show A = some ad from ha, ← hb]; rfl)).1; omega
     ·have := (H.out.rm.lt b (by rw [show B = some ad from ha, ← hb]; rfl)).1; omega
end Go.Proofs.YtihhclhpjgeniaaGreatDoor
