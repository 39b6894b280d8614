/- Walks: slices.Delete of one edge, from a row of the call's own. -/
import Derived.Test.YtahmdnboeenfkaaGq
import Derived.Lib.SliceRun
namespace Go.Proofs.Ytahmdnboeenfkaa
open Go.RowKit Go.Sort

theorem edgs_take (l : List Edg) (k : Nat) : (edgs l).take (k * 3) = edgs (l.take k) := by
  induction l generalizing k with
  | nil => simp [edgs]
  | cons a l ih =>
    cases k with
    | zero => simp [edgs]
    | succ k =>
      show (ecells a ++ edgs l).take _ = ecells a ++ edgs (l.take k)
      rw [← ih k, List.take_append, show (ecells a).length = 3 from rfl, show (k + 1) * 3 - 3 = k * 3 by omega, List.take_of_length_le (show (ecells a).length ≤ (k + 1) * 3 by show 3 ≤ _; omega)]
theorem edgs_drop (l : List Edg) (k : Nat) : (edgs l).drop (k * 3) = edgs (l.drop k) := by
  induction l generalizing k with
  | nil => simp [edgs]
  | cons a l ih =>
    cases k with
    | zero => simp [edgs]
    | succ k =>
      show (ecells a ++ edgs l).drop _ = edgs (l.drop k)
      rw [← ih k, List.drop_append, show (ecells a).length = 3 from rfl, show (k + 1) * 3 - 3 = k * 3 by omega, List.drop_eq_nil_of_le (show (ecells a).length ≤ (k + 1) * 3 by show 3 ≤ _; omega), List.nil_append]
section
variable {w w' : World} {bl g i n cap : Nat} {es : List Edg}
/-- The head of a row is a row. -/
theorem row_take (h : w.ownsRow bl 33 3 (.slice (some ⟨g, 0, none⟩) n cap) n (edgs es)) (hi : i ≤ n) : w.ownsRow bl 33 3 (.slice (some ⟨g, 0, none⟩) i cap) i (edgs (es.take i)) := by
  have hl := h.1
  rw [edgs_length] at hl
  refine ⟨by rw [edgs_length, List.length_take]; omega, ?_⟩
  rcases h.2 with ⟨hv, h0⟩ | ⟨g', cap', cur, hv, hb, hh, h1, h2, h3, h4⟩
  · cases hv
  · injection hv with e1 e2 e3
    injection e1 with e1
    injection e1 with e1
    subst e1 e3
    refine .inr ⟨g, cap, cur, rfl, hb, hh, by omega, h2, h3, ?_⟩
    rw [← edgs_take, ← h4, List.take_take, Nat.min_eq_left (Nat.mul_le_mul_right 3 hi)]
theorem row_lt (h : w.ownsRow bl 33 3 (.slice (some ⟨g, 0, none⟩) n cap) n (edgs es)) : bl ≤ g ∧ g < w.heap.size := h.lt g rfl
end
theorem row_spare {w : World} {bl g n cap : Nat} {xs : List Value} (h : w.ownsRow bl 33 3 (.slice (some ⟨g, 0, none⟩) n cap) n xs) {j : Nat} (hj : j < cap * 3) : (w.cell? ⟨g, j, none⟩).isSome = true := by
  rcases h.2 with ⟨hv, h0⟩ | ⟨g', cap', cur, hv, hb, hh, h1, h2, h3, h4⟩
  · cases hv
  · injection hv with e1 e2 e3
    injection e1 with e1
    injection e1 with e1
    subst e1 e3
    rw [cell_of_row w g j cur 33 (0, 0) hh]
    simp [h3, hj]
/-- Cells behind a row are written: the row is the same. -/
theorem row_behind {w : World} {bl g n cap : Nat} {xs : List Value} (h : w.ownsRow bl 33 3 (.slice (some ⟨g, 0, none⟩) n cap) n xs) {j : Nat} (hj : n * 3 ≤ j) (u : Value) : (w.setCell ⟨g, j, none⟩ u).ownsRow bl 33 3 (.slice (some ⟨g, 0, none⟩) n cap) n xs ∧ w.grownBy (w.setCell ⟨g, j, none⟩ u) (some g) := by
  have := h.stored j u
  rwa [List.set_eq_of_length_le (by rw [h.1]; exact hj)] at this
theorem step_fits {ops : Array Oper} {o : Oper} {a : Act} {K : Act → World → Prop} {Q : Exit → Act → World → Prop} {E : Prop} (hgd : o.guard = none) (s x : Operand)
    (ho : o.op = .call { callee := .builtin .append, args := #[s, x], argTypes := #[23, 23] })
    (bl : Nat) (w : World) (g i cap m c : Nat) (es news : List Edg) (ad : Addr) (hs : a.eval s = .slice (some ⟨g, 0, none⟩) i cap) (hown : w.ownsRow bl 33 3 (.slice (some ⟨g, 0, none⟩) i cap) i (edgs es))
    (hx : a.eval x = .slice (some ad) m c) (hl : news.length = m) (hnews : ∀ j u, (edgs news)[j]? = some u → w.cell? (ad.add j) = some u) (hroom : i + m ≤ cap)
    (h : ∀ w', w'.ownsRow bl 33 3 (.slice (some ⟨g, 0, none⟩) (i + m) cap) (i + m) (edgs (es ++ news)) → w.grownBy w' (some g) → K (a.put o.dst (.slice (some ⟨g, 0, none⟩) (i + m) cap)) w') :
    if Region.wanted o (yielded ops a.tmps) = true then Oper.wp Try.prog o a w K Q else E := by
  have hw : Region.wanted o (yielded ops a.tmps) = true := by simp [Region.wanted, hgd]
  rw [if_pos hw]
  obtain ⟨i0, hi, hz0, hz1, hz2⟩ := info_parts info33
  obtain ⟨w', hr, h1, h2⟩ := run_append_fits (P := Try.prog) w bl 23 o.type 33 i0 3 Try.underlying23 hi hz1 g i cap (edgs es) hown ad m c (edgs news) (by rw [edgs_length, hl]) hnews (edgs_one _) hroom
  rw [← edgs_append] at h1
  unfold Oper.wp execOp
  simp only [ho, resolve, invoke, builtin, Sem.run_bind, Sem.run_pure, Result.andThen_ok, List.map_toArray, List.map_cons, List.map_nil, hs, hx, hr]
  exact h w' h1 h2
theorem zero33 : ∀ w, (zeroValue 33).run Try.prog w = .ok (.agg #[.int .i64 0, .int .i64 0, .int .i64 0]) w := fun _ => by kernel_rfl
theorem run_clear3 (w : World) (ty : TypeId) (b o c : Nat)
    (hc : ∀ j, j < 3 → (w.cell? ⟨b, o + j, none⟩).isSome = true) (hf : ∀ j, j < 3 → w.frozen? ⟨b, o + j, none⟩ = false) :
    (Builtin.clear_ #[23] ty #[.slice (some ⟨b, o, none⟩) 1 c]).run Try.prog w = .ok (.tuple #[]) (w.setCells b o [.int .i64 0, .int .i64 0, .int .i64 0]) := by
  have hzc : (Builtin.zeroCells (Value.agg #[.int .i64 0, .int .i64 0, .int .i64 0]).cells 1).toList = [.int .i64 0, .int .i64 0, .int .i64 0] := by
    show ((Array.range 3).map _).toList = _
    rw [Array.toList_map, Array.toList_range]
    rfl
  have hst := run_storeCells_cells (P := Try.prog) b o [.int .i64 0, .int .i64 0, .int .i64 0] 0 w (by simpa using hc) (by simpa using hf) (by intro v hv'; simp at hv'; subst hv'; rfl)
  simp only [Nat.add_zero] at hst
  simp [Builtin.clear_, run_underlying Try.underlying23, hzc, hst]

theorem cleared {w : World} {bl g m cap : Nat} {xs : List Value} (h : w.ownsRow bl 33 3 (.slice (some ⟨g, 0, none⟩) m cap) m xs) (hm : m + 1 ≤ cap) :
    (∀ ty, (Builtin.clear_ #[23] ty #[.slice (some ⟨g, m * 3, none⟩) 1 (cap - m)]).run Try.prog w = .ok (.tuple #[]) (w.setCells g (m * 3) [.int .i64 0, .int .i64 0, .int .i64 0])) ∧
    (w.setCells g (m * 3) [.int .i64 0, .int .i64 0, .int .i64 0]).ownsRow bl 33 3 (.slice (some ⟨g, 0, none⟩) m cap) m xs ∧ w.grownBy (w.setCells g (m * 3) [.int .i64 0, .int .i64 0, .int .i64 0]) (some g) := by
  refine ⟨fun ty => run_clear3 w ty g (m * 3) _ (fun j hj => row_spare h (by omega)) (fun j hj => h.frozenAt _), ?_⟩
  obtain ⟨a1, a2⟩ := row_behind h (j := m * 3) (by omega) (.int .i64 0)
  obtain ⟨b1, b2⟩ := row_behind a1 (j := m * 3 + 1) (by omega) (.int .i64 0)
  obtain ⟨c1, c2⟩ := row_behind b1 (j := m * 3 + 1 + 1) (by omega) (.int .i64 0)
  exact ⟨c1, (a2.trans b2).trans c2⟩
set_option maxRecDepth 10000 in
theorem delete_any (bl g n cap i : Nat) (es : List Edg) (w : World) (h : w.ownsRow bl 33 3 (.slice (some ⟨g, 0, none⟩) n cap) n (edgs es)) (hn : n ≤ 1000000) (hi : i < n) :
    Calls Try.prog 88 #[.slice (some ⟨g, 0, none⟩) n cap, .int .i64 (i : Int), .int .i64 ((i : Int) + 1)] w fun r w' => r = .returned (.slice (some ⟨g, 0, none⟩) (n - 1) cap) ∧
      w'.ownsRow bl 33 3 (.slice (some ⟨g, 0, none⟩) (n - 1) cap) (n - 1) (edgs (es.take i ++ es.drop (i + 1))) ∧ w.grownBy w' (some g) := by
  have H := Lib.hid h
  obtain ⟨hcap, hcm⟩ := row_cap h
  unfold maxLen at hcm
  clear h
  obtain ⟨m, rfl⟩ : ∃ m, n = m + 1 := ⟨n - 1, by omega⟩
  rw [Nat.add_sub_cancel]
  have hsrc := Lib.hid (fun j u (hj : (edgs (es.drop (i + 1)))[j]? = some u) => show w.drew.cell? ((⟨g, (i + 1) * 3, none⟩ : Addr).add j) = some u from by
    rw [← edgs_drop, List.getElem?_drop] at hj
    have hjl := (List.getElem?_eq_some_iff.1 hj).1
    have hl := H.out.1
    rw [hl] at hjl
    rw [Addr.add_lit]
    exact (H.out.cellAt _ hjl).trans hj)
  have HT := Lib.hid (row_take H.out (show i ≤ m + 1 by omega)).drew
  have HL := Lib.hid (show es.length = m + 1 by have := H.out.1; rw [edgs_length] at this; omega)
  have k0 : (0 : Int) ≤ (i : Int) := by omega
  have k1 : (i : Int) ≤ (cap : Int) := by omega
  have k2 : (0 : Int) ≤ (i : Int) + 1 := by omega
  have k3 : (i : Int) + 1 ≤ (cap : Int) := by omega
  have k4 : (i : Int) + 1 ≤ (m : Int) + 1 := by omega
  have k5 : ((i : Int) + 1).toNat = i + 1 := by omega
  have k6 : (i : Int) ≤ (i : Int) + 1 := by omega
  have k7 : i ≤ cap := by omega
  have k8 : i + 1 ≤ cap := by omega
  have k9 : (m : Int) + 1 ≤ (cap : Int) := by omega
  have ka : (m : Int) ≤ (cap : Int) := by omega
  have kb : cap ≠ m := by omega
  by_cases hc : cap = i + 1
  · have hD := Lib.hid (show es.drop (i + 1) = [] from List.drop_eq_nil_of_le (by rw [HL.out]; omega))
    obtain rfl : i = m := by omega
    subst hc
    go_enter Try.func88, Try.ntmps88
    go_wp2_with fail
    go_region_law (refine step_fits rfl (.tmp 22) (.tmp 25) rfl bl w.drew g i (i + 1) 0 0 (es.take i) (es.drop (i + 1)) ⟨g, 0, none⟩ (by simp [Act.eval, Act.put]) HT.out (by simp [Act.eval, Act.put]) (by rw [hD.out]; rfl) (by rw [hD.out]; intro j u hj; simp [edgs] at hj) (by omega) ?_; intro w2 hr hg; have HR := Lib.hid hr; have HG := Lib.hid hg; clear hr hg)
    rw [Nat.add_zero] at HR
    obtain ⟨q1, q2, q3⟩ := cleared HR.out (Nat.le_refl _)
    rw [show i + 1 - i = 1 by omega] at q1
    have Q2 := Lib.hid q2
    have Q3 := Lib.hid (HG.out.trans q3)
    clear q2 q3 HR HG HT
    go_wp2_with fail
    go_ret
    exact ⟨rfl, Q2.out, ⟨Q3.out.os, Q3.out.tape, Q3.out.output, Q3.out.size, Q3.out.block⟩⟩
  · have hc2 : (cap : Int) ≠ (i : Int) + 1 := by omega
    go_enter Try.func88, Try.ntmps88
    go_wp2_with fail
    go_region_law (refine step_fits rfl (.tmp 22) (.tmp 25) rfl bl w.drew g i cap (m - i) (cap - (i + 1)) (es.take i) (es.drop (i + 1)) ⟨g, (i + 1) * 3, none⟩ (by simp [Act.eval, Act.put]) HT.out (by simp [Act.eval, Act.put]) (by rw [List.length_drop, HL.out]; omega) hsrc.out (by omega) ?_; intro w2 hr hg; have HR := Lib.hid hr; have HG := Lib.hid hg; clear hr hg)
    have he : i + (m - i) = m := by omega
    rw [he] at HR ⊢
    obtain ⟨q1, q2, q3⟩ := cleared HR.out (by omega)
    have Q2 := Lib.hid q2
    have Q3 := Lib.hid (HG.out.trans q3)
    clear q2 q3 HR HG HT
    go_wp2_with fail
    go_ret
    exact ⟨rfl, Q2.out, ⟨Q3.out.os, Q3.out.tape, Q3.out.output, Q3.out.size, Q3.out.block⟩⟩
end Go.Proofs.Ytahmdnboeenfkaa
