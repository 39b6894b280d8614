/- Merged texts: Dl -/
import Derived.Test.YtihhclhpjgeniaaGreatDoorSA26
import Derived.Laws.OwnMore
import Derived.Deep.RegionLaw
import Derived.Lib.SliceRun
namespace Go.Proofs.YtihhclhpjgeniaaGreatDoor
open Go.RowKit Go.Sort
abbrev nbs (l : List NB) : List Value := l.flatMap NB.cells
theorem nbs_length (l : List NB) : (nbs l).length = l.length * 3 := by
  induction l with
  | nil => rfl
  | cons a l ih => show (NB.cells a ++ nbs l).length = _; rw [List.length_append, ih, nb_len, List.length_cons]; omega
theorem nbs_append (a b : List NB) : nbs (a ++ b) = nbs a ++ nbs b := List.flatMap_append
theorem nbs_one (l : List NB) : ∀ u ∈ nbs l, u.oneCell' = true := by
  intro u hu
  obtain ⟨b, _, h⟩ := List.mem_flatMap.1 hu
  exact nb_one b u h
theorem nbs_take (l : List NB) (k : Nat) : (nbs l).take (k * 3) = nbs (l.take k) := by
  induction l generalizing k with
  | nil => simp [nbs]
  | cons a l ih =>
    cases k with
    | zero => simp [nbs]
    | succ k =>
      show (NB.cells a ++ nbs l).take _ = NB.cells a ++ nbs (l.take k)
      rw [← ih k, List.take_append, show (NB.cells a).length = 3 from rfl, show (k + 1) * 3 - 3 = k * 3 by omega, List.take_of_length_le (show (NB.cells a).length ≤ (k + 1) * 3 by show 3 ≤ _; omega)]
theorem nbs_drop (l : List NB) (k : Nat) : (nbs l).drop (k * 3) = nbs (l.drop k) := by
  induction l generalizing k with
  | nil => simp [nbs]
  | cons a l ih =>
    cases k with
    | zero => simp [nbs]
    | succ k =>
      show (NB.cells a ++ nbs l).drop _ = nbs (l.drop k)
      rw [← ih k, List.drop_append, show (NB.cells a).length = 3 from rfl, show (k + 1) * 3 - 3 = k * 3 by omega, List.drop_eq_nil_of_le (show (NB.cells a).length ≤ (k + 1) * 3 by show 3 ≤ _; omega), List.nil_append]
section
variable {w w' : World} {bl g i n cap : Nat} {es : List NB}
theorem row_take (h : w.ownsRow bl 130 3 (.slice (some ⟨g, 0, none⟩) n cap) n (nbs es)) (hi : i ≤ n) : w.ownsRow bl 130 3 (.slice (some ⟨g, 0, none⟩) i cap) i (nbs (es.take i)) := by
  have hl := h.1
  rw [nbs_length] at hl
  refine ⟨by rw [nbs_length, List.length_take]; omega, ?_⟩
  rcases h.2 with ⟨hv, h0⟩ | ⟨g', cap', cur, hv, hb, hh, h1, h2, h3, h4⟩
  · cases hv
  · injection hv with e1 e2 e3
    injection e1 with e1
    injection e1 with e1
    subst e1 e3
    refine .inr ⟨g, cap, cur, rfl, hb, hh, by omega, h2, h3, ?_⟩
    rw [← nbs_take, ← h4, List.take_take, Nat.min_eq_left (Nat.mul_le_mul_right 3 hi)]
end
theorem row_spare {w : World} {bl g n cap : Nat} {xs : List Value} (h : w.ownsRow bl 130 3 (.slice (some ⟨g, 0, none⟩) n cap) n xs) {j : Nat} (hj : j < cap * 3) : (w.cell? ⟨g, j, none⟩).isSome = true := by
  rcases h.2 with ⟨hv, h0⟩ | ⟨g', cap', cur, hv, hb, hh, h1, h2, h3, h4⟩
  · cases hv
  · injection hv with e1 e2 e3
    injection e1 with e1
    injection e1 with e1
    subst e1 e3
    rw [cell_of_row w g j cur 130 (0, 0) hh]
    simp [h3, hj]
theorem row_behind {w : World} {bl g n cap : Nat} {xs : List Value} (h : w.ownsRow bl 130 3 (.slice (some ⟨g, 0, none⟩) n cap) n xs) {j : Nat} (hj : n * 3 ≤ j) (u : Value) : (w.setCell ⟨g, j, none⟩ u).ownsRow bl 130 3 (.slice (some ⟨g, 0, none⟩) n cap) n xs ∧ w.grownBy (w.setCell ⟨g, j, none⟩ u) (some g) := by
  have := h.stored j u
  rwa [List.set_eq_of_length_le (by rw [h.1]; exact hj)] at this
theorem step_fits {ops : Array Oper} {o : Oper} {a : Act} {K : Act → World → Prop} {Q : Exit → Act → World → Prop} {E : Prop} (hgd : o.guard = none) (s x : Operand)
    (ho : o.op = .call { callee := .builtin .append, args := #[s, x], argTypes := #[105, 105] })
    (bl : Nat) (w : World) (g i cap m c : Nat) (es news : List NB) (ad : Addr) (hs : a.eval s = .slice (some ⟨g, 0, none⟩) i cap) (hown : w.ownsRow bl 130 3 (.slice (some ⟨g, 0, none⟩) i cap) i (nbs es))
    (hx : a.eval x = .slice (some ad) m c) (hl : news.length = m) (hnews : ∀ j u, (nbs news)[j]? = some u → w.cell? (ad.add j) = some u) (hroom : i + m ≤ cap)
    (h : ∀ w', w'.ownsRow bl 130 3 (.slice (some ⟨g, 0, none⟩) (i + m) cap) (i + m) (nbs (es ++ news)) → w.grownBy w' (some g) → K (a.put o.dst (.slice (some ⟨g, 0, none⟩) (i + m) cap)) w') :
    if Region.wanted o (yielded ops a.tmps) = true then Oper.wp Tryz.prog o a w K Q else E := by
  have hw : Region.wanted o (yielded ops a.tmps) = true := by simp [Region.wanted, hgd]
  rw [if_pos hw]
  obtain ⟨i0, hi, hz0, hz1, hz2⟩ := info_parts info130
  obtain ⟨w', hr, h1, h2⟩ := run_append_fits (P := Tryz.prog) w bl 105 o.type 130 i0 3 Tryz.underlying105 hi hz1 g i cap (nbs es) hown ad m c (nbs news) (by rw [nbs_length, hl]) hnews (nbs_one _) hroom
  rw [← nbs_append] at h1
  unfold Oper.wp execOp
  simp only [ho, resolve, invoke, builtin, Sem.run_bind, Sem.run_pure, Result.andThen_ok, List.map_toArray, List.map_cons, List.map_nil, hs, hx, hr]
  exact h w' h1 h2
theorem run_clear3 (w : World) (ty : TypeId) (b o c : Nat)
    (hc : ∀ j, j < 3 → (w.cell? ⟨b, o + j, none⟩).isSome = true) (hf : ∀ j, j < 3 → w.frozen? ⟨b, o + j, none⟩ = false) :
    (Builtin.clear_ #[105] ty #[.slice (some ⟨b, o, none⟩) 1 c]).run Tryz.prog w = .ok (.tuple #[]) (w.setCells b o [.string (ByteArray.mk #[]), .slice none 0 0, .slice none 0 0]) := by
  have hzc : (Builtin.zeroCells (Value.agg #[.string (ByteArray.mk #[]), .slice none 0 0, .slice none 0 0]).cells 1).toList = [.string (ByteArray.mk #[]), .slice none 0 0, .slice none 0 0] := by
    show ((Array.range 3).map _).toList = _
    rw [Array.toList_map, Array.toList_range]
    rfl
  have hst := run_storeCells_cells (P := Tryz.prog) b o [.string (ByteArray.mk #[]), .slice none 0 0, .slice none 0 0] 0 w (by simpa using hc) (by simpa using hf) (by intro v hv'; simp at hv'; rcases hv' with rfl | rfl <;> rfl)
  simp only [Nat.add_zero] at hst
  simp [Builtin.clear_, run_underlying Tryz.underlying105, hzc, hst]
theorem cleared {w : World} {bl g m cap : Nat} {xs : List Value} (h : w.ownsRow bl 130 3 (.slice (some ⟨g, 0, none⟩) m cap) m xs) (hm : m + 1 ≤ cap) :
    (∀ ty, (Builtin.clear_ #[105] ty #[.slice (some ⟨g, m * 3, none⟩) 1 (cap - m)]).run Tryz.prog w = .ok (.tuple #[]) (w.setCells g (m * 3) [.string (ByteArray.mk #[]), .slice none 0 0, .slice none 0 0])) ∧
    (w.setCells g (m * 3) [.string (ByteArray.mk #[]), .slice none 0 0, .slice none 0 0]).ownsRow bl 130 3 (.slice (some ⟨g, 0, none⟩) m cap) m xs ∧ w.grownBy (w.setCells g (m * 3) [.string (ByteArray.mk #[]), .slice none 0 0, .slice none 0 0]) (some g) := by
  refine ⟨fun ty => run_clear3 w ty g (m * 3) _ (fun j hj => row_spare h (by omega)) (fun j hj => h.frozenAt _), ?_⟩
  obtain ⟨a1, a2⟩ := row_behind h (j := m * 3) (by omega) (.string (ByteArray.mk #[]))
  obtain ⟨b1, b2⟩ := row_behind a1 (j := m * 3 + 1) (by omega) (.slice none 0 0)
  obtain ⟨c1, c2⟩ := row_behind b1 (j := m * 3 + 1 + 1) (by omega) (.slice none 0 0)
  exact ⟨c1, (a2.trans b2).trans c2⟩
set_option maxRecDepth 10000 in
theorem delete_any (bl g n cap i : Nat) (es : List NB) (w : World) (h : w.ownsRow bl 130 3 (.slice (some ⟨g, 0, none⟩) n cap) n (nbs es)) (hn : n ≤ 1000000) (hi : i < n) :
    Calls Tryz.prog 221 #[.slice (some ⟨g, 0, none⟩) n cap, .int .i64 (i : Int), .int .i64 ((i : Int) + 1)] w fun r w' => r = .returned (.slice (some ⟨g, 0, none⟩) (n - 1) cap) ∧
      w'.ownsRow bl 130 3 (.slice (some ⟨g, 0, none⟩) (n - 1) cap) (n - 1) (nbs (es.take i ++ es.drop (i + 1))) ∧ w.grownBy w' (some g) := by
  have H := Lib.hid h
  obtain ⟨hcap, hcm⟩ := row_cap h
  unfold maxLen at hcm
  clear h
  obtain ⟨m, rfl⟩ : ∃ m, n = m + 1 := ⟨n - 1, by omega⟩
  rw [Nat.add_sub_cancel]
  have hsrc := Lib.hid (fun j u (hj : (nbs (es.drop (i + 1)))[j]? = some u) => show w.drew.cell? ((⟨g, (i + 1) * 3, none⟩ : Addr).add j) = some u from by
    rw [← nbs_drop, List.getElem?_drop] at hj
    have hjl := (List.getElem?_eq_some_iff.1 hj).1
    have hl := H.out.1
    rw [hl] at hjl
    rw [Addr.add_lit]
    exact (H.out.cellAt _ hjl).trans hj)
  have HT := Lib.hid (row_take H.out (show i ≤ m + 1 by omega)).drew
  have HL := Lib.hid (show es.length = m + 1 by have := H.out.1; rw [nbs_length] at this; omega)
  have k0 : (0 : Int) ≤ (i : Int) := by omega
  have k1 : (i : Int) ≤ (cap : Int) := by omega
  have k2 : (0 : Int) ≤ (i : Int) + 1 := by omega
  have k3 : (i : Int) + 1 ≤ (cap : Int) := by omega
  have k4 : (i : Int) + 1 ≤ (m : Int) + 1 := by omega
  have k5 : ((i : Int) + 1).toNat = i + 1 := by omega
  have k6 : (i : Int) ≤ (i : Int) + 1 := by omega
  have k7 : i ≤ cap := by omega
  have k8 : i + 1 ≤ cap := by omega
  have k9 : (m : Int) + 1 ≤ (cap : Int) := by omega
  have ka : (m : Int) ≤ (cap : Int) := by omega
  have kb : cap ≠ m := by omega
  by_cases hc : cap = i + 1
  · have hD := Lib.hid (show es.drop (i + 1) = [] from List.drop_eq_nil_of_le (by rw [HL.out]; omega))
    obtain rfl : i = m := by omega
    subst hc
    go_enter Tryz.func221, Tryz.ntmps221
    go_wp2_with fail
    go_region_law (refine step_fits rfl (.tmp 22) (.tmp 25) rfl bl w.drew g i (i + 1) 0 0 (es.take i) (es.drop (i + 1)) ⟨g, 0, none⟩ (by simp [Act.eval, Act.put]) HT.out (by simp [Act.eval, Act.put]) (by rw [hD.out]; rfl) (by rw [hD.out]; intro j u hj; simp [nbs] at hj) (by omega) ?_; intro w2 hr hg; have HR := Lib.hid hr; have HG := Lib.hid hg; clear hr hg)
    rw [Nat.add_zero] at HR
    obtain ⟨q1, q2, q3⟩ := cleared HR.out (Nat.le_refl _)
    rw [show i + 1 - i = 1 by omega] at q1
    have Q2 := Lib.hid q2
    have Q3 := Lib.hid (HG.out.trans q3)
    clear q2 q3 HR HG HT
    go_wp2_with fail
    go_ret
    exact ⟨rfl, Q2.out, ⟨Q3.out.os, Q3.out.tape, Q3.out.output, Q3.out.size, Q3.out.block⟩⟩
  · have hc2 : (cap : Int) ≠ (i : Int) + 1 := by omega
    go_enter Tryz.func221, Tryz.ntmps221
    go_wp2_with fail
    go_region_law (refine step_fits rfl (.tmp 22) (.tmp 25) rfl bl w.drew g i cap (m - i) (cap - (i + 1)) (es.take i) (es.drop (i + 1)) ⟨g, (i + 1) * 3, none⟩ (by simp [Act.eval, Act.put]) HT.out (by simp [Act.eval, Act.put]) (by rw [List.length_drop, HL.out]; omega) hsrc.out (by omega) ?_; intro w2 hr hg; have HR := Lib.hid hr; have HG := Lib.hid hg; clear hr hg)
    have he : i + (m - i) = m := by omega
    rw [he] at HR ⊢
    obtain ⟨q1, q2, q3⟩ := cleared HR.out (by omega)
    have Q2 := Lib.hid q2
    have Q3 := Lib.hid (HG.out.trans q3)
    clear q2 q3 HR HG HT
    go_wp2_with fail
    go_ret
    exact ⟨rfl, Q2.out, ⟨Q3.out.os, Q3.out.tape, Q3.out.output, Q3.out.size, Q3.out.block⟩⟩
end Go.Proofs.YtihhclhpjgeniaaGreatDoor
