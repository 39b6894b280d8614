/- Walks: slices.DeleteFunc at entries, whatever the property. -/
import Derived.Test.YtlmdmbjdhlgkoaaC14
import Derived.Laws.IdiomCopy
namespace Go.Proofs.Ytlmdmbjdhlgkoaa
open Go.RowKit Go.Sort
/-- A deletion at work: the first j entries are gone through, i of them are kept. -/
structure Keeps (es : List Ent) (f : Ent → Bool) (n i j : Nat) (fs : List Ent) : Prop where
  len : fs.length = n
  lt : i < j
  le : j ≤ n
  kept : fs.take i = (es.take j).filter fun e => !f e
  rest : fs.drop j = es.drop j
theorem Keeps.at {es fs : List Ent} {f : Ent → Bool} {n i j : Nat} (h : Keeps es f n i j fs) {x : Ent} (hx : fs[j]? = some x) : es[j]? = some x := by
  have := congrArg (fun l => l[0]?) h.rest
  simpa [List.getElem?_drop, hx] using this.symm
theorem Keeps.mem {es fs : List Ent} {f : Ent → Bool} {n i j : Nat} (h : Keeps es f n i j fs) {x : Ent} (hx : fs[j]? = some x) : x ∈ es := List.mem_of_getElem? (h.at hx)
theorem Keeps.skip {es fs : List Ent} {f : Ent → Bool} {n i j : Nat} (h : Keeps es f n i j fs) {x : Ent} (hx : fs[j]? = some x) (hf : f x = true) : Keeps es f n i (j + 1) fs := by
  refine ⟨h.len, Nat.lt_succ_of_lt h.lt, ?_, ?_, ?_⟩
  · have := (List.getElem?_eq_some_iff.1 hx).1
    have := h.len
    omega
  · rw [take_succ_of (h.at hx), List.filter_append, h.kept]
    simp [hf]
  · have := congrArg (List.drop 1) h.rest
    simpa [List.drop_drop, Nat.add_comm] using this
theorem Keeps.keep {es fs : List Ent} {f : Ent → Bool} {n i j : Nat} (h : Keeps es f n i j fs) {x : Ent} (hx : fs[j]? = some x) (hf : f x = false) : Keeps es f n (i + 1) (j + 1) (fs.set i x) := by
  have hj := (List.getElem?_eq_some_iff.1 hx).1
  have hl := h.len
  have hij := h.lt
  refine ⟨by rw [List.length_set]; exact h.len, by omega, by omega, ?_, ?_⟩
  · rw [take_succ_of (h.at hx), List.filter_append, ← h.kept]
    rw [take_succ_of (x := x) (by rw [List.getElem?_set_self (by omega)]), List.take_set_of_le (Nat.le_refl _)]
    simp [hf]
  · rw [List.drop_set_of_lt (by omega)]
    have := congrArg (List.drop 1) h.rest
    simpa [List.drop_drop, Nat.add_comm] using this
theorem row_behinds {bl g m cap : Nat} {xs : List Value} : ∀ (vs : List Value) (w : World) (j : Nat), w.ownsRow bl 53 6 (.slice (some ⟨g, 0, none⟩) m cap) m xs → m * 6 ≤ j →
    (w.setCells g j vs).ownsRow bl 53 6 (.slice (some ⟨g, 0, none⟩) m cap) m xs ∧ w.grownBy (w.setCells g j vs) (some g)
  | [], _, _, h, _ => ⟨h, World.grownBy.refl _ _⟩
  | v :: vs, w, j, h, hj => by
    have := h.stored j v
    rw [List.set_eq_of_length_le (by rw [h.1]; exact hj)] at this
    obtain ⟨a, b⟩ := row_behinds vs _ (j + 1) this.1 (by omega)
    exact ⟨a, this.2.trans b⟩
theorem row_cells {w : World} {bl g n c i : Nat} {fs : List Ent} (h : w.ownsRow bl 53 6 (.slice (some ⟨g, 0, none⟩) n c) n (ents fs)) (hi : i < n) :
    (∃ u, w.cell? ⟨g, i * 6, none⟩ = some u) ∧ (∃ u, w.cell? ⟨g, i * 6 + 1, none⟩ = some u) ∧ (∃ u, w.cell? ⟨g, i * 6 + 2, none⟩ = some u) ∧ (∃ u, w.cell? ⟨g, i * 6 + 3, none⟩ = some u) ∧ (∃ u, w.cell? ⟨g, i * 6 + 4, none⟩ = some u) ∧ (∃ u, w.cell? ⟨g, i * 6 + 5, none⟩ = some u) := by
  have hl := h.1
  have k : ∀ j, j < n * 6 → ∃ u, w.cell? ⟨g, j, none⟩ = some u := fun j hj => ⟨(ents fs)[j]'(by omega), (h.cellAt _ hj).trans (List.getElem?_eq_getElem _)⟩
  exact ⟨k _ (by omega), k _ (by omega), k _ (by omega), k _ (by omega), k _ (by omega), k _ (by omega)⟩
theorem ents_cons_set (y : Ent) (l : List Ent) (m : Nat) (v : Value) : (ents (y :: l)).set (m + 6) v = ecells y ++ (ents l).set m v := rfl
theorem ents_put (x : Ent) : ∀ (fs : List Ent) (i : Nat), i < fs.length →
    ((((((ents fs).set (i * 6) (.int .i64 x.1)).set (i * 6 + 1) (.int .i64 x.2.1)).set (i * 6 + 2) (.int .i64 x.2.2.1.1)).set (i * 6 + 3) (.int .i64 x.2.2.1.2.1)).set (i * 6 + 4) (.int .i64 x.2.2.1.2.2)).set (i * 6 + 5) (.string x.2.2.2) = ents (fs.set i x)
  | [], _, h => by simp at h
  | y :: l, 0, _ => rfl
  | y :: l, i + 1, h => by
    have ih := ents_put x l i (by simpa using h)
    show _ = ecells y ++ ents (l.set i x)
    rw [← ih]
    have e : (i + 1) * 6 = i * 6 + 6 := by omega
    rw [e]
    rfl
theorem row_put {w : World} {bl g n c i : Nat} {fs : List Ent} (h : w.ownsRow bl 53 6 (.slice (some ⟨g, 0, none⟩) n c) n (ents fs)) (x : Ent) (hi : i < fs.length) :
    ((((((w.setCell ⟨g, i * 6, none⟩ (.int .i64 x.1)).setCell ⟨g, i * 6 + 1, none⟩ (.int .i64 x.2.1)).setCell ⟨g, i * 6 + 2, none⟩ (.int .i64 x.2.2.1.1)).setCell ⟨g, i * 6 + 3, none⟩ (.int .i64 x.2.2.1.2.1)).setCell ⟨g, i * 6 + 4, none⟩ (.int .i64 x.2.2.1.2.2)).setCell ⟨g, i * 6 + 5, none⟩ (.string x.2.2.2)).ownsRow bl 53 6 (.slice (some ⟨g, 0, none⟩) n c) n (ents (fs.set i x)) ∧
    w.grownBy ((((((w.setCell ⟨g, i * 6, none⟩ (.int .i64 x.1)).setCell ⟨g, i * 6 + 1, none⟩ (.int .i64 x.2.1)).setCell ⟨g, i * 6 + 2, none⟩ (.int .i64 x.2.2.1.1)).setCell ⟨g, i * 6 + 3, none⟩ (.int .i64 x.2.2.1.2.1)).setCell ⟨g, i * 6 + 4, none⟩ (.int .i64 x.2.2.1.2.2)).setCell ⟨g, i * 6 + 5, none⟩ (.string x.2.2.2)) (some g) := by
  obtain ⟨a0, b0⟩ := h.stored (i * 6) (.int .i64 x.1)
  obtain ⟨a1, b1⟩ := a0.stored (i * 6 + 1) (.int .i64 x.2.1)
  obtain ⟨a2, b2⟩ := a1.stored (i * 6 + 2) (.int .i64 x.2.2.1.1)
  obtain ⟨a3, b3⟩ := a2.stored (i * 6 + 3) (.int .i64 x.2.2.1.2.1)
  obtain ⟨a4, b4⟩ := a3.stored (i * 6 + 4) (.int .i64 x.2.2.1.2.2)
  obtain ⟨a5, b5⟩ := a4.stored (i * 6 + 5) (.string x.2.2.2)
  rw [ents_put x fs i hi] at a5
  exact ⟨a5, ((((b0.trans b1).trans b2).trans b3).trans b4).trans b5⟩
/-- The head of a row is a row. -/
theorem row_take {w : World} {bl g n i cap : Nat} {es : List Ent} (h : w.ownsRow bl 53 6 (.slice (some ⟨g, 0, none⟩) n cap) n (ents es)) (hi : i ≤ n) : w.ownsRow bl 53 6 (.slice (some ⟨g, 0, none⟩) i cap) i (ents (es.take i)) := by
  have hl := h.1
  rw [ents_length] at hl
  refine ⟨by rw [ents_length, List.length_take]; omega, ?_⟩
  rcases h.2 with ⟨hv, h0⟩ | ⟨g', cap', cur, hv, hb, hh, h1, h2, h3, h4⟩
  · cases hv
  · injection hv with e1 e2 e3
    injection e1 with e1
    injection e1 with e1
    subst e1 e3
    refine .inr ⟨g, cap, cur, rfl, hb, hh, by omega, h2, h3, ?_⟩
    rw [← ents_take, ← h4, List.take_take, Nat.min_eq_left (Nat.mul_le_mul_right 6 hi)]
theorem row_cleared {w : World} {bl g n c i : Nat} {fs : List Ent} (h : w.ownsRow bl 53 6 (.slice (some ⟨g, 0, none⟩) n c) n (ents fs)) (hi : i < n) :
    ∃ vs, (∀ ty d, (Builtin.clear_ #[22] ty #[.slice (some ⟨g, i * 6, none⟩) (n - i) d]).run Try.prog w = .ok (.tuple #[]) (w.setCells g (i * 6) vs)) ∧
    (w.setCells g (i * 6) vs).ownsRow bl 53 6 (.slice (some ⟨g, 0, none⟩) i c) i (ents (fs.take i)) ∧ w.grownBy (w.setCells g (i * 6) vs) (some g) := by
  have hl := h.1
  obtain ⟨vs, hvs⟩ : ∃ vs, (Builtin.zeroCells (Value.agg #[.int .i64 0, .int .i64 0, .int .i64 0, .int .i64 0, .int .i64 0, .string ⟨#[]⟩]).cells (n - i)).toList = vs := ⟨_, rfl⟩
  have hlen : vs.length = (n - i) * 6 := by rw [← hvs]; simp [Builtin.zeroCells, Value.cells]
  have hone : ∀ v ∈ vs, v.oneCell' = true := by
    intro v hv
    rw [← hvs] at hv
    simp only [Builtin.zeroCells, Array.toList_map, List.mem_map] at hv
    obtain ⟨j, _, rfl⟩ := hv
    show ((#[Value.int .i64 0, .int .i64 0, .int .i64 0, .int .i64 0, .int .i64 0, .string ⟨#[]⟩] : Array Value)[j % 6]!).oneCell' = true
    have : j % 6 < 6 := by omega
    revert this
    generalize j % 6 = t
    intro ht
    match t, ht with
    | 0, _ => rfl
    | 1, _ => rfl
    | 2, _ => rfl
    | 3, _ => rfl
    | 4, _ => rfl
    | 5, _ => rfl
  have hst := run_storeCells_cells (P := Try.prog) g (i * 6) vs 0 w (fun j hj => by
      rw [Nat.add_zero, h.cellAt _ (by omega), List.getElem?_eq_getElem (by omega)]; rfl) (fun j hj => h.frozenAt _) hone
  simp only [Nat.add_zero] at hst
  refine ⟨vs, fun ty d => ?_, row_behinds vs w (i * 6) (row_take h (by omega)) (Nat.le_refl _)⟩
  obtain ⟨m, hm⟩ : ∃ m, n - i = m + 1 := ⟨n - i - 1, by omega⟩
  rw [hm] at hvs ⊢
  simp [Builtin.clear_, run_underlying Try.underlying22, hvs, hst]
theorem Keeps.done {es fs : List Ent} {f : Ent → Bool} {n i j : Nat} (h : Keeps es f n i j fs) (hj : n ≤ j) (l1 : n ≤ es.length) (l2 : es.length ≤ n) : fs.take i = es.filter (fun e => !f e) ∧ (es.filter fun e => !f e).length = i := by
  have e := h.kept
  rw [List.take_of_length_le (l := es) (by omega)] at e
  refine ⟨e, ?_⟩
  rw [← e, List.length_take]
  have := h.len
  have := h.lt
  have := h.le
  omega
set_option maxRecDepth 100000 in
set_option maxHeartbeats 4000000 in
theorem deleteFunc56_any (bl : Nat) (q : Addr) (f : Ent → Bool) (S : World → Prop) (A : Option Addr) (n c : Nat) (es : List Ent) (w : World) (hr : w.ownsRow bl 53 6 (.slice A n c) n (ents es)) (hn : n ≤ 1000000) (hbl : bl ≤ w.heap.size)
    (hS : S w) (hon : ∀ w1 w2, S w1 → Below bl w1 w2 → S w2)
    (hF : ∀ e ∈ es, ∀ w1, S w1 → Calls Try.prog 56 #[eval_ e, .pointer (some q)] w1 fun r w' => r = .returned (.bool (f e)) ∧ Below w1.heap.size w1 w') :
    Calls Try.prog 55 #[.slice A n c, .func (.func 56) #[] #[.pointer (some q)]] w fun r w' => r = .returned (.slice A (es.filter fun e => !f e).length c) ∧
      w'.ownsRow bl 53 6 (.slice A (es.filter fun e => !f e).length c) (es.filter fun e => !f e).length (ents (es.filter fun e => !f e)) ∧ Below bl w w' := by
  have hlen0 := hr.1
  rw [ents_length] at hlen0
  have l1 : n ≤ es.length := by omega
  have l2 : es.length ≤ n := by omega
  have HR := Lib.hid hr
  have HS := Lib.hid hS
  have HON := Lib.hid hon
  have HF := Lib.hid hF
  clear hr hlen0 hS hon hF
  go_enter Try.func55, Try.ntmps55
  go_wp2_with fail
  with_reducible refine (indexFunc56_any q f (fun w => S w ∧ bl ≤ w.heap.size) A n c es _ (Reads.of_own HR.out) hn ⟨HS.out, hbl⟩ (fun w1 w2 h1 hb => ⟨HON.out w1 w2 h1.1 (hb.mono h1.2), Nat.le_trans h1.2 hb.size⟩) fun e he w1 h1 => HF.out e he w1 h1.1).mono ?_
  rintro _ w2 ⟨⟨i, rfl, hi⟩, hb2⟩
  have HB2 := Lib.hid (hb2.mono hbl)
  have HR2 := Lib.hid (row_on HR.out hb2)
  have HS2 := Lib.hid (HON.out _ _ HS.out HB2.out)
  clear hb2 HS HR
  rcases hi with ⟨rfl, hno⟩ | ⟨k, rfl, x, hx, hfx, hno⟩
  · have HE : Hid ((es.filter fun e => !f e) = es) := Lib.hid (List.filter_eq_self.2 fun e he => by rw [hno e he]; rfl)
    clear hno
    go_wp2_with fail
    go_ret
    rw [HE.out, show es.length = n by omega]
    exact ⟨rfl, HR2.out, HB2.out⟩
  have hk : k < n := by have := (List.getElem?_eq_some_iff.1 hx).1; omega
  have HK : Hid (Keeps es f n k (k + 1) es) := Lib.hid ⟨by omega, by omega, by omega, by
    rw [take_succ_of hx, List.filter_append, List.filter_eq_self.2 fun e he => by rw [hno e he]; rfl]
    simp [hfx], rfl⟩
  obtain ⟨g, rfl⟩ : ∃ g, A = some ⟨g, 0, none⟩ := by
    obtain ⟨g, cap, hv, _, _⟩ := HR2.out.form (by omega)
    injection hv with e _ _
    exact ⟨g, e⟩
  have k0 : ((k : Int) == -1) = false := beq_eq_false_iff_ne.2 (by omega)
  clear hno hfx hx
  go_wp2_with fail
  go_loopw [5, 6, 7] (fun v u _ wr => ∃ i j : Nat, ∃ fs, v = .int .i64 i ∧ u = .int .i64 j ∧ Keeps es f n i j fs ∧ wr.ownsRow bl 53 6 (.slice (some ⟨g, 0, none⟩) n c) n (ents fs) ∧ bl ≤ wr.heap.size ∧ S wr ∧ Below bl w wr) (fun _ u _ _ => n - (intOf u).toNat)
  case atStart => exact ⟨k, k + 1, es, rfl, by go_num, HK.out, HR2.out, Nat.le_trans hbl HB2.out.size, HS2.out, HB2.out⟩
  case round =>
    obtain ⟨i, j, fs, rfl, rfl, hks, hown, hbw0, hS, hbw⟩ := hrel
    have HKS := Lib.hid hks
    have HO := Lib.hid hown
    have HSW := Lib.hid hS
    have HBW := Lib.hid hbw
    have hij := hks.lt
    have hjn := hks.le
    have hfl := hks.len
    clear hks hown hS hbw
    by_cases hlt : j < n
    · obtain ⟨ad, x, e1, hbk, hx, d0, d1, d2, d3, d4, d5⟩ := eat (Reads.of_own HO.out) (k := j) (by omega)
      have X := fun w => ix22 (c := c) e1 hlt w
      have HX := Lib.hid hx
      clear hx e1
      have B0 := Box.new wr #[.int .i64 x.1, .int .i64 x.2.1, .int .i64 x.2.2.1.1, .int .i64 x.2.2.1.2.1, .int .i64 x.2.2.1.2.2, .string x.2.2.2] 53
      have HO2 := Lib.hid (row_on HO.out (belowA wr (.cells #[.int .i64 x.1, .int .i64 x.2.1, .int .i64 x.2.2.1.1, .int .i64 x.2.2.1.2.1, .int .i64 x.2.2.1.2.2, .string x.2.2.2] 53)))
      have HW2 := Lib.hid ((belowA wr (.cells #[.int .i64 x.1, .int .i64 x.2.1, .int .i64 x.2.2.1.1, .int .i64 x.2.2.1.2.1, .int .i64 x.2.2.1.2.2, .string x.2.2.2] 53)).mono hbw0)
      have HM := Lib.hid (HKS.out.mem HX.out)
      go_wp2_with fail
      with_reducible refine (HF.out x HM.out _ (HON.out _ _ HSW.out HW2.out)).mono ?_
      rintro _ w3 ⟨rfl, hb3⟩
      have b0 := B0.below hb3
      have HO3 := Lib.hid (row_on HO2.out hb3)
      have HW3 := Lib.hid (HW2.out.trans (hb3.mono (Nat.le_trans hbw0 HW2.out.size)))
      clear hb3 d0 d1 d2 d3 d4 d5 X B0 HO HO2 HW2
      have c0 := b0.at
      rcases Bool.eq_false_or_eq_true (f x) with hf | hf
      · have HK2 := Lib.hid (HKS.out.skip HX.out hf)
        rw [hf]
        clear hf
        go_wp2_with fail
        go_roundw
        case rel => exact ⟨i, j + 1, fs, rfl, by go_num, HK2.out, HO3.out, Nat.le_trans hbw0 HW3.out.size, HON.out _ _ HSW.out HW3.out, HBW.out.trans HW3.out⟩
        case measure => simp [intOf]; omega
      · have HK2 := Lib.hid (HKS.out.keep HX.out hf)
        rw [hf]
        clear hf
        have X2 := fun w => ix22 (A := some ⟨g, 0, none⟩) (c := c) (k := i) rfl (show i < n by omega) w
        rw [Addr.add_lit, Nat.zero_add] at X2
        obtain ⟨⟨u0, z0⟩, ⟨u1, z1⟩, ⟨u2, z2⟩, ⟨u3, z3⟩, ⟨u4, z4⟩, ⟨u5, z5⟩⟩ := row_cells HO3.out (i := i) (by omega)
        have fz := HO3.out.frozenAt
        obtain ⟨P1, P2⟩ := row_put HO3.out (i := i) x (by omega)
        have HP1 := Lib.hid P1
        have hbg := (HO3.out.lt g rfl).1
        have HP2 := Lib.hid (HW3.out.grown P2 (Nat.le_trans hbw0 HW3.out.size) fun _ e => by cases e; exact hbg)
        clear P1 P2
        go_wp2_with fail
        go_roundw
        case rel => exact ⟨i + 1, j + 1, fs.set i x, by go_num, by go_num, HK2.out, HP1.out, Nat.le_trans hbw0 HP2.out.size, HON.out _ _ HSW.out HP2.out, HBW.out.trans HP2.out⟩
        case measure => simp [intOf]; omega
    · have hci : c ≠ i := by have := (row_cap HO.out).1; omega
      have HF2 := Lib.hid (HKS.out.done (by omega) l1 l2)
      have hic : i ≤ c := by have := (row_cap HO.out).1; omega
      obtain ⟨vs, Q2, Q3, Q4⟩ := row_cleared HO.out (show i < n by omega)
      have HQ3 := Lib.hid Q3
      have hbg := (HO.out.lt g rfl).1
      have HQ4 := Lib.hid (HBW.out.grown Q4 hbw0 fun _ e => by cases e; exact hbg)
      clear Q3 Q4
      go_wp2_with fail
      go_ret
      have hq := HQ3.out
      rw [HF2.out.1] at hq
      rw [HF2.out.2]
      exact ⟨rfl, hq, HQ4.out⟩
set_option maxRecDepth 100000 in
set_option maxHeartbeats 4000000 in
theorem deleteFunc59_any (bl : Nat) (q : Addr) (f : Ent → Bool) (S : World → Prop) (A : Option Addr) (n c : Nat) (es : List Ent) (w : World) (hr : w.ownsRow bl 53 6 (.slice A n c) n (ents es)) (hn : n ≤ 1000000) (hbl : bl ≤ w.heap.size)
    (hS : S w) (hon : ∀ w1 w2, S w1 → Below bl w1 w2 → S w2)
    (hF : ∀ e ∈ es, ∀ w1, S w1 → Calls Try.prog 59 #[eval_ e, .pointer (some q)] w1 fun r w' => r = .returned (.bool (f e)) ∧ Below w1.heap.size w1 w') :
    Calls Try.prog 55 #[.slice A n c, .func (.func 59) #[] #[.pointer (some q)]] w fun r w' => r = .returned (.slice A (es.filter fun e => !f e).length c) ∧
      w'.ownsRow bl 53 6 (.slice A (es.filter fun e => !f e).length c) (es.filter fun e => !f e).length (ents (es.filter fun e => !f e)) ∧ Below bl w w' := by
  have hlen0 := hr.1
  rw [ents_length] at hlen0
  have l1 : n ≤ es.length := by omega
  have l2 : es.length ≤ n := by omega
  have HR := Lib.hid hr
  have HS := Lib.hid hS
  have HON := Lib.hid hon
  have HF := Lib.hid hF
  clear hr hlen0 hS hon hF
  go_enter Try.func55, Try.ntmps55
  go_wp2_with fail
  with_reducible refine (indexFunc59_any q f (fun w => S w ∧ bl ≤ w.heap.size) A n c es _ (Reads.of_own HR.out) hn ⟨HS.out, hbl⟩ (fun w1 w2 h1 hb => ⟨HON.out w1 w2 h1.1 (hb.mono h1.2), Nat.le_trans h1.2 hb.size⟩) fun e he w1 h1 => HF.out e he w1 h1.1).mono ?_
  rintro _ w2 ⟨⟨i, rfl, hi⟩, hb2⟩
  have HB2 := Lib.hid (hb2.mono hbl)
  have HR2 := Lib.hid (row_on HR.out hb2)
  have HS2 := Lib.hid (HON.out _ _ HS.out HB2.out)
  clear hb2 HS HR
  rcases hi with ⟨rfl, hno⟩ | ⟨k, rfl, x, hx, hfx, hno⟩
  · have HE : Hid ((es.filter fun e => !f e) = es) := Lib.hid (List.filter_eq_self.2 fun e he => by rw [hno e he]; rfl)
    clear hno
    go_wp2_with fail
    go_ret
    rw [HE.out, show es.length = n by omega]
    exact ⟨rfl, HR2.out, HB2.out⟩
  have hk : k < n := by have := (List.getElem?_eq_some_iff.1 hx).1; omega
  have HK : Hid (Keeps es f n k (k + 1) es) := Lib.hid ⟨by omega, by omega, by omega, by
    rw [take_succ_of hx, List.filter_append, List.filter_eq_self.2 fun e he => by rw [hno e he]; rfl]
    simp [hfx], rfl⟩
  obtain ⟨g, rfl⟩ : ∃ g, A = some ⟨g, 0, none⟩ := by
    obtain ⟨g, cap, hv, _, _⟩ := HR2.out.form (by omega)
    injection hv with e _ _
    exact ⟨g, e⟩
  have k0 : ((k : Int) == -1) = false := beq_eq_false_iff_ne.2 (by omega)
  clear hno hfx hx
  go_wp2_with fail
  go_loopw [5, 6, 7] (fun v u _ wr => ∃ i j : Nat, ∃ fs, v = .int .i64 i ∧ u = .int .i64 j ∧ Keeps es f n i j fs ∧ wr.ownsRow bl 53 6 (.slice (some ⟨g, 0, none⟩) n c) n (ents fs) ∧ bl ≤ wr.heap.size ∧ S wr ∧ Below bl w wr) (fun _ u _ _ => n - (intOf u).toNat)
  case atStart => exact ⟨k, k + 1, es, rfl, by go_num, HK.out, HR2.out, Nat.le_trans hbl HB2.out.size, HS2.out, HB2.out⟩
  case round =>
    obtain ⟨i, j, fs, rfl, rfl, hks, hown, hbw0, hS, hbw⟩ := hrel
    have HKS := Lib.hid hks
    have HO := Lib.hid hown
    have HSW := Lib.hid hS
    have HBW := Lib.hid hbw
    have hij := hks.lt
    have hjn := hks.le
    have hfl := hks.len
    clear hks hown hS hbw
    by_cases hlt : j < n
    · obtain ⟨ad, x, e1, hbk, hx, d0, d1, d2, d3, d4, d5⟩ := eat (Reads.of_own HO.out) (k := j) (by omega)
      have X := fun w => ix22 (c := c) e1 hlt w
      have HX := Lib.hid hx
      clear hx e1
      have B0 := Box.new wr #[.int .i64 x.1, .int .i64 x.2.1, .int .i64 x.2.2.1.1, .int .i64 x.2.2.1.2.1, .int .i64 x.2.2.1.2.2, .string x.2.2.2] 53
      have HO2 := Lib.hid (row_on HO.out (belowA wr (.cells #[.int .i64 x.1, .int .i64 x.2.1, .int .i64 x.2.2.1.1, .int .i64 x.2.2.1.2.1, .int .i64 x.2.2.1.2.2, .string x.2.2.2] 53)))
      have HW2 := Lib.hid ((belowA wr (.cells #[.int .i64 x.1, .int .i64 x.2.1, .int .i64 x.2.2.1.1, .int .i64 x.2.2.1.2.1, .int .i64 x.2.2.1.2.2, .string x.2.2.2] 53)).mono hbw0)
      have HM := Lib.hid (HKS.out.mem HX.out)
      go_wp2_with fail
      with_reducible refine (HF.out x HM.out _ (HON.out _ _ HSW.out HW2.out)).mono ?_
      rintro _ w3 ⟨rfl, hb3⟩
      have b0 := B0.below hb3
      have HO3 := Lib.hid (row_on HO2.out hb3)
      have HW3 := Lib.hid (HW2.out.trans (hb3.mono (Nat.le_trans hbw0 HW2.out.size)))
      clear hb3 d0 d1 d2 d3 d4 d5 X B0 HO HO2 HW2
      have c0 := b0.at
      rcases Bool.eq_false_or_eq_true (f x) with hf | hf
      · have HK2 := Lib.hid (HKS.out.skip HX.out hf)
        rw [hf]
        clear hf
        go_wp2_with fail
        go_roundw
        case rel => exact ⟨i, j + 1, fs, rfl, by go_num, HK2.out, HO3.out, Nat.le_trans hbw0 HW3.out.size, HON.out _ _ HSW.out HW3.out, HBW.out.trans HW3.out⟩
        case measure => simp [intOf]; omega
      · have HK2 := Lib.hid (HKS.out.keep HX.out hf)
        rw [hf]
        clear hf
        have X2 := fun w => ix22 (A := some ⟨g, 0, none⟩) (c := c) (k := i) rfl (show i < n by omega) w
        rw [Addr.add_lit, Nat.zero_add] at X2
        obtain ⟨⟨u0, z0⟩, ⟨u1, z1⟩, ⟨u2, z2⟩, ⟨u3, z3⟩, ⟨u4, z4⟩, ⟨u5, z5⟩⟩ := row_cells HO3.out (i := i) (by omega)
        have fz := HO3.out.frozenAt
        obtain ⟨P1, P2⟩ := row_put HO3.out (i := i) x (by omega)
        have HP1 := Lib.hid P1
        have hbg := (HO3.out.lt g rfl).1
        have HP2 := Lib.hid (HW3.out.grown P2 (Nat.le_trans hbw0 HW3.out.size) fun _ e => by cases e; exact hbg)
        clear P1 P2
        go_wp2_with fail
        go_roundw
        case rel => exact ⟨i + 1, j + 1, fs.set i x, by go_num, by go_num, HK2.out, HP1.out, Nat.le_trans hbw0 HP2.out.size, HON.out _ _ HSW.out HP2.out, HBW.out.trans HP2.out⟩
        case measure => simp [intOf]; omega
    · have hci : c ≠ i := by have := (row_cap HO.out).1; omega
      have HF2 := Lib.hid (HKS.out.done (by omega) l1 l2)
      have hic : i ≤ c := by have := (row_cap HO.out).1; omega
      obtain ⟨vs, Q2, Q3, Q4⟩ := row_cleared HO.out (show i < n by omega)
      have HQ3 := Lib.hid Q3
      have hbg := (HO.out.lt g rfl).1
      have HQ4 := Lib.hid (HBW.out.grown Q4 hbw0 fun _ e => by cases e; exact hbg)
      clear Q3 Q4
      go_wp2_with fail
      go_ret
      have hq := HQ3.out
      rw [HF2.out.1] at hq
      rw [HF2.out.2]
      exact ⟨rfl, hq, HQ4.out⟩
set_option maxRecDepth 100000 in
set_option maxHeartbeats 4000000 in
theorem deleteFunc60_any (bl : Nat) (q : Addr) (f : Ent → Bool) (S : World → Prop) (A : Option Addr) (n c : Nat) (es : List Ent) (w : World) (hr : w.ownsRow bl 53 6 (.slice A n c) n (ents es)) (hn : n ≤ 1000000) (hbl : bl ≤ w.heap.size)
    (hS : S w) (hon : ∀ w1 w2, S w1 → Below bl w1 w2 → S w2)
    (hF : ∀ e ∈ es, ∀ w1, S w1 → Calls Try.prog 60 #[eval_ e, .pointer (some q)] w1 fun r w' => r = .returned (.bool (f e)) ∧ Below w1.heap.size w1 w') :
    Calls Try.prog 55 #[.slice A n c, .func (.func 60) #[] #[.pointer (some q)]] w fun r w' => r = .returned (.slice A (es.filter fun e => !f e).length c) ∧
      w'.ownsRow bl 53 6 (.slice A (es.filter fun e => !f e).length c) (es.filter fun e => !f e).length (ents (es.filter fun e => !f e)) ∧ Below bl w w' := by
  have hlen0 := hr.1
  rw [ents_length] at hlen0
  have l1 : n ≤ es.length := by omega
  have l2 : es.length ≤ n := by omega
  have HR := Lib.hid hr
  have HS := Lib.hid hS
  have HON := Lib.hid hon
  have HF := Lib.hid hF
  clear hr hlen0 hS hon hF
  go_enter Try.func55, Try.ntmps55
  go_wp2_with fail
  with_reducible refine (indexFunc60_any q f (fun w => S w ∧ bl ≤ w.heap.size) A n c es _ (Reads.of_own HR.out) hn ⟨HS.out, hbl⟩ (fun w1 w2 h1 hb => ⟨HON.out w1 w2 h1.1 (hb.mono h1.2), Nat.le_trans h1.2 hb.size⟩) fun e he w1 h1 => HF.out e he w1 h1.1).mono ?_
  rintro _ w2 ⟨⟨i, rfl, hi⟩, hb2⟩
  have HB2 := Lib.hid (hb2.mono hbl)
  have HR2 := Lib.hid (row_on HR.out hb2)
  have HS2 := Lib.hid (HON.out _ _ HS.out HB2.out)
  clear hb2 HS HR
  rcases hi with ⟨rfl, hno⟩ | ⟨k, rfl, x, hx, hfx, hno⟩
  · have HE : Hid ((es.filter fun e => !f e) = es) := Lib.hid (List.filter_eq_self.2 fun e he => by rw [hno e he]; rfl)
    clear hno
    go_wp2_with fail
    go_ret
    rw [HE.out, show es.length = n by omega]
    exact ⟨rfl, HR2.out, HB2.out⟩
  have hk : k < n := by have := (List.getElem?_eq_some_iff.1 hx).1; omega
  have HK : Hid (Keeps es f n k (k + 1) es) := Lib.hid ⟨by omega, by omega, by omega, by
    rw [take_succ_of hx, List.filter_append, List.filter_eq_self.2 fun e he => by rw [hno e he]; rfl]
    simp [hfx], rfl⟩
  obtain ⟨g, rfl⟩ : ∃ g, A = some ⟨g, 0, none⟩ := by
    obtain ⟨g, cap, hv, _, _⟩ := HR2.out.form (by omega)
    injection hv with e _ _
    exact ⟨g, e⟩
  have k0 : ((k : Int) == -1) = false := beq_eq_false_iff_ne.2 (by omega)
  clear hno hfx hx
  go_wp2_with fail
  go_loopw [5, 6, 7] (fun v u _ wr => ∃ i j : Nat, ∃ fs, v = .int .i64 i ∧ u = .int .i64 j ∧ Keeps es f n i j fs ∧ wr.ownsRow bl 53 6 (.slice (some ⟨g, 0, none⟩) n c) n (ents fs) ∧ bl ≤ wr.heap.size ∧ S wr ∧ Below bl w wr) (fun _ u _ _ => n - (intOf u).toNat)
  case atStart => exact ⟨k, k + 1, es, rfl, by go_num, HK.out, HR2.out, Nat.le_trans hbl HB2.out.size, HS2.out, HB2.out⟩
  case round =>
    obtain ⟨i, j, fs, rfl, rfl, hks, hown, hbw0, hS, hbw⟩ := hrel
    have HKS := Lib.hid hks
    have HO := Lib.hid hown
    have HSW := Lib.hid hS
    have HBW := Lib.hid hbw
    have hij := hks.lt
    have hjn := hks.le
    have hfl := hks.len
    clear hks hown hS hbw
    by_cases hlt : j < n
    · obtain ⟨ad, x, e1, hbk, hx, d0, d1, d2, d3, d4, d5⟩ := eat (Reads.of_own HO.out) (k := j) (by omega)
      have X := fun w => ix22 (c := c) e1 hlt w
      have HX := Lib.hid hx
      clear hx e1
      have B0 := Box.new wr #[.int .i64 x.1, .int .i64 x.2.1, .int .i64 x.2.2.1.1, .int .i64 x.2.2.1.2.1, .int .i64 x.2.2.1.2.2, .string x.2.2.2] 53
      have HO2 := Lib.hid (row_on HO.out (belowA wr (.cells #[.int .i64 x.1, .int .i64 x.2.1, .int .i64 x.2.2.1.1, .int .i64 x.2.2.1.2.1, .int .i64 x.2.2.1.2.2, .string x.2.2.2] 53)))
      have HW2 := Lib.hid ((belowA wr (.cells #[.int .i64 x.1, .int .i64 x.2.1, .int .i64 x.2.2.1.1, .int .i64 x.2.2.1.2.1, .int .i64 x.2.2.1.2.2, .string x.2.2.2] 53)).mono hbw0)
      have HM := Lib.hid (HKS.out.mem HX.out)
      go_wp2_with fail
      with_reducible refine (HF.out x HM.out _ (HON.out _ _ HSW.out HW2.out)).mono ?_
      rintro _ w3 ⟨rfl, hb3⟩
      have b0 := B0.below hb3
      have HO3 := Lib.hid (row_on HO2.out hb3)
      have HW3 := Lib.hid (HW2.out.trans (hb3.mono (Nat.le_trans hbw0 HW2.out.size)))
      clear hb3 d0 d1 d2 d3 d4 d5 X B0 HO HO2 HW2
      have c0 := b0.at
      rcases Bool.eq_false_or_eq_true (f x) with hf | hf
      · have HK2 := Lib.hid (HKS.out.skip HX.out hf)
        rw [hf]
        clear hf
        go_wp2_with fail
        go_roundw
        case rel => exact ⟨i, j + 1, fs, rfl, by go_num, HK2.out, HO3.out, Nat.le_trans hbw0 HW3.out.size, HON.out _ _ HSW.out HW3.out, HBW.out.trans HW3.out⟩
        case measure => simp [intOf]; omega
      · have HK2 := Lib.hid (HKS.out.keep HX.out hf)
        rw [hf]
        clear hf
        have X2 := fun w => ix22 (A := some ⟨g, 0, none⟩) (c := c) (k := i) rfl (show i < n by omega) w
        rw [Addr.add_lit, Nat.zero_add] at X2
        obtain ⟨⟨u0, z0⟩, ⟨u1, z1⟩, ⟨u2, z2⟩, ⟨u3, z3⟩, ⟨u4, z4⟩, ⟨u5, z5⟩⟩ := row_cells HO3.out (i := i) (by omega)
        have fz := HO3.out.frozenAt
        obtain ⟨P1, P2⟩ := row_put HO3.out (i := i) x (by omega)
        have HP1 := Lib.hid P1
        have hbg := (HO3.out.lt g rfl).1
        have HP2 := Lib.hid (HW3.out.grown P2 (Nat.le_trans hbw0 HW3.out.size) fun _ e => by cases e; exact hbg)
        clear P1 P2
        go_wp2_with fail
        go_roundw
        case rel => exact ⟨i + 1, j + 1, fs.set i x, by go_num, by go_num, HK2.out, HP1.out, Nat.le_trans hbw0 HP2.out.size, HON.out _ _ HSW.out HP2.out, HBW.out.trans HP2.out⟩
        case measure => simp [intOf]; omega
    · have hci : c ≠ i := by have := (row_cap HO.out).1; omega
      have HF2 := Lib.hid (HKS.out.done (by omega) l1 l2)
      have hic : i ≤ c := by have := (row_cap HO.out).1; omega
      obtain ⟨vs, Q2, Q3, Q4⟩ := row_cleared HO.out (show i < n by omega)
      have HQ3 := Lib.hid Q3
      have hbg := (HO.out.lt g rfl).1
      have HQ4 := Lib.hid (HBW.out.grown Q4 hbw0 fun _ e => by cases e; exact hbg)
      clear Q3 Q4
      go_wp2_with fail
      go_ret
      have hq := HQ3.out
      rw [HF2.out.1] at hq
      rw [HF2.out.2]
      exact ⟨rfl, hq, HQ4.out⟩
end Go.Proofs.Ytlmdmbjdhlgkoaa
