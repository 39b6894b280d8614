/- Walks: the entries of a place, whether a list has an entry, the entries that another list has or has not. -/
import Derived.Test.YtlmdmbjdhlgkoaaC11
import Derived.Test.YtlmdmbjdhlgkoaaQt
namespace Go.Proofs.Ytlmdmbjdhlgkoaa
open Go.RowKit Go.Sort

theorem ecells_one (e : Ent) : ∀ u ∈ ecells e, u.oneCell' = true := by
  have := ents_one [e]
  simpa [ents] using this
theorem ents_snoc (l : List Ent) (e : Ent) : ents (l ++ [e]) = ents l ++ ecells e := by simp [ents]
theorem len_snoc {α : Type} (l : List α) (e : α) : (l ++ [e]).length = l.length + 1 := by simp
theorem fl_yes {es : List Ent} {k : Nat} {e : Ent} (f : Ent → Bool) (h : es.take (k + 1) = es.take k ++ [e]) (hf : f e = true) : (es.take (k + 1)).filter f = (es.take k).filter f ++ [e] := by
  rw [h, List.filter_append]; simp [hf]
theorem fl_no {es : List Ent} {k : Nat} {e : Ent} (f : Ent → Bool) (h : es.take (k + 1) = es.take k ++ [e]) (hf : f e = false) : (es.take (k + 1)).filter f = (es.take k).filter f := by
  rw [h, List.filter_append]; simp [hf]
theorem fl_le (es : List Ent) (k : Nat) (f : Ent → Bool) : ((es.take k).filter f).length ≤ k := by
  have := List.length_filter_le f (es.take k)
  have := List.length_take_le k es
  omega
/-- Collecting entries: what the slot holds behind k rounds. -/
def Coll (w0 : World) (es : List Ent) (f : Ent → Bool) (k : Nat) (w : World) (v : Value) : Prop := OwnX 53 6 w0 w v ((es.take k).filter f).length (ents ((es.take k).filter f))
section
variable {w0 w w' : World} {es : List Ent} {f : Ent → Bool} {k : Nat} {v : Value} {e : Ent}
theorem Coll.nil : Coll w es f 0 w (.slice none 0 0) := by
  unfold Coll
  simp only [List.take_zero, List.filter_nil]
  exact OwnX.nil _ _ _
theorem Coll.nil' (hb : Below w0.heap.size w0 w) : Coll w0 es f 0 w (.slice none 0 0) := by
  unfold Coll
  simp only [List.take_zero, List.filter_nil]
  exact ⟨World.ownsRow_nil _ _ _ _, hb⟩
theorem Coll.on (h : Coll w0 es f k w v) (hb : Below w.heap.size w w') : Coll w0 es f k w' v := OwnX.on h hb
theorem Coll.own (h : Coll w0 es f k w v) : OwnX 53 6 w0 w v ((es.take k).filter f).length (ents ((es.take k).filter f)) := h
theorem Coll.bel (h : Coll w0 es f k w v) : Below w0.heap.size w0 w := OwnX.bel h
theorem Coll.yes (hT : es.take (k + 1) = es.take k ++ [e]) (hf : f e = true) (h : OwnX 53 6 w0 w v (((es.take k).filter f).length + 1) (ents ((es.take k).filter f) ++ ecells e)) : Coll w0 es f (k + 1) w v := by
  unfold Coll
  rw [fl_yes f hT hf, ents_snoc, len_snoc]
  exact h
theorem Coll.no (hT : es.take (k + 1) = es.take k ++ [e]) (hf : f e = false) (h : Coll w0 es f k w v) : Coll w0 es f (k + 1) w v := by
  unfold Coll
  rw [fl_no f hT hf]
  exact h
theorem Coll.all (h : Coll w0 es f k w v) (hk : es.length ≤ k) : ∃ B d, v = .slice B (es.filter f).length d ∧ w.ownsRow w0.heap.size 53 6 (.slice B (es.filter f).length d) (es.filter f).length (ents (es.filter f)) ∧ Below w0.heap.size w0 w := by
  unfold Coll at h
  rw [List.take_of_length_le hk] at h
  obtain ⟨B, d, hv, _⟩ := h.form
  subst hv
  exact ⟨B, d, rfl, h.row, h.bel⟩
end
set_option maxRecDepth 100000 in
theorem of_any (A : Option Addr) (n c : Nat) (es : List Ent) (p : Int) (w : World) (hl : Reads w w.heap.size 6 A n (ents es)) (hn : n ≤ 1000000) :
    Calls Try.prog 47 #[.slice A n c, .int .i64 p] w (RetRow 53 6 (ofP es p).length (ents (ofP es p)) w) := by
  have hlen0 := hl.1
  rw [ents_length] at hlen0
  have l1 : n ≤ es.length := by omega
  have l2 : es.length ≤ n := by omega
  have HL := Lib.hid hl
  clear hl hlen0
  go_enter Try.func47, Try.ntmps47
  go_wp2_with fail
  go_loopw [5, 6] (fun v i wr => ∃ k : Nat, k ≤ n ∧ i = .int .i64 k ∧ Coll w es (fun e => decide (e.1 = p)) k wr v) (fun _ i _ => n - (intOf i).toNat)
  case atStart => exact ⟨0, by omega, rfl, Coll.nil⟩
  case round =>
    obtain ⟨k, hk, rfl, hown⟩ := hrel
    have HOWN := Lib.hid hown
    clear hown
    by_cases hlt : k < n
    · obtain ⟨ad, e, e1, hbk, he, d0, d1, d2, d3, d4, d5⟩ := eat (HL.out.on HOWN.out.bel) (k := k) (by omega)
      have X := fun w => ix22 (c := c) e1 hlt w
      have HT := Lib.hid (take_succ_of he)
      have hle := fl_le es k (fun e => decide (e.1 = p))
      have hlen : ((es.take k).filter (fun e => decide (e.1 = p))).length < 1000000000 := by omega
      clear he e1 hle
      by_cases hq : e.1 = p
      · have g : (e.1 == p) = true := by simpa using hq
        have HF : Hid ((fun e : Ent => decide (e.1 = p)) e = true) := Lib.hid (by simpa using hq)
        clear hq
        go_wp2_with (at_builtin; refine wpList_pushX rfl _ _ 22 53 rfl Try.underlying22 info53b rfl (by omega) (by omega) w _ _ _ _ (ecells e) _ rfl (HOWN.out.own.on (belowA _ _)) rfl (Box.new _ _ _) rfl (ecells_one e) hlen ?_; intro v' w' hown'; have hown5 := Lib.hid hown'; clear hown')
        go_roundw
        case rel => exact ⟨k + 1, by omega, by go_num, Coll.yes HT.out HF.out hown5.out⟩
        case measure => simp [intOf]; omega
      · have g : (e.1 == p) = false := by simpa using hq
        have HF : Hid ((fun e : Ent => decide (e.1 = p)) e = false) := Lib.hid (by simpa using hq)
        clear hq
        go_wp2_with fail
        go_roundw
        case rel => exact ⟨k + 1, by omega, by go_num, Coll.no HT.out HF.out HOWN.out⟩
        case measure => simp [intOf]; omega
    · obtain ⟨B, d, rfl, hr, hb⟩ := HOWN.out.all (by omega)
      have HR := Lib.hid hr
      have HB := Lib.hid hb
      clear hr hb
      go_wp2_with fail
      go_ret
      exact ⟨B, d, rfl, HR.out, HB.out⟩
set_option maxRecDepth 100000 in
theorem has_any (A : Option Addr) (n c : Nat) (es : List Ent) (e : Ent) (w : World) (hl : Reads w w.heap.size 6 A n (ents es)) (hn : n ≤ 1000000) :
    Calls Try.prog 70 #[.slice A n c, eval_ e] w fun r w' => r = .returned (.bool (decide (e ∈ es))) ∧ Below w.heap.size w w' := by
  have hlen0 := hl.1
  rw [ents_length] at hlen0
  have l1 : n ≤ es.length := by omega
  have l2 : es.length ≤ n := by omega
  have HL := Lib.hid hl
  clear hl hlen0
  go_enter Try.func70, Try.ntmps70
  dsimp only [eval_]
  go_wp2_with fail
  go_loopw [5] (fun i wr => ∃ k : Nat, k ≤ n ∧ i = .int .i64 k ∧ e ∉ es.take k ∧ Box wr w.heap.size #[.int .i64 e.1, .int .i64 e.2.1, .int .i64 e.2.2.1.1, .int .i64 e.2.2.1.2.1, .int .i64 e.2.2.1.2.2, .string e.2.2.2] ∧ Below w.heap.size w wr) (fun i _ => n - (intOf i).toNat)
  case atStart => exact ⟨0, by omega, rfl, by simp, Box.new _ _ _, belowA _ _⟩
  case round =>
    obtain ⟨k, hk, rfl, hno, bx, hbw⟩ := hrel
    have HNO := Lib.hid hno
    have HBW := Lib.hid hbw
    clear hno hbw
    by_cases hlt : k < n
    · obtain ⟨ad, x, e1, hbk, hx, d0, d1, d2, d3, d4, d5⟩ := eat (HL.out.on HBW.out) (k := k) (by omega)
      have X := fun w => ix22 (c := c) e1 hlt w
      have HT := Lib.hid (take_succ_of hx)
      have HM := Lib.hid (List.mem_of_getElem? hx)
      have q1 := eqg53 .eql
      have q2 := eql53 x e
      have cx := bx.at
      clear hx e1
      by_cases hxe : x = e
      · have HF : Hid (decide (e ∈ es) = true) := Lib.hid (by rw [decide_eq_true_eq]; exact hxe ▸ HM.out)
        rw [eqN_iff.2 hxe] at q2
        clear hxe
        go_wp2_with fail
        go_quiet (fail)
        go_wp2_with fail
        go_ret
        exact ⟨ret_bool HF.out.symm, below_drewN' HBW.out _⟩
      · have HN2 : Hid (e ∉ es.take (k + 1)) := Lib.hid (by
          rw [HT.out]
          intro h
          rcases List.mem_append.1 h with h | h
          · exact HNO.out h
          · exact hxe (List.mem_singleton.1 h).symm)
        rw [eqN_not.2 hxe] at q2
        clear hxe
        go_wp2_with fail
        go_quiet (fail)
        go_wp2_with fail
        clear cx
        go_roundw
        case rel => exact ⟨k + 1, by omega, by go_num, HN2.out, bx, below_drewN' HBW.out _⟩
        case measure => simp [intOf]; omega
    · have HF : Hid (decide (e ∈ es) = false) := Lib.hid (by rw [decide_eq_false_iff_not]; have := HNO.out; rwa [List.take_of_length_le (by omega)] at this)
      go_wp2_with fail
      go_ret
      exact ⟨ret_bool HF.out.symm, HBW.out⟩
set_option maxRecDepth 100000 in
theorem index_any (A : Option Addr) (n c : Nat) (es : List Ent) (e : Ent) (w : World) (hl : Reads w w.heap.size 6 A n (ents es)) (hn : n ≤ 1000000) :
    Calls Try.prog 87 #[.slice A n c, eval_ e] w fun r w' => (∃ i : Int, r = .returned (.int .i64 i) ∧ (0 ≤ i ↔ e ∈ es)) ∧ Below w.heap.size w w' := by
  have hlen0 := hl.1
  rw [ents_length] at hlen0
  have l1 : n ≤ es.length := by omega
  have l2 : es.length ≤ n := by omega
  have HL := Lib.hid hl
  clear hl hlen0
  go_enter Try.func87, Try.ntmps87
  dsimp only [eval_]
  go_wp2_with fail
  go_loopw [8] (fun i wr => ∃ k : Nat, k ≤ n ∧ i = .int .i64 k ∧ e ∉ es.take k ∧ Box wr w.heap.size #[.int .i64 e.1, .int .i64 e.2.1, .int .i64 e.2.2.1.1, .int .i64 e.2.2.1.2.1, .int .i64 e.2.2.1.2.2, .string e.2.2.2] ∧ Below w.heap.size w wr) (fun i _ => n - (intOf i).toNat)
  case atStart => exact ⟨0, by omega, rfl, by simp, Box.new _ _ _, belowA _ _⟩
  case round =>
    obtain ⟨k, hk, rfl, hno, bx, hbw⟩ := hrel
    have HNO := Lib.hid hno
    have HBW := Lib.hid hbw
    clear hno hbw
    by_cases hlt : k < n
    · obtain ⟨ad, x, e1, hbk, hx, d0, d1, d2, d3, d4, d5⟩ := eat (HL.out.on HBW.out) (k := k) (by omega)
      have X := fun w => ix22 (c := c) e1 hlt w
      have HT := Lib.hid (take_succ_of hx)
      have HM := Lib.hid (List.mem_of_getElem? hx)
      have q1 := eqg53 .eql
      have q2 := eql53 e x
      have cx := bx.at
      clear hx e1
      by_cases hxe : x = e
      · have HF : Hid (e ∈ es) := Lib.hid (hxe ▸ HM.out)
        rw [eqN_iff.2 hxe.symm] at q2
        clear hxe
        go_wp2_with fail
        go_quiet (fail)
        go_wp2_with fail
        go_ret
        exact ⟨⟨k, rfl, ⟨fun _ => HF.out, fun _ => by omega⟩⟩, below_drewN' HBW.out _⟩
      · have HN2 : Hid (e ∉ es.take (k + 1)) := Lib.hid (by
          rw [HT.out]
          intro h
          rcases List.mem_append.1 h with h | h
          · exact HNO.out h
          · exact hxe (List.mem_singleton.1 h).symm)
        rw [eqN_not.2 (Ne.symm hxe)] at q2
        clear hxe
        go_wp2_with fail
        go_quiet (fail)
        go_wp2_with fail
        clear cx
        go_roundw
        case rel => exact ⟨k + 1, by omega, by go_num, HN2.out, bx, below_drewN' HBW.out _⟩
        case measure => simp [intOf]; omega
    · have HF : Hid (e ∉ es) := Lib.hid (by have := HNO.out; rwa [List.take_of_length_le (by omega)] at this)
      go_wp2_with fail
      go_ret
      exact ⟨⟨-1, rfl, ⟨fun h => by omega, fun h => absurd h HF.out⟩⟩, HBW.out⟩
theorem contains_any (A : Option Addr) (n c : Nat) (es : List Ent) (e : Ent) (w : World) (hl : Reads w w.heap.size 6 A n (ents es)) (hn : n ≤ 1000000) :
    Calls Try.prog 69 #[.slice A n c, eval_ e] w fun r w' => r = .returned (.bool (decide (e ∈ es))) ∧ Below w.heap.size w w' := by
  have HL := Lib.hid hl
  clear hl
  go_enter Try.func69, Try.ntmps69
  dsimp only [eval_]
  have cx := fun o => (Box.new w #[.int .i64 e.1, .int .i64 e.2.1, .int .i64 e.2.2.1.1, .int .i64 e.2.2.1.2.1, .int .i64 e.2.2.1.2.2, .string e.2.2.2] o).at
  go_wp2_with fail
  with_reducible refine (index_any A n c es e _ (HL.out.on (belowA _ _)) hn).mono ?_
  rintro _ w2 ⟨⟨i, rfl, hi⟩, hb2⟩
  have HI := Lib.hid hi
  have HB := Lib.hid (below1 _ hb2)
  clear hi hb2 cx
  go_wp2_with fail
  go_ret
  refine ⟨ret_bool ?_, HB.out⟩
  rw [decide_eq_decide]
  exact HI.out
set_option maxRecDepth 100000 in
theorem without_any (A B : Option Addr) (n m c d : Nat) (es fs : List Ent) (cm : Bool) (w : World) (hl : Reads w w.heap.size 6 A n (ents es)) (hm : Reads w w.heap.size 6 B m (ents fs)) (hn : n ≤ 1000000) (hn2 : m ≤ 1000000) :
    Calls Try.prog 54 #[.slice A n c, .slice B m d, .bool cm] w (RetRow 53 6 (wo es fs cm).length (ents (wo es fs cm)) w) := by
  have hlen0 := hl.1
  rw [ents_length] at hlen0
  have l1 : n ≤ es.length := by omega
  have l2 : es.length ≤ n := by omega
  have HL := Lib.hid hl
  have HM := Lib.hid hm
  clear hl hm hlen0
  go_enter Try.func54, Try.ntmps54
  go_wp2_with fail
  go_loopw [7, 8] (fun v i wr => ∃ k : Nat, k ≤ n ∧ i = .int .i64 k ∧ Coll w es (fun e => decide (e ∈ fs) == cm) k wr v) (fun _ i _ => n - (intOf i).toNat)
  case atStart => exact ⟨0, by omega, rfl, Coll.nil⟩
  case round =>
    obtain ⟨k, hk, rfl, hown⟩ := hrel
    have HOWN := Lib.hid hown
    clear hown
    by_cases hlt : k < n
    · obtain ⟨ad, e, e1, hbk, he, d0, d1, d2, d3, d4, d5⟩ := eat (HL.out.on HOWN.out.bel) (k := k) (by omega)
      have X := fun w => ix22 (c := c) e1 hlt w
      have HT := Lib.hid (take_succ_of he)
      have hle := fl_le es k (fun e => decide (e ∈ fs) == cm)
      have hlen : ((es.take k).filter (fun e => decide (e ∈ fs) == cm)).length < 1000000000 := by omega
      have HMW := Lib.hid (HM.out.on HOWN.out.bel)
      have HE := Lib.hid he
      clear he e1 hle
      go_wp2_with fail
      with_reducible refine (has_any B m d fs e _ HMW.out hn2).mono ?_
      rintro _ w2 ⟨rfl, hb2⟩
      obtain ⟨ad', e', e1', hbk', he', q0, q1, q2, q3, q4, q5⟩ := eat ((HL.out.on HOWN.out.bel).on hb2) (k := k) (by omega)
      obtain rfl : e = e' := Option.some.inj (HE.out.symm.trans he')
      have X2 := fun w => ix22 (c := c) e1' hlt w
      have HOWN2 := Lib.hid (HOWN.out.on hb2)
      clear hb2 he' e1' d0 d1 d2 d3 d4 d5 X
      have HFD : Hid ((fun e : Ent => decide (e ∈ fs) == cm) e = (decide (e ∈ fs) == cm)) := Lib.hid rfl
      rcases Bool.eq_false_or_eq_true (decide (e ∈ fs) == cm) with hq | hq
      · have HF := Lib.hid (HFD.out.trans hq)
        generalize decide (e ∈ fs) = bb at hq ⊢
        go_wp2_with (at_builtin; refine wpList_pushX rfl _ _ 22 53 rfl Try.underlying22 info53b rfl (by omega) (by omega) w _ _ _ _ (ecells e) _ rfl (HOWN2.out.own.on (belowA _ _)) rfl (Box.new _ _ _) rfl (ecells_one e) hlen ?_; intro v' w' hown'; have hown5 := Lib.hid hown'; clear hown')
        go_roundw
        case rel => exact ⟨k + 1, by omega, by go_num, Coll.yes HT.out HF.out hown5.out⟩
        case measure => simp [intOf]; omega
      · have HF := Lib.hid (HFD.out.trans hq)
        generalize decide (e ∈ fs) = bb at hq ⊢
        go_wp2_with fail
        go_roundw
        case rel => exact ⟨k + 1, by omega, by go_num, Coll.no HT.out HF.out HOWN2.out⟩
        case measure => simp [intOf]; omega
    · obtain ⟨B, d, rfl, hr, hb⟩ := HOWN.out.all (by omega)
      have HR := Lib.hid hr
      have HB := Lib.hid hb
      clear hr hb
      go_wp2_with fail
      go_ret
      exact ⟨B, d, rfl, HR.out, HB.out⟩
end Go.Proofs.Ytlmdmbjdhlgkoaa
