/- Walks: the entries of a place, whether a list has an entry, the entries that another list has or has not. -/
import Derived.Test.YtpoodhhajghaoaaGreatDoorC11
import Derived.Test.YtpoodhhajghaoaaGreatDoorQt
namespace Go.Proofs.YtpoodhhajghaoaaGreatDoor
open Go.RowKit Go.Sort

theorem ecells_one (e : Ent) : ∀ u ∈ ecells e, u.oneCell' = true := by
  have := ents_one [e]
  simpa [ents] using this
theorem ents_snoc (l : List Ent) (e : Ent) : ents (l ++ [e]) = ents l ++ ecells e := by simp [ents]
theorem len_snoc {α : Type} (l : List α) (e : α) : (l ++ [e]).length = l.length + 1 := by simp
theorem fl_yes {es : List Ent} {k : Nat} {e : Ent} (f : Ent → Bool) (h : es.take (k + 1) = es.take k ++ [e]) (hf : f e = true) : (es.take (k + 1)).filter f = (es.take k).filter f ++ [e] := by
  rw [h, List.filter_append]; simp [hf]
theorem fl_no {es : List Ent} {k : Nat} {e : Ent} (f : Ent → Bool) (h : es.take (k + 1) = es.take k ++ [e]) (hf : f e = false) : (es.take (k + 1)).filter f = (es.take k).filter f := by
  rw [h, List.filter_append]; simp [hf]
theorem fl_le (es : List Ent) (k : Nat) (f : Ent → Bool) : ((es.take k).filter f).length ≤ k := by
  have := List.length_filter_le f (es.take k)
  have := List.length_take_le k es
  omega
/-- Collecting entries: what the slot holds behind k rounds. -/
def Coll (w0 : World) (es : List Ent) (f : Ent → Bool) (k : Nat) (w : World) (v : Value) : Prop := OwnX 38 6 w0 w v ((es.take k).filter f).length (ents ((es.take k).filter f))
section
variable {w0 w w' : World} {es : List Ent} {f : Ent → Bool} {k : Nat} {v : Value} {e : Ent}
theorem Coll.nil : Coll w es f 0 w (.slice none 0 0) := by
  unfold Coll
  simp only [List.take_zero, List.filter_nil]
  exact OwnX.nil _ _ _
theorem Coll.nil' (hb : Below w0.heap.size w0 w) : Coll w0 es f 0 w (.slice none 0 0) := by
  unfold Coll
  simp only [List.take_zero, List.filter_nil]
  exact ⟨World.ownsRow_nil _ _ _ _, hb⟩
theorem Coll.on (h : Coll w0 es f k w v) (hb : Below w.heap.size w w') : Coll w0 es f k w' v := OwnX.on h hb
theorem Coll.own (h : Coll w0 es f k w v) : OwnX 38 6 w0 w v ((es.take k).filter f).length (ents ((es.take k).filter f)) := h
theorem Coll.bel (h : Coll w0 es f k w v) : Below w0.heap.size w0 w := OwnX.bel h
theorem Coll.yes (hT : es.take (k + 1) = es.take k ++ [e]) (hf : f e = true) (h : OwnX 38 6 w0 w v (((es.take k).filter f).length + 1) (ents ((es.take k).filter f) ++ ecells e)) : Coll w0 es f (k + 1) w v := by
  unfold Coll
  rw [fl_yes f hT hf, ents_snoc, len_snoc]
  exact h
theorem Coll.no (hT : es.take (k + 1) = es.take k ++ [e]) (hf : f e = false) (h : Coll w0 es f k w v) : Coll w0 es f (k + 1) w v := by
  unfold Coll
  rw [fl_no f hT hf]
  exact h
theorem Coll.all (h : Coll w0 es f k w v) (hk : es.length ≤ k) : ∃ B d, v = .slice B (es.filter f).length d ∧ w.ownsRow w0.heap.size 38 6 (.slice B (es.filter f).length d) (es.filter f).length (ents (es.filter f)) ∧ Below w0.heap.size w0 w := by
  unfold Coll at h
  rw [List.take_of_length_le hk] at h
  obtain ⟨B, d, hv, _⟩ := h.form
  subst hv
  exact ⟨B, d, rfl, h.row, h.bel⟩
end
set_option maxRecDepth 100000 in
theorem index_any (A : Option Addr) (n c : Nat) (es : List Ent) (e : Ent) (w : World) (hl : Reads w w.heap.size 6 A n (ents es)) (hn : n ≤ 1000000) :
    Calls Tryz.prog 56 #[.slice A n c, eval_ e] w fun r w' => (∃ i : Int, r = .returned (.int .i64 i) ∧ (0 ≤ i ↔ e ∈ es)) ∧ Below w.heap.size w w' := by
  have hlen0 := hl.1
  rw [ents_length] at hlen0
  have l1 : n ≤ es.length := by omega
  have l2 : es.length ≤ n := by omega
  have HL := Lib.hid hl
  clear hl hlen0
  go_enter Tryz.func56, Tryz.ntmps56
  dsimp only [eval_]
  go_wp2_with fail
  go_loopw [8] (fun i wr => ∃ k : Nat, k ≤ n ∧ i = .int .i64 k ∧ e ∉ es.take k ∧ Box wr w.heap.size #[.int .i64 e.1, .int .i64 e.2.1, .int .i64 e.2.2.1.1, .int .i64 e.2.2.1.2.1, .int .i64 e.2.2.1.2.2, .string e.2.2.2] ∧ Below w.heap.size w wr) (fun i _ => n - (intOf i).toNat)
  case atStart => exact ⟨0, by omega, rfl, by simp, Box.new _ _ _, belowA _ _⟩
  case round =>
    obtain ⟨k, hk, rfl, hno, bx, hbw⟩ := hrel
    have HNO := Lib.hid hno
    have HBW := Lib.hid hbw
    clear hno hbw
    by_cases hlt : k < n
    · obtain ⟨ad, x, e1, hbk, hx, d0, d1, d2, d3, d4, d5⟩ := eat (HL.out.on HBW.out) (k := k) (by omega)
      have X := fun w => ix22 (c := c) e1 hlt w
      have HT := Lib.hid (take_succ_of hx)
      have HM := Lib.hid (List.mem_of_getElem? hx)
      have q1 := eqg53 .eql
      have q2 := eql53 e x
      have cx := bx.at
      clear hx e1
      by_cases hxe : x = e
      · have HF : Hid (e ∈ es) := Lib.hid (hxe ▸ HM.out)
        rw [eqN_iff.2 hxe.symm] at q2
        clear hxe
        go_wp2_with fail
        go_quiet (fail)
        go_wp2_with fail
        go_ret
        exact ⟨⟨k, rfl, ⟨fun _ => HF.out, fun _ => by omega⟩⟩, below_drewN' HBW.out _⟩
      · have HN2 : Hid (e ∉ es.take (k + 1)) := Lib.hid (by
          rw [HT.out]
          intro h
          rcases List.mem_append.1 h with h | h
          · exact HNO.out h
          · exact hxe (List.mem_singleton.1 h).symm)
        rw [eqN_not.2 (Ne.symm hxe)] at q2
        clear hxe
        go_wp2_with fail
        go_quiet (fail)
        go_wp2_with fail
        clear cx
        go_roundw
        case rel => exact ⟨k + 1, by omega, by go_num, HN2.out, bx, below_drewN' HBW.out _⟩
        case measure => simp [intOf]; omega
    · have HF : Hid (e ∉ es) := Lib.hid (by have := HNO.out; rwa [List.take_of_length_le (by omega)] at this)
      go_wp2_with fail
      go_ret
      exact ⟨⟨-1, rfl, ⟨fun h => by omega, fun h => absurd h HF.out⟩⟩, HBW.out⟩
theorem contains_any (A : Option Addr) (n c : Nat) (es : List Ent) (e : Ent) (w : World) (hl : Reads w w.heap.size 6 A n (ents es)) (hn : n ≤ 1000000) :
    Calls Tryz.prog 43 #[.slice A n c, eval_ e] w fun r w' => r = .returned (.bool (decide (e ∈ es))) ∧ Below w.heap.size w w' := by
  have HL := Lib.hid hl
  clear hl
  go_enter Tryz.func43, Tryz.ntmps43
  dsimp only [eval_]
  have cx := fun o => (Box.new w #[.int .i64 e.1, .int .i64 e.2.1, .int .i64 e.2.2.1.1, .int .i64 e.2.2.1.2.1, .int .i64 e.2.2.1.2.2, .string e.2.2.2] o).at
  go_wp2_with fail
  with_reducible refine (index_any A n c es e _ (HL.out.on (belowA _ _)) hn).mono ?_
  rintro _ w2 ⟨⟨i, rfl, hi⟩, hb2⟩
  have HI := Lib.hid hi
  have HB := Lib.hid (below1 _ hb2)
  clear hi hb2 cx
  go_wp2_with fail
  go_ret
  refine ⟨ret_bool ?_, HB.out⟩
  rw [decide_eq_decide]
  exact HI.out
end Go.Proofs.YtpoodhhajghaoaaGreatDoor
