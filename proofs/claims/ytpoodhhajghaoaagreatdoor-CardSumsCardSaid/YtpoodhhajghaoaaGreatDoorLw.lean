/- Walks: which cards are long, entries in new memory, writing into a row of the call's own. -/
import Derived.Test.YtpoodhhajghaoaaGreatDoorC8
namespace Go.Proofs.YtpoodhhajghaoaaGreatDoor
open Go.RowKit Go.Sort

def longE (es : List Ent) : Bool := decide (100 < es.length ∨ ∃ e ∈ es, 200 < e.2.2.2.size)
theorem long_no {es : List Ent} (h : longE es = false) : es.length ≤ 100 ∧ shortT es := by
  unfold longE at h
  rw [decide_eq_false_iff_not, not_or] at h
  exact ⟨by omega, fun e he => by
    by_cases hs : e.2.2.2.size ≤ 200
    · exact hs
    · exact (h.2 ⟨e, he, by omega⟩).elim⟩
theorem long_len {es : List Ent} (h : 100 < es.length) : longE es = true := by unfold longE; rw [decide_eq_true_eq]; exact .inl h
theorem long_at {es : List Ent} {k : Nat} {e : Ent} (hk : es[k]? = some e) (h : 200 < e.2.2.2.size) : longE es = true := by
  unfold longE; rw [decide_eq_true_eq]; exact .inr ⟨e, List.mem_of_getElem? hk, h⟩
theorem long_not {es : List Ent} (h : es.length ≤ 100) (h2 : ∀ (k : Nat) (e : Ent), es[k]? = some e → e.2.2.2.size ≤ 200) : longE es = false := by
  unfold longE
  rw [decide_eq_false_iff_not, not_or]
  refine ⟨by omega, ?_⟩
  rintro ⟨e, he, hs⟩
  obtain ⟨k, hk⟩ := List.mem_iff_getElem?.1 he
  have := h2 k e hk
  omega
set_option maxRecDepth 100000 in
theorem long_any (A : Option Addr) (n c : Nat) (es : List Ent) (w : World) (hl : Reads w w.heap.size 6 A n (ents es)) :
    Calls Tryz.prog 5 #[.slice A n c] w fun r w' => r = .returned (.bool (longE es)) ∧ Below w.heap.size w w' := by
  have hlen := hl.1
  rw [ents_length] at hlen
  have l1 : n ≤ es.length := by omega
  have l2 : es.length ≤ n := by omega
  have HL := Lib.hid hl
  clear hl hlen
  go_enter Tryz.func5, Tryz.ntmps5
  by_cases hb : 100 < n
  · have HB := Lib.hid (long_len (es := es) (by omega))
    go_wp2_with fail
    go_ret
    exact ⟨ret_bool HB.out.symm, Below.refl _ _⟩
  have hn : n ≤ 100 := by omega
  clear hb
  go_wp2_with fail
  go_loopw [3] (fun i wr => ∃ k : Nat, k ≤ n ∧ i = .int .i64 k ∧ (∀ j e, j < k → es[j]? = some e → e.2.2.2.size ≤ 200) ∧ Below w.heap.size w wr) (fun i _ => n - (intOf i).toNat)
  case atStart => exact ⟨0, by omega, rfl, fun j e hj => by omega, Below.refl _ _⟩
  case round =>
    obtain ⟨k, hk, rfl, hno, hbw⟩ := hrel
    have HNO := Lib.hid hno
    have HBW := Lib.hid hbw
    clear hno hbw
    by_cases hlt : k < n
    · obtain ⟨ad, x, e1, hbk, hx, d0, d1, d2, d3, d4, d5⟩ := eat (HL.out.on HBW.out) (k := k) (by omega)
      have X := fun w => ix22 (n := n) (c := c) e1 hlt w
      have HX := Lib.hid hx
      clear hx e1 d0 d1 d2 d3 d4
      by_cases hs : 200 < x.2.2.2.size
      · have HB := Lib.hid (long_at HX.out hs)
        go_wp2_with fail
        go_ret
        exact ⟨ret_bool HB.out.symm, HBW.out⟩
      · have hs2 : x.2.2.2.size ≤ 200 := by omega
        clear hs
        go_wp2_with fail
        go_roundw
        case rel => exact ⟨k + 1, by omega, by go_num, fun j e hj he => by
          rcases Nat.lt_or_ge j k with h1 | h1
          · exact HNO.out j e h1 he
          · obtain rfl : j = k := by omega
            obtain rfl : x = e := Option.some.inj (HX.out.symm.trans he)
            exact hs2, HBW.out⟩
        case measure => simp [intOf]; omega
    · have HB : Hid (longE es = false) := Lib.hid (long_not (by omega) fun j e he => HNO.out j e (by have := (List.getElem?_eq_some_iff.1 he).1; omega) he)
      go_wp2_with fail
      go_ret
      exact ⟨ret_bool HB.out.symm, HBW.out⟩
theorem info53b' : (Tryz.prog.info? 38).map (fun i => (i.zero, i.size, i.bytes)) = some (some (.agg #[.int .i64 0, .int .i64 0, .int .i64 0, .int .i64 0, .int .i64 0, .string ⟨#[]⟩]), 6, 56) := by kernel_rfl
theorem ents_set (es : List Ent) {k : Nat} {x : Ent} (hx : es[k]? = some x) (z : Int) : (ents es).set (k * 6 + 1) (.int .i64 z) = ents (es.set k (x.1, z, x.2.2)) := by
  have hk : k < es.length := (List.getElem?_eq_some_iff.1 hx).1
  have hx' : es[k] = x := (List.getElem?_eq_some_iff.1 hx).2
  apply List.ext_getElem?
  intro j
  rw [List.getElem?_set]
  rcases Nat.lt_or_ge j (es.length * 6) with hj | hj
  · have hq : j / 6 < es.length := by omega
    have hjj : j / 6 * 6 + j % 6 = j := by omega
    have e1 := ents_get (es := es) hq (i := j % 6) (by omega)
    have e2 := ents_get (es := es.set k (x.1, z, x.2.2)) (k := j / 6) (by simpa using hq) (i := j % 6) (by omega)
    rw [hjj] at e1 e2
    rw [e1, e2, List.getElem_set]
    by_cases h1 : k = j / 6
    · subst h1
      simp only [if_true]
      rw [hx']
      by_cases h2 : j / 6 * 6 + 1 = j
      · have h3 : j % 6 = 1 := by omega
        rw [if_pos h2, if_pos (by rw [ents_length]; omega), h3]
        rfl
      · rw [if_neg h2]
        have h3 : j % 6 ≠ 1 := by omega
        have h4 : j % 6 < 6 := by omega
        revert h3 h4
        generalize j % 6 = i
        intro h3 h4
        match i, h3, h4 with
        | 0, _, _ => rfl
        | 2, _, _ => rfl
        | 3, _, _ => rfl
        | 4, _, _ => rfl
        | 5, _, _ => rfl
    · rw [if_neg h1, if_neg (by omega)]
  · rw [if_neg (by omega), List.getElem?_eq_none (by rw [ents_length]; exact hj), List.getElem?_eq_none (by rw [ents_length, List.length_set]; exact hj)]
end Go.Proofs.YtpoodhhajghaoaaGreatDoor
