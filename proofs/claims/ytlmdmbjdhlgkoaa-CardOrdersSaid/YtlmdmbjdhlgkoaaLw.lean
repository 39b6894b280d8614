/- Walks: which cards are long, entries in new memory, writing into a row of the call's own. -/
import Derived.Test.YtlmdmbjdhlgkoaaC8
namespace Go.Proofs.Ytlmdmbjdhlgkoaa
open Go.RowKit Go.Sort

def longE (es : List Ent) : Bool := decide (100 < es.length ∨ ∃ e ∈ es, 200 < e.2.2.2.size)
theorem long_no {es : List Ent} (h : longE es = false) : es.length ≤ 100 ∧ shortT es := by
  unfold longE at h
  rw [decide_eq_false_iff_not, not_or] at h
  exact ⟨by omega, fun e he => by
    by_cases hs : e.2.2.2.size ≤ 200
    · exact hs
    · exact (h.2 ⟨e, he, by omega⟩).elim⟩
theorem long_len {es : List Ent} (h : 100 < es.length) : longE es = true := by unfold longE; rw [decide_eq_true_eq]; exact .inl h
theorem long_at {es : List Ent} {k : Nat} {e : Ent} (hk : es[k]? = some e) (h : 200 < e.2.2.2.size) : longE es = true := by
  unfold longE; rw [decide_eq_true_eq]; exact .inr ⟨e, List.mem_of_getElem? hk, h⟩
theorem long_not {es : List Ent} (h : es.length ≤ 100) (h2 : ∀ (k : Nat) (e : Ent), es[k]? = some e → e.2.2.2.size ≤ 200) : longE es = false := by
  unfold longE
  rw [decide_eq_false_iff_not, not_or]
  refine ⟨by omega, ?_⟩
  rintro ⟨e, he, hs⟩
  obtain ⟨k, hk⟩ := List.mem_iff_getElem?.1 he
  have := h2 k e hk
  omega
set_option maxRecDepth 100000 in
theorem long_any (A : Option Addr) (n c : Nat) (es : List Ent) (w : World) (hl : Reads w w.heap.size 6 A n (ents es)) :
    Calls Try.prog 11 #[.slice A n c] w fun r w' => r = .returned (.bool (longE es)) ∧ Below w.heap.size w w' := by
  have hlen := hl.1
  rw [ents_length] at hlen
  have l1 : n ≤ es.length := by omega
  have l2 : es.length ≤ n := by omega
  have HL := Lib.hid hl
  clear hl hlen
  go_enter Try.func11, Try.ntmps11
  by_cases hb : 100 < n
  · have HB := Lib.hid (long_len (es := es) (by omega))
    go_wp2_with fail
    go_ret
    exact ⟨ret_bool HB.out.symm, Below.refl _ _⟩
  have hn : n ≤ 100 := by omega
  clear hb
  go_wp2_with fail
  go_loopw [3] (fun i wr => ∃ k : Nat, k ≤ n ∧ i = .int .i64 k ∧ (∀ j e, j < k → es[j]? = some e → e.2.2.2.size ≤ 200) ∧ Below w.heap.size w wr) (fun i _ => n - (intOf i).toNat)
  case atStart => exact ⟨0, by omega, rfl, fun j e hj => by omega, Below.refl _ _⟩
  case round =>
    obtain ⟨k, hk, rfl, hno, hbw⟩ := hrel
    have HNO := Lib.hid hno
    have HBW := Lib.hid hbw
    clear hno hbw
    by_cases hlt : k < n
    · obtain ⟨ad, x, e1, hbk, hx, d0, d1, d2, d3, d4, d5⟩ := eat (HL.out.on HBW.out) (k := k) (by omega)
      have X := fun w => ix22 (n := n) (c := c) e1 hlt w
      have HX := Lib.hid hx
      clear hx e1 d0 d1 d2 d3 d4
      by_cases hs : 200 < x.2.2.2.size
      · have HB := Lib.hid (long_at HX.out hs)
        go_wp2_with fail
        go_ret
        exact ⟨ret_bool HB.out.symm, HBW.out⟩
      · have hs2 : x.2.2.2.size ≤ 200 := by omega
        clear hs
        go_wp2_with fail
        go_roundw
        case rel => exact ⟨k + 1, by omega, by go_num, fun j e hj he => by
          rcases Nat.lt_or_ge j k with h1 | h1
          · exact HNO.out j e h1 he
          · obtain rfl : j = k := by omega
            obtain rfl : x = e := Option.some.inj (HX.out.symm.trans he)
            exact hs2, HBW.out⟩
        case measure => simp [intOf]; omega
    · have HB : Hid (longE es = false) := Lib.hid (long_not (by omega) fun j e he => HNO.out j e (by have := (List.getElem?_eq_some_iff.1 he).1; omega) he)
      go_wp2_with fail
      go_ret
      exact ⟨ret_bool HB.out.symm, HBW.out⟩
theorem info53b' : (Try.prog.info? 53).map (fun i => (i.zero, i.size, i.bytes)) = some (some (.agg #[.int .i64 0, .int .i64 0, .int .i64 0, .int .i64 0, .int .i64 0, .string ⟨#[]⟩]), 6, 56) := by kernel_rfl
set_option maxRecDepth 100000 in
theorem copied_any (A : Option Addr) (n c : Nat) (es : List Ent) (w : World) (hl : Reads w w.heap.size 6 A n (ents es)) (hn : n ≤ 1000000) :
    Calls Try.prog 13 #[.slice A n c] w (RetRow 53 6 n (ents es) w) := by
  have HL := Lib.hid hl
  clear hl
  go_enter Try.func13, Try.ntmps13
  go_wp2_with (at_builtin; refine wpList_pushXm rfl _ _ 22 53 rfl Try.underlying22 info53b' rfl (Nat.succ_pos _) (by decide) w.heap.size _ (some ⟨w.heap.size, 0, none⟩) 0 0 [] A n c (ents es) rfl (World.ownsRow_made w #[] 0 (Nat.le_refl _) (Nat.zero_le _) (by simp)) (by simp) rfl (HL.out.on (belowA _ _)) (ents_one _) (by omega) ?_; intro A' c' w' hr hg _)
  rw [Nat.zero_add, List.nil_append] at hr
  have HR := Lib.hid hr
  have HB := Lib.hid ((belowA w (.cells #[] 53)).grown hg (by simp) (fun k hk => by simp [Value.ownBlock] at hk; omega))
  clear hr hg
  go_wp2_with fail
  go_ret
  exact ⟨A', c', rfl, HR.out, HB.out⟩
theorem ents_set (es : List Ent) {k : Nat} {x : Ent} (hx : es[k]? = some x) (z : Int) : (ents es).set (k * 6 + 1) (.int .i64 z) = ents (es.set k (x.1, z, x.2.2)) := by
  have hk : k < es.length := (List.getElem?_eq_some_iff.1 hx).1
  have hx' : es[k] = x := (List.getElem?_eq_some_iff.1 hx).2
  apply List.ext_getElem?
  intro j
  rw [List.getElem?_set]
  rcases Nat.lt_or_ge j (es.length * 6) with hj | hj
  · have hq : j / 6 < es.length := by omega
    have hjj : j / 6 * 6 + j % 6 = j := by omega
    have e1 := ents_get (es := es) hq (i := j % 6) (by omega)
    have e2 := ents_get (es := es.set k (x.1, z, x.2.2)) (k := j / 6) (by simpa using hq) (i := j % 6) (by omega)
    rw [hjj] at e1 e2
    rw [e1, e2, List.getElem_set]
    by_cases h1 : k = j / 6
    · subst h1
      simp only [if_true]
      rw [hx']
      by_cases h2 : j / 6 * 6 + 1 = j
      · have h3 : j % 6 = 1 := by omega
        rw [if_pos h2, if_pos (by rw [ents_length]; omega), h3]
        rfl
      · rw [if_neg h2]
        have h3 : j % 6 ≠ 1 := by omega
        have h4 : j % 6 < 6 := by omega
        revert h3 h4
        generalize j % 6 = i
        intro h3 h4
        match i, h3, h4 with
        | 0, _, _ => rfl
        | 2, _, _ => rfl
        | 3, _, _ => rfl
        | 4, _, _ => rfl
        | 5, _, _ => rfl
    · rw [if_neg h1, if_neg (by omega)]
  · rw [if_neg (by omega), List.getElem?_eq_none (by rw [ents_length]; exact hj), List.getElem?_eq_none (by rw [ents_length, List.length_set]; exact hj)]
set_option maxRecDepth 100000 in
/-- A row of the call's own is written into: all below is as it was. -/
theorem spoil_any (B : Nat) (A : Option Addr) (n c : Nat) (es : List Ent) (w : World) (hl : w.ownsRow B 53 6 (.slice A n c) n (ents es)) (hn : n ≤ 1000000) :
    Calls Try.prog 18 #[.slice A n c] w fun r w' => r = .returned (.tuple #[]) ∧ Below B w w' := by
  have HL := Lib.hid hl
  clear hl
  go_enter Try.func18, Try.ntmps18
  go_wp2_with fail
  go_loopw [2] (fun i wr => ∃ k : Nat, k ≤ n ∧ i = .int .i64 k ∧ (∃ fs, fs.length = n ∧ wr.ownsRow B 53 6 (.slice A n c) n (ents fs)) ∧ Below B w wr) (fun i _ => n - (intOf i).toNat)
  case atStart => exact ⟨0, by omega, rfl, ⟨es, by have := HL.out.1; rw [ents_length] at this; omega, HL.out⟩, Below.refl _ _⟩
  case round =>
    obtain ⟨k, hk, rfl, ⟨fs, hfl, hrow⟩, hbw⟩ := hrel
    have HR := Lib.hid hrow
    have HBW := Lib.hid hbw
    clear hrow hbw
    by_cases hlt : k < n
    · obtain ⟨ad, x, e1, hbk, hx, d0, d1, d2, d3, d4, d5⟩ := eat (Reads.of_own HR.out) (k := k) (by omega)
      have X := fun w => ix22 (n := n) (c := c) e1 hlt w
      obtain ⟨g, rfl⟩ : ∃ g, ad = ⟨g, 0, none⟩ := by
        obtain ⟨g, cap, hv, _, _⟩ := HR.out.form (by omega)
        injection hv with e _ _
        rw [e1] at e
        injection e with e
        exact ⟨g, e⟩
      subst e1
      obtain ⟨st, gr⟩ := HR.out.stored (k * 6 + 1) (.int .i64 (-1))
      have fz := HR.out.frozenAt (k * 6 + 1)
      rw [ents_set fs hx] at st
      have ea : (⟨g, 0, none⟩ : Addr).add (k * 6) = ⟨g, k * 6, none⟩ := by
        unfold Addr.add
        split
        · rename_i h0; rw [h0]
        · simp
      have cc : wr.cell? ⟨g, k * 6 + 1, none⟩ = some (.int .i64 x.2.1) := by rw [ea] at d1; exact d1
      rw [ea] at X
      have HST := Lib.hid st
      have hgB : B ≤ g := (HR.out.lt g rfl).1
      have HB2 := Lib.hid (HBW.out.setCell (p := ⟨g, k * 6 + 1, none⟩) hgB (.int .i64 (-1)))
      have hfl2 : (fs.set k (x.1, -1, x.2.2)).length = n := by rw [List.length_set]; exact hfl
      clear st gr ea d0 d1 d2 d3 d4 d5 hx hbk
      go_wp2_with fail
      go_roundw
      case rel => exact ⟨k + 1, by omega, by go_num, ⟨_, hfl2, HST.out⟩, HB2.out⟩
      case measure => simp [intOf]; omega
    · go_wp2_with fail
      go_end0
      exact ⟨rfl, HBW.out⟩
end Go.Proofs.Ytlmdmbjdhlgkoaa
