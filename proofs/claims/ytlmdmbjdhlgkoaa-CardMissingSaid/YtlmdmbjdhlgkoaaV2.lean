/- Walks: the laws CardAdds and CardKnown. -/
import Derived.Test.YtlmdmbjdhlgkoaaV1
import Derived.Test.YtlmdmbjdhlgkoaaR1
import Derived.Test.YtlmdmbjdhlgkoaaK3
namespace Go.Proofs.Ytlmdmbjdhlgkoaa
open Go.RowKit Go.Sort

theorem same_refl (A B : Option Addr) (n m c d : Nat) (es : List Ent) (w : World) (hl : Reads w w.heap.size 6 A n (ents es)) (hm : Reads w w.heap.size 6 B m (ents es)) (hn : n ≤ 1000000) :
    Calls Try.prog 16 #[.slice A n c, .slice B m d] w fun r w' => r = .returned (.bool true) ∧ Below w.heap.size w w' := by
  have := same_any A B n m c d es es w hl hm hn
  rwa [decide_eq_true rfl] at this
theorem addL'_small {es : List Ent} (p : Int) (t : ByteArray) : (addL' es p t).length ≤ 1000000 := by
  unfold addL'
  split
  · rename_i h
    obtain ⟨h1, h2, h3, _, h5⟩ := addE_zero.1 h
    rw [addR_length h1 h2 h3]
    omega
  · simp
theorem addL'_short {es : List Ent} {p : Int} {t : ByteArray} (h : shortT es) (ht : t.size ≤ 200) : shortT (addL' es p t) := by
  unfold addL'
  split
  · rename_i h0
    obtain ⟨h1, h2, h3, _, h5⟩ := addE_zero.1 h0
    intro e he
    rcases (mem_addR h1 h2 h3).1 he with he | rfl
    · exact h e he
    · exact ht
  · intro e he; cases he
theorem addL'_val {es : List Ent} {p : Int} {t : ByteArray} (h : addE es p t = 0) : val (addL' es p t) = 0 := by
  obtain ⟨h1, h2, h3, h4, h5⟩ := addE_zero.1 h
  rw [show addL' es p t = addR es p t from if_pos h]
  exact val_zero.2 (card_add h1 h2 h3 h4 h5)
set_option maxRecDepth 100000 in
theorem lawAdds (A : Option Addr) (n c : Nat) (es : List Ent) (p : Int) (t : ByteArray) (w : World) (hl : InE w w A n c es) (hts : t.size ≤ maxLen) :
    Calls Try.prog 3 #[.slice A n c, .int .i64 p, .string t] w fun r w' => r = .returned (.bool true) ∧ Below w.heap.size w w' := by
  have HL := Lib.hid hl
  have HTS := Lib.hid hts
  clear hl hts
  go_enter Try.func3, Try.ntmps3
  go_wp2_with fail
  with_reducible refine (long_any A n c es _ HL.out.rd).mono ?_
  rintro _ w1 ⟨rfl, hb1⟩
  have HW1 := Lib.hid hb1
  clear hb1
  cases hlong : longE es
  case true =>
    go_wp2_with fail
    with_reducible refine (known_any _).mono ?_
    rintro _ w2 ⟨rfl, hb2⟩
    go_wp2_with fail
    go_ret
    exact ⟨rfl, below_trans' HW1.out hb2⟩
  have HN := Lib.hid (HL.out.small hlong)
  have HS := Lib.hid (long_no hlong).2
  have HC := Lib.hid HL.out.cap
  replace HL := Lib.hid (HL.out.rd.on HW1.out)
  clear hlong
  have hlen : Go.maxLen = 9223372036854775807 := rfl
  by_cases ht : 200 < t.size
  · go_wp2_with fail
    with_reducible refine (known_any _).mono ?_
    rintro _ w2 ⟨rfl, hb2⟩
    go_wp2_with fail
    go_ret
    exact ⟨rfl, below_trans' HW1.out hb2⟩
  have HT := Lib.hid (show t.size ≤ 200 by omega)
  go_wp2_with fail
  clear ht
  with_reducible refine (copied_any A n c es _ HL.out HN.out).mono ?_
  rintro _ w2 ⟨A2, c2, rfl, hr2, hb2⟩
  have HO := Lib.hid (Reads.of_own hr2)
  have HW2 := Lib.hid (below_trans' HW1.out hb2)
  replace HL := Lib.hid (HL.out.on hb2)
  clear hr2 hb2
  obtain ⟨l, hl⟩ : ∃ l, addL' es p t = l := ⟨_, rfl⟩
  obtain ⟨e, he⟩ : ∃ e, addE es p t = e := ⟨_, rfl⟩
  have HLS := Lib.hid (show l.length ≤ 1000000 by rw [← hl]; exact addL'_small p t)
  have HSH := Lib.hid (show shortT l by rw [← hl]; exact addL'_short HS.out HT.out)
  have HVL := Lib.hid (show e = 0 → val l = 0 from fun h => by rw [← hl]; exact addL'_val (he.trans h))
  have K1 := add_any A2 n c2 es p t w2 HO.out HN.out HS.out (by have := HT.out; omega)
  have K2 := fun w3 (hb : Below w2.heap.size w2 w3) => refAdd_any A n c es p t w3 (HL.out.on hb) HN.out HC.out HS.out (by have := HT.out; omega)
  rw [hl, he] at K1 K2
  have HK2 := Lib.hid K2
  clear K2 hl he
  go_wp2_with fail
  with_reducible refine K1.mono ?_
  rintro _ w3 ⟨A3, c3, rfl, hr3, hb3⟩
  have HR3 := Lib.hid hr3
  have HB3 := Lib.hid hb3
  clear hr3 hb3 K1
  go_wp2_with fail
  with_reducible refine (HK2.out _ HB3.out).mono ?_
  rintro _ w4 ⟨A4, c4, rfl, hr4, hb4⟩
  have HR4 := Lib.hid (Reads.of_own hr4)
  replace HR3 := Lib.hid (row_on HR3.out hb4)
  have HB4 := Lib.hid (below_trans' HB3.out hb4)
  clear hr4 hb4 HK2 HB3
  go_wp2_with fail
  with_reducible refine (same_refl A3 A4 l.length l.length c3 c4 l _ (Reads.of_own HR3.out) HR4.out HLS.out).mono ?_
  rintro _ w5 ⟨rfl, hb5⟩
  replace HR3 := Lib.hid (row_on HR3.out hb5)
  have HB5 := Lib.hid (below_trans' HB4.out hb5)
  clear hb5 HB4 HR4
  have HFIN : Hid (∀ W, Below w2.heap.size w2 W → Reads W W.heap.size 6 A2 n (ents es) ∧ Reads W W.heap.size 6 A n (ents es) ∧ Below w.heap.size w W) := Lib.hid fun W hb => ⟨HO.out.on hb, HL.out.on hb, below_trans' HW2.out hb⟩
  by_cases h0 : e = 0
  · have g := neBf h0
    have HV0 := Lib.hid (HVL.out h0)
    clear h0
    go_wp2_with fail
    have K3 := validate_any A3 l.length c3 l w5 (Reads.of_own HR3.out) HLS.out HSH.out
    rw [HV0.out] at K3
    with_reducible refine K3.mono ?_
    rintro _ w6 ⟨rfl, hb6⟩
    replace HR3 := Lib.hid (row_on HR3.out hb6)
    have HB6 := Lib.hid (below_trans' HB5.out hb6)
    clear hb6 HB5 K3
    go_wp2_with fail
    with_reducible refine (spoil_any w2.heap.size A3 l.length c3 l _ HR3.out HLS.out).mono ?_
    rintro _ w7 ⟨rfl, hb7⟩
    have HB7 := Lib.hid (HB6.out.trans hb7)
    clear hb7 HB6 HR3
    obtain ⟨q1, q2, q3⟩ := HFIN.out w7 HB7.out
    have HQ1 := Lib.hid q1
    have HQ2 := Lib.hid q2
    have HQ3 := Lib.hid q3
    clear q1 q2 q3
    go_wp2_with fail
    with_reducible refine (same_refl A2 A n n c2 c es _ HQ1.out HQ2.out HN.out).mono ?_
    rintro _ w8 ⟨rfl, hb8⟩
    have HW8 := Lib.hid (below_trans' HQ3.out hb8)
    clear hb8
    go_wp2_with fail
    with_reducible refine (known_any _).mono ?_
    rintro _ w9 ⟨rfl, hb9⟩
    have HW9 := Lib.hid (below_trans' HW8.out hb9)
    clear hb9
    go_wp2_with fail
    go_ret
    exact ⟨rfl, HW9.out⟩
  · have g := neB h0
    clear h0
    go_wp2_with fail
    with_reducible refine (spoil_any w2.heap.size A3 l.length c3 l _ HR3.out HLS.out).mono ?_
    rintro _ w7 ⟨rfl, hb7⟩
    have HB7 := Lib.hid (HB5.out.trans hb7)
    clear hb7 HR3
    obtain ⟨q1, q2, q3⟩ := HFIN.out w7 HB7.out
    have HQ1 := Lib.hid q1
    have HQ2 := Lib.hid q2
    have HQ3 := Lib.hid q3
    clear q1 q2 q3
    go_wp2_with fail
    with_reducible refine (same_refl A2 A n n c2 c es _ HQ1.out HQ2.out HN.out).mono ?_
    rintro _ w8 ⟨rfl, hb8⟩
    have HW8 := Lib.hid (below_trans' HQ3.out hb8)
    clear hb8
    go_wp2_with fail
    with_reducible refine (known_any _).mono ?_
    rintro _ w9 ⟨rfl, hb9⟩
    have HW9 := Lib.hid (below_trans' HW8.out hb9)
    clear hb9
    go_wp2_with fail
    go_ret
    exact ⟨rfl, HW9.out⟩
theorem knL_sub {es : List Ent} {i : Int} : ∀ e ∈ knL es i, e ∈ es := by
  unfold knL
  split
  · exact fun e he => (List.mem_filter.1 he).1
  · intro e he; cases he
theorem knL_len (es : List Ent) (i : Int) : (knL es i).length ≤ es.length := by
  unfold knL
  split
  · exact List.length_filter_le _ _
  · simp
set_option maxRecDepth 100000 in
theorem lawKnown (A : Option Addr) (n c : Nat) (es : List Ent) (i : Int) (w : World) (hl : InE w w A n c es) :
    Calls Try.prog 8 #[.slice A n c, .int .i64 i] w fun r w' => r = .returned (.bool true) ∧ Below w.heap.size w w' := by
  have hlen := hl.rd.1
  rw [ents_length] at hlen
  have l2 : es.length ≤ n := by omega
  have HL := Lib.hid hl
  clear hl hlen
  go_enter Try.func8, Try.ntmps8
  go_wp2_with fail
  with_reducible refine (long_any A n c es _ HL.out.rd).mono ?_
  rintro _ w1 ⟨rfl, hb1⟩
  have HW1 := Lib.hid hb1
  clear hb1
  cases hlong : longE es
  case true =>
    go_wp2_with fail
    with_reducible refine (known_any _).mono ?_
    rintro _ w2 ⟨rfl, hb2⟩
    go_wp2_with fail
    go_ret
    exact ⟨rfl, below_trans' HW1.out hb2⟩
  have HN := Lib.hid (HL.out.small hlong)
  have HS := Lib.hid (long_no hlong).2
  have HC := Lib.hid HL.out.cap
  replace HL := Lib.hid (HL.out.rd.on HW1.out)
  clear hlong
  obtain ⟨l, hl⟩ : ∃ l, knL es i = l := ⟨_, rfl⟩
  obtain ⟨e, he⟩ : ∃ e, knE es i = e := ⟨_, rfl⟩
  have HLS := Lib.hid (show l.length ≤ 1000000 by have := knL_len es i; rw [hl] at this; have := HN.out; omega)
  have HSH := Lib.hid (show shortT l by rw [← hl]; exact fun e he => HS.out e (knL_sub e he))
  have HVL := Lib.hid (show e = 0 → val l = 0 from fun h => by rw [← hl]; exact kn_card (he.trans h))
  have K1 := knownC_any A n c es i w1 HL.out HN.out HS.out
  have K2 := fun w3 (hb : Below w1.heap.size w1 w3) => refKnown_any A n c es i w3 (HL.out.on hb) HN.out HC.out HS.out
  rw [hl, he] at K1 K2
  have HK2 := Lib.hid K2
  clear K2 hl he
  go_wp2_with fail
  with_reducible refine K1.mono ?_
  rintro _ w3 ⟨A3, c3, rfl, hr3, hb3⟩
  have HR3 := Lib.hid (Reads.of_own hr3)
  have HB3 := Lib.hid hb3
  clear hr3 hb3 K1
  go_wp2_with fail
  with_reducible refine (HK2.out _ HB3.out).mono ?_
  rintro _ w4 ⟨A4, c4, rfl, hr4, hb4⟩
  have HR4 := Lib.hid (Reads.of_own hr4)
  replace HR3 := Lib.hid (HR3.out.on hb4)
  have HB4 := Lib.hid (below_trans' HW1.out (below_trans' HB3.out hb4))
  clear hr4 hb4 HK2 HB3
  go_wp2_with fail
  with_reducible refine (same_refl A3 A4 l.length l.length c3 c4 l _ HR3.out HR4.out HLS.out).mono ?_
  rintro _ w5 ⟨rfl, hb5⟩
  replace HR3 := Lib.hid (HR3.out.on hb5)
  have HB5 := Lib.hid (below_trans' HB4.out hb5)
  clear hb5 HB4 HR4
  by_cases h0 : e = 0
  · have g := neBf h0
    have HV0 := Lib.hid (HVL.out h0)
    clear h0
    go_wp2_with fail
    have K3 := validate_any A3 l.length c3 l w5 HR3.out HLS.out HSH.out
    rw [HV0.out] at K3
    with_reducible refine K3.mono ?_
    rintro _ w6 ⟨rfl, hb6⟩
    have HB6 := Lib.hid (below_trans' HB5.out hb6)
    clear hb6 HB5 K3
    go_wp2_with fail
    with_reducible refine (known_any _).mono ?_
    rintro _ w9 ⟨rfl, hb9⟩
    have HW9 := Lib.hid (below_trans' HB6.out hb9)
    clear hb9
    go_wp2_with fail
    go_ret
    exact ⟨rfl, HW9.out⟩
  · have g := neB h0
    clear h0
    go_wp2_with fail
    with_reducible refine (known_any _).mono ?_
    rintro _ w9 ⟨rfl, hb9⟩
    have HW9 := Lib.hid (below_trans' HB5.out hb9)
    clear hb9
    go_wp2_with fail
    go_ret
    exact ⟨rfl, HW9.out⟩
end Go.Proofs.Ytlmdmbjdhlgkoaa
