/- Walks: the laws CardValidates and CardSees. -/
import Derived.Test.YtlmdmbjdhlgkoaaLw
import Derived.Test.YtlmdmbjdhlgkoaaC17
namespace Go.Proofs.Ytlmdmbjdhlgkoaa
open Go.RowKit Go.Sort

/-- What the head of each law asks of a list of entries. -/
structure InE (W w : World) (A : Option Addr) (n c : Nat) (es : List Ent) : Prop where
  rd : Reads w w.heap.size 6 A n (ents es)
  cap : n ≤ c
theorem InE.on {W w w' : World} {A : Option Addr} {n c : Nat} {es : List Ent} (h : InE W w A n c es) (hb : Below w.heap.size w w') : InE W w' A n c es := ⟨h.rd.on hb, h.cap⟩
theorem InE.small {W w : World} {A : Option Addr} {n c : Nat} {es : List Ent} (h : InE W w A n c es) (hl : longE es = false) : n ≤ 1000000 := by
  have := h.rd.1
  rw [ents_length] at this
  have := (long_no hl).1
  omega
theorem knownQ {w0 : World} : ∀ w4, Below w0.heap.size w0 w4 → Calls Try.prog 12 #[] w4 fun r w' => r = .returned (.bool true) ∧ Below w4.heap.size w4 w' := fun w4 _ => known_any w4
set_option maxRecDepth 100000 in
theorem lawValidates (A : Option Addr) (n c : Nat) (es : List Ent) (w : World) (hl : InE w w A n c es) :
    Calls Try.prog 5 #[.slice A n c] w fun r w' => r = .returned (.bool true) ∧ Below w.heap.size w w' := by
  have HL := Lib.hid hl
  clear hl
  go_enter Try.func5, Try.ntmps5
  go_wp2_with fail
  with_reducible refine (long_any A n c es _ HL.out.rd).mono ?_
  rintro _ w1 ⟨rfl, hb1⟩
  have HW1 := Lib.hid hb1
  clear hb1
  cases hlong : longE es
  case true =>
    go_wp2_with fail
    with_reducible refine (known_any _).mono ?_
    rintro _ w2 ⟨rfl, hb2⟩
    go_wp2_with fail
    go_ret
    exact ⟨rfl, below_trans' HW1.out hb2⟩
  have HN := Lib.hid (HL.out.small hlong)
  have HS := Lib.hid (long_no hlong).2
  have HC := Lib.hid HL.out.cap
  replace HL := Lib.hid (HL.out.rd.on HW1.out)
  clear hlong
  go_wp2_with fail
  obtain ⟨t, ht⟩ : ∃ t, clkT es = t := ⟨_, rfl⟩
  obtain ⟨e, he⟩ : ∃ e, val es = e := ⟨_, rfl⟩
  have K1 := Clock_any A n c es w1 HL.out HN.out HS.out
  rw [ht, he] at K1
  with_reducible refine K1.mono ?_
  rintro _ w2 ⟨rfl, hb2⟩
  have HW2 := Lib.hid (below_trans' HW1.out hb2)
  have K2 := fun w3 hb => refClockE_any A n c es w3 ((HL.out.on hb2).on hb) HN.out HC.out HS.out
  rw [ht, he] at K2
  have HK2 := Lib.hid K2
  replace HL := Lib.hid (HL.out.on hb2)
  clear K1 K2 hb2
  go_wp2_with fail
  have b3 := Box.new w2 #[.int .i64 t.1, .int .i64 t.2.1, .int .i64 t.2.2] 35
  have hb3 := belowA w2 (.cells #[.int .i64 t.1, .int .i64 t.2.1, .int .i64 t.2.2] 35)
  generalize w2.alloc (.cells #[.int .i64 t.1, .int .i64 t.2.1, .int .i64 t.2.2] 35) = w3 at b3 hb3 ⊢
  have HK3 := Lib.hid (HK2.out w3 hb3)
  replace HL := Lib.hid (HL.out.on hb3)
  have HW3 := Lib.hid (below_trans' HW2.out hb3)
  generalize w2.heap.size = q3 at b3 ⊢
  clear hb3 HK2 HW1 HW2
  with_reducible refine HK3.out.mono ?_
  rintro _ w4 ⟨rfl, hb4⟩
  replace b3 := b3.below hb4
  replace HL := Lib.hid (HL.out.on hb4)
  have HW4 := Lib.hid (below_trans' HW3.out hb4)
  clear hb4 HK3
  go_wp2_with fail
  have b6 := Box.new w4 #[.int .i64 t.1, .int .i64 t.2.1, .int .i64 t.2.2] 35
  have hb5 := belowA w4 (.cells #[.int .i64 t.1, .int .i64 t.2.1, .int .i64 t.2.2] 35)
  replace b3 := b3.below hb5
  generalize w4.alloc (.cells #[.int .i64 t.1, .int .i64 t.2.1, .int .i64 t.2.2] 35) = w5 at b3 b6 hb5 ⊢
  replace HL := Lib.hid (HL.out.on hb5)
  have HW5 := Lib.hid (below_trans' HW4.out hb5)
  generalize w4.heap.size = q4 at b6 ⊢
  clear hb5
  have Q0 := validate_any A n c es w5 HL.out HN.out HS.out
  rw [he] at Q0
  with_reducible refine Q0.mono ?_
  rintro _ w6 ⟨rfl, hb6⟩
  replace b3 := b3.below hb6
  replace b6 := b6.below hb6
  replace HL := Lib.hid (HL.out.on hb6)
  have HW6 := Lib.hid (below_trans' HW5.out hb6)
  clear hb6 Q0
  go_wp2_with fail
  have Q1 := refValidate_any A n c es w6 HL.out HN.out HC.out HS.out
  rw [he] at Q1
  with_reducible refine Q1.mono ?_
  rintro _ w7 ⟨rfl, hb7⟩
  replace b3 := b3.below hb7
  replace b6 := b6.below hb7
  have HW7 := Lib.hid (below_trans' HW6.out hb7)
  clear hb7 Q1 he ht
  have c3 := b3.at
  have c4 := b6.at
  have g1 := eqg35 .eql
  have g2 := eql35 t t
  rw [show eqC t t = true from by simp [eqC]] at g2
  go_wp2_with fail
  with_reducible refine (known_any _).mono ?_
  rintro _ w8 ⟨rfl, hb8⟩
  have HW8 := Lib.hid (below_trans' HW7.out hb8)
  clear hb8 c3 c4 b3 b6
  go_wp2_with fail
  go_ret
  exact ⟨rfl, HW8.out⟩
set_option maxRecDepth 100000 in
theorem lawSees (A : Option Addr) (n c : Nat) (es : List Ent) (i k : Int) (w : World) (hl : InE w w A n c es) :
    Calls Try.prog 6 #[.slice A n c, .int .i64 i, .int .i64 k] w fun r w' => r = .returned (.bool true) ∧ Below w.heap.size w w' := by
  have HL := Lib.hid hl
  clear hl
  go_enter Try.func6, Try.ntmps6
  go_wp2_with fail
  with_reducible refine (long_any A n c es _ HL.out.rd).mono ?_
  rintro _ w1 ⟨rfl, hb1⟩
  have HW1 := Lib.hid hb1
  clear hb1
  cases hlong : longE es
  case true =>
    go_wp2_with fail
    with_reducible refine (known_any _).mono ?_
    rintro _ w2 ⟨rfl, hb2⟩
    go_wp2_with fail
    go_ret
    exact ⟨rfl, below_trans' HW1.out hb2⟩
  have HN := Lib.hid (HL.out.small hlong)
  have HS := Lib.hid (long_no hlong).2
  have HC := Lib.hid HL.out.cap
  replace HL := Lib.hid (HL.out.rd.on HW1.out)
  clear hlong
  go_wp2_with fail
  obtain ⟨x, hx⟩ : ∃ x, hsB es i k = x := ⟨_, rfl⟩
  obtain ⟨e, he⟩ : ∃ e, hsE es i k = e := ⟨_, rfl⟩
  obtain ⟨m, hm⟩ : ∃ m, indN es = m := ⟨_, rfl⟩
  obtain ⟨v, hv⟩ : ∃ v, val es = v := ⟨_, rfl⟩
  have HX := Lib.hid hx
  have HE := Lib.hid he
  have HM := Lib.hid hm
  have HV := Lib.hid hv
  clear hx he hm hv
  have K1 := hasSeen_any A n c es i k w1 HL.out HN.out HS.out
  rw [HX.out, HE.out] at K1
  with_reducible refine K1.mono ?_
  rintro _ w2 ⟨rfl, hb⟩
  replace HL := Lib.hid (HL.out.on hb)
  have HW2 := Lib.hid (below_trans' HW1.out hb)
  clear hb K1
  go_wp2_with fail
  have K1 := refHasSeen_any A n c es i k w2 HL.out HN.out HC.out HS.out
  rw [HX.out, HE.out] at K1
  with_reducible refine K1.mono ?_
  rintro _ w3 ⟨rfl, hb⟩
  replace HL := Lib.hid (HL.out.on hb)
  have HW3 := Lib.hid (below_trans' HW2.out hb)
  clear hb K1
  go_wp2_with fail
  have K1 := indep_any A n c es w3 HL.out HN.out HC.out HS.out
  rw [HM.out, HV.out] at K1
  with_reducible refine K1.mono ?_
  rintro _ w4 ⟨rfl, hb⟩
  replace HL := Lib.hid (HL.out.on hb)
  have HW4 := Lib.hid (below_trans' HW3.out hb)
  clear hb K1
  go_wp2_with fail
  have K1 := refIndep_any A n c es w4 HL.out HN.out HC.out HS.out
  rw [HM.out, HV.out] at K1
  with_reducible refine K1.mono ?_
  rintro _ w5 ⟨rfl, hb⟩
  have HW5 := Lib.hid (below_trans' HW4.out hb)
  clear hb K1
  go_wp2_with fail
  with_reducible refine (known_any _).mono ?_
  rintro _ w6 ⟨rfl, hb⟩
  have HW6 := Lib.hid (below_trans' HW5.out hb)
  clear hb
  go_wp2_with fail
  go_ret
  exact ⟨rfl, HW6.out⟩
end Go.Proofs.Ytlmdmbjdhlgkoaa
