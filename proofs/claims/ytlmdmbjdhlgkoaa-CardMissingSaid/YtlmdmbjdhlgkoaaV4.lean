/- Walks: the law CardMissing. -/
import Derived.Test.YtlmdmbjdhlgkoaaV2
import Derived.Test.YtlmdmbjdhlgkoaaK5
namespace Go.Proofs.Ytlmdmbjdhlgkoaa
open Go.RowKit Go.Sort

theorem misE_len (es : List Ent) (t : Nat → Int) : (misE es t).length ≤ es.length := by
  unfold misE
  split
  · exact List.length_filter_le _ _
  · simp
theorem atL_len (es : List Ent) (t : Nat → Int) : (atL es t).length ≤ es.length := by
  unfold atL
  split
  · exact List.length_filter_le _ _
  · simp
theorem atL_sub {es : List Ent} {t : Nat → Int} : ∀ e ∈ atL es t, e ∈ es := by
  unfold atL
  split
  · exact fun e he => (List.mem_filter.1 he).1
  · intro e he; cases he
/-- What the law asks of the card as it was at a clock. -/
theorem at_law {es : List Ent} {t : Int × Int × Int} (h : atE es (tr t) = 0) : val (atL es (tr t)) = 0 ∧ clkT (atL es (tr t)) = t ∧ val2 es (atL es (tr t)) = 0 ∧ (relV es (atL es (tr t)) = 1 ∨ relV es (atL es (tr t)) = 0) ∧
    (misE es (tr t)).length + (atL es (tr t)).length = es.length := by
  obtain ⟨hc, hok, hx⟩ := at_zero h
  have e1 : atL es (tr t) = atC es (tr t) := if_pos h
  rw [e1]
  obtain ⟨q1, q2⟩ := at_part hc hx
  have hv := val_zero.2 hx
  refine ⟨hv, ?_, q1, ?_, ?_⟩
  · rw [clkT_ok hv]
    have c0 := at_clock hc hok hx.ord (p := 0) (by omega)
    have c1 := at_clock hc hok hx.ord (p := 1) (by omega)
    have c2 := at_clock hc hok hx.ord (p := 2) (by omega)
    exact Prod.ext c0 (Prod.ext c1 c2)
  · rw [show relV es (atC es (tr t)) = relN (wo es (atC es (tr t)) false).length (wo (atC es (tr t)) es false).length from if_pos q1, q2]
    unfold relN
    by_cases h1 : 0 < (wo es (atC es (tr t)) false).length
    · left; simp [h1]
    · right; simp [h1]
  · rw [show misE es (tr t) = misC es (tr t) from if_pos (val_zero.2 hc)]
    exact mis_at _ _
set_option maxRecDepth 100000 in
set_option maxHeartbeats 4000000 in
theorem lawMissing (A : Option Addr) (n c : Nat) (es : List Ent) (t : Int × Int × Int) (w : World) (hl : InE w w A n c es) :
    Calls Try.prog 10 #[.slice A n c, cval t] w fun r w' => r = .returned (.bool true) ∧ Below w.heap.size w w' := by
  have hlen := hl.rd.1
  rw [ents_length] at hlen
  have l1 : n ≤ es.length := by omega
  have l2 : es.length ≤ n := by omega
  have HL := Lib.hid hl
  clear hl hlen
  go_enter Try.func10, Try.ntmps10
  dsimp only [cval]
  go_wp2_with fail
  with_reducible refine (long_any A n c es _ (HL.out.rd.on (belowA _ _))).mono ?_
  rintro _ w1 ⟨rfl, hb1⟩
  have B0 := Lib.hid ((Box.new w #[.int .i64 t.1, .int .i64 t.2.1, .int .i64 t.2.2] 35).below hb1)
  have HW1 := Lib.hid (below1 _ hb1)
  clear hb1
  cases hlong : longE es
  case true =>
    go_wp2_with fail
    with_reducible refine (known_any _).mono ?_
    rintro _ w2 ⟨rfl, hb2⟩
    go_wp2_with fail
    go_ret
    exact ⟨rfl, below_trans' HW1.out hb2⟩
  have HN := Lib.hid (HL.out.small hlong)
  have HS := Lib.hid (long_no hlong).2
  have HC := Lib.hid HL.out.cap
  replace HL := Lib.hid (HL.out.rd.on HW1.out)
  clear hlong
  obtain ⟨l, hl⟩ : ∃ l, misE es (tr t) = l := ⟨_, rfl⟩
  obtain ⟨e, he⟩ : ∃ e, val es = e := ⟨_, rfl⟩
  obtain ⟨l', hl'⟩ : ∃ l, atL es (tr t) = l := ⟨_, rfl⟩
  obtain ⟨e', he'⟩ : ∃ e, atE es (tr t) = e := ⟨_, rfl⟩
  have HLS := Lib.hid (show l.length ≤ 1000000 by have := misE_len es (tr t); rw [hl] at this; have := HN.out; omega)
  have HLS2 := Lib.hid (show l'.length ≤ 1000000 by have := atL_len es (tr t); rw [hl'] at this; have := HN.out; omega)
  have HSH := Lib.hid (show shortT l' by rw [← hl']; exact fun e he => HS.out e (atL_sub e he))
  have HLAW := Lib.hid (show e' = 0 → val l' = 0 ∧ clkT l' = t ∧ val2 es l' = 0 ∧ (relV es l' = 1 ∨ relV es l' = 0) ∧ l.length + l'.length = es.length from fun h => by
    rw [← hl', ← hl]; exact at_law (he'.trans h))
  have K1 := missing_any A n c es t w1 HL.out HN.out HS.out
  have K2 := fun W (hb : Below w1.heap.size w1 W) => refMissing_any A n c es t W (HL.out.on hb) HN.out HC.out HS.out
  have K3 := fun W (hb : Below w1.heap.size w1 W) => at_any A n c es t W (HL.out.on hb) HN.out HS.out
  have K4 := fun W (hb : Below w1.heap.size w1 W) => refAt_any A n c es t W (HL.out.on hb) HN.out HC.out HS.out
  rw [hl, he] at K1 K2
  rw [hl', he'] at K3 K4
  have HK2 := Lib.hid K2
  have HK3 := Lib.hid K3
  have HK4 := Lib.hid K4
  clear K2 K3 K4 hl he hl' he'
  have c0 := B0.out.at
  go_wp2_with fail
  clear c0
  with_reducible refine K1.mono ?_
  rintro _ w3 ⟨A3, c3, rfl, hr3, hb⟩
  have HR3 := Lib.hid (Reads.of_own hr3)
  have HB3 := Lib.hid hb
  clear hr3 hb K1
  have c0 := (B0.out.below HB3.out).at
  go_wp2_with fail
  clear c0
  with_reducible refine (HK2.out _ HB3.out).mono ?_
  rintro _ w4 ⟨A4, c4, rfl, hr4, hb⟩
  have HR4 := Lib.hid (Reads.of_own hr4)
  replace HR3 := Lib.hid (HR3.out.on hb)
  have HB4 := Lib.hid (below_trans' HB3.out hb)
  clear hr4 hb HB3 HK2
  have c0 := (B0.out.below HB4.out).at
  go_wp2_with fail
  clear c0
  with_reducible refine (HK3.out _ HB4.out).mono ?_
  rintro _ w5 ⟨A5, c5, rfl, hr5, hb⟩
  have HR5 := Lib.hid (Reads.of_own hr5)
  have HCP5 := Lib.hid (row_cap hr5).1
  replace HR3 := Lib.hid (HR3.out.on hb)
  replace HR4 := Lib.hid (HR4.out.on hb)
  have HB5 := Lib.hid (below_trans' HB4.out hb)
  clear hr5 hb HB4 HK3
  have c0 := (B0.out.below HB5.out).at
  go_wp2_with fail
  clear c0
  with_reducible refine (HK4.out _ HB5.out).mono ?_
  rintro _ w6 ⟨A6, c6, rfl, hr6, hb⟩
  have HR6 := Lib.hid (Reads.of_own hr6)
  replace HR3 := Lib.hid (HR3.out.on hb)
  replace HR4 := Lib.hid (HR4.out.on hb)
  replace HR5 := Lib.hid (HR5.out.on hb)
  have HB6 := Lib.hid (below_trans' HB5.out hb)
  clear hr6 hb HB5 HK4
  go_wp2_with fail
  with_reducible refine (same_refl A3 A4 l.length l.length c3 c4 l _ HR3.out HR4.out HLS.out).mono ?_
  rintro _ w7 ⟨rfl, hb⟩
  replace HR5 := Lib.hid (HR5.out.on hb)
  replace HR6 := Lib.hid (HR6.out.on hb)
  have HB7 := Lib.hid (below_trans' HB6.out hb)
  clear hb HB6 HR3 HR4
  go_wp2_with fail
  with_reducible refine (same_refl A5 A6 l'.length l'.length c5 c6 l' _ HR5.out HR6.out HLS2.out).mono ?_
  rintro _ w8 ⟨rfl, hb⟩
  replace HR5 := Lib.hid (HR5.out.on hb)
  have HB8 := Lib.hid (below_trans' HB7.out hb)
  clear hb HB7 HR6
  by_cases h0 : e' = 0
  case neg =>
    have g := neB h0
    clear h0
    go_wp2_with fail
    with_reducible refine (known_any _).mono ?_
    rintro _ w9 ⟨rfl, hb⟩
    have HW9 := Lib.hid (below_trans' HW1.out (below_trans' HB8.out hb))
    clear hb
    go_wp2_with fail
    go_ret
    exact ⟨rfl, HW9.out⟩
  have g := neBf h0
  obtain ⟨q1, q2, q3, q4, q5⟩ := HLAW.out h0
  have HQ1 := Lib.hid q1
  have HQ2 := Lib.hid q2
  have HQ3 := Lib.hid q3
  have HQ4 := Lib.hid q4
  have hq5 : ((l.length : Int) + (l'.length : Int)) = (n : Int) := by omega
  have HW5 := Lib.hid (show IntKind.i64.wrap (n : Int) = (n : Int) from IntWalk.i64_in _ (by have := HN.out; omega))
  have HQ5 := Lib.hid hq5
  clear h0 q1 q2 q3 q4 q5 HLAW hq5
  go_wp2_with fail
  have K1 := Clock_any A5 l'.length c5 l' _ HR5.out HLS2.out HSH.out
  rw [HQ1.out, HQ2.out] at K1
  with_reducible refine K1.mono ?_
  rintro _ w9 ⟨rfl, hb⟩
  replace HR5 := Lib.hid (HR5.out.on hb)
  have HB9 := Lib.hid (below_trans' HB8.out hb)
  clear hb HB8 K1
  go_wp2_with fail
  have b1 := Box.new w9 #[.int .i64 t.1, .int .i64 t.2.1, .int .i64 t.2.2] 35
  have hb := belowA w9 (.cells #[.int .i64 t.1, .int .i64 t.2.1, .int .i64 t.2.2] 35)
  generalize w9.alloc (.cells #[.int .i64 t.1, .int .i64 t.2.1, .int .i64 t.2.2] 35) = w10 at b1 hb ⊢
  replace HR5 := Lib.hid (HR5.out.on hb)
  have HB10 := Lib.hid (below_trans' HB9.out hb)
  generalize w9.heap.size = q9 at b1 ⊢
  clear hb HB9
  have K1 := relation_any A A5 n l'.length c c5 es l' w10 (HL.out.on HB10.out) HR5.out HN.out HLS2.out HS.out HSH.out
  rw [HQ3.out] at K1
  with_reducible refine K1.mono ?_
  rintro _ w11 ⟨rfl, hb⟩
  replace HR5 := Lib.hid (HR5.out.on hb)
  replace b1 := b1.below hb
  have HB11 := Lib.hid (below_trans' HB10.out hb)
  clear hb HB10 K1
  go_wp2_with fail
  have K1 := validate_any A5 l'.length c5 l' _ HR5.out HLS2.out HSH.out
  rw [HQ1.out] at K1
  with_reducible refine K1.mono ?_
  rintro _ w12 ⟨rfl, hb⟩
  replace b1 := b1.below hb
  have HB12 := Lib.hid (below_trans' HB11.out hb)
  clear hb HB11 K1 HR5
  have c0 := (B0.out.below HB12.out).at
  have c1 := b1.at
  have g1 := eqg35 .eql
  have g2 := eql35 t t
  rw [show eqC t t = true from by simp [eqC]] at g2
  have hq5 := HQ5.out
  have hw5 := HW5.out
  rcases HQ4.out with h1 | h1
  all_goals
    rw [h1]
    clear h1
    go_wp2_with fail
    with_reducible refine (known_any _).mono ?_
    rintro _ w13 ⟨rfl, hb⟩
    have HW13 := Lib.hid (below_trans' HW1.out (below_trans' HB12.out hb))
    clear hb
    go_wp2_with fail
    go_ret
    exact ⟨rfl, HW13.out⟩
end Go.Proofs.Ytlmdmbjdhlgkoaa
