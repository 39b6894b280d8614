/- Walks: the card as it was at a clock, the reference's. -/
import Derived.Test.YtlmdmbjdhlgkoaaK2
namespace Go.Proofs.Ytlmdmbjdhlgkoaa
open Go.RowKit Go.Sort

set_option maxRecDepth 100000 in
set_option maxHeartbeats 4000000 in
theorem refAt_any (A : Option Addr) (n c : Nat) (es : List Ent) (t : Int × Int × Int) (w : World) (hl : Reads w w.heap.size 6 A n (ents es)) (hn : n ≤ 1000000) (hnc : n ≤ c) (ht : shortT es) :
    Calls Try.prog 40 #[.slice A n c, cval t] w (RetE (atL es (tr t)) (atE es (tr t)) w) := by
  have hlen := hl.1
  rw [ents_length] at hlen
  have l1 : n ≤ es.length := by omega
  have l2 : es.length ≤ n := by omega
  have HL := Lib.hid hl
  have HS := Lib.hid ht
  clear hl ht hlen
  go_enter Try.func40, Try.ntmps40
  dsimp only [cval]
  go_wp2_with fail
  with_reducible refine (refValidate_any A n c es _ (HL.out.on (belowA _ _)) hn hnc HS.out).mono ?_
  rintro _ w2 ⟨rfl, hb2⟩
  have b0 := (Box.new w #[.int .i64 t.1, .int .i64 t.2.1, .int .i64 t.2.2] 35).below hb2
  have HW2 := Lib.hid (below1 _ hb2)
  replace HL := Lib.hid ((HL.out.on (belowA _ _)).on hb2)
  clear hb2
  by_cases hv : val es = 0
  case neg =>
    have HV := Lib.hid (at_bad (t := tr t) hv)
    have g := neB hv
    clear hv
    go_wp2_with fail
    go_ret2
    rw [HV.out.1, HV.out.2]
    exact RetE.nil rfl HW2.out
  have HV := Lib.hid hv
  have g := neBf hv
  have HPL := Lib.hid (pl_of hv)
  clear hv
  go_wp2_with fail
  go_loopw [7] (fun i wr => ∃ q : Nat, q ≤ 3 ∧ i = .int .i64 q ∧ (∀ p : Nat, p < q → 0 ≤ tr t p ∧ tr t p ≤ clk es p) ∧ Below w2.heap.size w2 wr) (fun i _ => 3 - (intOf i).toNat)
  case atStart => exact ⟨0, by omega, rfl, fun p hp => by omega, Below.refl _ _⟩
  case round =>
    obtain ⟨q, hq, rfl, hno, hbw⟩ := hrel
    have HNO := Lib.hid hno
    have HBW := Lib.hid hbw
    clear hno hbw
    by_cases hq3 : q < 3
    · have Y := fun w' => ix35o w.heap.size q hq3 w'
      have ct := rg_cell (tr_cell (b0.below HBW.out) hq3)
      have ck := clk_idx es (p := (q : Int)) (by omega) (by omega)
      have Q0 : Hid (∀ w4, Below wr.heap.size wr w4 → Calls Try.prog 48 #[.slice A n c] w4 fun r w' => r = .returned (clkV es) ∧ Below w4.heap.size w4 w') := Lib.hid fun w4 hb => refClock_any A n c es _ ((HL.out.on HBW.out).on hb) hn HPL.out
      obtain ⟨z, hz⟩ : ∃ z, tr t q = z := ⟨_, rfl⟩
      obtain ⟨x, hx⟩ : ∃ x, clk es (q : Int) = x := ⟨_, rfl⟩
      by_cases hin : 0 ≤ z ∧ z ≤ x
      · have HNO2 : Hid (∀ p : Nat, p < q + 1 → 0 ≤ tr t p ∧ tr t p ≤ clk es p) := Lib.hid fun p hp => by
          rcases Nat.lt_or_ge p q with h | h
          · exact HNO.out p h
          · obtain rfl : p = q := by omega
            rw [hz, hx]; exact hin
        rw [hz] at ct
        rw [hx] at ck
        have g1 : decide (z < 0) = false := by simp; omega
        have g2 : decide ((x : Int) < z) = false := by simp; omega
        clear hin hz hx
        go_wp2_with fail
        refine wp_region_qb mixed (by kernel_rfl) ?_
        repeat (go_big_quiet_step (first | exact rg_call Q0.out _ _))
        refine wpQuiet_nil ?_
        intro w5 hb5
        have HB5 := Lib.hid (below_trans' HBW.out hb5)
        clear hb5 Y ct ck Q0
        go_wp2_with fail
        go_roundw
        case rel => exact ⟨q + 1, by omega, by go_num, HNO2.out, HB5.out⟩
        case measure => simp [intOf]; omega
      · have HK := Lib.hid (at_out (t := tr t) HV.out fun h => hin (by have := h q hq3; rwa [hz, hx] at this))
        rw [hz] at ct
        rw [hx] at ck
        have hc : z < 0 ∨ (¬ z < 0 ∧ (x : Int) < z) := by omega
        clear hin hz hx
        rcases hc with h1 | ⟨h1, h2⟩
        · have g1 : decide (z < 0) = true := by simpa using h1
          clear h1
          go_wp2_with fail
          refine wp_region_qb mixed (by kernel_rfl) ?_
          repeat (go_big_quiet_step (first | exact rg_call Q0.out _ _))
          refine wpQuiet_nil ?_
          intro w5 hb5
          have HB5 := Lib.hid (below_trans' HW2.out (below_trans' HBW.out hb5))
          clear hb5 Y ct ck Q0
          go_wp2_with fail
          go_ret2
          rw [HK.out.1, HK.out.2]
          exact RetE.nil rfl HB5.out
        · have g1 : decide (z < 0) = false := by simpa using h1
          have g2 : decide ((x : Int) < z) = true := by simpa using h2
          clear h1 h2
          go_wp2_with fail
          refine wp_region_qb mixed (by kernel_rfl) ?_
          repeat (go_big_quiet_step (first | exact rg_call Q0.out _ _))
          refine wpQuiet_nil ?_
          intro w5 hb5
          have HB5 := Lib.hid (below_trans' HW2.out (below_trans' HBW.out hb5))
          clear hb5 Y ct ck Q0
          go_wp2_with fail
          go_ret2
          rw [HK.out.1, HK.out.2]
          exact RetE.nil rfl HB5.out
    have HOK : Hid (okC es (tr t)) := Lib.hid fun p hp => HNO.out p (by omega)
    replace b0 := b0.below HBW.out
    replace HL := Lib.hid (HL.out.on HBW.out)
    have HW3 := Lib.hid (below_trans' HW2.out HBW.out)
    have HW3S := Lib.hid HW3.out.size
    clear HNO HBW HW2
    obtain ⟨w3, hw3⟩ : ∃ w3, w3 = wr := ⟨_, rfl⟩
    subst hw3
    go_wp2_with fail
    go_loopw [8, 9] (fun v i wr => ∃ k : Nat, k ≤ n ∧ i = .int .i64 k ∧ Coll w3 es (fun e => decide (e.2.1 ≤ tr t e.1.toNat)) k wr v) (fun _ i _ => n - (intOf i).toNat)
    case atStart => exact ⟨0, by omega, rfl, Coll.nil⟩
    case round =>
      obtain ⟨k, hk, rfl, hown⟩ := hrel
      have HOWN := Lib.hid hown
      clear hown
      by_cases hlt : k < n
      · obtain ⟨ad, e, e1, he, d0, d1, d2, d3, d4, d5⟩ := eat_rg (HL.out.on HOWN.out.bel) (k := k) (by omega)
        have X := fun w => ix22 (c := c) e1 hlt w
        have HT := Lib.hid (take_succ_of he)
        have hle := fl_le es k (fun e => decide (e.2.1 ≤ tr t e.1.toNat))
        have hlen : ((es.take k).filter (fun e => decide (e.2.1 ≤ tr t e.1.toNat))).length < 1000000000 := by omega
        obtain ⟨p0, p1⟩ := HPL.out e (List.mem_of_getElem? he)
        have HE := Lib.hid he
        obtain ⟨m, hm⟩ := Int.eq_ofNat_of_zero_le p0
        have hm3 : m < 3 := by omega
        have Y := fun w' => ix35o w.heap.size m hm3 w'
        have ct := rg_cell (tr_cell (b0.below HOWN.out.bel) hm3)
        have HFD : Hid ((fun e : Ent => decide (e.2.1 ≤ tr t e.1.toNat)) e = decide (e.2.1 ≤ tr t m)) := Lib.hid (by show decide (e.2.1 ≤ tr t e.1.toNat) = _; rw [hm]; rfl)
        rw [hm] at d0
        clear he e1 hle p0 p1 hm d2 d3 d4 d5
        generalize tr t m = z at ct HFD
        by_cases hq : e.2.1 ≤ z
        · have HF := Lib.hid (HFD.out.trans (decide_eq_true hq))
          have g1 : decide (e.2.1 ≤ z) = true := decide_eq_true hq
          clear hq
          go_wp2_with fail
          refine wp_region_qb mixed (by kernel_rfl) ?_
          repeat (go_big_quiet_step (fail))
          refine wpQuiet_nil ?_
          intro w5 hb5
          obtain ⟨ad', e', e1', hbk', he', q0, q1, q2, q3, q4, q5⟩ := eat ((HL.out.on HOWN.out.bel).on hb5) (k := k) (by omega)
          obtain rfl : e = e' := Option.some.inj (HE.out.symm.trans he')
          have X2 := fun w => ix22 (c := c) e1' hlt w
          have HOWN2 := Lib.hid (HOWN.out.on hb5)
          clear hb5 he' e1' d0 d1 X Y ct
          go_wp2_with (at_builtin; refine wpList_pushX rfl _ _ 22 53 rfl Try.underlying22 info53b rfl (by omega) (by omega) w3 _ _ _ _ (ecells e) _ rfl (HOWN2.out.own.on (belowA _ _)) rfl (Box.new _ _ _) rfl (ecells_one e) hlen ?_; intro v' w' hown'; have hown5 := Lib.hid hown'; clear hown')
          go_roundw
          case rel => exact ⟨k + 1, by omega, by go_num, Coll.yes HT.out HF.out hown5.out⟩
          case measure => simp [intOf]; omega
        · have HF := Lib.hid (HFD.out.trans (decide_eq_false hq))
          have g1 : decide (e.2.1 ≤ z) = false := decide_eq_false hq
          clear hq
          go_wp2_with fail
          refine wp_region_qb mixed (by kernel_rfl) ?_
          repeat (go_big_quiet_step (fail))
          refine wpQuiet_nil ?_
          intro w5 hb5
          have HOWN2 := Lib.hid (HOWN.out.on hb5)
          clear hb5 d0 d1 X Y ct
          go_wp2_with fail
          go_roundw
          case rel => exact ⟨k + 1, by omega, by go_num, Coll.no HT.out HF.out HOWN2.out⟩
          case measure => simp [intOf]; omega
      · obtain ⟨B, d, rfl, hr, hb⟩ := HOWN.out.all (by omega)
        have HSN := Lib.hid (at_seen HV.out HOK.out)
        have HAT : Hid (es.filter (fun e => decide (e.2.1 ≤ tr t e.1.toNat)) = atC es (tr t)) := Lib.hid rfl
        rw [HAT.out] at hr ⊢
        have hal : (atC es (tr t)).length ≤ es.length := List.length_filter_le _ _
        obtain ⟨l, hll⟩ : ∃ l, atC es (tr t) = l := ⟨_, rfl⟩
        rw [hll] at HSN hal hr ⊢
        have HR := Lib.hid hr
        have HLL := Lib.hid hll
        replace b0 := b0.below hb
        have HW4 := Lib.hid (below_trans' HW3.out hb)
        have HW34 := Lib.hid hb.size
        clear hr hb HOWN HL HW3 HAT hll
        obtain ⟨w4, hw4⟩ : ∃ w4, w4 = wr := ⟨_, rfl⟩
        subst hw4
        go_wp2_with fail
        go_loopw [10, 11] (fun i _ wr => ∃ k : Nat, k ≤ l.length ∧ i = .int .i64 k ∧ (∀ e ∈ l.take k, ∀ p : Nat, p < 3 → e.sn p ≤ tr t p) ∧ Below w4.heap.size w4 wr) (fun i _ _ => l.length - (intOf i).toNat)
        case atStart => exact ⟨0, by omega, rfl, fun e he => by simp at he, Below.refl _ _⟩
        case round =>
          obtain ⟨k, hk, rfl, hno, hbw⟩ := hrel
          have HNO := Lib.hid hno
          have HBW := Lib.hid hbw
          clear hno hbw
          by_cases hlt : k < l.length
          · obtain ⟨e, he⟩ : ∃ e, l[k]? = some e := ⟨_, List.getElem?_eq_getElem hlt⟩
            have HE := Lib.hid he
            have HT := Lib.hid (take_succ_of he)
            have HM := Lib.hid (List.mem_of_getElem? he)
            clear he
            have HBW0 := HBW
            go_wp2_with fail
            go_loopw [11] (fun i wr => ∃ q : Nat, q ≤ 3 ∧ i = .int .i64 q ∧ (∀ p : Nat, p < q → e.sn p ≤ tr t p) ∧ Below w4.heap.size w4 wr) (fun i _ => 3 - (intOf i).toNat)
            case atStart => exact ⟨0, by omega, rfl, fun p hp => by omega, HBW0.out⟩
            case round =>
              clear HBW HBW0
              obtain ⟨q, hq, rfl, hnq, hbw⟩ := hrel
              have HNQ := Lib.hid hnq
              have HBW := Lib.hid hbw
              clear hnq hbw
              by_cases hq3 : q < 3
              · obtain ⟨ad, e', e1, he', d0, d1, d2, d3, d4, d5⟩ := eat_rg ((Reads.of_own HR.out).on HBW.out) (k := k) hlt
                have dp := rg_cell (sn_elem ((Reads.of_own HR.out).on HBW.out) e1 HE.out hq3)
                have X := fun w => ix22 (c := d) e1 hlt w
                have Y := fun w' => ix35o w.heap.size q hq3 w'
                have Z := fun w' => ix35e (ad.add (k * 6)) q hq3 w'
                have ct := rg_cell (tr_cell (b0.below HBW.out) hq3)
                clear he' e1 d0 d1 d2 d3 d4 d5
                obtain ⟨z, hz⟩ : ∃ z, tr t q = z := ⟨_, rfl⟩
                obtain ⟨x, hx⟩ : ∃ x, e.sn q = x := ⟨_, rfl⟩
                by_cases hin : x ≤ z
                · have HNQ2 : Hid (∀ p : Nat, p < q + 1 → e.sn p ≤ tr t p) := Lib.hid fun p hp => by
                    rcases Nat.lt_or_ge p q with h | h
                    · exact HNQ.out p h
                    · obtain rfl : p = q := by omega
                      rw [hz, hx]; exact hin
                  rw [hz] at ct
                  rw [hx] at dp
                  have g1 : decide (z < x) = false := by simp; omega
                  clear hin hz hx
                  go_wp2_with fail
                  refine wp_region_qb mixed (by kernel_rfl) ?_
                  repeat (go_big_quiet_step (fail))
                  refine wpQuiet_nil ?_
                  intro w5 hb5
                  have HB5 := Lib.hid (below_trans' HBW.out hb5)
                  clear hb5 X Y Z ct dp
                  go_wp2_with fail
                  go_roundw
                  case rel => exact ⟨q + 1, by omega, by go_num, HNQ2.out, HB5.out⟩
                  case measure => simp [intOf]; omega
                · have HK := Lib.hid (at_no HV.out HOK.out fun h => hin (by rw [HLL.out] at h; have := HSN.out.1 h e HM.out q hq3; rwa [hz, hx] at this))
                  rw [hz] at ct
                  rw [hx] at dp
                  have g1 : decide (z < x) = true := by simp; omega
                  clear hin hz hx
                  go_wp2_with fail
                  refine wp_region_qb mixed (by kernel_rfl) ?_
                  repeat (go_big_quiet_step (fail))
                  refine wpQuiet_nil ?_
                  intro w5 hb5
                  have HB5 := Lib.hid (below_trans' HW4.out (below_trans' HBW.out hb5))
                  clear hb5 X Y Z ct dp
                  go_wp2_with fail
                  go_ret2
                  rw [HK.out.1, HK.out.2]
                  exact RetE.nil rfl HB5.out
              · have HNO2 : Hid (∀ e ∈ l.take (k + 1), ∀ p : Nat, p < 3 → e.sn p ≤ tr t p) := Lib.hid fun f hf => by
                  rw [HT.out] at hf
                  rcases List.mem_append.1 hf with hf | hf
                  · exact HNO.out f hf
                  · rw [List.mem_singleton.1 hf]
                    exact fun p hp => HNQ.out p (by omega)
                go_wp2_with fail
                go_roundw
                case rel => exact ⟨k + 1, by omega, by go_num, HNO2.out, HBW.out⟩
                case measure => simp [intOf]; omega
          · have HK := Lib.hid (at_ok HV.out HOK.out (by
              rw [HLL.out]
              refine HSN.out.2 fun e he => HNO.out e ?_
              rwa [List.take_of_length_le (by omega)]))
            go_wp2_with fail
            go_ret2
            rw [HK.out.1, HK.out.2, HLL.out]
            exact ⟨B, d, rfl, row_mono (row_on HR.out HBW.out) HW3S.out, below_trans' HW4.out HBW.out⟩
end Go.Proofs.Ytlmdmbjdhlgkoaa
