/- Walks: which lists of entries are cards, the reference's. -/
import Derived.Test.YtpoodhhajghaoaaGreatDoorC6
namespace Go.Proofs.YtpoodhhajghaoaaGreatDoor
open Go.RowKit Go.Sort

theorem ents_take (es : List Ent) (k : Nat) : (ents es).take (k * 6) = ents (es.take k) := by
  induction es generalizing k with
  | nil => simp [ents]
  | cons e l ih =>
    cases k with
    | zero => simp [ents]
    | succ k =>
      show (ecells e ++ ents l).take ((k + 1) * 6) = ecells e ++ ents (l.take k)
      rw [List.take_append, ← ih k]
      have : (ecells e).length = 6 := rfl
      rw [List.take_of_length_le (by omega), this, show (k + 1) * 6 - 6 = k * 6 by omega]
theorem Reads.ents_take {w : World} {B n k : Nat} {A : Option Addr} {es : List Ent} (h : Reads w B 6 A n (ents es)) (hk : k ≤ n) : Reads w B 6 A k (ents (es.take k)) := by
  have := h.take hk
  rwa [Go.Proofs.YtpoodhhajghaoaaGreatDoor.ents_take] at this
theorem clk_idx (l : List Ent) {p : Int} (h0 : 0 ≤ p) (h2 : p ≤ 2) (w : World) : (Instr.index 36 (.agg #[.int .i64 (clk l 0 : Nat), .int .i64 (clk l 1 : Nat), .int .i64 (clk l 2 : Nat)]) (.int .i64 p)).run Tryz.prog w = .ok (.int .i64 (clk l p : Nat)) w := by
  rcases (show p = 0 ∨ p = 1 ∨ p = 2 by omega) with rfl | rfl | rfl
  · exact (ix35v _ _ _).1 w
  · exact (ix35v _ _ _).2.1 w
  · exact (ix35v _ _ _).2.2 w
theorem ix22m {A : Option Addr} {ad : Addr} {n c k : Nat} (h : A = some ad) (hk : k < n) (h0 : 0 < k) (w : World) : (Instr.indexAt 22 (.slice A n c) (.int .i64 ((k : Int) - 1))).run Tryz.prog w = .ok (.pointer (some (ad.add ((k - 1) * 6)))) w := by
  have := ix22 (n := n) (c := c) (k := k - 1) h (by omega) w
  rwa [show ((k - 1 : Nat) : Int) = (k : Int) - 1 by omega] at this
set_option maxRecDepth 100000 in
set_option maxHeartbeats 4000000 in
theorem refValidate_any (A : Option Addr) (n c : Nat) (es : List Ent) (w : World) (hl : Reads w w.heap.size 6 A n (ents es)) (hn : n ≤ 1000000) (hnc : n ≤ c) (ht : shortT es) :
    Calls Tryz.prog 16 #[.slice A n c] w fun r w' => r = .returned (.int .i64 (val es)) ∧ Below w.heap.size w w' := by
  have hlen := hl.1
  rw [ents_length] at hlen
  have l1 : n ≤ es.length := by omega
  have l2 : es.length ≤ n := by omega
  have HL := Lib.hid hl
  have HS := Lib.hid ht
  clear hl hlen ht
  go_enter Tryz.func16, Tryz.ntmps16
  by_cases hbig : 60 < n
  · have HF := Lib.hid (val_large (show 60 < es.length by omega))
    go_wp2_with fail
    go_ret
    exact ⟨ret_int HF.out.symm, Below.refl _ _⟩
  have hsm : es.length ≤ 60 := by omega
  go_wp2_with fail
  go_loopw [3] (fun i wr => ∃ k : Nat, k ≤ n ∧ i = .int .i64 k ∧ (∀ e ∈ es.take k, okT e) ∧ Below w.heap.size w wr) (fun i _ => n - (intOf i).toNat)
  case atStart => exact ⟨0, by omega, rfl, fun e he => by simp at he, Below.refl _ _⟩
  case round =>
    obtain ⟨k, hk, rfl, hok, hbw⟩ := hrel
    have HB := Lib.hid hbw
    have HK := Lib.hid hok
    clear hok
    by_cases hlt : k < n
    · obtain ⟨ad, e, e1, hbk, he, d0, d1, d2, d3, d4, d5⟩ := eat (HL.out.below hbw) (k := k) (by omega)
      have X := fun w => ix22 (c := c) e1 hlt w
      have HT := Lib.hid (take_succ_of he)
      have HM := Lib.hid (List.mem_of_getElem? he)
      have htx : e.2.2.2.size ≤ 1000000 := by have := HS.out e HM.out; omega
      clear hbw he e1
      by_cases hko : okT e
      · have HO := Lib.hid hko
        obtain ⟨p0, p1, p2⟩ := hko
        have H2 := Lib.hid p2
        clear p2
        go_wp2_with fail
        with_reducible refine (refRight_any e.2.2.2 _ htx).mono ?_
        rintro _ w1 ⟨rfl, hb1⟩
        have HB1 := Lib.hid (below_trans' HB.out hb1)
        rw [H2.out]
        clear hb1 d0 d1 d2 d3 d4 d5 X
        go_wp2_with fail
        go_roundw
        case rel =>
          refine ⟨k + 1, by omega, by go_num, fun f hf => ?_, HB1.out⟩
          rw [HT.out] at hf
          rcases List.mem_append.1 hf with hf | hf
          · exact HK.out f hf
          · rw [List.mem_singleton.1 hf]; exact HO.out
        case measure => simp [intOf]; omega
      · have HF := Lib.hid (val_txt hsm HM.out hko)
        have hc : e.1 < 0 ∨ (0 ≤ e.1 ∧ (2 < e.1 ∨ (e.1 ≤ 2 ∧ right e.2.2.2 = false))) := by
          rcases Int.lt_or_le e.1 0 with h1 | h1
          · exact .inl h1
          rcases Int.lt_or_le 2 e.1 with h2 | h2
          · exact .inr ⟨h1, .inl h2⟩
          refine .inr ⟨h1, .inr ⟨h2, ?_⟩⟩
          cases hr : right e.2.2.2
          · rfl
          · exact (hko ⟨h1, h2, hr⟩).elim
        clear hko
        rcases hc with h1 | ⟨h1, h2 | ⟨h2, h3⟩⟩
        · go_wp2_with fail
          go_ret
          exact ⟨ret_int HF.out.symm, HB.out⟩
        · go_wp2_with fail
          go_ret
          exact ⟨ret_int HF.out.symm, HB.out⟩
        · have H3 := Lib.hid h3
          clear h3
          go_wp2_with fail
          with_reducible refine (refRight_any e.2.2.2 _ htx).mono ?_
          rintro _ w1 ⟨rfl, hb1⟩
          have HB1 := Lib.hid (below_trans' HB.out hb1)
          rw [H3.out]
          clear hb1 d0 d1 d2 d3 d4 d5 X
          go_wp2_with fail
          go_ret
          exact ⟨ret_int HF.out.symm, HB1.out⟩
    · have HTX := Lib.hid (show ∀ e ∈ es, okT e by have := HK.out; rwa [List.take_of_length_le (by omega)] at this)
      have HPL : Hid (∀ e ∈ es, 0 ≤ e.1 ∧ e.1 ≤ 2) := Lib.hid fun e he => by obtain ⟨q0, q1, _⟩ := HTX.out e he; exact ⟨q0, q1⟩
      clear HK hbw
      refine gen_at (fun w1 => Below w.heap.size w w1) HB.out ?_
      clear HB
      rintro w1 hw1
      have HB := Lib.hid hw1
      clear hw1
      go_wp2_with fail
      go_loopw [4] (fun i wr => ∃ k : Nat, k ≤ n ∧ i = .int .i64 k ∧ Ord (es.take k) ∧ Below w.heap.size w wr) (fun i _ => n - (intOf i).toNat)
      case atStart => exact ⟨0, by omega, rfl, by simpa using Ord_nil, HB.out⟩
      case round =>
        clear HB
        obtain ⟨k, hk, rfl, hord, hbw⟩ := hrel
        have HBW := Lib.hid hbw
        have HO := Lib.hid hord
        clear hbw hord
        by_cases hlt : k < n
        · obtain ⟨ad, e, e1, he, d0, d1, d2, d3, d4, d5⟩ := eat_rg (HL.out.on HBW.out) (k := k) (by omega)
          have X := fun w => ix22 (c := c) e1 hlt w
          have HT := Lib.hid (take_succ_of he)
          have HM := Lib.hid (List.mem_of_getElem? he)
          obtain ⟨p0, p1⟩ := HPL.out e HM.out
          have E1 := Lib.hid e1
          have HEE := Lib.hid he
          clear he e1 d2 d3 d4 d5
          have CI := fun w => clk_idx (es.take k) p0 p1 w
          have cl := clk_le (es.take k) e.1
          have kl := List.length_take_le k es
          have cl2 : clk (es.take k) e.1 ≤ 60 := by omega
          clear cl kl
          have Q0 : Hid (∀ w4, Below wr.heap.size wr w4 → Calls Tryz.prog 36 #[.slice A k c] w4 fun r w' => r = .returned (clkV (es.take k)) ∧ Below w4.heap.size w4 w') := Lib.hid fun w4 h4 => refClock_any A k c (es.take k) w4 (((HL.out.on HBW.out).on h4).ents_take (by omega)) (by omega) (fun e he => HPL.out e (List.mem_of_mem_take he))
          have hkc : k ≤ c := by omega
          by_cases hq : e.2.1 = (clk (es.take k) e.1 : Nat) + 1
          · have HQ := Lib.hid hq
            by_cases hk0 : 0 < k
            · obtain ⟨ad', f, e1', hf, g0, -⟩ := eat_rg (HL.out.on HBW.out) (k := k - 1) (by omega)
              have X2 := fun w => ix22m (c := c) E1.out hlt hk0 w
              obtain rfl : ad = ad' := Option.some.inj (E1.out.symm.trans e1')
              have HTF : Hid (es.take k = es.take (k - 1) ++ [f]) := Lib.hid (by have := take_succ_of hf; rwa [show k - 1 + 1 = k by omega] at this)
              clear hf e1'
              by_cases hlo : e.1 < f.1
              · have HF := Lib.hid (val_part hsm HT.out fun ho => by
                  have := (Ord_snoc.1 ho).2.1 f (by rw [HTF.out]; simp)
                  omega)
                generalize clk (es.take k) e.1 = ck at hq CI cl2
                have g : (e.2.1 != (ck : Int) + 1) = false := by rw [hq]; simp
                have gk : decide (0 < k) = true := by simpa using hk0
                have gl : decide (e.1 < f.1) = true := by simpa using hlo
                clear hq HQ
                go_wp2_with fail
                refine wp_region_qb mixed (by kernel_rfl) ?_
                repeat (go_big_quiet_step (first | exact rg_call Q0.out _ _))
                refine wpQuiet_nil ?_
                intro w5 hb5
                have HB5 := Lib.hid (below_trans' HBW.out hb5)
                clear hb5 d0 d1 g0 X X2 CI
                go_wp2_with fail
                go_ret
                exact ⟨ret_int HF.out.symm, HB5.out⟩
              · have HO2 : Hid (Ord (es.take (k + 1))) := Lib.hid (by
                  rw [HT.out]
                  have h1 := HO.out
                  rw [HTF.out] at h1 ⊢
                  rw [Ord_last h1, ← HTF.out]
                  exact ⟨by omega, HQ.out⟩)
                generalize clk (es.take k) e.1 = ck at hq CI cl2
                have g : (e.2.1 != (ck : Int) + 1) = false := by rw [hq]; simp
                have gk : decide (0 < k) = true := by simpa using hk0
                have gl : decide (e.1 < f.1) = false := by simpa using hlo
                clear hq HQ
                go_wp2_with fail
                refine wp_region_qb mixed (by kernel_rfl) ?_
                repeat (go_big_quiet_step (first | exact rg_call Q0.out _ _))
                refine wpQuiet_nil ?_
                intro w5 hb5
                have HB5 := Lib.hid (below_trans' HBW.out hb5)
                clear hb5 d0 d1 g0 X X2 CI
                go_wp2_with fail
                go_roundw
                case rel => exact ⟨k + 1, by omega, by go_num, HO2.out, HB5.out⟩
                case measure => simp [intOf]; omega
            · have HO2 : Hid (Ord (es.take (k + 1))) := Lib.hid (by
                rw [HT.out, Ord_snoc]
                refine ⟨HO.out, fun f hf => ?_, HQ.out⟩
                rw [show k = 0 by omega] at hf
                simp at hf)
              generalize clk (es.take k) e.1 = ck at hq CI cl2
              have g : (e.2.1 != (ck : Int) + 1) = false := by rw [hq]; simp
              have gk : decide (0 < k) = false := by simpa using hk0
              clear hq HQ
              go_wp2_with fail
              refine wp_region_qb mixed (by kernel_rfl) ?_
              repeat (go_big_quiet_step (first | exact rg_call Q0.out _ _))
              refine wpQuiet_nil ?_
              intro w5 hb5
              have HB5 := Lib.hid (below_trans' HBW.out hb5)
              clear hb5 d0 d1 X CI
              go_wp2_with fail
              go_roundw
              case rel => exact ⟨k + 1, by omega, by go_num, HO2.out, HB5.out⟩
              case measure => simp [intOf]; omega
          · have HF := Lib.hid (val_part hsm HT.out fun ho => hq (Ord_snoc.1 ho).2.2)
            generalize clk (es.take k) e.1 = ck at hq CI cl2
            have g : (e.2.1 != (ck : Int) + 1) = true := by simpa using hq
            clear hq
            go_wp2_with fail
            refine wp_region_qb mixed (by kernel_rfl) ?_
            repeat (go_big_quiet_step (first | exact rg_call Q0.out _ _))
            refine wpQuiet_nil ?_
            intro w5 hb5
            have HB5 := Lib.hid (below_trans' HBW.out hb5)
            clear hb5 d0 d1 X CI
            go_wp2_with fail
            go_ret
            exact ⟨ret_int HF.out.symm, HB5.out⟩
        · have HORD := Lib.hid (show Ord es by have := HO.out; rwa [List.take_of_length_le (by omega)] at this)
          have HSEQ := Lib.hid (Ord_seq HORD.out)
          clear HO
          go_wp2_with fail
          go_loopw [5] (fun i wr => ∃ k : Nat, k ≤ n ∧ i = .int .i64 k ∧ (∀ e ∈ es.take k, ¬ wrong es e) ∧ Below w.heap.size w wr) (fun i _ => n - (intOf i).toNat)
          case atStart => exact ⟨0, by omega, rfl, fun e he => by simp at he, HBW.out⟩
          case round =>
            clear HBW
            obtain ⟨k, hk, rfl, hno, hbw⟩ := hrel
            have HNO := Lib.hid hno
            have HBW := Lib.hid hbw
            clear hno hbw
            by_cases hlt : k < n
            · obtain ⟨ad, e, e1, hbk, he, d0, d1, d2, d3, d4, d5⟩ := eat (HL.out.below HBW.out) (k := k) (by omega)
              have X := fun w => ix22 (c := c) e1 hlt w
              have HT := Lib.hid (take_succ_of he)
              have HM := Lib.hid (List.mem_of_getElem? he)
              have HSE : Hid (1 ≤ e.2.1 ∧ e.2.1 ≤ 1000000) := Lib.hid (by have := HSEQ.out e HM.out; omega)
              have HLW := Lib.hid (HL.out.on HBW.out)
              clear he e1
              go_wp2_with fail
              with_reducible refine (wrongly_any A n c es e _ HLW.out hn HPL.out HSE.out).mono ?_
              rintro _ w5 ⟨rfl, hb5⟩
              have HB5 := Lib.hid (below_trans' HBW.out hb5)
              clear hb5 d0 d1 d2 d3 d4 d5 X
              by_cases hw : wrong es e
              · have HF := Lib.hid (val_saw hsm HTX.out HORD.out HM.out hw)
                rw [decide_eq_true hw]
                clear hw
                go_wp2_with fail
                go_ret
                exact ⟨ret_int HF.out.symm, HB5.out⟩
              · have HNO2 : Hid (∀ e ∈ es.take (k + 1), ¬ wrong es e) := Lib.hid fun g hg => by
                  rw [HT.out] at hg
                  rcases List.mem_append.1 hg with hg | hg
                  · exact HNO.out g hg
                  · rw [List.mem_singleton.1 hg]; exact hw
                rw [decide_eq_false hw]
                clear hw
                go_wp2_with fail
                go_roundw
                case rel => exact ⟨k + 1, by omega, by go_num, HNO2.out, HB5.out⟩
                case measure => simp [intOf]; omega
            · have HFIN := Lib.hid (show val es = 0 from val_zero.2 ⟨hsm, HTX.out, HORD.out, fun e he => HNO.out e (by rwa [List.take_of_length_le (by omega)])⟩)
              go_wp2_with fail
              go_ret
              exact ⟨ret_int HFIN.out.symm, HBW.out⟩
end Go.Proofs.YtpoodhhajghaoaaGreatDoor
