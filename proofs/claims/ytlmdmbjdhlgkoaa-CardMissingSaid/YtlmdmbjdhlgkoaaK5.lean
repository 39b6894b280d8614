/- Walks: the card as it was at a clock, the program's. -/
import Derived.Test.YtlmdmbjdhlgkoaaK3
import Derived.Test.YtlmdmbjdhlgkoaaK4
namespace Go.Proofs.Ytlmdmbjdhlgkoaa
open Go.RowKit Go.Sort

theorem tr_idx (t : Int × Int × Int) {p : Nat} (h : p < 3) (w : World) : (Instr.index 35 (cval t) (.int .i64 (p : Int))).run Try.prog w = .ok (.int .i64 (tr t p)) w := by
  rcases (show p = 0 ∨ p = 1 ∨ p = 2 by omega) with rfl | rfl | rfl
  · exact (ix35v _ _ _).1 w
  · exact (ix35v _ _ _).2.1 w
  · exact (ix35v _ _ _).2.2 w
theorem not_lt_le (a b : Int) : (!decide (a < b)) = decide (b ≤ a) := by
  by_cases h : a < b
  · simp [h]
  · simp [h]; omega
set_option maxRecDepth 100000 in
set_option maxHeartbeats 4000000 in
theorem at_any (A : Option Addr) (n c : Nat) (es : List Ent) (t : Int × Int × Int) (w : World) (hl : Reads w w.heap.size 6 A n (ents es)) (hn : n ≤ 1000000) (ht : shortT es) :
    Calls Try.prog 39 #[.slice A n c, cval t] w (RetE (atL es (tr t)) (atE es (tr t)) w) := by
  have hlen := hl.1
  rw [ents_length] at hlen
  have l2 : es.length ≤ n := by omega
  have HL := Lib.hid hl
  have HS := Lib.hid ht
  clear hl ht hlen
  go_enter Try.func39, Try.ntmps39
  dsimp only [cval]
  go_wp2_with fail
  with_reducible refine (validate_any A n c es _ (HL.out.on (belowA _ _)) hn HS.out).mono ?_
  rintro _ w2 ⟨rfl, hb2⟩
  have b0 := (Box.new w #[.int .i64 t.1, .int .i64 t.2.1, .int .i64 t.2.2] 35).below hb2
  have HW2 := Lib.hid (below1 _ hb2)
  replace HL := Lib.hid ((HL.out.on (belowA _ _)).on hb2)
  clear hb2
  by_cases hv : val es = 0
  case neg =>
    have HV := Lib.hid (at_bad (t := tr t) hv)
    have g := neB hv
    clear hv
    go_wp2_with fail
    go_ret2
    rw [HV.out.1, HV.out.2]
    exact RetE.nil rfl HW2.out
  have HV := Lib.hid hv
  have g := neBf hv
  have HPL := Lib.hid (pl_of hv)
  have h60 : es.length ≤ 60 := (val_zero.1 hv).len
  clear hv
  go_wp2_with fail
  with_reducible refine (clock_any A n c es _ HL.out hn HPL.out).mono ?_
  rintro _ w3 ⟨rfl, hb3⟩
  replace HL := Lib.hid (HL.out.on hb3)
  replace b0 := b0.below hb3
  have HW3 := Lib.hid (below_trans' HW2.out hb3)
  clear hb3 HW2
  have c0 := fun o => (b0.alloc o).at
  go_wp2_with fail
  clear c0
  have b1 := Box.new w3 #[.int .i64 (clk es 0 : Nat), .int .i64 (clk es 1 : Nat), .int .i64 (clk es 2 : Nat)] 35
  have hb4 := belowA w3 (.cells #[.int .i64 (clk es 0 : Nat), .int .i64 (clk es 1 : Nat), .int .i64 (clk es 2 : Nat)] 35)
  generalize w3.alloc (.cells #[.int .i64 (clk es 0 : Nat), .int .i64 (clk es 1 : Nat), .int .i64 (clk es 2 : Nat)] 35) = w4 at b1 hb4 ⊢
  replace HL := Lib.hid (HL.out.on hb4)
  replace b0 := b0.below hb4
  have HW4 := Lib.hid (below_trans' HW3.out hb4)
  generalize w3.heap.size = bk at b1 ⊢
  clear hb4 HW3
  go_loopw [8, 9, 19] (fun _ _ i wr => ∃ q : Nat, q ≤ 3 ∧ i = .int .i64 q ∧ (∀ p : Nat, p < q → 0 ≤ tr t p ∧ tr t p ≤ clk es p) ∧ wr = w4) (fun _ _ i _ => 3 - (intOf i).toNat)
  case atStart => exact ⟨0, by omega, rfl, fun p hp => by omega, rfl⟩
  case round =>
    obtain ⟨q, hq, rfl, hno, rfl⟩ := hrel
    have HNO := Lib.hid hno
    clear hno
    by_cases hq3 : q < 3
    · have Y := fun w' => ix35o bk q hq3 w'
      have ck := clk_cell b1 hq3
      have ct := fun w' => tr_idx t hq3 w'
      obtain ⟨z, hz⟩ : ∃ z, tr t q = z := ⟨_, rfl⟩
      obtain ⟨x, hx⟩ : ∃ x, clk es (q : Int) = x := ⟨_, rfl⟩
      by_cases hin : 0 ≤ z ∧ z ≤ x
      · have HNO2 : Hid (∀ p : Nat, p < q + 1 → 0 ≤ tr t p ∧ tr t p ≤ clk es p) := Lib.hid fun p hp => by
          rcases Nat.lt_or_ge p q with h | h
          · exact HNO.out p h
          · obtain rfl : p = q := by omega
            rw [hz, hx]; exact hin
        rw [hz] at ct
        rw [hx] at ck
        have g1 : decide (z < 0) = false := by simp; omega
        have g2 : decide ((x : Int) < z) = false := by simp; omega
        clear hin hz hx
        go_wp2_with fail
        go_roundw
        case rel => exact ⟨q + 1, by omega, by go_num, HNO2.out, trivial⟩
        case measure => simp [intOf]; omega
      · have HK := Lib.hid (at_out (t := tr t) HV.out fun h => hin (by have := h q hq3; rwa [hz, hx] at this))
        rw [hz] at ct
        rw [hx] at ck
        have hc : z < 0 ∨ (¬ z < 0 ∧ (x : Int) < z) := by omega
        clear hin hz hx
        rcases hc with h1 | ⟨h1, h2⟩
        · have g1 : decide (z < 0) = true := by simpa using h1
          clear h1
          go_wp2_with fail
          go_ret2
          rw [HK.out.1, HK.out.2]
          exact RetE.nil rfl HW4.out
        · have g1 : decide (z < 0) = false := by simpa using h1
          have g2 : decide ((x : Int) < z) = true := by simpa using h2
          clear h1 h2
          go_wp2_with fail
          go_ret2
          rw [HK.out.1, HK.out.2]
          exact RetE.nil rfl HW4.out
    have HOK : Hid (okC es (tr t)) := Lib.hid fun p hp => HNO.out p (by omega)
    have B0 := Lib.hid b0
    have B0L := Lib.hid (Box.lt b0)
    clear HNO b0 b1
    go_wp2_with fail
    with_reducible refine (clone_any A n c es _ HL.out hn).mono ?_
    rintro _ w5 ⟨B5, d5, rfl, hr5, hb5⟩
    have HR5 := Lib.hid hr5
    have HB5 := Lib.hid hb5
    clear hr5 hb5
    go_wp2_with fail
    with_reducible refine (deleteFunc60_any _ ⟨w.heap.size, 0, none⟩ (fun e => decide (tr t e.1.toNat < e.2.1)) (fun W => Box W w.heap.size #[.int .i64 t.1, .int .i64 t.2.1, .int .i64 t.2.2]) B5 n d5 es _ HR5.out hn HB5.out.size (B0.out.below HB5.out) (fun w1 w2 h1 hb => h1.belowB B0L.out hb) fun e he w1 h1 => at1_any w.heap.size t e w1 h1 (HPL.out e he).1 (HPL.out e he).2).mono ?_
    rintro _ w6 ⟨rfl, hr6, hb6⟩
    have HAT : Hid ((es.filter fun e => !decide (tr t e.1.toNat < e.2.1)) = atC es (tr t)) := Lib.hid (by
      unfold atC
      exact List.filter_congr fun e _ => not_lt_le _ _)
    rw [HAT.out] at hr6 ⊢
    have hal : (atC es (tr t)).length ≤ es.length := List.length_filter_le _ _
    have has : shortT (atC es (tr t)) := fun e he => HS.out e (List.mem_filter.1 he).1
    obtain ⟨l, hll⟩ : ∃ l, atC es (tr t) = l := ⟨_, rfl⟩
    have HLL := Lib.hid hll
    rw [hll] at hal has hr6 ⊢
    have HR6 := Lib.hid hr6
    have HAS := Lib.hid has
    have HW6 := Lib.hid (below_trans' HW4.out (HB5.out.trans hb6))
    have HW4S := Lib.hid HW4.out.size
    have hl6 : l.length ≤ 1000000 := by omega
    clear hr6 hb6 HR5 HB5 HAT has hll B0 B0L HW4
    go_wp2_with fail
    with_reducible refine (validate_any B5 l.length d5 l _ (Reads.of_own HR6.out) hl6 HAS.out).mono ?_
    rintro _ w7 ⟨rfl, hb7⟩
    have HR7 := Lib.hid (row_on HR6.out hb7)
    have HW7 := Lib.hid (below_trans' HW6.out hb7)
    clear hb7 HR6 HW6
    by_cases hv : val l = 0
    · have HK := Lib.hid (at_ok HV.out HOK.out (by rw [HLL.out]; exact hv))
      have g3 := neBf hv
      clear hv
      go_wp2_with fail
      go_ret2
      rw [HK.out.1, HK.out.2, HLL.out]
      exact ⟨B5, d5, rfl, row_mono HR7.out HW4S.out, HW7.out⟩
    · have HK := Lib.hid (at_no HV.out HOK.out (by rw [HLL.out]; exact hv))
      have g3 := neB hv
      clear hv
      go_wp2_with fail
      go_ret2
      rw [HK.out.1, HK.out.2]
      exact RetE.nil rfl HW7.out
end Go.Proofs.Ytlmdmbjdhlgkoaa
