/- Walks: whether what an entry has seen is wrong, the reference's. -/
import Derived.Test.YtpoodhhajghaoaaGreatDoorC5
namespace Go.Proofs.YtpoodhhajghaoaaGreatDoor
open Go.RowKit Go.Sort

def lowUp (e f : Ent) (p : Nat) : Prop := ∀ q : Nat, q < p → ¬ (sawE e f = true ∧ e.sn q < f.sn q)
theorem sn_cell {w : World} {b : Nat} {e : Ent} (h : Box w b #[.int .i64 e.1, .int .i64 e.2.1, .int .i64 e.2.2.1.1, .int .i64 e.2.2.1.2.1, .int .i64 e.2.2.1.2.2, .string e.2.2.2]) {p : Nat} (hp : p < 3) : w.cell? ⟨b, 2 + p, none⟩ = some (.int .i64 (e.sn p)) := by
  rw [h.at (2 + p)]
  rcases (show p = 0 ∨ p = 1 ∨ p = 2 by omega) with rfl | rfl | rfl <;> rfl
/-- The cells of an element, in all worlds that have grown. -/
theorem eat_rg {w : World} {n k : Nat} {A : Option Addr} {es : List Ent} (h : Reads w w.heap.size 6 A n (ents es)) (hk : k < es.length) :
    ∃ ad e, A = some ad ∧ es[k]? = some e ∧ (∀ d os, (grow (redrawn w d) os).cell? (ad.add (k * 6)) = some (.int .i64 e.1)) ∧
    (∀ d os, (grow (redrawn w d) os).cell? ⟨(ad.add (k * 6)).block, (ad.add (k * 6)).off + 1, none⟩ = some (.int .i64 e.2.1)) ∧ (∀ d os, (grow (redrawn w d) os).cell? ⟨(ad.add (k * 6)).block, (ad.add (k * 6)).off + 2, none⟩ = some (.int .i64 e.2.2.1.1)) ∧
    (∀ d os, (grow (redrawn w d) os).cell? ⟨(ad.add (k * 6)).block, (ad.add (k * 6)).off + 3, none⟩ = some (.int .i64 e.2.2.1.2.1)) ∧ (∀ d os, (grow (redrawn w d) os).cell? ⟨(ad.add (k * 6)).block, (ad.add (k * 6)).off + 4, none⟩ = some (.int .i64 e.2.2.1.2.2)) ∧
    (∀ d os, (grow (redrawn w d) os).cell? ⟨(ad.add (k * 6)).block, (ad.add (k * 6)).off + 5, none⟩ = some (.string e.2.2.2)) := by
  obtain ⟨ad, e, e1, hb, he, d0, d1, d2, d3, d4, d5⟩ := eat h hk
  exact ⟨ad, e, e1, he, fun d os => rg_cell d0 d os, fun d os => rg_cell d1 d os, fun d os => rg_cell d2 d os, fun d os => rg_cell d3 d os, fun d os => rg_cell d4 d os, fun d os => rg_cell d5 d os⟩
theorem sn_elem {w : World} {B n k : Nat} {A : Option Addr} {es : List Ent} {e : Ent} {ad : Addr} (h : Reads w B 6 A n (ents es)) (hA : A = some ad) (he : es[k]? = some e) {p : Nat} (hp : p < 3) :
    w.cell? ⟨(ad.add (k * 6)).block, (ad.add (k * 6)).off + (2 + p), none⟩ = some (.int .i64 (e.sn p)) := by
  have hk : k < es.length := (List.getElem?_eq_some_iff.1 he).1
  obtain ⟨ad', e', e1, hb, he', d0, d1, d2, d3, d4, d5⟩ := eat h hk
  rw [hA] at e1
  obtain rfl := Option.some.inj e1
  rw [he] at he'
  obtain rfl := Option.some.inj he'
  rcases (show p = 0 ∨ p = 1 ∨ p = 2 by omega) with rfl | rfl | rfl
  · exact d2
  · exact d3
  · exact d4
theorem ix35e (ad : Addr) (p : Nat) (h : p < 3) (w : World) : (Instr.indexAt 36 (.pointer (some ⟨ad.block, ad.off + 2, none⟩)) (.int .i64 (p : Int))).run Tryz.prog w = .ok (.pointer (some ⟨ad.block, ad.off + (2 + p), none⟩)) w := by
  have := ix35 ad.block (ad.off + 2) p h w
  rwa [Nat.add_assoc] at this
set_option maxRecDepth 100000 in
set_option maxHeartbeats 4000000 in
theorem wrongly_any (A : Option Addr) (n c : Nat) (es : List Ent) (e : Ent) (w : World) (hl : Reads w w.heap.size 6 A n (ents es)) (hn : n ≤ 1000000) (hp : ∀ e ∈ es, 0 ≤ e.1 ∧ e.1 ≤ 2) (hs : 1 ≤ e.2.1 ∧ e.2.1 ≤ 1000000) :
    Calls Tryz.prog 37 #[.slice A n c, eval_ e] w fun r w' => r = .returned (.bool (decide (wrong es e))) ∧ Below w.heap.size w w' := by
  have hlen := hl.1
  rw [ents_length] at hlen
  have l1 : n ≤ es.length := by omega
  have l2 : es.length ≤ n := by omega
  obtain ⟨s0, s1⟩ := hs
  have HL := Lib.hid hl
  have HP := Lib.hid hp
  clear hl hlen hp
  go_enter Tryz.func37, Tryz.ntmps37
  dsimp only [eval_]
  go_wp2_with fail
  with_reducible refine (refClock_any A n c es _ (HL.out.on (belowA _ _)) hn HP.out).mono ?_
  rintro _ w2 ⟨rfl, hb2⟩
  have b1 := (Box.new w #[.int .i64 e.1, .int .i64 e.2.1, .int .i64 e.2.2.1.1, .int .i64 e.2.2.1.2.1, .int .i64 e.2.2.1.2.2, .string e.2.2.2] 38).below hb2
  have HW2 := Lib.hid (below1 _ hb2)
  clear hb2
  go_wp2_with fail
  refine gen_at (fun W => Box W w.heap.size #[.int .i64 e.1, .int .i64 e.2.1, .int .i64 e.2.2.1.1, .int .i64 e.2.2.1.2.1, .int .i64 e.2.2.1.2.2, .string e.2.2.2] ∧ Box W w2.heap.size #[.int .i64 (clk es 0 : Nat), .int .i64 (clk es 1 : Nat), .int .i64 (clk es 2 : Nat)] ∧ Below w.heap.size w W) ⟨b1.alloc _, Box.new _ _ 36, below_trans' HW2.out (belowA _ _)⟩ ?_
  rintro w3 ⟨bx0, bk0, hb3⟩
  have HW3 := Lib.hid hb3
  generalize w2.heap.size = bk at bk0 ⊢
  clear hb3 b1 HW2
  go_loopw [6] (fun i wr => ∃ p : Nat, p ≤ 3 ∧ i = .int .i64 p ∧ (∀ q, q < p → ¬ badP es e q) ∧ Box wr w.heap.size #[.int .i64 e.1, .int .i64 e.2.1, .int .i64 e.2.2.1.1, .int .i64 e.2.2.1.2.1, .int .i64 e.2.2.1.2.2, .string e.2.2.2] ∧ Box wr bk #[.int .i64 (clk es 0 : Nat), .int .i64 (clk es 1 : Nat), .int .i64 (clk es 2 : Nat)] ∧ Below w.heap.size w wr) (fun i _ => 3 - (intOf i).toNat)
  case atStart => exact ⟨0, by omega, rfl, fun q hq => by omega, bx0, bk0, HW3.out⟩
  case round =>
    clear bx0 bk0 HW3
    obtain ⟨p, hp, rfl, hnb, bx, bk1, hbw⟩ := hrel
    have HNB := Lib.hid hnb
    have HBW := Lib.hid hbw
    clear hnb hbw
    by_cases hp3 : p < 3
    · have Y := fun w' => ix35 w.heap.size 2 p hp3 w'
      have Z := fun w' => ix35z bk p hp3 w'
      have ck := clk_cell bk1 hp3
      have cs := sn_cell bx hp3
      have cx0 : wr.cell? ⟨w.heap.size, 0, none⟩ = some (.int .i64 e.1) := bx.at 0
      have cx1 : wr.cell? ⟨w.heap.size, 1, none⟩ = some (.int .i64 e.2.1) := bx.at 1
      by_cases hb : badP es e p
      · have HF : Hid (wrong es e) := Lib.hid (.inl ⟨p, hp3, hb⟩)
        have hc : ((p : Int) = e.1 ∧ e.sn p ≠ e.2.1 - 1) ∨ (¬ ((p : Int) = e.1 ∧ e.sn p ≠ e.2.1 - 1) ∧ (e.sn p < 0 ∨ (0 ≤ e.sn p ∧ (clk es p : Int) < e.sn p))) := by unfold badP at hb; omega
        clear hb
        generalize e.sn p = sn at hc cs
        generalize clk es p = cp at hc ck
        have HFIN : Hid (∀ W : World, Below w.heap.size w W → Ending.returned (.bool true) = .returned (.bool (decide (wrong es e))) ∧ Below w.heap.size w W) := Lib.hid fun W h => ⟨ret_bool (by rw [decide_eq_true HF.out]), h⟩
        rcases hc with ⟨h1, h2⟩ | ⟨h1, h2 | ⟨h2, h3⟩⟩
        · have g1 : ((p : Int) == e.1) = true := by simpa using h1
          have g2 : (sn != e.2.1 - 1) = true := by simpa using h2
          clear h1 h2
          go_wp2_with fail
          go_quiet (fail)
          go_wp2_with fail
          go_ret
          exact HFIN.out _ (below_drewN' HBW.out _)
        · by_cases hq : (p : Int) = e.1
          · have g1 : ((p : Int) == e.1) = true := by simpa using hq
            have g2 : (sn != e.2.1 - 1) = false := by simp; omega
            clear h1 hq
            go_wp2_with fail
            go_quiet (fail)
            go_wp2_with fail
            go_ret
            exact HFIN.out _ (below_drewN' HBW.out _)
          · have g1 : ((p : Int) == e.1) = false := by simpa using hq
            clear h1 hq
            go_wp2_with fail
            go_quiet (fail)
            go_wp2_with fail
            go_ret
            exact HFIN.out _ (below_drewN' HBW.out _)
        · by_cases hq : (p : Int) = e.1
          · have g1 : ((p : Int) == e.1) = true := by simpa using hq
            have g2 : (sn != e.2.1 - 1) = false := by simp; omega
            have g3 : decide (sn < 0) = false := by simp; omega
            clear h1 hq
            go_wp2_with fail
            go_quiet (fail)
            go_wp2_with fail
            go_ret
            exact HFIN.out _ (below_drewN' HBW.out _)
          · have g1 : ((p : Int) == e.1) = false := by simpa using hq
            have g3 : decide (sn < 0) = false := by simp; omega
            clear h1 hq
            go_wp2_with fail
            go_quiet (fail)
            go_wp2_with fail
            go_ret
            exact HFIN.out _ (below_drewN' HBW.out _)
      · have HNB2 : Hid (∀ q, q < p + 1 → ¬ badP es e q) := Lib.hid fun q hq => by
          rcases Nat.lt_or_ge q p with h | h
          · exact HNB.out q h
          · obtain rfl : q = p := by omega
            exact hb
        have hc : ((p : Int) = e.1 → e.sn p = e.2.1 - 1) ∧ 0 ≤ e.sn p ∧ e.sn p ≤ (clk es p : Int) := by unfold badP at hb; omega
        clear hb
        obtain ⟨h1, h2, h3⟩ := hc
        generalize e.sn p = sn at h1 h2 h3 cs
        generalize clk es p = cp at h3 ck
        by_cases hq : (p : Int) = e.1
        · have g1 : ((p : Int) == e.1) = true := by simpa using hq
          have g2 : (sn != e.2.1 - 1) = false := by simp; omega
          have g3 : decide (sn < 0) = false := by simp; omega
          have g4 : decide ((cp : Int) < sn) = false := by simp; omega
          clear h1 hq
          go_wp2_with fail
          go_quiet (fail)
          go_wp2_with fail
          clear cx0 cx1
          go_roundw
          case rel => exact ⟨p + 1, by omega, by go_num, HNB2.out, bx, bk1, below_drewN' HBW.out _⟩
          case measure => simp [intOf]; omega
        · have g1 : ((p : Int) == e.1) = false := by simpa using hq
          have g3 : decide (sn < 0) = false := by simp; omega
          have g4 : decide ((cp : Int) < sn) = false := by simp; omega
          clear h1 hq
          go_wp2_with fail
          go_quiet (fail)
          go_wp2_with fail
          clear cx0 cx1
          go_roundw
          case rel => exact ⟨p + 1, by omega, by go_num, HNB2.out, bx, bk1, below_drewN' HBW.out _⟩
          case measure => simp [intOf]; omega
    · have HNB3 : Hid (∀ q, q < 3 → ¬ badP es e q) := Lib.hid fun q hq => HNB.out q (by omega)
      clear HNB
      go_wp2_with fail
      go_loopw [7] (fun i wr => ∃ k : Nat, k ≤ n ∧ i = .int .i64 k ∧ (∀ f ∈ es.take k, ¬ (sawE e f = true ∧ lowE e f)) ∧ Box wr w.heap.size #[.int .i64 e.1, .int .i64 e.2.1, .int .i64 e.2.2.1.1, .int .i64 e.2.2.1.2.1, .int .i64 e.2.2.1.2.2, .string e.2.2.2] ∧ Below w.heap.size w wr) (fun i _ => n - (intOf i).toNat)
      case atStart => exact ⟨0, by omega, rfl, fun e he => by simp at he, bx, HBW.out⟩
      case round =>
        clear bx bk1 HBW
        obtain ⟨k, hk, rfl, hno, bx, hbw⟩ := hrel
        have HNO := Lib.hid hno
        have HBW := Lib.hid hbw
        clear hno hbw
        by_cases hlt : k < n
        · obtain ⟨f, hf⟩ : ∃ f, es[k]? = some f := ⟨_, List.getElem?_eq_getElem (by omega)⟩
          have HT := Lib.hid (take_succ_of hf)
          have HM := Lib.hid (List.mem_of_getElem? hf)
          have HF := Lib.hid hf
          obtain ⟨f0, f1⟩ := HP.out f HM.out
          clear hf
          go_wp2_with fail
          go_loopw [8] (fun i wr => ∃ p : Nat, p ≤ 3 ∧ i = .int .i64 p ∧ lowUp e f p ∧ Box wr w.heap.size #[.int .i64 e.1, .int .i64 e.2.1, .int .i64 e.2.2.1.1, .int .i64 e.2.2.1.2.1, .int .i64 e.2.2.1.2.2, .string e.2.2.2] ∧ Below w.heap.size w wr) (fun i _ => 3 - (intOf i).toNat)
          case atStart => exact ⟨0, by omega, rfl, fun q hq => by omega, bx, HBW.out⟩
          case round =>
            clear bx HBW
            obtain ⟨p, hp, rfl, hnb, bx, hbw⟩ := hrel
            have HNB := Lib.hid hnb
            have HBW := Lib.hid hbw
            clear hnb hbw
            by_cases hp3 : p < 3
            · obtain ⟨ad, f', e1, hf', d0, d1, d2, d3, d4, d5⟩ := eat_rg (HL.out.on HBW.out) (k := k) (by omega)
              have dp := rg_cell (sn_elem (HL.out.on HBW.out) e1 HF.out hp3)
              rw [HF.out] at hf'
              obtain rfl := Option.some.inj hf'
              have X := fun w => ix22 (c := c) e1 hlt w
              have Y := fun w' => ix35 w.heap.size 2 p hp3 w'
              have Z := fun w' => ix35e (ad.add (k * 6)) p hp3 w'
              have cp := rg_cell (sn_cell bx hp3)
              have cx0 := rg_cell (bx.at 0)
              have cx1 := rg_cell (bx.at 1)
              have cx2 := rg_cell (bx.at 2)
              have cx3 := rg_cell (bx.at 3)
              have cx4 := rg_cell (bx.at 4)
              have cx5 := rg_cell (bx.at 5)
              clear e1 hf'
              cases hs : sawE e f
              · have Q0 : Hid (∀ w4, Below wr.heap.size wr w4 → Calls Tryz.prog 55 #[eval_ e, eval_ f] w4 fun r w' => r = .returned (.bool false) ∧ Below w4.heap.size w4 w') := Lib.hid fun w4 _ => by have := seen_any e f w4 f0 f1; rwa [hs] at this
                have HS2 : Hid (lowUp e f (p + 1)) := Lib.hid fun q _ h => by rw [hs] at h; simp at h
                clear hs
                go_wp2_with fail
                refine wp_region_qb mixed (by kernel_rfl) ?_
                repeat (go_big_quiet_step (first | exact rg_call Q0.out _ _))
                refine wpQuiet_nil ?_
                intro w5 hb5
                have bx5 := bx.below hb5
                have HB5 := Lib.hid (below_trans' HBW.out hb5)
                clear hb5 cp dp d0 d1 d2 d3 d4 d5 cx0 cx1 cx2 cx3 cx4 cx5
                go_wp2_with fail
                go_roundw
                case rel => exact ⟨p + 1, by omega, by go_num, HS2.out, bx5, HB5.out⟩
                case measure => simp [intOf]; omega
              · have Q0 : Hid (∀ w4, Below wr.heap.size wr w4 → Calls Tryz.prog 55 #[eval_ e, eval_ f] w4 fun r w' => r = .returned (.bool true) ∧ Below w4.heap.size w4 w') := Lib.hid fun w4 _ => by have := seen_any e f w4 f0 f1; rwa [hs] at this
                have HSS := Lib.hid hs
                clear hs
                by_cases hq : e.sn p < f.sn p
                · have HW : Hid (decide (wrong es e) = true) := Lib.hid (by rw [decide_eq_true_eq]; exact .inr ⟨f, HM.out, HSS.out, p, hp3, hq⟩)
                  generalize e.sn p = sp at hq cp
                  generalize f.sn p = fp at hq dp
                  have g : decide (sp < fp) = true := by simpa using hq
                  go_wp2_with fail
                  refine wp_region_qb mixed (by kernel_rfl) ?_
                  repeat (go_big_quiet_step (first | exact rg_call Q0.out _ _))
                  refine wpQuiet_nil ?_
                  intro w5 hb5
                  have HB5 := Lib.hid (below_trans' HBW.out hb5)
                  clear hb5 cp dp d0 d1 d2 d3 d4 d5 cx0 cx1 cx2 cx3 cx4 cx5
                  go_wp2_with fail
                  go_ret
                  exact ⟨ret_bool HW.out.symm, HB5.out⟩
                · have HS2 : Hid (lowUp e f (p + 1)) := Lib.hid fun q hq' h => by
                    rcases Nat.lt_or_ge q p with h' | h'
                    · exact HNB.out q h' h
                    · obtain rfl : q = p := by omega
                      exact hq h.2
                  generalize e.sn p = sp at hq cp
                  generalize f.sn p = fp at hq dp
                  have g : decide (sp < fp) = false := by simpa using hq
                  go_wp2_with fail
                  refine wp_region_qb mixed (by kernel_rfl) ?_
                  repeat (go_big_quiet_step (first | exact rg_call Q0.out _ _))
                  refine wpQuiet_nil ?_
                  intro w5 hb5
                  have bx5 := bx.below hb5
                  have HB5 := Lib.hid (below_trans' HBW.out hb5)
                  clear hb5 cp dp d0 d1 d2 d3 d4 d5 cx0 cx1 cx2 cx3 cx4 cx5
                  go_wp2_with fail
                  go_roundw
                  case rel => exact ⟨p + 1, by omega, by go_num, HS2.out, bx5, HB5.out⟩
                  case measure => simp [intOf]; omega
            · have HNO2 : Hid (∀ g ∈ es.take (k + 1), ¬ (sawE e g = true ∧ lowE e g)) := Lib.hid fun g hg => by
                rw [HT.out] at hg
                rcases List.mem_append.1 hg with hg | hg
                · exact HNO.out g hg
                · rw [List.mem_singleton.1 hg]
                  rintro ⟨h1, q, hq, h2⟩
                  exact HNB.out q (by omega) ⟨h1, h2⟩
              go_wp2_with fail
              go_roundw
              case rel => exact ⟨k + 1, by omega, by go_num, HNO2.out, bx, HBW.out⟩
              case measure => simp [intOf]; omega
        · have HW : Hid (decide (wrong es e) = false) := Lib.hid (by
            rw [decide_eq_false_iff_not]
            rintro (⟨q, hq, hb⟩ | ⟨f, hf, h1, h2⟩)
            · exact HNB3.out q hq hb
            · exact HNO.out f (by rwa [List.take_of_length_le (by omega)]) ⟨h1, h2⟩)
          go_wp2_with fail
          go_ret
          exact ⟨ret_bool HW.out.symm, HBW.out⟩
end Go.Proofs.YtpoodhhajghaoaaGreatDoor
