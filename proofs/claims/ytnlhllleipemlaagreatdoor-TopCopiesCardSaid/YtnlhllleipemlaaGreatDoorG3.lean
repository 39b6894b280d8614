/- Merged texts: C6 C7 Eq C8 C9 C10 Ht Hu -/
import Derived.Test.YtnlhllleipemlaaGreatDoorG2
import Derived.ChangeKeysEq
import Derived.StillTail
import Derived.OrdersHeld
import Derived.Deep.RegionHeld3
namespace Go.Proofs.YtnlhllleipemlaaGreatDoor
open Go.RowKit Go.Sort

def lowUp (e f : Ent) (p : Nat) : Prop := ∀ q : Nat, q < p → ¬ (sawE e f = true ∧ e.sn q < f.sn q)
theorem sn_cell {w : World} {b : Nat} {e : Ent} (h : Box w b #[.int .i64 e.1, .int .i64 e.2.1, .int .i64 e.2.2.1.1, .int .i64 e.2.2.1.2.1, .int .i64 e.2.2.1.2.2, .string e.2.2.2]) {p : Nat} (hp : p < 3) : w.cell? ⟨b, 2 + p, none⟩ = some (.int .i64 (e.sn p)) := by
  rw [h.at (2 + p)]
  rcases (show p = 0 ∨ p = 1 ∨ p = 2 by omega) with rfl | rfl | rfl <;> rfl
/-- The cells of an element, in all worlds that have grown. -/
theorem eat_rg {w : World} {n k : Nat} {A : Option Addr} {es : List Ent} (h : Reads w w.heap.size 6 A n (ents es)) (hk : k < es.length) :
    ∃ ad e, A = some ad ∧ es[k]? = some e ∧ (∀ d os, (grow (redrawn w d) os).cell? (ad.add (k * 6)) = some (.int .i64 e.1)) ∧
    (∀ d os, (grow (redrawn w d) os).cell? ⟨(ad.add (k * 6)).block, (ad.add (k * 6)).off + 1, none⟩ = some (.int .i64 e.2.1)) ∧ (∀ d os, (grow (redrawn w d) os).cell? ⟨(ad.add (k * 6)).block, (ad.add (k * 6)).off + 2, none⟩ = some (.int .i64 e.2.2.1.1)) ∧
    (∀ d os, (grow (redrawn w d) os).cell? ⟨(ad.add (k * 6)).block, (ad.add (k * 6)).off + 3, none⟩ = some (.int .i64 e.2.2.1.2.1)) ∧ (∀ d os, (grow (redrawn w d) os).cell? ⟨(ad.add (k * 6)).block, (ad.add (k * 6)).off + 4, none⟩ = some (.int .i64 e.2.2.1.2.2)) ∧
    (∀ d os, (grow (redrawn w d) os).cell? ⟨(ad.add (k * 6)).block, (ad.add (k * 6)).off + 5, none⟩ = some (.string e.2.2.2)) := by
  obtain ⟨ad, e, e1, hb, he, d0, d1, d2, d3, d4, d5⟩ := eat h hk
  exact ⟨ad, e, e1, he, fun d os => rg_cell d0 d os, fun d os => rg_cell d1 d os, fun d os => rg_cell d2 d os, fun d os => rg_cell d3 d os, fun d os => rg_cell d4 d os, fun d os => rg_cell d5 d os⟩
theorem sn_elem {w : World} {B n k : Nat} {A : Option Addr} {es : List Ent} {e : Ent} {ad : Addr} (h : Reads w B 6 A n (ents es)) (hA : A = some ad) (he : es[k]? = some e) {p : Nat} (hp : p < 3) :
    w.cell? ⟨(ad.add (k * 6)).block, (ad.add (k * 6)).off + (2 + p), none⟩ = some (.int .i64 (e.sn p)) := by
  have hk : k < es.length := (List.getElem?_eq_some_iff.1 he).1
  obtain ⟨ad', e', e1, hb, he', d0, d1, d2, d3, d4, d5⟩ := eat h hk
  rw [hA] at e1
  obtain rfl := Option.some.inj e1
  rw [he] at he'
  obtain rfl := Option.some.inj he'
  rcases (show p = 0 ∨ p = 1 ∨ p = 2 by omega) with rfl | rfl | rfl
  · exact d2
  · exact d3
  · exact d4
theorem ix35e (ad : Addr) (p : Nat) (h : p < 3) (w : World) : (Instr.indexAt 46 (.pointer (some ⟨ad.block, ad.off + 2, none⟩)) (.int .i64 (p : Int))).run Tryz.prog w = .ok (.pointer (some ⟨ad.block, ad.off + (2 + p), none⟩)) w := by
  have := ix35 ad.block (ad.off + 2) p h w
  rwa [Nat.add_assoc] at this
set_option maxRecDepth 100000 in
set_option maxHeartbeats 4000000 in
theorem wrongly_any (A : Option Addr) (n c : Nat) (es : List Ent) (e : Ent) (w : World) (hl : Reads w w.heap.size 6 A n (ents es)) (hn : n ≤ 1000000) (hp : ∀ e ∈ es, 0 ≤ e.1 ∧ e.1 ≤ 2) (hs : 1 ≤ e.2.1 ∧ e.2.1 ≤ 1000000) :
    Calls Tryz.prog 57 #[.slice A n c, eval_ e] w fun r w' => r = .returned (.bool (decide (wrong es e))) ∧ Below w.heap.size w w' := by
  have hlen := hl.1
  rw [ents_length] at hlen
  have l1 : n ≤ es.length := by omega
  have l2 : es.length ≤ n := by omega
  obtain ⟨s0, s1⟩ := hs
  have HL := Lib.hid hl
  have HP := Lib.hid hp
  clear hl hlen hp
  go_enter Tryz.func57, Tryz.ntmps57
  dsimp only [eval_]
  go_wp2_with fail
  with_reducible refine (refClock_any A n c es _ (HL.out.on (belowA _ _)) hn HP.out).mono ?_
  rintro _ w2 ⟨rfl, hb2⟩
  have b1 := (Box.new w #[.int .i64 e.1, .int .i64 e.2.1, .int .i64 e.2.2.1.1, .int .i64 e.2.2.1.2.1, .int .i64 e.2.2.1.2.2, .string e.2.2.2] 48).below hb2
  have HW2 := Lib.hid (below1 _ hb2)
  clear hb2
  go_wp2_with fail
  refine gen_at (fun W => Box W w.heap.size #[.int .i64 e.1, .int .i64 e.2.1, .int .i64 e.2.2.1.1, .int .i64 e.2.2.1.2.1, .int .i64 e.2.2.1.2.2, .string e.2.2.2] ∧ Box W w2.heap.size #[.int .i64 (clk es 0 : Nat), .int .i64 (clk es 1 : Nat), .int .i64 (clk es 2 : Nat)] ∧ Below w.heap.size w W) ⟨b1.alloc _, Box.new _ _ 46, below_trans' HW2.out (belowA _ _)⟩ ?_
  rintro w3 ⟨bx0, bk0, hb3⟩
  have HW3 := Lib.hid hb3
  generalize w2.heap.size = bk at bk0 ⊢
  clear hb3 b1 HW2
  go_loopw [6] (fun i wr => ∃ p : Nat, p ≤ 3 ∧ i = .int .i64 p ∧ (∀ q, q < p → ¬ badP es e q) ∧ Box wr w.heap.size #[.int .i64 e.1, .int .i64 e.2.1, .int .i64 e.2.2.1.1, .int .i64 e.2.2.1.2.1, .int .i64 e.2.2.1.2.2, .string e.2.2.2] ∧ Box wr bk #[.int .i64 (clk es 0 : Nat), .int .i64 (clk es 1 : Nat), .int .i64 (clk es 2 : Nat)] ∧ Below w.heap.size w wr) (fun i _ => 3 - (intOf i).toNat)
  case atStart => exact ⟨0, by omega, rfl, fun q hq => by omega, bx0, bk0, HW3.out⟩
  case round =>
    clear bx0 bk0 HW3
    obtain ⟨p, hp, rfl, hnb, bx, bk1, hbw⟩ := hrel
    have HNB := Lib.hid hnb
    have HBW := Lib.hid hbw
    clear hnb hbw
    by_cases hp3 : p < 3
    · have Y := fun w' => ix35 w.heap.size 2 p hp3 w'
      have Z := fun w' => ix35z bk p hp3 w'
      have ck := clk_cell bk1 hp3
      have cs := sn_cell bx hp3
      have cx0 : wr.cell? ⟨w.heap.size, 0, none⟩ = some (.int .i64 e.1) := bx.at 0
      have cx1 : wr.cell? ⟨w.heap.size, 1, none⟩ = some (.int .i64 e.2.1) := bx.at 1
      by_cases hb : badP es e p
      · have HF : Hid (wrong es e) := Lib.hid (.inl ⟨p, hp3, hb⟩)
        have hc : ((p : Int) = e.1 ∧ e.sn p ≠ e.2.1 - 1) ∨ (¬ ((p : Int) = e.1 ∧ e.sn p ≠ e.2.1 - 1) ∧ (e.sn p < 0 ∨ (0 ≤ e.sn p ∧ (clk es p : Int) < e.sn p))) := by unfold badP at hb; omega
        clear hb
        generalize e.sn p = sn at hc cs
        generalize clk es p = cp at hc ck
        have HFIN : Hid (∀ W : World, Below w.heap.size w W → Ending.returned (.bool true) = .returned (.bool (decide (wrong es e))) ∧ Below w.heap.size w W) := Lib.hid fun W h => ⟨ret_bool (by rw [decide_eq_true HF.out]), h⟩
        rcases hc with ⟨h1, h2⟩ | ⟨h1, h2 | ⟨h2, h3⟩⟩
        · have g1 : ((p : Int) == e.1) = true := by simpa using h1
          have g2 : (sn != e.2.1 - 1) = true := by simpa using h2
          clear h1 h2
          go_wp2_with fail
          go_quiet (fail)
          go_wp2_with fail
          go_ret
          exact HFIN.out _ (below_drewN' HBW.out _)
        · by_cases hq : (p : Int) = e.1
          · have g1 : ((p : Int) == e.1) = true := by simpa using hq
            have g2 : (sn != e.2.1 - 1) = false := by simp; omega
            clear h1 hq
            go_wp2_with fail
            go_quiet (fail)
            go_wp2_with fail
            go_ret
            exact HFIN.out _ (below_drewN' HBW.out _)
          · have g1 : ((p : Int) == e.1) = false := by simpa using hq
            clear h1 hq
            go_wp2_with fail
            go_quiet (fail)
            go_wp2_with fail
            go_ret
            exact HFIN.out _ (below_drewN' HBW.out _)
        · by_cases hq : (p : Int) = e.1
          · have g1 : ((p : Int) == e.1) = true := by simpa using hq
            have g2 : (sn != e.2.1 - 1) = false := by simp; omega
            have g3 : decide (sn < 0) = false := by simp; omega
            clear h1 hq
            go_wp2_with fail
            go_quiet (fail)
            go_wp2_with fail
            go_ret
            exact HFIN.out _ (below_drewN' HBW.out _)
          · have g1 : ((p : Int) == e.1) = false := by simpa using hq
            have g3 : decide (sn < 0) = false := by simp; omega
            clear h1 hq
            go_wp2_with fail
            go_quiet (fail)
            go_wp2_with fail
            go_ret
            exact HFIN.out _ (below_drewN' HBW.out _)
      · have HNB2 : Hid (∀ q, q < p + 1 → ¬ badP es e q) := Lib.hid fun q hq => by
          rcases Nat.lt_or_ge q p with h | h
          · exact HNB.out q h
          · obtain rfl : q = p := by omega
            exact hb
        have hc : ((p : Int) = e.1 → e.sn p = e.2.1 - 1) ∧ 0 ≤ e.sn p ∧ e.sn p ≤ (clk es p : Int) := by unfold badP at hb; omega
        clear hb
        obtain ⟨h1, h2, h3⟩ := hc
        generalize e.sn p = sn at h1 h2 h3 cs
        generalize clk es p = cp at h3 ck
        by_cases hq : (p : Int) = e.1
        · have g1 : ((p : Int) == e.1) = true := by simpa using hq
          have g2 : (sn != e.2.1 - 1) = false := by simp; omega
          have g3 : decide (sn < 0) = false := by simp; omega
          have g4 : decide ((cp : Int) < sn) = false := by simp; omega
          clear h1 hq
          go_wp2_with fail
          go_quiet (fail)
          go_wp2_with fail
          clear cx0 cx1
          go_roundw
          case rel => exact ⟨p + 1, by omega, by go_num, HNB2.out, bx, bk1, below_drewN' HBW.out _⟩
          case measure => simp [intOf]; omega
        · have g1 : ((p : Int) == e.1) = false := by simpa using hq
          have g3 : decide (sn < 0) = false := by simp; omega
          have g4 : decide ((cp : Int) < sn) = false := by simp; omega
          clear h1 hq
          go_wp2_with fail
          go_quiet (fail)
          go_wp2_with fail
          clear cx0 cx1
          go_roundw
          case rel => exact ⟨p + 1, by omega, by go_num, HNB2.out, bx, bk1, below_drewN' HBW.out _⟩
          case measure => simp [intOf]; omega
    · have HNB3 : Hid (∀ q, q < 3 → ¬ badP es e q) := Lib.hid fun q hq => HNB.out q (by omega)
      clear HNB
      go_wp2_with fail
      go_loopw [7] (fun i wr => ∃ k : Nat, k ≤ n ∧ i = .int .i64 k ∧ (∀ f ∈ es.take k, ¬ (sawE e f = true ∧ lowE e f)) ∧ Box wr w.heap.size #[.int .i64 e.1, .int .i64 e.2.1, .int .i64 e.2.2.1.1, .int .i64 e.2.2.1.2.1, .int .i64 e.2.2.1.2.2, .string e.2.2.2] ∧ Below w.heap.size w wr) (fun i _ => n - (intOf i).toNat)
      case atStart => exact ⟨0, by omega, rfl, fun e he => by simp at he, bx, HBW.out⟩
      case round =>
        clear bx bk1 HBW
        obtain ⟨k, hk, rfl, hno, bx, hbw⟩ := hrel
        have HNO := Lib.hid hno
        have HBW := Lib.hid hbw
        clear hno hbw
        by_cases hlt : k < n
        · obtain ⟨f, hf⟩ : ∃ f, es[k]? = some f := ⟨_, List.getElem?_eq_getElem (by omega)⟩
          have HT := Lib.hid (take_succ_of hf)
          have HM := Lib.hid (List.mem_of_getElem? hf)
          have HF := Lib.hid hf
          obtain ⟨f0, f1⟩ := HP.out f HM.out
          clear hf
          go_wp2_with fail
          go_loopw [8] (fun i wr => ∃ p : Nat, p ≤ 3 ∧ i = .int .i64 p ∧ lowUp e f p ∧ Box wr w.heap.size #[.int .i64 e.1, .int .i64 e.2.1, .int .i64 e.2.2.1.1, .int .i64 e.2.2.1.2.1, .int .i64 e.2.2.1.2.2, .string e.2.2.2] ∧ Below w.heap.size w wr) (fun i _ => 3 - (intOf i).toNat)
          case atStart => exact ⟨0, by omega, rfl, fun q hq => by omega, bx, HBW.out⟩
          case round =>
            clear bx HBW
            obtain ⟨p, hp, rfl, hnb, bx, hbw⟩ := hrel
            have HNB := Lib.hid hnb
            have HBW := Lib.hid hbw
            clear hnb hbw
            by_cases hp3 : p < 3
            · obtain ⟨ad, f', e1, hf', d0, d1, d2, d3, d4, d5⟩ := eat_rg (HL.out.on HBW.out) (k := k) (by omega)
              have dp := rg_cell (sn_elem (HL.out.on HBW.out) e1 HF.out hp3)
              rw [HF.out] at hf'
              obtain rfl := Option.some.inj hf'
              have X := fun w => ix22 (c := c) e1 hlt w
              have Y := fun w' => ix35 w.heap.size 2 p hp3 w'
              have Z := fun w' => ix35e (ad.add (k * 6)) p hp3 w'
              have cp := rg_cell (sn_cell bx hp3)
              have cx0 := rg_cell (bx.at 0)
              have cx1 := rg_cell (bx.at 1)
              have cx2 := rg_cell (bx.at 2)
              have cx3 := rg_cell (bx.at 3)
              have cx4 := rg_cell (bx.at 4)
              have cx5 := rg_cell (bx.at 5)
              clear e1 hf'
              cases hs : sawE e f
              · have Q0 : Hid (∀ w4, Below wr.heap.size wr w4 → Calls Tryz.prog 87 #[eval_ e, eval_ f] w4 fun r w' => r = .returned (.bool false) ∧ Below w4.heap.size w4 w') := Lib.hid fun w4 _ => by have := seen_any e f w4 f0 f1; rwa [hs] at this
                have HS2 : Hid (lowUp e f (p + 1)) := Lib.hid fun q _ h => by rw [hs] at h; simp at h
                clear hs
                go_wp2_with fail
                refine wp_region_qb mixed (by kernel_rfl) ?_
                repeat (go_big_quiet_step (first | exact rg_call Q0.out _ _))
                refine wpQuiet_nil ?_
                intro w5 hb5
                have bx5 := bx.below hb5
                have HB5 := Lib.hid (below_trans' HBW.out hb5)
                clear hb5 cp dp d0 d1 d2 d3 d4 d5 cx0 cx1 cx2 cx3 cx4 cx5
                go_wp2_with fail
                go_roundw
                case rel => exact ⟨p + 1, by omega, by go_num, HS2.out, bx5, HB5.out⟩
                case measure => simp [intOf]; omega
              · have Q0 : Hid (∀ w4, Below wr.heap.size wr w4 → Calls Tryz.prog 87 #[eval_ e, eval_ f] w4 fun r w' => r = .returned (.bool true) ∧ Below w4.heap.size w4 w') := Lib.hid fun w4 _ => by have := seen_any e f w4 f0 f1; rwa [hs] at this
                have HSS := Lib.hid hs
                clear hs
                by_cases hq : e.sn p < f.sn p
                · have HW : Hid (decide (wrong es e) = true) := Lib.hid (by rw [decide_eq_true_eq]; exact .inr ⟨f, HM.out, HSS.out, p, hp3, hq⟩)
                  generalize e.sn p = sp at hq cp
                  generalize f.sn p = fp at hq dp
                  have g : decide (sp < fp) = true := by simpa using hq
                  go_wp2_with fail
                  refine wp_region_qb mixed (by kernel_rfl) ?_
                  repeat (go_big_quiet_step (first | exact rg_call Q0.out _ _))
                  refine wpQuiet_nil ?_
                  intro w5 hb5
                  have HB5 := Lib.hid (below_trans' HBW.out hb5)
                  clear hb5 cp dp d0 d1 d2 d3 d4 d5 cx0 cx1 cx2 cx3 cx4 cx5
                  go_wp2_with fail
                  go_ret
                  exact ⟨ret_bool HW.out.symm, HB5.out⟩
                · have HS2 : Hid (lowUp e f (p + 1)) := Lib.hid fun q hq' h => by
                    rcases Nat.lt_or_ge q p with h' | h'
                    · exact HNB.out q h' h
                    · obtain rfl : q = p := by omega
                      exact hq h.2
                  generalize e.sn p = sp at hq cp
                  generalize f.sn p = fp at hq dp
                  have g : decide (sp < fp) = false := by simpa using hq
                  go_wp2_with fail
                  refine wp_region_qb mixed (by kernel_rfl) ?_
                  repeat (go_big_quiet_step (first | exact rg_call Q0.out _ _))
                  refine wpQuiet_nil ?_
                  intro w5 hb5
                  have bx5 := bx.below hb5
                  have HB5 := Lib.hid (below_trans' HBW.out hb5)
                  clear hb5 cp dp d0 d1 d2 d3 d4 d5 cx0 cx1 cx2 cx3 cx4 cx5
                  go_wp2_with fail
                  go_roundw
                  case rel => exact ⟨p + 1, by omega, by go_num, HS2.out, bx5, HB5.out⟩
                  case measure => simp [intOf]; omega
            · have HNO2 : Hid (∀ g ∈ es.take (k + 1), ¬ (sawE e g = true ∧ lowE e g)) := Lib.hid fun g hg => by
                rw [HT.out] at hg
                rcases List.mem_append.1 hg with hg | hg
                · exact HNO.out g hg
                · rw [List.mem_singleton.1 hg]
                  rintro ⟨h1, q, hq, h2⟩
                  exact HNB.out q (by omega) ⟨h1, h2⟩
              go_wp2_with fail
              go_roundw
              case rel => exact ⟨k + 1, by omega, by go_num, HNO2.out, bx, HBW.out⟩
              case measure => simp [intOf]; omega
        · have HW : Hid (decide (wrong es e) = false) := Lib.hid (by
            rw [decide_eq_false_iff_not]
            rintro (⟨q, hq, hb⟩ | ⟨f, hf, h1, h2⟩)
            · exact HNB3.out q hq hb
            · exact HNO.out f (by rwa [List.take_of_length_le (by omega)]) ⟨h1, h2⟩)
          go_wp2_with fail
          go_ret
          exact ⟨ret_bool HW.out.symm, HBW.out⟩
end Go.Proofs.YtnlhllleipemlaaGreatDoor

namespace Go.Proofs.YtnlhllleipemlaaGreatDoor
open Go.RowKit Go.Sort

theorem ents_take (es : List Ent) (k : Nat) : (ents es).take (k * 6) = ents (es.take k) := by
  induction es generalizing k with
  | nil => simp [ents]
  | cons e l ih =>
    cases k with
    | zero => simp [ents]
    | succ k =>
      show (ecells e ++ ents l).take ((k + 1) * 6) = ecells e ++ ents (l.take k)
      rw [List.take_append, ← ih k]
      have : (ecells e).length = 6 := rfl
      rw [List.take_of_length_le (by omega), this, show (k + 1) * 6 - 6 = k * 6 by omega]
theorem Reads.ents_take {w : World} {B n k : Nat} {A : Option Addr} {es : List Ent} (h : Reads w B 6 A n (ents es)) (hk : k ≤ n) : Reads w B 6 A k (ents (es.take k)) := by
  have := h.take hk
  rwa [Go.Proofs.YtnlhllleipemlaaGreatDoor.ents_take] at this
theorem clk_idx (l : List Ent) {p : Int} (h0 : 0 ≤ p) (h2 : p ≤ 2) (w : World) : (Instr.index 46 (.agg #[.int .i64 (clk l 0 : Nat), .int .i64 (clk l 1 : Nat), .int .i64 (clk l 2 : Nat)]) (.int .i64 p)).run Tryz.prog w = .ok (.int .i64 (clk l p : Nat)) w := by
  rcases (show p = 0 ∨ p = 1 ∨ p = 2 by omega) with rfl | rfl | rfl
  · exact (ix35v _ _ _).1 w
  · exact (ix35v _ _ _).2.1 w
  · exact (ix35v _ _ _).2.2 w
theorem ix22m {A : Option Addr} {ad : Addr} {n c k : Nat} (h : A = some ad) (hk : k < n) (h0 : 0 < k) (w : World) : (Instr.indexAt 23 (.slice A n c) (.int .i64 ((k : Int) - 1))).run Tryz.prog w = .ok (.pointer (some (ad.add ((k - 1) * 6)))) w := by
  have := ix22 (n := n) (c := c) (k := k - 1) h (by omega) w
  rwa [show ((k - 1 : Nat) : Int) = (k : Int) - 1 by omega] at this
set_option maxRecDepth 100000 in
set_option maxHeartbeats 4000000 in
theorem refValidate_any (A : Option Addr) (n c : Nat) (es : List Ent) (w : World) (hl : Reads w w.heap.size 6 A n (ents es)) (hn : n ≤ 1000000) (hnc : n ≤ c) (ht : shortT es) :
    Calls Tryz.prog 30 #[.slice A n c] w fun r w' => r = .returned (.int .i64 (val es)) ∧ Below w.heap.size w w' := by
  have hlen := hl.1
  rw [ents_length] at hlen
  have l1 : n ≤ es.length := by omega
  have l2 : es.length ≤ n := by omega
  have HL := Lib.hid hl
  have HS := Lib.hid ht
  clear hl hlen ht
  go_enter Tryz.func30, Tryz.ntmps30
  by_cases hbig : 60 < n
  · have HF := Lib.hid (val_large (show 60 < es.length by omega))
    go_wp2_with fail
    go_ret
    exact ⟨ret_int HF.out.symm, Below.refl _ _⟩
  have hsm : es.length ≤ 60 := by omega
  go_wp2_with fail
  go_loopw [3] (fun i wr => ∃ k : Nat, k ≤ n ∧ i = .int .i64 k ∧ (∀ e ∈ es.take k, okT e) ∧ Below w.heap.size w wr) (fun i _ => n - (intOf i).toNat)
  case atStart => exact ⟨0, by omega, rfl, fun e he => by simp at he, Below.refl _ _⟩
  case round =>
    obtain ⟨k, hk, rfl, hok, hbw⟩ := hrel
    have HB := Lib.hid hbw
    have HK := Lib.hid hok
    clear hok
    by_cases hlt : k < n
    · obtain ⟨ad, e, e1, hbk, he, d0, d1, d2, d3, d4, d5⟩ := eat (HL.out.below hbw) (k := k) (by omega)
      have X := fun w => ix22 (c := c) e1 hlt w
      have HT := Lib.hid (take_succ_of he)
      have HM := Lib.hid (List.mem_of_getElem? he)
      have htx : e.2.2.2.size ≤ 1000000 := by have := HS.out e HM.out; omega
      clear hbw he e1
      by_cases hko : okT e
      · have HO := Lib.hid hko
        obtain ⟨p0, p1, p2⟩ := hko
        have H2 := Lib.hid p2
        clear p2
        go_wp2_with fail
        with_reducible refine (refRight_any e.2.2.2 _ htx).mono ?_
        rintro _ w1 ⟨rfl, hb1⟩
        have HB1 := Lib.hid (below_trans' HB.out hb1)
        rw [H2.out]
        clear hb1 d0 d1 d2 d3 d4 d5 X
        go_wp2_with fail
        go_roundw
        case rel =>
          refine ⟨k + 1, by omega, by go_num, fun f hf => ?_, HB1.out⟩
          rw [HT.out] at hf
          rcases List.mem_append.1 hf with hf | hf
          · exact HK.out f hf
          · rw [List.mem_singleton.1 hf]; exact HO.out
        case measure => simp [intOf]; omega
      · have HF := Lib.hid (val_txt hsm HM.out hko)
        have hc : e.1 < 0 ∨ (0 ≤ e.1 ∧ (2 < e.1 ∨ (e.1 ≤ 2 ∧ right e.2.2.2 = false))) := by
          rcases Int.lt_or_le e.1 0 with h1 | h1
          · exact .inl h1
          rcases Int.lt_or_le 2 e.1 with h2 | h2
          · exact .inr ⟨h1, .inl h2⟩
          refine .inr ⟨h1, .inr ⟨h2, ?_⟩⟩
          cases hr : right e.2.2.2
          · rfl
          · exact (hko ⟨h1, h2, hr⟩).elim
        clear hko
        rcases hc with h1 | ⟨h1, h2 | ⟨h2, h3⟩⟩
        · go_wp2_with fail
          go_ret
          exact ⟨ret_int HF.out.symm, HB.out⟩
        · go_wp2_with fail
          go_ret
          exact ⟨ret_int HF.out.symm, HB.out⟩
        · have H3 := Lib.hid h3
          clear h3
          go_wp2_with fail
          with_reducible refine (refRight_any e.2.2.2 _ htx).mono ?_
          rintro _ w1 ⟨rfl, hb1⟩
          have HB1 := Lib.hid (below_trans' HB.out hb1)
          rw [H3.out]
          clear hb1 d0 d1 d2 d3 d4 d5 X
          go_wp2_with fail
          go_ret
          exact ⟨ret_int HF.out.symm, HB1.out⟩
    · have HTX := Lib.hid (show ∀ e ∈ es, okT e by have := HK.out; rwa [List.take_of_length_le (by omega)] at this)
      have HPL : Hid (∀ e ∈ es, 0 ≤ e.1 ∧ e.1 ≤ 2) := Lib.hid fun e he => by obtain ⟨q0, q1, _⟩ := HTX.out e he; exact ⟨q0, q1⟩
      clear HK hbw
      refine gen_at (fun w1 => Below w.heap.size w w1) HB.out ?_
      clear HB
      rintro w1 hw1
      have HB := Lib.hid hw1
      clear hw1
      go_wp2_with fail
      go_loopw [4] (fun i wr => ∃ k : Nat, k ≤ n ∧ i = .int .i64 k ∧ Ord (es.take k) ∧ Below w.heap.size w wr) (fun i _ => n - (intOf i).toNat)
      case atStart => exact ⟨0, by omega, rfl, by simpa using Ord_nil, HB.out⟩
      case round =>
        clear HB
        obtain ⟨k, hk, rfl, hord, hbw⟩ := hrel
        have HBW := Lib.hid hbw
        have HO := Lib.hid hord
        clear hbw hord
        by_cases hlt : k < n
        · obtain ⟨ad, e, e1, he, d0, d1, d2, d3, d4, d5⟩ := eat_rg (HL.out.on HBW.out) (k := k) (by omega)
          have X := fun w => ix22 (c := c) e1 hlt w
          have HT := Lib.hid (take_succ_of he)
          have HM := Lib.hid (List.mem_of_getElem? he)
          obtain ⟨p0, p1⟩ := HPL.out e HM.out
          have E1 := Lib.hid e1
          have HEE := Lib.hid he
          clear he e1 d2 d3 d4 d5
          have CI := fun w => clk_idx (es.take k) p0 p1 w
          have cl := clk_le (es.take k) e.1
          have kl := List.length_take_le k es
          have cl2 : clk (es.take k) e.1 ≤ 60 := by omega
          clear cl kl
          have Q0 : Hid (∀ w4, Below wr.heap.size wr w4 → Calls Tryz.prog 56 #[.slice A k c] w4 fun r w' => r = .returned (clkV (es.take k)) ∧ Below w4.heap.size w4 w') := Lib.hid fun w4 h4 => refClock_any A k c (es.take k) w4 (((HL.out.on HBW.out).on h4).ents_take (by omega)) (by omega) (fun e he => HPL.out e (List.mem_of_mem_take he))
          have hkc : k ≤ c := by omega
          by_cases hq : e.2.1 = (clk (es.take k) e.1 : Nat) + 1
          · have HQ := Lib.hid hq
            by_cases hk0 : 0 < k
            · obtain ⟨ad', f, e1', hf, g0, -⟩ := eat_rg (HL.out.on HBW.out) (k := k - 1) (by omega)
              have X2 := fun w => ix22m (c := c) E1.out hlt hk0 w
              obtain rfl : ad = ad' := Option.some.inj (E1.out.symm.trans e1')
              have HTF : Hid (es.take k = es.take (k - 1) ++ [f]) := Lib.hid (by have := take_succ_of hf; rwa [show k - 1 + 1 = k by omega] at this)
              clear hf e1'
              by_cases hlo : e.1 < f.1
              · have HF := Lib.hid (val_part hsm HT.out fun ho => by
                  have := (Ord_snoc.1 ho).2.1 f (by rw [HTF.out]; simp)
                  omega)
                generalize clk (es.take k) e.1 = ck at hq CI cl2
                have g : (e.2.1 != (ck : Int) + 1) = false := by rw [hq]; simp
                have gk : decide (0 < k) = true := by simpa using hk0
                have gl : decide (e.1 < f.1) = true := by simpa using hlo
                clear hq HQ
                go_wp2_with fail
                refine wp_region_qb mixed (by kernel_rfl) ?_
                repeat (go_big_quiet_step (first | exact rg_call Q0.out _ _))
                refine wpQuiet_nil ?_
                intro w5 hb5
                have HB5 := Lib.hid (below_trans' HBW.out hb5)
                clear hb5 d0 d1 g0 X X2 CI
                go_wp2_with fail
                go_ret
                exact ⟨ret_int HF.out.symm, HB5.out⟩
              · have HO2 : Hid (Ord (es.take (k + 1))) := Lib.hid (by
                  rw [HT.out]
                  have h1 := HO.out
                  rw [HTF.out] at h1 ⊢
                  rw [Ord_last h1, ← HTF.out]
                  exact ⟨by omega, HQ.out⟩)
                generalize clk (es.take k) e.1 = ck at hq CI cl2
                have g : (e.2.1 != (ck : Int) + 1) = false := by rw [hq]; simp
                have gk : decide (0 < k) = true := by simpa using hk0
                have gl : decide (e.1 < f.1) = false := by simpa using hlo
                clear hq HQ
                go_wp2_with fail
                refine wp_region_qb mixed (by kernel_rfl) ?_
                repeat (go_big_quiet_step (first | exact rg_call Q0.out _ _))
                refine wpQuiet_nil ?_
                intro w5 hb5
                have HB5 := Lib.hid (below_trans' HBW.out hb5)
                clear hb5 d0 d1 g0 X X2 CI
                go_wp2_with fail
                go_roundw
                case rel => exact ⟨k + 1, by omega, by go_num, HO2.out, HB5.out⟩
                case measure => simp [intOf]; omega
            · have HO2 : Hid (Ord (es.take (k + 1))) := Lib.hid (by
                rw [HT.out, Ord_snoc]
                refine ⟨HO.out, fun f hf => ?_, HQ.out⟩
                rw [show k = 0 by omega] at hf
                simp at hf)
              generalize clk (es.take k) e.1 = ck at hq CI cl2
              have g : (e.2.1 != (ck : Int) + 1) = false := by rw [hq]; simp
              have gk : decide (0 < k) = false := by simpa using hk0
              clear hq HQ
              go_wp2_with fail
              refine wp_region_qb mixed (by kernel_rfl) ?_
              repeat (go_big_quiet_step (first | exact rg_call Q0.out _ _))
              refine wpQuiet_nil ?_
              intro w5 hb5
              have HB5 := Lib.hid (below_trans' HBW.out hb5)
              clear hb5 d0 d1 X CI
              go_wp2_with fail
              go_roundw
              case rel => exact ⟨k + 1, by omega, by go_num, HO2.out, HB5.out⟩
              case measure => simp [intOf]; omega
          · have HF := Lib.hid (val_part hsm HT.out fun ho => hq (Ord_snoc.1 ho).2.2)
            generalize clk (es.take k) e.1 = ck at hq CI cl2
            have g : (e.2.1 != (ck : Int) + 1) = true := by simpa using hq
            clear hq
            go_wp2_with fail
            refine wp_region_qb mixed (by kernel_rfl) ?_
            repeat (go_big_quiet_step (first | exact rg_call Q0.out _ _))
            refine wpQuiet_nil ?_
            intro w5 hb5
            have HB5 := Lib.hid (below_trans' HBW.out hb5)
            clear hb5 d0 d1 X CI
            go_wp2_with fail
            go_ret
            exact ⟨ret_int HF.out.symm, HB5.out⟩
        · have HORD := Lib.hid (show Ord es by have := HO.out; rwa [List.take_of_length_le (by omega)] at this)
          have HSEQ := Lib.hid (Ord_seq HORD.out)
          clear HO
          go_wp2_with fail
          go_loopw [5] (fun i wr => ∃ k : Nat, k ≤ n ∧ i = .int .i64 k ∧ (∀ e ∈ es.take k, ¬ wrong es e) ∧ Below w.heap.size w wr) (fun i _ => n - (intOf i).toNat)
          case atStart => exact ⟨0, by omega, rfl, fun e he => by simp at he, HBW.out⟩
          case round =>
            clear HBW
            obtain ⟨k, hk, rfl, hno, hbw⟩ := hrel
            have HNO := Lib.hid hno
            have HBW := Lib.hid hbw
            clear hno hbw
            by_cases hlt : k < n
            · obtain ⟨ad, e, e1, hbk, he, d0, d1, d2, d3, d4, d5⟩ := eat (HL.out.below HBW.out) (k := k) (by omega)
              have X := fun w => ix22 (c := c) e1 hlt w
              have HT := Lib.hid (take_succ_of he)
              have HM := Lib.hid (List.mem_of_getElem? he)
              have HSE : Hid (1 ≤ e.2.1 ∧ e.2.1 ≤ 1000000) := Lib.hid (by have := HSEQ.out e HM.out; omega)
              have HLW := Lib.hid (HL.out.on HBW.out)
              clear he e1
              go_wp2_with fail
              with_reducible refine (wrongly_any A n c es e _ HLW.out hn HPL.out HSE.out).mono ?_
              rintro _ w5 ⟨rfl, hb5⟩
              have HB5 := Lib.hid (below_trans' HBW.out hb5)
              clear hb5 d0 d1 d2 d3 d4 d5 X
              by_cases hw : wrong es e
              · have HF := Lib.hid (val_saw hsm HTX.out HORD.out HM.out hw)
                rw [decide_eq_true hw]
                clear hw
                go_wp2_with fail
                go_ret
                exact ⟨ret_int HF.out.symm, HB5.out⟩
              · have HNO2 : Hid (∀ e ∈ es.take (k + 1), ¬ wrong es e) := Lib.hid fun g hg => by
                  rw [HT.out] at hg
                  rcases List.mem_append.1 hg with hg | hg
                  · exact HNO.out g hg
                  · rw [List.mem_singleton.1 hg]; exact hw
                rw [decide_eq_false hw]
                clear hw
                go_wp2_with fail
                go_roundw
                case rel => exact ⟨k + 1, by omega, by go_num, HNO2.out, HB5.out⟩
                case measure => simp [intOf]; omega
            · have HFIN := Lib.hid (show val es = 0 from val_zero.2 ⟨hsm, HTX.out, HORD.out, fun e he => HNO.out e (by rwa [List.take_of_length_le (by omega)])⟩)
              go_wp2_with fail
              go_ret
              exact ⟨ret_int HFIN.out.symm, HBW.out⟩
end Go.Proofs.YtnlhllleipemlaaGreatDoor

namespace Go.Proofs.YtnlhllleipemlaaGreatDoor
open Go.RowKit Go.Sort

def eqN (a b : Ent) : Bool := decide (a = b)
theorem eqN_iff {a b : Ent} : eqN a b = true ↔ a = b := by simp [eqN]
theorem eqN_not {a b : Ent} : eqN a b = false ↔ a ≠ b := by simp [eqN]
theorem eqg53 (o : BinOp) (x y : Operand) (xs ys : Array Value) (w : World) : (eqGuard o 48 x y (.agg xs) (.agg ys)).run Tryz.prog w = .ok () w :=
  run_eqGuard_agg w o 48 x y xs ys (by kernel_rfl)
theorem eqg35 (o : BinOp) (x y : Operand) (xs ys : Array Value) (w : World) : (eqGuard o 46 x y (.agg xs) (.agg ys)).run Tryz.prog w = .ok () w :=
  run_eqGuard_agg w o 46 x y xs ys (by kernel_rfl)
def eqC (a b : Int × Int × Int) : Bool := decide (a = b)
abbrev cval (a : Int × Int × Int) : Value := .agg #[.int .i64 a.1, .int .i64 a.2.1, .int .i64 a.2.2]
theorem info3i : ∃ i, Tryz.prog.info? 3 = some i := Option.isSome_iff_exists.1 (by kernel_rfl)
theorem eqi35 (a b : Int × Int × Int) (d : Nat) (w : World) : (Op.equalIn (d + 2) 46 (cval a) (cval b)).run Tryz.prog w = .ok (eqC a b) w := by
  obtain ⟨i, hi⟩ := info3i
  rw [run_equalIn_array w (d + 1) _ _ (show Tryz.prog.underlying 46 = some (.array 3 3) by kernel_rfl) hi]
  have hc : Tryz.prog.cellsOf 3 = 1 := by kernel_rfl
  have h3 : Tryz.prog.underlying 3 = some (.int .i64) := by kernel_rfl
  rw [hc]
  obtain ⟨a1, a2, a3⟩ := a
  obtain ⟨b1, b2, b3⟩ := b
  have hr : List.range 3 = [0, 1, 2] := rfl
  rw [hr]
  simp [go_sem, Op.eqItems, h3, eqC]
  by_cases h1 : a1 = b1 <;> by_cases h2 : a2 = b2 <;> by_cases h3 : a3 = b3 <;> simp [h1, h2, h3]
theorem eql35 (a b : Int × Int × Int) (w : World) : (binOp .eql 46 (cval a) (cval b)).run Tryz.prog w = .ok (.bool (eqC a b)) w := by
  rw [run_eql_struct, eqi35 a b 9998 w]; rfl
theorem bytes_toList_inj {a b : ByteArray} (h : a.toList = b.toList) : a = b := by
  rw [ByteArray.toList_eq, ByteArray.toList_eq] at h
  obtain ⟨⟨a⟩⟩ := a
  obtain ⟨⟨b⟩⟩ := b
  simp at h
  rw [h]
set_option maxRecDepth 10000 in
theorem eqi53 (a b : Ent) (d : Nat) (w : World) : (Op.equalIn (d + 3) 48 (eval_ a) (eval_ b)).run Tryz.prog w = .ok (eqN a b) w := by
  rw [run_equalIn_struct w (d + 2) 48 _ _ (by kernel_rfl) (by kernel_rfl)]
  have hf : (Tryz.prog.fieldsOf 48).toList = [⟨"Place", 3, 0, false, "", "", 0⟩, ⟨"Seq", 3, 1, false, "", "", 8⟩, ⟨"Seen", 46, 2, false, "", "", 16⟩, ⟨"Text", 9, 5, false, "", "", 40⟩] := by kernel_rfl
  have h3 : Tryz.prog.underlying 3 = some (.int .i64) := by kernel_rfl
  have h9 : Tryz.prog.underlying 9 = some .string := by kernel_rfl
  rw [hf]
  obtain ⟨a1, a2, a3, a4⟩ := a
  obtain ⟨b1, b2, b3, b4⟩ := b
  have he := fun w => eqi35 a3 b3 d w
  have hs : ((a4.toList == b4.toList) : Bool) = decide (a4 = b4) := by
    rw [Bool.eq_iff_iff, beq_iff_eq, decide_eq_true_eq]
    exact ⟨bytes_toList_inj, fun h => by rw [h]⟩
  dsimp only [eval_]
  simp only [Op.eqFields]
  simp [go_sem, h3, h9, he, hs, eqN, eqC]
  by_cases h1 : a1 = b1 <;> by_cases h2 : a2 = b2 <;> by_cases h3 : a3 = b3 <;> by_cases h4 : a4 = b4 <;> simp [h1, h2, h3, h4]
theorem eql53 (a b : Ent) (w : World) : (binOp .eql 48 (eval_ a) (eval_ b)).run Tryz.prog w = .ok (.bool (eqN a b)) w := by
  rw [run_eql_struct, eqi53 a b 9997 w]; rfl
theorem neq53 (a b : Ent) (w : World) : (binOp .neq 48 (eval_ a) (eval_ b)).run Tryz.prog w = .ok (.bool (!eqN a b)) w := by
  rw [run_neq_struct, eqi53 a b 9997 w]; rfl
end Go.Proofs.YtnlhllleipemlaaGreatDoor

namespace Go.Proofs.YtnlhllleipemlaaGreatDoor
open Go.RowKit Go.Sort

def clkT (es : List Ent) : Int × Int × Int := if val es = 0 then ((clk es 0 : Nat), (clk es 1 : Nat), (clk es 2 : Nat)) else (0, 0, 0)
theorem clkT_ok {es : List Ent} (h : val es = 0) : clkT es = (((clk es 0 : Nat) : Int), ((clk es 1 : Nat) : Int), ((clk es 2 : Nat) : Int)) := if_pos h
theorem clkT_bad {es : List Ent} (h : val es ≠ 0) : clkT es = (0, 0, 0) := if_neg h
theorem pl_of {es : List Ent} (h : val es = 0) : ∀ e ∈ es, 0 ≤ e.1 ∧ e.1 ≤ 2 := fun e he => by
  obtain ⟨q0, q1, _⟩ := (val_zero.1 h).txt e he
  exact ⟨q0, q1⟩
theorem neB {a b : Int} (h : a ≠ b) : (a != b) = true := by simpa using h
theorem neBf {a b : Int} (h : a = b) : (a != b) = false := by simp [h]
end Go.Proofs.YtnlhllleipemlaaGreatDoor

namespace Go.Proofs.YtnlhllleipemlaaGreatDoor
open Go.RowKit Go.Sort

theorem ix22i {A : Option Addr} {ad : Addr} {n c : Nat} {i : Int} (h : A = some ad) (h0 : 0 ≤ i) (hk : i < n) (w : World) : (Instr.indexAt 23 (.slice A n c) (.int .i64 i)).run Tryz.prog w = .ok (.pointer (some (ad.add (i.toNat * 6)))) w := by
  have := ix22 (n := n) (c := c) (k := i.toNat) h (by omega) w
  rwa [show ((i.toNat : Nat) : Int) = i by omega] at this
/-- Whether an entry of a card has seen another one, and the error. -/
def hsE (es : List Ent) (i j : Int) : Int := if val es ≠ 0 then val es else if 0 ≤ i ∧ i < es.length ∧ 0 ≤ j ∧ j < es.length then 0 else 5
def hsB (es : List Ent) (i j : Int) : Bool := if hsE es i j = 0 then sawE (es.getD i.toNat default) (es.getD j.toNat default) else false
theorem hs_bad {es : List Ent} {i j : Int} (h : val es ≠ 0) : hsE es i j = val es ∧ hsB es i j = false := by
  have h1 : hsE es i j = val es := if_pos h
  refine ⟨h1, ?_⟩
  unfold hsB
  rw [h1, if_neg h]
theorem hs_none {es : List Ent} {i j : Int} (h : val es = 0) (h2 : ¬ (0 ≤ i ∧ i < es.length ∧ 0 ≤ j ∧ j < es.length)) : hsE es i j = 5 ∧ hsB es i j = false := by
  have h1 : hsE es i j = 5 := by unfold hsE; rw [if_neg (fun hn => hn h), if_neg h2]
  refine ⟨h1, ?_⟩
  unfold hsB
  rw [h1]; rfl
theorem hs_ok {es : List Ent} {i j : Int} (h : val es = 0) (h0 : 0 ≤ i) (h1 : i < es.length) (h2 : 0 ≤ j) (h3 : j < es.length) {x y : Ent} (hx : es[i.toNat]? = some x) (hy : es[j.toNat]? = some y) : hsE es i j = 0 ∧ hsB es i j = sawE x y := by
  have e1 : hsE es i j = 0 := by unfold hsE; rw [if_neg (fun hn => hn h), if_pos ⟨h0, h1, h2, h3⟩]
  refine ⟨e1, ?_⟩
  unfold hsB
  rw [if_pos e1, List.getD_eq_getElem?_getD, hx, List.getD_eq_getElem?_getD, hy]
  rfl
end Go.Proofs.YtnlhllleipemlaaGreatDoor

namespace Go.Proofs.YtnlhllleipemlaaGreatDoor
open Go.RowKit Go.Sort

def indB (x y : Ent) : Bool := !sawE x y && !sawE y x
def indAt (es : List Ent) (x : Ent) (j : Nat) : Nat := ((es.take j).filter (indB x)).length
theorem indAt_succ {es : List Ent} {x y : Ent} {j : Nat} (h : es.take (j + 1) = es.take j ++ [y]) : indAt es x (j + 1) = indAt es x j + if indB x y = true then 1 else 0 := by
  unfold indAt
  rw [h, List.filter_append, List.length_append]
  by_cases hb : indB x y = true <;> simp [hb]
theorem indAt_le (es : List Ent) (x : Ent) (j : Nat) : indAt es x j ≤ j := by
  unfold indAt
  have := List.length_filter_le (indB x) (es.take j)
  have := List.length_take_le j es
  omega
/-- The number of independent pairs among the first k entries. -/
def indS (es : List Ent) : Nat → Nat
  | 0 => 0
  | k + 1 => indS es k + indAt es (es.getD k default) k
theorem indS_le (es : List Ent) (k : Nat) : indS es k ≤ k * k := by
  induction k with
  | zero => exact Nat.le_refl _
  | succ k ih =>
    have := indAt_le es (es.getD k default) k
    unfold indS
    have e : (k + 1) * (k + 1) = k * k + 2 * k + 1 := by rw [Nat.add_mul, Nat.mul_add]; omega
    omega
theorem indS_succ {es : List Ent} {x : Ent} {k : Nat} (h : es[k]? = some x) : indS es (k + 1) = indS es k + indAt es x k := by
  show indS es k + indAt es (es.getD k default) k = _
  rw [List.getD_eq_getElem?_getD, h]; rfl
def indN (es : List Ent) : Int := if val es = 0 then (indS es es.length : Nat) else 0
theorem sq_le {k : Nat} (h : k ≤ 60) : k * k ≤ 3600 := Nat.le_trans (Nat.mul_le_mul h h) (by omega)
set_option maxRecDepth 100000 in
set_option maxHeartbeats 4000000 in
theorem indep_any (A : Option Addr) (n c : Nat) (es : List Ent) (w : World) (hl : Reads w w.heap.size 6 A n (ents es)) (hn : n ≤ 1000000) (hnc : n ≤ c) (ht : shortT es) :
    Calls Tryz.prog 19 #[.slice A n c] w fun r w' => r = .returned (.tuple #[.int .i64 (indN es), .int .i64 (val es)]) ∧ Below w.heap.size w w' := by
  have hlen := hl.1
  rw [ents_length] at hlen
  have l1 : n ≤ es.length := by omega
  have l2 : es.length ≤ n := by omega
  have HL := Lib.hid hl
  have HS := Lib.hid ht
  clear hl ht hlen
  go_enter Tryz.func19, Tryz.ntmps19
  go_wp2_with fail
  with_reducible refine (validate_any A n c es _ HL.out hn HS.out).mono ?_
  rintro _ w2 ⟨rfl, hb2⟩
  have HW2 := Lib.hid hb2
  clear hb2
  by_cases hv : val es = 0
  case neg =>
    have HV := Lib.hid (show indN es = 0 from if_neg hv)
    have g := neB hv
    clear hv
    go_wp2_with fail
    go_ret2
    exact ⟨by rw [HV.out]; rfl, HW2.out⟩
  have HV := Lib.hid hv
  have g := neBf hv
  have HPL := Lib.hid (pl_of hv)
  have hsm : es.length ≤ 60 := (val_zero.1 hv).len
  have hn60 : n ≤ 60 := by omega
  clear hv
  go_wp2_with fail
  go_loopw [5, 17] (fun s i wr => ∃ k : Nat, k ≤ n ∧ i = .int .i64 k ∧ s = .int .i64 (indS es k : Nat) ∧ Below w.heap.size w wr) (fun _ i _ => n - (intOf i).toNat)
  case atStart => exact ⟨0, by omega, rfl, rfl, HW2.out⟩
  case round =>
    obtain ⟨k, hk, rfl, rfl, hbw⟩ := hrel
    have HBW := Lib.hid hbw
    clear hbw HW2
    by_cases hlt : k < n
    · obtain ⟨ad, x, e1, hbk, hx, d0, d1, d2, d3, d4, d5⟩ := eat (HL.out.below HBW.out) (k := k) (by omega)
      have X := fun w => ix22 (c := c) e1 hlt w
      obtain ⟨x0, x1⟩ := HPL.out x (List.mem_of_getElem? hx)
      have HSX := Lib.hid (indS_succ hx)
      have i1 := indS_le es k
      have i2 := sq_le (show k ≤ 60 by omega)
      have hS : indS es k ≤ 3600 := by omega
      have hkc : k ≤ c := by omega
      clear hx e1 i1 i2
      generalize indS es k = S0 at hS HSX ⊢
      have cb := fun o => (Box.new wr #[.int .i64 x.1, .int .i64 x.2.1, .int .i64 x.2.2.1.1, .int .i64 x.2.2.1.2.1, .int .i64 x.2.2.1.2.2, .string x.2.2.2] o).at
      go_wp2_with fail
      refine gen_at (fun W => Box W wr.heap.size #[.int .i64 x.1, .int .i64 x.2.1, .int .i64 x.2.2.1.1, .int .i64 x.2.2.1.2.1, .int .i64 x.2.2.1.2.2, .string x.2.2.2] ∧ Below w.heap.size w W) ⟨Box.new _ _ _, below_trans' HBW.out (belowA _ _)⟩ ?_
      rintro w4 ⟨bx0, hb4⟩
      have HW4 := Lib.hid hb4
      generalize wr.heap.size = bX at bx0 ⊢
      clear hb4 d0 d1 d2 d3 d4 d5 X cb
      go_loopw [5, 26] (fun s i wr => ∃ j : Nat, j ≤ k ∧ i = .int .i64 j ∧ s = .int .i64 ((S0 : Nat) + (indAt es x j : Nat)) ∧ Box wr bX #[.int .i64 x.1, .int .i64 x.2.1, .int .i64 x.2.2.1.1, .int .i64 x.2.2.1.2.1, .int .i64 x.2.2.1.2.2, .string x.2.2.2] ∧ Below w.heap.size w wr) (fun _ i _ => k - (intOf i).toNat)
      case atStart => exact ⟨0, by omega, rfl, by simp [indAt], bx0, HW4.out⟩
      case round =>
        clear bx0 HW4
        obtain ⟨j, hj, rfl, rfl, bx, hbw⟩ := hrel
        have HBW5 := Lib.hid hbw
        clear hbw
        have hI := indAt_le es x j
        by_cases hltj : j < k
        · obtain ⟨ad, y, e1, hbk, hy, d0, d1, d2, d3, d4, d5⟩ := eat (HL.out.below HBW5.out) (k := j) (by omega)
          have X := fun w => ix22 (n := k) (c := c) e1 hltj w
          obtain ⟨y0, y1⟩ := HPL.out y (List.mem_of_getElem? hy)
          have HIN := Lib.hid (indAt_succ (x := x) (take_succ_of hy))
          clear hy e1
          generalize indAt es x j = I0 at hI HIN ⊢
          have cx := fun o => (bx.alloc (.cells #[.int .i64 y.1, .int .i64 y.2.1, .int .i64 y.2.2.1.1, .int .i64 y.2.2.1.2.1, .int .i64 y.2.2.1.2.2, .string y.2.2.2] o)).at
          have cy := fun o => (Box.new wr #[.int .i64 y.1, .int .i64 y.2.1, .int .i64 y.2.2.1.1, .int .i64 y.2.2.1.2.1, .int .i64 y.2.2.1.2.2, .string y.2.2.2] o).at
          go_wp2_with fail
          with_reducible refine (saw_any x y _ y0 y1).mono ?_
          rintro _ w5 ⟨rfl, hb5⟩
          have bx5 := (bx.alloc _).below hb5
          have by5 := (Box.new wr #[.int .i64 y.1, .int .i64 y.2.1, .int .i64 y.2.2.1.1, .int .i64 y.2.2.1.2.1, .int .i64 y.2.2.1.2.2, .string y.2.2.2] 48).below hb5
          have HW5 := Lib.hid (below_trans' HBW5.out (below1 _ hb5))
          generalize wr.heap.size = bY at by5 ⊢
          clear cx cy d0 d1 d2 d3 d4 d5 X hb5 bx
          by_cases hs : sawE x y = true
          · have HI := Lib.hid (show indB x y = false by unfold indB; rw [hs]; rfl)
            rw [hs]
            clear hs
            go_wp2_with fail
            go_roundw
            case rel => exact ⟨j + 1, by omega, by go_num, by rw [HIN.out, HI.out]; simp, bx5, HW5.out⟩
            case measure => simp [intOf]; omega
          · replace hs : sawE x y = false := by simpa using hs
            rw [hs]
            have HS1 := Lib.hid hs
            clear hs
            have cx := bx5.at
            have cy := by5.at
            go_wp2_with fail
            with_reducible refine (saw_any y x _ x0 x1).mono ?_
            rintro _ w6 ⟨rfl, hb6⟩
            have bx6 := bx5.below hb6
            have HW6 := Lib.hid (below_trans' HW5.out hb6)
            clear cx cy hb6 bx5 by5
            by_cases hs : sawE y x = true
            · have HI := Lib.hid (show indB x y = false by unfold indB; rw [hs, HS1.out]; rfl)
              rw [hs]
              clear hs
              go_wp2_with fail
              go_roundw
              case rel => exact ⟨j + 1, by omega, by go_num, by rw [HIN.out, HI.out]; simp, bx6, HW6.out⟩
              case measure => simp [intOf]; omega
            · replace hs : sawE y x = false := by simpa using hs
              have HI := Lib.hid (show indB x y = true by unfold indB; rw [hs, HS1.out]; rfl)
              rw [hs]
              clear hs
              go_wp2_with fail
              go_roundw
              case rel => exact ⟨j + 1, by omega, by go_num, by rw [HIN.out, HI.out]; simp; omega, bx6, HW6.out⟩
              case measure => simp [intOf]; omega
        · obtain rfl : j = k := by omega
          go_wp2_with fail
          go_roundw
          case rel => exact ⟨j + 1, by omega, by go_num, by rw [HSX.out]; simp, HBW5.out⟩
          case measure => simp [intOf]; omega
    · have HF := Lib.hid (show indN es = (indS es k : Nat) by unfold indN; rw [if_pos HV.out, show es.length = k by omega])
      go_wp2_with fail
      go_ret2
      exact ⟨by rw [HF.out, HV.out]; rfl, HBW.out⟩
end Go.Proofs.YtnlhllleipemlaaGreatDoor

namespace Go.Proofs.YtnlhllleipemlaaGreatDoor
open Go.RowKit Go.Sort

section
variable {P : Program} {ops : Array Oper} {md : Region.Mode} {Q : Exit → Act → World → Prop} {S : World → Prop}
def canonH (P : Program) (ops : Array Oper) (S : World → Prop) (L : Act → Prop) : List Nat → Act → Prop
  | [], a => L a
  | i :: hs, a => ∃ o v, ops[i]? = some o ∧ YieldsIf P ops S o v a ∧ canonH P ops S L hs (a.put o.dst v)
theorem canonH_some {L : Act → Prop} : ∀ (hs : List Nat) (a : Act), canonH P ops S L hs a → ∃ a', L a'
  | [], a, h => ⟨a, h⟩
  | _ :: hs, _, ⟨_, _, _, _, h⟩ => canonH_some hs _ h
theorem canonH_mono {L L' : Act → Prop} (hl : ∀ a, L a → L' a) : ∀ (hs : List Nat) (a : Act), canonH P ops S L hs a → canonH P ops S L' hs a
  | [], a, h => hl a h
  | _ :: hs, _, ⟨o, v, ho, hy, h⟩ => ⟨o, v, ho, hy, canonH_mono hl hs _ h⟩
theorem canonH_move {L : Act → Prop} {j : Nat} {oj : Oper} {q : List Nat} (hsel : ∀ (j : Nat) (o : Oper) cs b, ops[j]? = some o → o.op ≠ .select cs b) (hj : ops[j]? = some oj) :
    ∀ (p : List Nat) (a : Act), (∀ h ∈ p, ∀ oh, ops[h]? = some oh → oh.apart ops oj = true) → canonH P ops S L (p ++ j :: q) a → ∃ v, YieldsIf P ops S oj v a ∧ canonH P ops S L (p ++ q) (a.put oj.dst v)
  | [], a, _, ⟨o, v, ho, hy, hc⟩ => by
    obtain rfl : o = oj := Option.some.inj (ho.symm.trans hj)
    exact ⟨v, hy, hc⟩
  | h :: p, a, hap, ⟨o, u, ho, hy, hc⟩ => by
    obtain ⟨v, hyj, hcj⟩ := canonH_move hsel hj p (a.put o.dst u) (fun k hk => hap k (List.mem_cons_of_mem _ hk)) hc
    obtain ⟨h1, h2, h3⟩ := Oper.apart_spec (hap h List.mem_cons_self o ho)
    refine ⟨v, hyj.of_same (execOp_put oj (fun cs b => hsel j oj cs b hj) a o.dst u h1).symm (wanted_put oj a o.dst u h1).symm, o, u, ho, hy.of_same (execOp_put o (fun cs b => hsel h o cs b ho) a oj.dst v h3) (wanted_put o a oj.dst v h3), ?_⟩
    rw [← Act.put_comm a u v h2]
    exact hcj
theorem canonH_push {t : Nat} {ot : Oper} (hsel : ∀ (j : Nat) (o : Oper) cs b, ops[j]? = some o → o.op ≠ .select cs b) (ht : ops[t]? = some ot)
    (hQ : ∀ c (a : Act) d v w, Q (.panic c) (a.put d v) w → Q (.panic c) a w) {K : Act → World → Prop} {w : World} :
    ∀ (hs : List Nat) (a : Act), (∀ h ∈ hs, ∀ oh, ops[h]? = some oh → oh.apart ops ot = true) → canonH P ops S (fun a' => wpOp P ops Q t K a' w) hs a → wpOp P ops Q t (fun a' w' => canonH P ops S (fun a'' => K a'' w') hs a') a w
  | [], a, _, h => h
  | h :: hs, a, hap, ⟨o, v, ho, hy, hc⟩ => by
    have := canonH_push hsel ht hQ hs (a.put o.dst v) (fun k hk => hap k (List.mem_cons_of_mem _ hk)) hc
    exact wpOp_mono (fun a' w' ⟨hy', hk⟩ => ⟨o, v, ho, hy', hk⟩) (wpOp_putIf ht (hap h List.mem_cons_self o ho) (fun cs b => hsel h o cs b ho) (fun cs b => hsel t ot cs b ht) (fun c a w => hQ c a _ _ w) hy this)

def tailW (P : Program) (ops : Array Oper) (Q : Exit → Act → World → Prop) (S : World → Prop) : List Nat → Act → World → Prop
  | [], a, w => Q .normal a w
  | [t], a, w => wpOp P ops Q t (fun a' w' => Q .normal a' w') a w
  | t :: t' :: ts, a, w => wpOp P ops Q t (fun a' w' => S w' ∧ tailW P ops Q S (t' :: ts) a' w') a w

def chainT (md : Region.Mode) (ops : Array Oper) : List Nat → Bool
  | t :: t' :: ts => Region.waitsFor md ops t' t && chainT md ops (t' :: ts)
  | _ => true
def downB (md : Region.Mode) (ops : Array Oper) : Bool := (List.range ops.size).all fun i => ((ops[i]?).map (·.after.all fun e => !Region.binds md e || decide (e.on < i))).getD true
def ap1 (md : Region.Mode) (ops : Array Oper) (h j : Nat) : Bool := Region.waitsFor md ops j h || (match ops[h]?, ops[j]? with | some oh, some oj => oh.apart ops oj | _, _ => true)
def pairB (md : Region.Mode) (ops : Array Oper) : List Nat → Bool
  | [] => true
  | h :: hs => hs.all (ap1 md ops h) && pairB md ops hs
def crossB (md : Region.Mode) (ops : Array Oper) (hs ts : List Nat) : Bool := hs.all fun h => ts.all (ap1 md ops h)
theorem pairB_spec : ∀ (hs : List Nat), pairB md ops hs = true → hs.Pairwise fun h j => ap1 md ops h j = true
  | [], _ => List.Pairwise.nil
  | h :: hs, hh => by
    simp only [pairB, Bool.and_eq_true, List.all_eq_true] at hh
    exact List.pairwise_cons.2 ⟨hh.1, pairB_spec hs hh.2⟩
def htB (md : Region.Mode) (ops : Array Oper) (hs ts : List Nat) : Bool :=
  Region.noSelect ops && Region.sinkB md ops (ops.size - 1) && Region.chainB md ops (ops.size - 1) && decide (0 < ops.size) && downB md ops && pairB md ops hs && crossB md ops hs ts && chainT md ops ts &&
  decide ((hs ++ ts).Nodup) && (hs ++ ts).all (fun i => decide (i < ops.size)) && (List.range ops.size).all (fun i => (hs ++ ts).contains i) && decide (ts.getLast? = some (ops.size - 1)) && decide (ops.size = hs.length + ts.length)

/-- What of the region is still to come. -/
structure Rem (md : Region.Mode) (ops : Array Oper) (hs ts : List Nat) (listed : Array Bool) : Prop where
  inv : HeadInv md ops (ops.size - 1) listed
  mem : ∀ i, listed.getD i true = false ↔ i ∈ hs ++ ts
  nd : (hs ++ ts).Nodup
  lt : ∀ i ∈ hs ++ ts, i < ops.size
  chain : chainT md ops ts = true
  last : ts.getLast? = some (ops.size - 1)
  ap : hs.Pairwise fun h j => ap1 md ops h j = true
  cr : ∀ h ∈ hs, ∀ t ∈ ts, ap1 md ops h t = true
theorem ap1_spec {i j : Nat} {oi oj : Oper} (h : ap1 md ops i j = true) (h1 : ops[i]? = some oi) (h2 : ops[j]? = some oj) (hw : Region.waitsFor md ops j i = false) : oi.apart ops oj = true := by
  unfold ap1 at h
  rw [h1, h2, hw] at h
  simpa using h
/-- Who is ready waits for nobody that is still to come. -/
theorem ready_waits {listed : Array Bool} {i j : Nat} (hj : j ∈ Region.ready md ops listed) (hi : listed.getD i true = false) : Region.waitsFor md ops j i = false := by
  cases hc : Region.waitsFor md ops j i with
  | false => rfl
  | true =>
  exfalso
  obtain ⟨oj, hoj, e, he, hb, rfl⟩ := Region.waitsFor_spec hc
  obtain ⟨_, o, ho, hall⟩ := mem_ready.1 hj
  obtain rfl : oj = o := Option.some.inj (hoj.symm.trans ho)
  have := hall e he hb
  rw [getD_both hi] at this
  cases this
theorem getD_set_self {listed : Array Bool} {j : Nat} (hj : j < listed.size) : (listed.setIfInBounds j true).getD j true = true := by simp [hj]
theorem least_of {p : Nat → Bool} : ∀ n, p n = false → ∃ m, p m = false ∧ ∀ k, k < m → p k = true := by
  intro n
  induction n using Nat.strongRecOn with
  | _ n ih =>
    intro h
    rcases Classical.em (∃ k, k < n ∧ p k = false) with ⟨k, hk, hp⟩ | hno
    · exact ih k hk hp
    · exact ⟨n, h, fun k hk => by cases hp : p k with | true => rfl | false => exact absurd ⟨k, hk, hp⟩ hno⟩
theorem wpAny_ht (hsel : Region.noSelect ops = true) (hsk : Region.sinkB md ops (ops.size - 1) = true) (hck : Region.chainB md ops (ops.size - 1) = true) (h0 : 0 < ops.size) (hdn : downB md ops = true)
    (hQ : ∀ c (a : Act) d v w, Q (.panic c) (a.put d v) w → Q (.panic c) a w) :
    ∀ (f : Nat) (hs ts : List Nat) (listed : Array Bool) (a : Act) (w : World), f + 1 = hs.length + ts.length → Rem md ops hs ts listed → S w → canonH P ops S (fun a' => tailW P ops Q S ts a' w) hs a → wpAny P md ops Q (f + 1) listed a w
  | f, hs, ts, listed, a, w, hf, R, hS, hc => by
    have hselS := Region.noSelect_spec hsel
    refine ⟨fun hr => ?_, fun j hj => ?_⟩
    · exfalso
      -- the least of what is to come is ready
      have hlast : ops.size - 1 ∈ hs ++ ts := List.mem_append.2 (.inr (List.mem_of_getLast? R.last))
      obtain ⟨m, hmin, hless⟩ := least_of (p := fun i => listed.getD i true) _ ((R.mem _).2 hlast)
      have hlt := R.lt _ ((R.mem _).1 hmin)
      have : m ∈ Region.ready md ops listed := by
        rw [mem_ready]
        refine ⟨hmin, ops[m], by simp [hlt], fun e he hb => ?_⟩
        unfold downB at hdn
        rw [List.all_eq_true] at hdn
        have h1 := hdn m (List.mem_range.2 hlt)
        rw [Array.getElem?_eq_getElem hlt] at h1
        simp only [Option.map_some, Option.getD_some, Array.all_eq_true_iff_forall_mem] at h1
        have h2 := h1 e he
        rw [hb] at h2
        have h3 : e.on < m := by simpa using h2
        have h4 : listed.getD e.on true = true := hless e.on h3
        have h5 : e.on < listed.size := by rw [R.inv.size]; omega
        simp [h5] at h4 ⊢
        exact h4
      rw [hr] at this
      cases this
    · obtain ⟨hun, oj, hoj, hall⟩ := mem_ready.1 hj
      have hjlt : j < ops.size := (Array.getElem?_eq_some_iff.1 hoj).1
      have hapj : ∀ h ∈ hs, ap1 md ops h j = true → ∀ oh, ops[h]? = some oh → oh.apart ops oj = true := fun h hh h1 oh hoh =>
        ap1_spec h1 hoh hoj (ready_waits hj ((R.mem h).2 (List.mem_append.2 (.inl hh))))
      have hmem' : ∀ i, (listed.setIfInBounds j true).getD i true = false ↔ i ≠ j ∧ i ∈ hs ++ ts := fun i => by
        by_cases hij : i = j
        · subst hij
          simp only [ne_eq, not_true_eq_false, false_and, iff_false]
          rw [getD_set_self (by rw [R.inv.size]; exact hjlt)]; simp
        · rw [getD_set_ne true (Ne.symm hij), R.mem]; simp [hij]
      rcases List.mem_append.1 ((R.mem j).1 hun) with hjh | hjt
      · obtain ⟨p, q, rfl⟩ := List.append_of_mem hjh
        have hnd := R.nd
        rw [List.append_assoc, List.cons_append, List.nodup_append] at hnd
        obtain ⟨n1, n2, n3⟩ := hnd
        rw [List.nodup_cons] at n2
        have apq := List.pairwise_append.1 R.ap
        have hjp : j ∉ p := fun h => n3 j h j List.mem_cons_self rfl
        obtain ⟨v, hy, hcv⟩ := canonH_move hselS hoj p a (fun h hh => hapj h (by simp [hh]) (apq.2.2 h hh j List.mem_cons_self)) hc
        have hjn : j < ops.size - 1 := by
          have h1 : ops.size - 1 ∈ ts := List.mem_of_getLast? R.last
          have : j ≠ ops.size - 1 := fun e => n2.1 (List.mem_append.2 (.inr (e ▸ h1)))
          omega
        refine hy.wpOp hoj hS ?_
        cases f with
        | zero =>
          exfalso
          have h1 : 0 < ts.length := by have := R.last; cases ts with | nil => cases this | cons => simp
          simp at hf
          omega
        | succ f =>
          refine wpAny_ht hsel hsk hck h0 hdn hQ f (p ++ q) ts _ _ w (by simp at hf ⊢; omega) ⟨R.inv.set hj hjn, fun i => ?_, ?_, fun i hi => R.lt i ?_, R.chain, R.last, List.pairwise_append.2 ⟨apq.1, (List.pairwise_cons.1 apq.2.1).2, fun x hx y hy => apq.2.2 x hx y (List.mem_cons_of_mem _ hy)⟩, fun h hh => R.cr h ?_⟩ hS hcv
          · rw [hmem']
            simp only [List.mem_append, List.mem_cons]
            refine ⟨fun ⟨h1, h2⟩ => ?_, fun h => ⟨fun e => ?_, ?_⟩⟩
            · rcases h2 with (h2 | h2 | h2) | h2
              · exact .inl (.inl h2)
              · exact absurd h2 h1
              · exact .inl (.inr h2)
              · exact .inr h2
            · subst e
              rcases h with (h | h) | h
              · exact hjp h
              · exact n2.1 (List.mem_append.2 (.inl h))
              · exact n2.1 (List.mem_append.2 (.inr h))
            · rcases h with (h | h) | h
              · exact .inl (.inl h)
              · exact .inl (.inr (.inr h))
              · exact .inr h
          · rw [List.append_assoc, List.nodup_append]
            exact ⟨n1, n2.2, fun x hx y hy => n3 x hx y (List.mem_cons_of_mem _ hy)⟩
          · simp only [List.mem_append, List.mem_cons] at hi ⊢
            rcases hi with (h | h) | h
            · exact .inl (.inl h)
            · exact .inl (.inr (.inr h))
            · exact .inr h
          · simp only [List.mem_append, List.mem_cons] at hh ⊢
            rcases hh with h | h
            · exact .inl h
            · exact .inr (.inr h)
      · -- an operation of the chain: it is the first one
        cases ts with
        | nil => cases hjt
        | cons t ts =>
          have hnd := R.nd
          rw [List.nodup_append] at hnd
          obtain ⟨n1, n2, n3⟩ := hnd
          have hjh : ∀ h ∈ hs, h ≠ j := fun h hh e => n3 h hh j hjt e
          have hjt' : j = t := by
            rcases Classical.em (j = t) with h | hne
            · exact h
            exfalso
            have hmem : j ∈ ts := by rcases List.mem_cons.1 hjt with h | h; exact absurd h hne; exact h
            have key : ∀ (l : List Nat) (t : Nat), chainT md ops (t :: l) = true → j ∈ l → ∃ k ∈ t :: l, Region.waitsFor md ops j k = true := by
              intro l
              induction l with
              | nil => intro t _ h; cases h
              | cons x l ih =>
                intro t hch h
                simp only [chainT, Bool.and_eq_true] at hch
                rcases List.mem_cons.1 h with rfl | h
                · exact ⟨t, List.mem_cons_self, hch.1⟩
                · obtain ⟨k, hk, hw⟩ := ih x hch.2 h
                  exact ⟨k, List.mem_cons_of_mem _ hk, hw⟩
            obtain ⟨k, hk, hw⟩ := key ts t R.chain hmem
            rw [ready_waits hj ((R.mem k).2 (List.mem_append.2 (.inr hk)))] at hw
            cases hw
          subst hjt'
          cases ts with
          | nil =>
            have hjl : j = ops.size - 1 := by have := R.last; simpa using this
            have hnil : hs = [] := by
              cases hs with
              | nil => rfl
              | cons h hs =>
                exfalso
                have h1 : h ∈ h :: hs := List.mem_cons_self
                have h2 := (R.mem h).2 (List.mem_append.2 (.inl h1))
                have h3 : h < ops.size - 1 := by
                  have := R.lt h (List.mem_append.2 (.inl h1))
                  have := hjh h h1
                  omega
                exact tail_waits hsk hck (by omega) R.inv _ h rfl h3 h2 j (by omega) hj
            subst hnil
            obtain rfl : f = 0 := by simpa using hf
            refine wpOp_mono (fun a' w' hq => ⟨?_, hq⟩) hc
            refine List.eq_nil_iff_forall_not_mem.2 fun i hi => ?_
            have := (hmem' i).1 (mem_ready.1 hi).1
            simp at this
          | cons t' ts =>
            have hjn : j < ops.size - 1 := by
              have h1 : ops.size - 1 ∈ t' :: ts := List.mem_of_getLast? (by have := R.last; simpa [List.getLast?_cons_cons] using this)
              have : j ≠ ops.size - 1 := fun e => (List.nodup_cons.1 n2).1 (e ▸ h1)
              omega
            have h1 := canonH_push (K := fun a' w' => S w' ∧ tailW P ops Q S (t' :: ts) a' w') hselS hoj hQ hs a (fun h hh => hapj h hh (R.cr h hh j List.mem_cons_self)) hc
            cases f with
            | zero => exfalso; simp at hf; omega
            | succ f =>
              refine wpOp_mono (fun a' w' hk => ?_) h1
              obtain ⟨_, hS', _⟩ := canonH_some hs a' hk
              refine wpAny_ht hsel hsk hck h0 hdn hQ f hs (t' :: ts) _ a' w' (by simp at hf ⊢; omega) ⟨R.inv.set hj hjn, fun i => ?_, ?_, fun i hi => R.lt i ?_, ?_, ?_, R.ap, fun h hh t ht => R.cr h hh t (List.mem_cons_of_mem _ ht)⟩ hS' (canonH_mono (fun _ h => h.2) hs a' hk)
              · rw [hmem']
                simp only [List.mem_append, List.mem_cons]
                refine ⟨fun ⟨h1, h2⟩ => ?_, fun h => ⟨fun e => ?_, ?_⟩⟩
                · rcases h2 with h2 | h2 | h2
                  · exact .inl h2
                  · exact absurd h2 h1
                  · exact .inr h2
                · subst e
                  rcases h with h | h
                  · exact hjh _ h rfl
                  · exact (List.nodup_cons.1 n2).1 (List.mem_cons.2 h)
                · rcases h with h | h
                  · exact .inl h
                  · exact .inr (.inr h)
              · rw [List.nodup_append]
                exact ⟨n1, (List.nodup_cons.1 n2).2, fun x hx y hy => n3 x hx y (List.mem_cons_of_mem _ hy)⟩
              · simp only [List.mem_append, List.mem_cons] at hi ⊢
                rcases hi with h | h
                · exact .inl h
                · exact .inr (.inr h)
              · have := R.chain; simp only [chainT, Bool.and_eq_true] at this; exact this.2
              · have := R.last; simpa [List.getLast?_cons_cons] using this
/-- The law. -/
theorem wp_region_ht {id : Nat} {a : Act} {w : World} {l : List Oper} (hs ts : List Nat) (S : World → Prop) (hm : P.follows .mixedOrders = true) (hB : htB .any l.toArray hs ts = true)
    (hS : S w.drew) (h : canonH P l.toArray S (fun a' => tailW P l.toArray (NoPanic Q) S ts a' w.drew) hs a) : (Code.region id l.toArray true).wp P Q a w := by
  simp only [htB, Bool.and_eq_true, decide_eq_true_eq] at hB
  obtain ⟨⟨⟨⟨⟨⟨⟨⟨⟨⟨⟨⟨b1, b2⟩, b3⟩, b4⟩, b5⟩, b6⟩, bc⟩, b7⟩, b8⟩, b9⟩, b10⟩, b11⟩, b12⟩ := hB
  refine wp_region_noPanic (wp_region_any hm ?_)
  rw [List.all_eq_true] at b9 b10
  have hlt : ∀ i ∈ hs ++ ts, i < l.toArray.size := fun i hi => by simpa using b9 i hi
  obtain ⟨f, hf⟩ : ∃ f, l.toArray.size = f + 1 := ⟨l.toArray.size - 1, by omega⟩
  have R : Rem .any l.toArray hs ts (Array.replicate l.toArray.size false) := by
    refine ⟨⟨by simp, fun j oj _ hl => (by rw [getD_replicate_false] at hl; cases hl), fun t _ ht => getD_in (by simpa using ht) (getD_replicate_false _ _)⟩, fun i => ⟨fun hi => ?_, fun hi => ?_⟩, b8, hlt, b7, b11, pairB_spec _ b6, fun h hh t ht => by unfold crossB at bc; rw [List.all_eq_true] at bc; have := bc h hh; rw [List.all_eq_true] at this; exact this t ht⟩
    · rcases Nat.lt_or_ge i l.toArray.size with h | h
      · simpa using b10 i (List.mem_range.2 h)
      · rw [show (Array.replicate l.toArray.size false).getD i true = true by simp [Nat.not_lt.2 (by simpa using h)]] at hi; cases hi
    · exact getD_in (by simpa using hlt i hi) (getD_replicate_false _ _)
  have := wpAny_ht (P := P) (Q := NoPanic Q) (S := S) b1 b2 b3 b4 b5 (fun _ _ _ _ _ h => h) f hs ts _ a w.drew (by omega) R hS h
  rw [← hf] at this
  exact this
theorem canonH_step {L : Act → Prop} {i : Nat} {o : Oper} {v : Value} {hs : List Nat} {a : Act} (ho : ops[i]? = some o) (hw : Region.wanted o (yielded ops a.tmps) = true)
    (h : ∀ w, S w → (execOp a.eval o).run P w = .ok (.value v) w) (hr : canonH P ops S L hs (a.put o.dst v)) : canonH P ops S L (i :: hs) a := ⟨o, v, ho, .inl ⟨hw, h⟩, hr⟩
theorem canonH_nil {L : Act → Prop} {a : Act} (h : L a) : canonH P ops S L [] a := h
/-- What two blocks hold. -/
structure TwoB (b1 : Nat) (cs1 : Array Value) (b2 : Nat) (cs2 : Array Value) (w : World) : Prop where
  one : ∀ i, w.cell? ⟨b1, i, none⟩ = cs1[i]?
  two : ∀ i, w.cell? ⟨b2, i, none⟩ = cs2[i]?
/-- What follows a chain's operation. -/
def Thn (Q : Exit → Act → World → Prop) (K : Act → World → Prop) : Exit → Act → World → Prop
  | .normal, a, w => K a w
  | e, a, w => Q e a w
theorem tailW_step {t t' : Nat} {ts : List Nat} {o : Oper} {a : Act} {w : World} (ho : ops[t]? = some o)
    (h : wpList P ops (Thn Q fun a' w' => S w' ∧ tailW P ops Q S (t' :: ts) a' w') [o] a w) : tailW P ops Q S (t :: t' :: ts) a w := by
  show wpOp P ops Q t _ a w
  unfold wpOp
  simp only [ho]
  unfold wpList at h
  split
  · rename_i hw
    rw [if_pos hw] at h
    rcases h with h | ⟨h1, b, w', h2⟩
    · refine .inl ?_
      unfold Oper.wp at *
      generalize (execOp a.eval o).run P w = r at *
      cases r with
      | ok n w' => cases n <;> first | exact h | exact Calls.mono h (fun e w'' he => by cases e <;> exact he) | exact Rows.mono h (fun u w'' he => he)
      | halt x w' => cases x <;> exact h
    · exact .inr ⟨h1, b, w', h2⟩
  · rename_i hw
    rw [if_neg hw] at h
    exact h
theorem tailW_last {t : Nat} {o : Oper} {a : Act} {w : World} (ho : ops[t]? = some o) (h : wpList P ops Q [o] a w) : tailW P ops Q S [t] a w := by
  show wpOp P ops Q t _ a w
  unfold wpOp
  simp only [ho]
  exact h
end
end Go.Proofs.YtnlhllleipemlaaGreatDoor

namespace Go.Proofs.YtnlhllleipemlaaGreatDoor
open Go.RowKit Go.Sort

section
variable {P : Program} {ops : Array Oper} {md : Region.Mode} {Q : Exit → Act → World → Prop} {S : World → Prop}
def readyT (md : Region.Mode) (ops : Array Oper) (ts : List Nat) : List Nat := ts.filter fun t => ts.all fun u => !Region.waitsFor md ops t u
def tailA (P : Program) (md : Region.Mode) (ops : Array Oper) (Q : Exit → Act → World → Prop) (S : World → Prop) : Nat → List Nat → Act → World → Prop
  | 0, _, a, w => Q .normal a w
  | 1, ts, a, w => ∀ t ∈ readyT md ops ts, wpOp P ops Q t (fun a' w' => Q .normal a' w') a w
  | n + 2, ts, a, w => ∀ t ∈ readyT md ops ts, wpOp P ops Q t (fun a' w' => S w' ∧ tailA P md ops Q S (n + 1) (ts.erase t) a' w') a w
def huB (md : Region.Mode) (ops : Array Oper) (hs ts : List Nat) : Bool :=
  Region.noSelect ops && Region.sinkB md ops (ops.size - 1) && Region.chainB md ops (ops.size - 1) && decide (0 < ops.size) && downB md ops && pairB md ops hs && crossB md ops hs ts &&
  decide ((hs ++ ts).Nodup) && (hs ++ ts).all (fun i => decide (i < ops.size)) && (List.range ops.size).all (fun i => (hs ++ ts).contains i) && ts.contains (ops.size - 1) && decide (ops.size = hs.length + ts.length)
structure RemU (md : Region.Mode) (ops : Array Oper) (hs ts : List Nat) (listed : Array Bool) : Prop where
  inv : HeadInv md ops (ops.size - 1) listed
  mem : ∀ i, listed.getD i true = false ↔ i ∈ hs ++ ts
  nd : (hs ++ ts).Nodup
  lt : ∀ i ∈ hs ++ ts, i < ops.size
  last : ops.size - 1 ∈ ts
  ap : hs.Pairwise fun h j => ap1 md ops h j = true
  cr : ∀ h ∈ hs, ∀ t ∈ ts, ap1 md ops h t = true
theorem wpAny_hu (hsel : Region.noSelect ops = true) (hsk : Region.sinkB md ops (ops.size - 1) = true) (hck : Region.chainB md ops (ops.size - 1) = true) (h0 : 0 < ops.size) (hdn : downB md ops = true)
    (hQ : ∀ c (a : Act) d v w, Q (.panic c) (a.put d v) w → Q (.panic c) a w) :
    ∀ (f : Nat) (hs ts : List Nat) (listed : Array Bool) (a : Act) (w : World), f + 1 = hs.length + ts.length → RemU md ops hs ts listed → S w → canonH P ops S (fun a' => tailA P md ops Q S ts.length ts a' w) hs a → wpAny P md ops Q (f + 1) listed a w
  | f, hs, ts, listed, a, w, hf, R, hS, hc => by
    have hselS := Region.noSelect_spec hsel
    refine ⟨fun hr => ?_, fun j hj => ?_⟩
    · exfalso
      -- the least of what is to come is ready
      have hlast : ops.size - 1 ∈ hs ++ ts := List.mem_append.2 (.inr R.last)
      obtain ⟨m, hmin, hless⟩ := least_of (p := fun i => listed.getD i true) _ ((R.mem _).2 hlast)
      have hlt := R.lt _ ((R.mem _).1 hmin)
      have : m ∈ Region.ready md ops listed := by
        rw [mem_ready]
        refine ⟨hmin, ops[m], by simp [hlt], fun e he hb => ?_⟩
        unfold downB at hdn
        rw [List.all_eq_true] at hdn
        have h1 := hdn m (List.mem_range.2 hlt)
        rw [Array.getElem?_eq_getElem hlt] at h1
        simp only [Option.map_some, Option.getD_some, Array.all_eq_true_iff_forall_mem] at h1
        have h2 := h1 e he
        rw [hb] at h2
        have h3 : e.on < m := by simpa using h2
        have h4 : listed.getD e.on true = true := hless e.on h3
        have h5 : e.on < listed.size := by rw [R.inv.size]; omega
        simp [h5] at h4 ⊢
        exact h4
      rw [hr] at this
      cases this
    · obtain ⟨hun, oj, hoj, hall⟩ := mem_ready.1 hj
      have hjlt : j < ops.size := (Array.getElem?_eq_some_iff.1 hoj).1
      have hapj : ∀ h ∈ hs, ap1 md ops h j = true → ∀ oh, ops[h]? = some oh → oh.apart ops oj = true := fun h hh h1 oh hoh =>
        ap1_spec h1 hoh hoj (ready_waits hj ((R.mem h).2 (List.mem_append.2 (.inl hh))))
      have hmem' : ∀ i, (listed.setIfInBounds j true).getD i true = false ↔ i ≠ j ∧ i ∈ hs ++ ts := fun i => by
        by_cases hij : i = j
        · subst hij
          simp only [ne_eq, not_true_eq_false, false_and, iff_false]
          rw [getD_set_self (by rw [R.inv.size]; exact hjlt)]; simp
        · rw [getD_set_ne true (Ne.symm hij), R.mem]; simp [hij]
      rcases List.mem_append.1 ((R.mem j).1 hun) with hjh | hjt
      · obtain ⟨p, q, rfl⟩ := List.append_of_mem hjh
        have hnd := R.nd
        rw [List.append_assoc, List.cons_append, List.nodup_append] at hnd
        obtain ⟨n1, n2, n3⟩ := hnd
        rw [List.nodup_cons] at n2
        have apq := List.pairwise_append.1 R.ap
        have hjp : j ∉ p := fun h => n3 j h j List.mem_cons_self rfl
        obtain ⟨v, hy, hcv⟩ := canonH_move hselS hoj p a (fun h hh => hapj h (by simp [hh]) (apq.2.2 h hh j List.mem_cons_self)) hc
        have hjn : j < ops.size - 1 := by
          have h1 : ops.size - 1 ∈ ts := R.last
          have : j ≠ ops.size - 1 := fun e => n2.1 (List.mem_append.2 (.inr (e ▸ h1)))
          omega
        refine hy.wpOp hoj hS ?_
        cases f with
        | zero =>
          exfalso
          have h1 : 0 < ts.length := List.length_pos_of_mem R.last
          simp at hf
          omega
        | succ f =>
          refine wpAny_hu hsel hsk hck h0 hdn hQ f (p ++ q) ts _ _ w (by simp at hf ⊢; omega) ⟨R.inv.set hj hjn, fun i => ?_, ?_, fun i hi => R.lt i ?_, R.last, List.pairwise_append.2 ⟨apq.1, (List.pairwise_cons.1 apq.2.1).2, fun x hx y hy => apq.2.2 x hx y (List.mem_cons_of_mem _ hy)⟩, fun h hh => R.cr h ?_⟩ hS hcv
          · rw [hmem']
            simp only [List.mem_append, List.mem_cons]
            refine ⟨fun ⟨h1, h2⟩ => ?_, fun h => ⟨fun e => ?_, ?_⟩⟩
            · rcases h2 with (h2 | h2 | h2) | h2
              · exact .inl (.inl h2)
              · exact absurd h2 h1
              · exact .inl (.inr h2)
              · exact .inr h2
            · subst e
              rcases h with (h | h) | h
              · exact hjp h
              · exact n2.1 (List.mem_append.2 (.inl h))
              · exact n2.1 (List.mem_append.2 (.inr h))
            · rcases h with (h | h) | h
              · exact .inl (.inl h)
              · exact .inl (.inr (.inr h))
              · exact .inr h
          · rw [List.append_assoc, List.nodup_append]
            exact ⟨n1, n2.2, fun x hx y hy => n3 x hx y (List.mem_cons_of_mem _ hy)⟩
          · simp only [List.mem_append, List.mem_cons] at hi ⊢
            rcases hi with (h | h) | h
            · exact .inl (.inl h)
            · exact .inl (.inr (.inr h))
            · exact .inr h
          · simp only [List.mem_append, List.mem_cons] at hh ⊢
            rcases hh with h | h
            · exact .inl h
            · exact .inr (.inr h)
      · -- an operation that makes memory
        have hnd := R.nd
        rw [List.nodup_append] at hnd
        obtain ⟨n1, n2, n3⟩ := hnd
        have hjh : ∀ h ∈ hs, h ≠ j := fun h hh e => n3 h hh j hjt e
        have hready : j ∈ readyT md ops ts := by
          unfold readyT
          rw [List.mem_filter]
          refine ⟨hjt, ?_⟩
          rw [List.all_eq_true]
          intro u hu
          rw [ready_waits hj ((R.mem u).2 (List.mem_append.2 (.inr hu)))]
          rfl
        have hlen : (ts.erase j).length + 1 = ts.length := by
          have := List.length_erase_of_mem hjt
          have := List.length_pos_of_mem hjt
          omega
        have hme : ∀ x, x ∈ ts.erase j ↔ x ≠ j ∧ x ∈ ts := fun x => n2.mem_erase_iff
        have hcase : ts.length = 1 ∨ ∃ n, ts.length = n + 2 := by
          rcases Nat.lt_or_ge ts.length 2 with h | h
          · exact .inl (by omega)
          · exact .inr ⟨ts.length - 2, by omega⟩
        rcases hcase with hl1 | ⟨n, hl2⟩
        · have hjl : j = ops.size - 1 := by
            obtain ⟨x, hx⟩ := List.length_eq_one_iff.1 hl1
            have h1 := R.last
            rw [hx, List.mem_singleton] at h1 hjt
            rw [h1, hjt]
          have hnil : hs = [] := by
            cases hs with
            | nil => rfl
            | cons h hs =>
              exfalso
              have h1 : h ∈ h :: hs := List.mem_cons_self
              have h2 := (R.mem h).2 (List.mem_append.2 (.inl h1))
              have h3 : h < ops.size - 1 := by
                have := R.lt h (List.mem_append.2 (.inl h1))
                have := hjh h h1
                omega
              exact tail_waits hsk hck (by omega) R.inv _ h rfl h3 h2 j (by omega) hj
          subst hnil
          obtain rfl : f = 0 := by rw [hl1] at hf; simpa using hf
          rw [hl1] at hc
          refine wpOp_mono (fun a' w' hq => ⟨?_, hq⟩) (hc j hready)
          refine List.eq_nil_iff_forall_not_mem.2 fun i hi => ?_
          have := (hmem' i).1 (mem_ready.1 hi).1
          obtain ⟨x, hx⟩ := List.length_eq_one_iff.1 hl1
          rw [hx, List.mem_singleton] at hjt
          rw [hx] at this
          simp [hjt] at this
        · have hjn : j < ops.size - 1 := by
            have h1 := R.last
            have : j ≠ ops.size - 1 := fun e => by
              have hlen2 : 0 < (ts.erase j).length := by omega
              obtain ⟨x, hx⟩ := List.exists_mem_of_length_pos hlen2
              obtain ⟨x1, x2⟩ := (hme x).1 hx
              have h2 := (R.mem x).2 (List.mem_append.2 (.inr x2))
              have h3 : x < ops.size - 1 := by
                have := R.lt x (List.mem_append.2 (.inr x2))
                omega
              exact tail_waits hsk hck (by omega) R.inv _ x rfl h3 h2 j (by omega) hj
            omega
          have hc' := canonH_mono (L' := fun a' => wpOp P ops Q j (fun a' w' => S w' ∧ tailA P md ops Q S (n + 1) (ts.erase j) a' w') a' w) (fun a' h => by rw [hl2] at h; exact h j hready) hs a hc
          have h1 := canonH_push (K := fun a' w' => S w' ∧ tailA P md ops Q S (n + 1) (ts.erase j) a' w') hselS hoj hQ hs a (fun h hh => hapj h hh (R.cr h hh j hjt)) hc'
          cases f with
          | zero => exfalso; omega
          | succ f =>
            refine wpOp_mono (fun a' w' hk => ?_) h1
            obtain ⟨_, hS', _⟩ := canonH_some hs a' hk
            have hn1 : n + 1 = (ts.erase j).length := by omega
            refine wpAny_hu hsel hsk hck h0 hdn hQ f hs (ts.erase j) _ a' w' (by omega) ⟨R.inv.set hj hjn, fun i => ?_, ?_, fun i hi => R.lt i ?_, (hme _).2 ⟨by omega, R.last⟩, R.ap, fun h hh t ht => R.cr h hh t ((hme t).1 ht).2⟩ hS' (canonH_mono (fun _ h => hn1 ▸ h.2) hs a' hk)
            · rw [hmem', List.mem_append, List.mem_append, hme]
              refine ⟨fun ⟨h1, h2⟩ => ?_, fun h => ⟨fun e => ?_, ?_⟩⟩
              · rcases h2 with h2 | h2
                · exact .inl h2
                · exact .inr ⟨h1, h2⟩
              · subst e
                rcases h with h | h
                · exact hjh _ h rfl
                · exact h.1 rfl
              · rcases h with h | h
                · exact .inl h
                · exact .inr h.2
            · rw [List.nodup_append]
              exact ⟨n1, n2.erase j, fun x hx y hy => n3 x hx y ((hme y).1 hy).2⟩
            · rw [List.mem_append] at hi ⊢
              rcases hi with h | h
              · exact .inl h
              · exact .inr ((hme i).1 h).2
/-- The law. -/
theorem wp_region_hu {id : Nat} {a : Act} {w : World} {l : List Oper} (hs ts : List Nat) (S : World → Prop) (hm : P.follows .mixedOrders = true) (hB : huB .any l.toArray hs ts = true)
    (hS : S w.drew) (h : canonH P l.toArray S (fun a' => tailA P .any l.toArray (NoPanic Q) S ts.length ts a' w.drew) hs a) : (Code.region id l.toArray true).wp P Q a w := by
  simp only [huB, Bool.and_eq_true, decide_eq_true_eq] at hB
  obtain ⟨⟨⟨⟨⟨⟨⟨⟨⟨⟨⟨b1, b2⟩, b3⟩, b4⟩, b5⟩, b6⟩, bc⟩, b8⟩, b9⟩, b10⟩, b11⟩, b12⟩ := hB
  refine wp_region_noPanic (wp_region_any hm ?_)
  rw [List.all_eq_true] at b9 b10
  have hlt : ∀ i ∈ hs ++ ts, i < l.toArray.size := fun i hi => by simpa using b9 i hi
  obtain ⟨f, hf⟩ : ∃ f, l.toArray.size = f + 1 := ⟨l.toArray.size - 1, by omega⟩
  have R : RemU .any l.toArray hs ts (Array.replicate l.toArray.size false) := by
    refine ⟨⟨by simp, fun j oj _ hl => (by rw [getD_replicate_false] at hl; cases hl), fun t _ ht => getD_in (by simpa using ht) (getD_replicate_false _ _)⟩, fun i => ⟨fun hi => ?_, fun hi => ?_⟩, b8, hlt, by simpa using b11, pairB_spec _ b6, fun h hh t ht => by unfold crossB at bc; rw [List.all_eq_true] at bc; have := bc h hh; rw [List.all_eq_true] at this; exact this t ht⟩
    · rcases Nat.lt_or_ge i l.toArray.size with h | h
      · simpa using b10 i (List.mem_range.2 h)
      · rw [show (Array.replicate l.toArray.size false).getD i true = true by simp [Nat.not_lt.2 (by simpa using h)]] at hi; cases hi
    · exact getD_in (by simpa using hlt i hi) (getD_replicate_false _ _)
  have := wpAny_hu (P := P) (Q := NoPanic Q) (S := S) b1 b2 b3 b4 b5 (fun _ _ _ _ _ h => h) f hs ts _ a w.drew (by omega) R hS h
  rw [← hf] at this
  exact this
theorem wpOp_of_list {t : Nat} {o : Oper} {a : Act} {w : World} {K : Act → World → Prop} (ho : ops[t]? = some o) (h : wpList P ops (Thn Q K) [o] a w) : wpOp P ops Q t K a w := by
  unfold wpOp
  simp only [ho]
  unfold wpList at h
  split
  · rename_i hw
    rw [if_pos hw] at h
    rcases h with h | ⟨h1, b, w', h2⟩
    · refine .inl ?_
      unfold Oper.wp at *
      generalize (execOp a.eval o).run P w = r at *
      cases r with
      | ok n w' => cases n <;> first | exact h | exact Calls.mono h (fun e w'' he => by cases e <;> exact he) | exact Rows.mono h (fun u w'' he => he)
      | halt x w' => cases x <;> exact h
    · exact .inr ⟨h1, b, w', h2⟩
  · rename_i hw
    rw [if_neg hw] at h
    exact h
theorem tailA_one {n t : Nat} {ts ts' : List Nat} {o : Oper} {a : Act} {w : World} (hr : readyT md ops ts = [t]) (he : ts.erase t = ts') (ho : ops[t]? = some o)
    (h : wpList P ops (Thn Q fun a' w' => S w' ∧ tailA P md ops Q S (n + 1) ts' a' w') [o] a w) : tailA P md ops Q S (n + 2) ts a w := by
  intro u hu
  rw [hr, List.mem_singleton] at hu
  subst hu
  rw [he]
  exact wpOp_of_list ho h
theorem tailA_two {n t t' : Nat} {ts ts1 ts2 : List Nat} {o o' : Oper} {a : Act} {w : World} (hr : readyT md ops ts = [t, t']) (he : ts.erase t = ts1) (he' : ts.erase t' = ts2) (ho : ops[t]? = some o) (ho' : ops[t']? = some o')
    (h : wpList P ops (Thn Q fun a' w' => S w' ∧ tailA P md ops Q S (n + 1) ts1 a' w') [o] a w) (h' : wpList P ops (Thn Q fun a' w' => S w' ∧ tailA P md ops Q S (n + 1) ts2 a' w') [o'] a w) : tailA P md ops Q S (n + 2) ts a w := by
  intro u hu
  rw [hr] at hu
  simp only [List.mem_cons, List.not_mem_nil, or_false] at hu
  rcases hu with rfl | rfl
  · rw [he]; exact wpOp_of_list ho h
  · rw [he']; exact wpOp_of_list ho' h'
theorem tailA_last {t : Nat} {ts : List Nat} {o : Oper} {a : Act} {w : World} (hr : readyT md ops ts = [t]) (ho : ops[t]? = some o) (h : wpList P ops Q [o] a w) : tailA P md ops Q S 1 ts a w := by
  intro u hu
  rw [hr, List.mem_singleton] at hu
  subst hu
  exact tailW_last (S := fun _ => True) ho h
end
end Go.Proofs.YtnlhllleipemlaaGreatDoor
