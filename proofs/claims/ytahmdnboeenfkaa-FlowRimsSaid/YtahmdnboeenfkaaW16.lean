/- Walks: Walk, on both sides. -/
import Derived.Test.YtahmdnboeenfkaaW15
import Derived.Test.YtahmdnboeenfkaaW14
namespace Go.Proofs.Ytahmdnboeenfkaa
open Go.RowKit Go.Sort

theorem Walk_any (v : FV) (A : Option Addr) (n c : Nat) (l : List Plc) (w : World) (hv : v.In w) (hl : Reads w w.heap.size 2 A n (plcs l)) (hn : n ≤ 9223372036854775807) :
    Calls Try.prog 29 #[v.val, .slice A n c] w fun r w' => r = .returned (.tuple #[.int .i64 (walkR v.f l).1, .int .i64 (walkR v.f l).2]) ∧ Below w.heap.size w w' := by
  have hlen := hl.1
  rw [plcs_length] at hlen
  have l1 : n ≤ l.length := by omega
  have l2 : l.length ≤ n := by omega
  clear hlen
  have HL := Lib.hid hl
  have HVv := Lib.hid hv
  clear hv hl
  go_enter Try.func29, Try.ntmps29
  dsimp only [FV.val, eval_]
  go_wp2_with fail
  refine (validate_any v _ (HVv.out.below (belowA _ _))).mono ?_
  rintro r w1 ⟨rfl, hb1⟩
  have b0 := (Box.new _ _ _).below hb1
  have hw1 := Lib.hid (below1 _ hb1)
  clear hb1
  by_cases hz : valid v.f = 0
  case neg =>
    have hz' : (valid v.f != 0) = true := by simpa using hz
    have HR := Lib.hid (walkR_bad (l := l) hz)
    clear hz
    go_wp2_with fail
    go_ret2
    exact ⟨by rw [HR.out]; rfl, hw1.out⟩
  have ok := Lib.hid (okf_of_valid hz)
  have hz' : (valid v.f != 0) = false := by simpa using hz
  have HZ := Lib.hid hz
  clear hz
  by_cases hlong : 1000 < n
  · have HR := Lib.hid (walkR_long (l := l) HZ.out (by omega))
    go_wp2_with fail
    go_ret2
    exact ⟨by rw [HR.out]; rfl, hw1.out⟩
  have HNL := Lib.hid (show ¬ 1000 < l.length by omega)
  go_wp2_with fail
  have HV1 := Lib.hid (HVv.out.below hw1.out)
  have HL1 := Lib.hid (HL.out.on hw1.out)
  go_loopw [23] (fun i wr => ∃ k : Nat, k ≤ n ∧ i = .int .i64 k ∧ (∀ j q, j < k → l[j]? = some q → isPl v.f q = true) ∧ Below w1.heap.size w1 wr) (fun i _ => n - (intOf i).toNat)
  case atStart => exact ⟨0, by omega, rfl, fun j q hj => absurd hj (by omega), Below.refl _ _⟩
  case round =>
    obtain ⟨k, hk, rfl, hok0, hb0⟩ := hrel
    have hok := Lib.hid hok0
    have hbel := Lib.hid hb0
    have b2 := b0.below hb0
    have HLr := Lib.hid (HL1.out.on hb0)
    clear hok0 hb0
    by_cases hlt : k < n
    · obtain ⟨ad, q, e1, hbk, hx0, d0, d1⟩ := plat HLr.out (k := k) (by omega)
      have X := fun w => ix45 (c := c) e1 hlt w
      have hx := Lib.hid hx0
      clear hx0 e1
      have c0 := b2.at
      have c1 := fun o => (b2.alloc o).at
      go_wp2_with fail
      refine (has_any v q.1 q.2 _).mono ?_
      rintro r w4 ⟨rfl, hb4⟩
      have hbel4 := Lib.hid (below_trans' hbel.out (below_trans' (belowA _ _) hb4))
      clear hb4 c0 c1 d0 d1 X
      cases hp : isP v.f.W v.f.H q.1 q.2
      · have HR := Lib.hid (walkR_off HZ.out HNL.out (l := l) (fun h => by have := h q (List.mem_of_getElem? hx.out); unfold isPl at this; rw [hp] at this; cases this))
        clear hp
        go_wp2_with fail
        go_ret2
        exact ⟨by rw [HR.out]; rfl, below_trans' hw1.out hbel4.out⟩
      · have HP := Lib.hid hp
        clear hp
        go_wp2_with fail
        go_roundw
        case rel =>
          refine ⟨k + 1, by omega, by go_num, fun j y hj hy => ?_, hbel4.out⟩
          rcases Nat.lt_or_ge j k with h | h
          · exact hok.out j y h hy
          · obtain rfl : j = k := by omega
            have := hx.out.symm.trans hy
            obtain rfl := Option.some.inj this
            exact HP.out
        case measure => simp [intOf]; omega
    · have hwall := Lib.hid (show wall v.f l from fun q hq => by
        obtain ⟨j, hj, rfl⟩ := List.getElem_of_mem hq
        exact hok.out j _ (by omega) (List.getElem?_eq_getElem hj))
      clear hok
      go_wp2_with fail
      obtain ⟨wo, rfl⟩ : ∃ wo : World, wo = wr := ⟨_, rfl⟩
      have HV2 := Lib.hid (HV1.out.below hbel.out)
      go_loopw [9, 10] (fun s i wr => ∃ k : Nat, (k ≤ n ∨ k ≤ 1) ∧ 1 ≤ k ∧ i = .int .i64 k ∧ s = .int .i64 (wsum v.f l k) ∧ (∀ j, j < k → 0 < j → (stp v.f l j).2 = true) ∧ Below wo.heap.size wo wr) (fun _ i _ => n - (intOf i).toNat)
      case atStart => exact ⟨1, by omega, by omega, rfl, by simp [wsum], fun j hj h0 => absurd hj (by omega), Below.refl _ _⟩
      case round =>
        clear hk hlt
        obtain ⟨k, hk, hk1, rfl, rfl, hok0, hb0⟩ := hrel
        have hok := Lib.hid hok0
        have hbr := Lib.hid hb0
        have b3 := b2.below hb0
        have HLs := Lib.hid (HLr.out.on hb0)
        have HV3 := Lib.hid (HV2.out.below hb0)
        clear hok0 hb0
        by_cases hlt : k < n
        · obtain ⟨ad, p, e1, hbk, hx0, d0, d1⟩ := plat HLs.out (k := k - 1) (by omega)
          obtain ⟨ad', q, e1', hbk', hy0, d0', d1'⟩ := plat HLs.out (k := k) (by omega)
          obtain rfl : ad = ad' := Option.some.inj (e1.symm.trans e1')
          have X := fun w => ix45 (c := c) e1 hlt w
          have X' := fun w => ix45p (c := c) e1 hlt (by omega) w
          have hpp := Lib.hid (hwall.out p (List.mem_of_getElem? hx0))
          have hqq := Lib.hid (hwall.out q (List.mem_of_getElem? hy0))
          have hst := Lib.hid (wok_stp (f := v.f) hx0 hy0)
          have hsb := wsum_bd v.f l k
          have hsd := stepF_bd v.f p q
          clear hx0 hy0 e1 e1'
          have c2 := b3.rg
          have f0 := rg_cell d0
          have f1 := rg_cell d1
          have f0' := rg_cell d0'
          have f1' := rg_cell d1'
          clear d0 d1 d0' d1'
          go_wp2_with fail
          refine wp_region_qb mixed (by kernel_rfl) ?_
          repeat (go_big_quiet_step (exact rg_call (fun w1 hb => between_any v p q w1 (HV3.out.below hb) ok.out hpp.out hqq.out) _ _))
          refine wpQuiet_nil ?_
          intro w4 hb4
          have hbel4 := Lib.hid (below_trans' hbr.out hb4)
          clear hb4 c2 f0 f1 f0' f1' X X'
          cases hp : (stepF v.f p q).2
          · have HR := Lib.hid (walkR_broken HZ.out HNL.out (l := l) hwall.out (fun h => by have := h k (by omega) (by omega); rw [hst.out, hp] at this; cases this))
            clear hp
            go_wp2_with fail
            go_ret2
            exact ⟨by rw [HR.out]; rfl, below_trans' hw1.out (below_trans' hbel.out hbel4.out)⟩
          · have HP := Lib.hid hp
            clear hp
            go_wp2_with fail
            go_roundw
            case rel =>
              refine ⟨k + 1, by omega, by omega, by go_num, ?_, fun j hj h0 => ?_, hbel4.out⟩
              · rw [wsum, if_neg (by omega), hst.out]
              · rcases Nat.lt_or_ge j k with h | h
                · exact hok.out j h h0
                · obtain rfl : j = k := by omega
                  rw [hst.out, HP.out]
            case measure => simp [intOf]; omega
        · have hs := Lib.hid (walkR_sum HZ.out HNL.out hwall.out (fun j hj h0 => hok.out j (by omega) h0))
          have hk2 := Lib.hid (show wsum v.f l k = wsum v.f l l.length by
            rcases Nat.lt_or_ge l.length k with h | h
            · obtain rfl : k = 1 := by omega
              have : l.length = 0 := by omega
              rw [this]; simp [wsum]
            · rw [show k = l.length by omega])
          clear hok
          go_wp2_with fail
          go_ret2
          exact ⟨by rw [hs.out, ← hk2.out]; rfl, below_trans' hw1.out (below_trans' hbel.out hbr.out)⟩
end Go.Proofs.Ytahmdnboeenfkaa
