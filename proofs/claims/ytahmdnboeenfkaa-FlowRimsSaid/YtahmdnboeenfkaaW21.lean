/- Walks: the error of a region, on both sides. -/
import Derived.Test.YtahmdnboeenfkaaW18
import Derived.Test.YtahmdnboeenfkaaPl6
namespace Go.Proofs.Ytahmdnboeenfkaa
open Go.RowKit Go.Sort

theorem regE_bad {f : Fld} {l : List Plc} (h : valid f ≠ 0) : regE f l = valid f := by unfold regE; rw [if_pos h]
theorem regE_off {f : Fld} {l : List Plc} (h : valid f = 0) {q : Plc} (hq : q ∈ l) (h2 : isS f.W f.H q.1 q.2 = false) : regE f l = 5 := by
  unfold regE; rw [if_neg (by simpa using h), if_pos]; intro g; have := g q hq; rw [h2] at this; cases this
theorem regE_twice {f : Fld} {l : List Plc} (h : valid f = 0) (h2 : ∀ q ∈ l, isS f.W f.H q.1 q.2 = true) (h3 : ¬ l.Nodup) : regE f l = 7 := by
  unfold regE; rw [if_neg (by simpa using h), if_neg (by simpa using h2), if_pos h3]
theorem regE_ok {f : Fld} {l : List Plc} (h : valid f = 0) (h2 : ∀ q ∈ l, isS f.W f.H q.1 q.2 = true) (h3 : l.Nodup) : regE f l = 0 := by
  unfold regE; rw [if_neg (by simpa using h), if_neg (by simpa using h2), if_neg (by simpa using h3)]
theorem regE_zero {f : Fld} {l : List Plc} (h : regE f l = 0) : valid f = 0 ∧ (∀ q ∈ l, isS f.W f.H q.1 q.2 = true) ∧ l.Nodup := by
  by_cases h1 : valid f = 0
  · by_cases h2 : ∀ q ∈ l, isS f.W f.H q.1 q.2 = true
    · by_cases h3 : l.Nodup
      · exact ⟨h1, h2, h3⟩
      · rw [regE_twice h1 h2 h3] at h; cases h
    · unfold regE at h; rw [if_neg (by simpa using h1), if_pos h2] at h; cases h
  · rw [regE_bad h1] at h; exact absurd h h1
theorem nodup_take_succ {l : List Plc} {k : Nat} {q : Plc} (h : l[k]? = some q) (hn : (l.take k).Nodup) (hq : q ∉ l.take k) : (l.take (k + 1)).Nodup := by
  obtain ⟨hk, rfl⟩ := List.getElem?_eq_some_iff.1 h
  rw [List.take_succ_eq_append_getElem hk, List.nodup_append]
  exact ⟨hn, by simp, fun a ha b hb e => by simp at hb; subst e; subst hb; exact hq ha⟩
theorem not_nodup {l : List Plc} {k : Nat} {q : Plc} (h : l[k]? = some q) (hq : q ∈ l.take k) : ¬ l.Nodup := by
  intro hn
  obtain ⟨hk, rfl⟩ := List.getElem?_eq_some_iff.1 h
  obtain ⟨j, hj, e⟩ := List.getElem_of_mem hq
  rw [List.length_take] at hj
  rw [List.getElem_take] at e
  exact absurd e ((List.pairwise_iff_getElem.1 hn) j k (by omega) hk (by omega))
theorem plcs_take (l : List Plc) (k : Nat) : (plcs l).take (k * 2) = plcs (l.take k) := by
  induction l generalizing k with
  | nil => simp [plcs]
  | cons a l ih =>
    cases k with
    | zero => simp [plcs]
    | succ k =>
      show (pcells a ++ plcs l).take _ = pcells a ++ plcs (l.take k)
      rw [← ih, show (k + 1) * 2 = (pcells a).length + k * 2 by simp [pcells]; omega, List.take_length_add_append]
theorem plcs_drop (l : List Plc) (k : Nat) : (plcs l).drop (k * 2) = plcs (l.drop k) := by
  induction l generalizing k with
  | nil => simp [plcs]
  | cons a l ih =>
    cases k with
    | zero => simp [plcs]
    | succ k =>
      show (pcells a ++ plcs l).drop _ = plcs (l.drop k)
      rw [← ih, show (k + 1) * 2 = (pcells a).length + k * 2 by simp [pcells]; omega, List.drop_append, List.drop_eq_nil_of_le (by omega), List.nil_append]
      congr 1; omega

theorem squares_any (v : FV) (A : Option Addr) (n c : Nat) (l : List Plc) (w : World) (hv : v.In w) (hl : Reads w w.heap.size 2 A n (plcs l)) (hn : n ≤ 9223372036854775807) (hc : n ≤ c) :
    Calls Try.prog 79 #[v.val, .slice A n c] w fun r w' => r = .returned (.int .i64 (regE v.f l)) ∧ Below w.heap.size w w' := by
  have hlen := hl.1
  rw [plcs_length] at hlen
  have l1 : n ≤ l.length := by omega
  have l2 : l.length ≤ n := by omega
  clear hlen
  have HL := Lib.hid hl
  have HVv := Lib.hid hv
  clear hv hl
  go_enter Try.func79, Try.ntmps79
  dsimp only [FV.val, eval_]
  go_wp2_with fail
  refine (validate_any v _ (HVv.out.below (belowA _ _))).mono ?_
  rintro r w1 ⟨rfl, hb1⟩
  have b0 := (Box.new _ _ _).below hb1
  have hw1 := Lib.hid (below1 _ hb1)
  clear hb1
  by_cases hz : valid v.f = 0
  case neg =>
    have hz' : (valid v.f != 0) = true := by simpa using hz
    have HR := Lib.hid (regE_bad (l := l) hz)
    clear hz
    go_wp2_with fail
    go_ret
    exact ⟨by rw [HR.out]; rfl, hw1.out⟩
  have ok := Lib.hid (okf_of_valid hz)
  have hz' : (valid v.f != 0) = false := by simpa using hz
  have HZ := Lib.hid hz
  clear hz
  go_wp2_with fail
  have HV1 := Lib.hid (HVv.out.below hw1.out)
  have HL1 := Lib.hid (HL.out.on hw1.out)
  go_loopw [17] (fun i wr => ∃ k : Nat, k ≤ n ∧ i = .int .i64 k ∧ (∀ j q, j < k → l[j]? = some q → isS v.f.W v.f.H q.1 q.2 = true) ∧ Below w1.heap.size w1 wr) (fun i _ => n - (intOf i).toNat)
  case atStart => exact ⟨0, by omega, rfl, fun j q hj => absurd hj (by omega), Below.refl _ _⟩
  case round =>
    obtain ⟨k, hk, rfl, hok0, hb0⟩ := hrel
    have hok := Lib.hid hok0
    have hbel := Lib.hid hb0
    have b2 := b0.below hb0
    have HLr := Lib.hid (HL1.out.on hb0)
    clear hok0 hb0
    by_cases hlt : k < n
    · obtain ⟨ad, q, e1, hbk, hx0, d0, d1⟩ := plat HLr.out (k := k) (by omega)
      have X := fun w => ix45 (c := c) e1 hlt w
      have hx := Lib.hid hx0
      clear hx0 e1
      have c0 := b2.at
      have c1 := fun o => (b2.alloc o).at
      go_wp2_with fail
      refine (hasSquare_any v q.1 q.2 _ ok.out.w1 (by have := ok.out.w2; omega) ok.out.h1 (by have := ok.out.h2; omega)).mono ?_
      rintro r w4 ⟨rfl, hb4⟩
      have hbel4 := Lib.hid (below_trans' hbel.out (below_trans' (belowA _ _) hb4))
      clear hb4 c0 c1 d0 d1 X
      cases hp : isS v.f.W v.f.H q.1 q.2
      · have HR := Lib.hid (regE_off HZ.out (List.mem_of_getElem? hx.out) hp)
        clear hp
        go_wp2_with fail
        go_ret
        exact ⟨by rw [HR.out]; rfl, below_trans' hw1.out hbel4.out⟩
      · have HP := Lib.hid hp
        clear hp
        go_wp2_with fail
        go_roundw
        case rel =>
          refine ⟨k + 1, by omega, by go_num, fun j y hj hy => ?_, hbel4.out⟩
          rcases Nat.lt_or_ge j k with h | h
          · exact hok.out j y h hy
          · obtain rfl : j = k := by omega
            have := hx.out.symm.trans hy
            obtain rfl := Option.some.inj this
            exact HP.out
        case measure => simp [intOf]; omega
    · have hwall := Lib.hid (show ∀ q ∈ l, isS v.f.W v.f.H q.1 q.2 = true from fun q hq => by
        obtain ⟨j, hj, rfl⟩ := List.getElem_of_mem hq
        exact hok.out j _ (by omega) (List.getElem?_eq_getElem hj))
      clear hok
      go_wp2_with fail
      obtain ⟨wo, rfl⟩ : ∃ wo : World, wo = wr := ⟨_, rfl⟩
      have HV2 := Lib.hid (HV1.out.below hbel.out)
      go_loopw [31] (fun i wr => ∃ k : Nat, k ≤ n ∧ i = .int .i64 k ∧ (l.take k).Nodup ∧ Below wo.heap.size wo wr) (fun i _ => n - (intOf i).toNat)
      case atStart => exact ⟨0, by omega, rfl, by simp, Below.refl _ _⟩
      case round =>
        clear hk hlt
        obtain ⟨k, hk, rfl, hok0, hb0⟩ := hrel
        have hok := Lib.hid hok0
        have hbr := Lib.hid hb0
        have HLs := Lib.hid (HLr.out.on hb0)
        clear hok0 hb0
        by_cases hlt : k < n
        · obtain ⟨ad, q, e1, hbk, hx0, d0, d1⟩ := plat HLs.out (k := k) (by omega)
          have X := fun w => ix45 (c := c) e1 hlt w
          have hx := Lib.hid hx0
          clear hx0 e1
          go_wp2_with fail
          refine wp_gen (fun w2 => Box w2 wr.heap.size #[.int .i64 q.1, .int .i64 q.2] ∧ Below wr.heap.size wr w2) ⟨Box.new _ _ _, belowA _ _⟩ ?_
          rintro w2 ⟨bq, hb2⟩
          have c2 := bq.rg
          have HLt := Lib.hid ((HLs.out.on hb2).take hk)
          have hbel2 := Lib.hid (below_trans' hbr.out hb2)
          clear hb2 d0 d1 X
          have hkc : (k : Int) ≤ c := by omega
          have q0 : ∀ w4, Below w2.heap.size w2 w4 → Calls Try.prog 76 #[.slice A k c, pval q] w4 fun r w' => r = .returned (.bool (decide (q ∈ l.take k))) ∧ Below w4.heap.size w4 w' := fun w4 hb => contains_any A k c (l.take k) q w4 (by have := HLt.out.on hb; rwa [plcs_take] at this) (by omega)
          have Q0 := Lib.hid q0
          clear q0
          refine wp_region_qb mixed (by kernel_rfl) ?_
          repeat (go_big_quiet_step (exact rg_call Q0.out _ _))
          refine wpQuiet_nil ?_
          intro w4 hb4
          have hbel4 := Lib.hid (below_trans' hbel2.out hb4)
          clear hb4 c2
          cases hd : decide (q ∈ l.take k)
          · have HD := Lib.hid (of_decide_eq_false hd)
            clear hd
            go_wp2_with fail
            go_roundw
            case rel => exact ⟨k + 1, by omega, by go_num, nodup_take_succ hx.out hok.out HD.out, hbel4.out⟩
            case measure => simp [intOf]; omega
          · have HR := Lib.hid (regE_twice HZ.out hwall.out (not_nodup hx.out (of_decide_eq_true hd)))
            clear hd
            go_wp2_with fail
            go_ret
            exact ⟨by rw [HR.out]; rfl, below_trans' hw1.out (below_trans' hbel.out hbel4.out)⟩
        · have HR := Lib.hid (regE_ok HZ.out hwall.out (by have := hok.out; rwa [List.take_of_length_le (by omega)] at this))
          go_wp2_with fail
          go_ret
          exact ⟨by rw [HR.out]; rfl, below_trans' hw1.out (below_trans' hbel.out hbr.out)⟩

theorem region_any (v : FV) (A : Option Addr) (n c : Nat) (l : List Plc) (w : World) (hv : v.In w) (hl : Reads w w.heap.size 2 A n (plcs l)) (hn : n ≤ 9223372036854775807) :
    Calls Try.prog 80 #[v.val, .slice A n c] w fun r w' => r = .returned (.int .i64 (regE v.f l)) ∧ Below w.heap.size w w' := by
  have hlen := hl.1
  rw [plcs_length] at hlen
  have l1 : n ≤ l.length := by omega
  have l2 : l.length ≤ n := by omega
  clear hlen
  have HL := Lib.hid hl
  have HVv := Lib.hid hv
  clear hv hl
  go_enter Try.func80, Try.ntmps80
  dsimp only [FV.val, eval_]
  go_wp2_with fail
  refine (refValidate_any v _ (HVv.out.below (belowA _ _))).mono ?_
  rintro r w1 ⟨rfl, hb1⟩
  have b0 := (Box.new _ _ _).below hb1
  have hw1 := Lib.hid (below1 _ hb1)
  clear hb1
  by_cases hz : valid v.f = 0
  case neg =>
    have hz' : (valid v.f != 0) = true := by simpa using hz
    have HR := Lib.hid (regE_bad (l := l) hz)
    clear hz
    go_wp2_with fail
    go_ret
    exact ⟨by rw [HR.out]; rfl, hw1.out⟩
  have ok := Lib.hid (okf_of_valid hz)
  have hz' : (valid v.f != 0) = false := by simpa using hz
  have HZ := Lib.hid hz
  clear hz
  go_wp2_with fail
  have HV1 := Lib.hid (HVv.out.below hw1.out)
  have HL1 := Lib.hid (HL.out.on hw1.out)
  go_loopw [6] (fun i wr => ∃ k : Nat, k ≤ n ∧ i = .int .i64 k ∧ (∀ j q, j < k → l[j]? = some q → isS v.f.W v.f.H q.1 q.2 = true) ∧ Below w1.heap.size w1 wr) (fun i _ => n - (intOf i).toNat)
  case atStart => exact ⟨0, by omega, rfl, fun j q hj => absurd hj (by omega), Below.refl _ _⟩
  case round =>
    obtain ⟨k, hk, rfl, hok0, hb0⟩ := hrel
    have hok := Lib.hid hok0
    have hbel := Lib.hid hb0
    have b2 := b0.below hb0
    have HLr := Lib.hid (HL1.out.on hb0)
    clear hok0 hb0
    by_cases hlt : k < n
    · obtain ⟨ad, q, e1, hbk, hx0, d0, d1⟩ := plat HLr.out (k := k) (by omega)
      have X := fun w => ix45 (c := c) e1 hlt w
      have hx := Lib.hid hx0
      clear hx0 e1
      go_wp2_with fail
      have c2 := b2.rg
      have f0 := rg_cell d0
      have f1 := rg_cell d1
      clear d0 d1
      refine wp_region_qb mixed (by kernel_rfl) ?_
      repeat (go_big_quiet_step (exact rg_call (fun w1 hb => isSquare_any v q.1 q.2 w1 ok.out.w1 ok.out.w2 ok.out.h1 ok.out.h2) _ _))
      refine wpQuiet_nil ?_
      intro w4 hb4
      have hbel4 := Lib.hid (below_trans' hbel.out hb4)
      clear hb4 c2 f0 f1 X
      cases hp : isS v.f.W v.f.H q.1 q.2
      · have HR := Lib.hid (regE_off HZ.out (List.mem_of_getElem? hx.out) hp)
        clear hp
        go_wp2_with fail
        go_ret
        exact ⟨by rw [HR.out]; rfl, below_trans' hw1.out hbel4.out⟩
      · have HP := Lib.hid hp
        clear hp
        go_wp2_with fail
        go_roundw
        case rel =>
          refine ⟨k + 1, by omega, by go_num, fun j y hj hy => ?_, hbel4.out⟩
          rcases Nat.lt_or_ge j k with h | h
          · exact hok.out j y h hy
          · obtain rfl : j = k := by omega
            have := hx.out.symm.trans hy
            obtain rfl := Option.some.inj this
            exact HP.out
        case measure => simp [intOf]; omega
    · have hwall := Lib.hid (show ∀ q ∈ l, isS v.f.W v.f.H q.1 q.2 = true from fun q hq => by
        obtain ⟨j, hj, rfl⟩ := List.getElem_of_mem hq
        exact hok.out j _ (by omega) (List.getElem?_eq_getElem hj))
      clear hok
      go_wp2_with fail
      obtain ⟨wo, rfl⟩ : ∃ wo : World, wo = wr := ⟨_, rfl⟩
      go_loopw [7] (fun i wr => ∃ k : Nat, k ≤ n ∧ i = .int .i64 k ∧ (l.take k).Nodup ∧ Below wo.heap.size wo wr) (fun i _ => n - (intOf i).toNat)
      case atStart => exact ⟨0, by omega, rfl, by simp, Below.refl _ _⟩
      case round =>
        clear hk hlt
        obtain ⟨k, hk, rfl, hok0, hb0⟩ := hrel
        have hok := Lib.hid hok0
        have hbr := Lib.hid hb0
        have HLs := Lib.hid (HLr.out.on hb0)
        clear hok0 hb0
        by_cases hlt : k < n
        · obtain ⟨ad, q, e1, hbk, hx0, d0, d1⟩ := plat HLs.out (k := k) (by omega)
          have X := fun w => ix45 (c := c) e1 hlt w
          have hx := Lib.hid hx0
          have E1 := Lib.hid e1
          have D0 := Lib.hid d0
          have D1 := Lib.hid d1
          clear hx0 e1 d0 d1
          go_wp2_with fail
          obtain ⟨wi, rfl⟩ : ∃ wi : World, wi = wr := ⟨_, rfl⟩
          go_loopw [8] (fun i wr => ∃ j : Nat, j ≤ k ∧ i = .int .i64 j ∧ q ∉ l.take j ∧ Below wi.heap.size wi wr) (fun i _ => k - (intOf i).toNat)
          case atStart => exact ⟨0, by omega, rfl, by simp, Below.refl _ _⟩
          case round =>
            obtain ⟨j, hj, rfl, hnq0, hb0⟩ := hrel
            have hnq := Lib.hid hnq0
            have hbi := Lib.hid hb0
            clear hnq0
            by_cases hjk : j < k
            · obtain ⟨ad', q', e1', hbk', hy0, d0', d1'⟩ := plat (HLs.out.on hb0) (k := j) (by omega)
              obtain ⟨ad2, q2, e12, hbk2, hx2, d02, d12⟩ := plat (HLs.out.on hb0) (k := k) (by omega)
              obtain rfl : ad2 = ad' := Option.some.inj (e12.symm.trans e1')
              obtain rfl : q2 = q := Option.some.inj (hx2.symm.trans hx.out)
              have X' := fun w => ix45 (c := c) e1' (show j < n by omega) w
              have X2 := fun w => ix45 (c := c) e12 hlt w
              have hy := Lib.hid hy0
              clear hy0 e1' e12 hx2 X hb0
              have q1 := eqg35 .eql
              have q2' := eql35 q2 q'
              go_wp2_with fail
              go_quiet (fail)
              cases hq : eqP q2 q'
              · have HQ := Lib.hid (eqP_not.1 hq)
                go_wp2_with fail
                go_roundw
                case rel =>
                  refine ⟨j + 1, by omega, by go_num, fun hm => ?_, below_drewN' hbi.out _⟩
                  obtain ⟨hjl, he⟩ := List.getElem?_eq_some_iff.1 hy.out
                  rw [List.take_succ_eq_append_getElem hjl, List.mem_append] at hm
                  rcases hm with hm | hm
                  · exact hnq.out hm
                  · simp at hm; rw [he] at hm; exact HQ.out hm
                case measure => simp [intOf]; omega
              · have HR := Lib.hid (regE_twice HZ.out hwall.out (not_nodup hx.out (by
                  rw [eqP_iff.1 hq]
                  obtain ⟨hjl, he⟩ := List.getElem?_eq_some_iff.1 hy.out
                  exact List.mem_take_iff_getElem.2 ⟨j, by omega, he⟩)))
                clear hq
                go_wp2_with fail
                go_ret
                exact ⟨by rw [HR.out]; rfl, below_trans' hw1.out (below_trans' hbel.out (below_trans' hbr.out (below_drewN' hbi.out _)))⟩
            · clear hb0
              go_wp2_with fail
              go_roundw
              case rel => exact ⟨k + 1, by omega, by go_num, nodup_take_succ hx.out hok.out (by have := hnq.out; rwa [show j = k by omega] at this), below_trans' hbr.out hbi.out⟩
              case measure => simp [intOf]; omega
        · have HR := Lib.hid (regE_ok HZ.out hwall.out (by have := hok.out; rwa [List.take_of_length_le (by omega)] at this))
          go_wp2_with fail
          go_ret
          exact ⟨by rw [HR.out]; rfl, below_trans' hw1.out (below_trans' hbel.out hbr.out)⟩
end Go.Proofs.Ytahmdnboeenfkaa
