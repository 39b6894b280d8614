/- Regions of squares: inside and rim. -/
import Derived.Test.YtahmdnboeenfkaaGc
import Derived.Test.YtahmdnboeenfkaaPl6
namespace Go.Proofs.Ytahmdnboeenfkaa
open Go.RowKit Go.Sort

theorem regE_bad {f : Fld} {l : List Plc} (h : valid f ≠ 0) : regE f l = valid f := by unfold regE; rw [if_pos h]
theorem regE_off {f : Fld} {l : List Plc} (h : valid f = 0) {q : Plc} (hq : q ∈ l) (h2 : isS f.W f.H q.1 q.2 = false) : regE f l = 5 := by
  unfold regE; rw [if_neg (by simpa using h), if_pos]; intro g; have := g q hq; rw [h2] at this; cases this
theorem regE_twice {f : Fld} {l : List Plc} (h : valid f = 0) (h2 : ∀ q ∈ l, isS f.W f.H q.1 q.2 = true) (h3 : ¬ l.Nodup) : regE f l = 7 := by
  unfold regE; rw [if_neg (by simpa using h), if_neg (by simpa using h2), if_pos h3]
theorem regE_ok {f : Fld} {l : List Plc} (h : valid f = 0) (h2 : ∀ q ∈ l, isS f.W f.H q.1 q.2 = true) (h3 : l.Nodup) : regE f l = 0 := by
  unfold regE; rw [if_neg (by simpa using h), if_neg (by simpa using h2), if_neg (by simpa using h3)]
theorem regE_zero {f : Fld} {l : List Plc} (h : regE f l = 0) : valid f = 0 ∧ (∀ q ∈ l, isS f.W f.H q.1 q.2 = true) ∧ l.Nodup := by
  by_cases h1 : valid f = 0
  · by_cases h2 : ∀ q ∈ l, isS f.W f.H q.1 q.2 = true
    · by_cases h3 : l.Nodup
      · exact ⟨h1, h2, h3⟩
      · rw [regE_twice h1 h2 h3] at h; cases h
    · unfold regE at h; rw [if_neg (by simpa using h1), if_pos h2] at h; cases h
  · rw [regE_bad h1] at h; exact absurd h h1
theorem nodup_take_succ {l : List Plc} {k : Nat} {q : Plc} (h : l[k]? = some q) (hn : (l.take k).Nodup) (hq : q ∉ l.take k) : (l.take (k + 1)).Nodup := by
  obtain ⟨hk, rfl⟩ := List.getElem?_eq_some_iff.1 h
  rw [List.take_succ_eq_append_getElem hk, List.nodup_append]
  exact ⟨hn, by simp, fun a ha b hb e => by simp at hb; subst e; subst hb; exact hq ha⟩
theorem not_nodup {l : List Plc} {k : Nat} {q : Plc} (h : l[k]? = some q) (hq : q ∈ l.take k) : ¬ l.Nodup := by
  intro hn
  obtain ⟨hk, rfl⟩ := List.getElem?_eq_some_iff.1 h
  obtain ⟨j, hj, e⟩ := List.getElem_of_mem hq
  rw [List.length_take] at hj
  rw [List.getElem_take] at e
  exact absurd e ((List.pairwise_iff_getElem.1 hn) j k (by omega) hk (by omega))
theorem plcs_take (l : List Plc) (k : Nat) : (plcs l).take (k * 2) = plcs (l.take k) := by
  induction l generalizing k with
  | nil => simp [plcs]
  | cons a l ih =>
    cases k with
    | zero => simp [plcs]
    | succ k =>
      show (pcells a ++ plcs l).take _ = pcells a ++ plcs (l.take k)
      rw [← ih, show (k + 1) * 2 = (pcells a).length + k * 2 by simp [pcells]; omega, List.take_length_add_append]
theorem plcs_drop (l : List Plc) (k : Nat) : (plcs l).drop (k * 2) = plcs (l.drop k) := by
  induction l generalizing k with
  | nil => simp [plcs]
  | cons a l ih =>
    cases k with
    | zero => simp [plcs]
    | succ k =>
      show (pcells a ++ plcs l).drop _ = plcs (l.drop k)
      rw [← ih, show (k + 1) * 2 = (pcells a).length + k * 2 by simp [pcells]; omega, List.drop_append, List.drop_eq_nil_of_le (by omega), List.nil_append]
      congr 1; omega

theorem squares_any (v : FV) (A : Option Addr) (n c : Nat) (l : List Plc) (w : World) (hv : v.In w) (hl : Reads w w.heap.size 2 A n (plcs l)) (hn : n ≤ 9223372036854775807) (hc : n ≤ c) :
    Calls Try.prog 79 #[v.val, .slice A n c] w fun r w' => r = .returned (.int .i64 (regE v.f l)) ∧ Below w.heap.size w w' := by
  have hlen := hl.1
  rw [plcs_length] at hlen
  have l1 : n ≤ l.length := by omega
  have l2 : l.length ≤ n := by omega
  clear hlen
  have HL := Lib.hid hl
  have HVv := Lib.hid hv
  clear hv hl
  go_enter Try.func79, Try.ntmps79
  dsimp only [FV.val, eval_]
  go_wp2_with fail
  refine (validate_any v _ (HVv.out.below (belowA _ _))).mono ?_
  rintro r w1 ⟨rfl, hb1⟩
  have b0 := (Box.new _ _ _).below hb1
  have hw1 := Lib.hid (below1 _ hb1)
  clear hb1
  by_cases hz : valid v.f = 0
  case neg =>
    have hz' : (valid v.f != 0) = true := by simpa using hz
    have HR := Lib.hid (regE_bad (l := l) hz)
    clear hz
    go_wp2_with fail
    go_ret
    exact ⟨by rw [HR.out]; rfl, hw1.out⟩
  have ok := Lib.hid (okf_of_valid hz)
  have hz' : (valid v.f != 0) = false := by simpa using hz
  have HZ := Lib.hid hz
  clear hz
  go_wp2_with fail
  have HV1 := Lib.hid (HVv.out.below hw1.out)
  have HL1 := Lib.hid (HL.out.on hw1.out)
  go_loopw [17] (fun i wr => ∃ k : Nat, k ≤ n ∧ i = .int .i64 k ∧ (∀ j q, j < k → l[j]? = some q → isS v.f.W v.f.H q.1 q.2 = true) ∧ Below w1.heap.size w1 wr) (fun i _ => n - (intOf i).toNat)
  case atStart => exact ⟨0, by omega, rfl, fun j q hj => absurd hj (by omega), Below.refl _ _⟩
  case round =>
    obtain ⟨k, hk, rfl, hok0, hb0⟩ := hrel
    have hok := Lib.hid hok0
    have hbel := Lib.hid hb0
    have b2 := b0.below hb0
    have HLr := Lib.hid (HL1.out.on hb0)
    clear hok0 hb0
    by_cases hlt : k < n
    · obtain ⟨ad, q, e1, hbk, hx0, d0, d1⟩ := plat HLr.out (k := k) (by omega)
      have X := fun w => ix45 (c := c) e1 hlt w
      have hx := Lib.hid hx0
      clear hx0 e1
      have c0 := b2.at
      have c1 := fun o => (b2.alloc o).at
      go_wp2_with fail
      refine (hasSquare_any v q.1 q.2 _ ok.out.w1 (by have := ok.out.w2; omega) ok.out.h1 (by have := ok.out.h2; omega)).mono ?_
      rintro r w4 ⟨rfl, hb4⟩
      have hbel4 := Lib.hid (below_trans' hbel.out (below_trans' (belowA _ _) hb4))
      clear hb4 c0 c1 d0 d1 X
      cases hp : isS v.f.W v.f.H q.1 q.2
      · have HR := Lib.hid (regE_off HZ.out (List.mem_of_getElem? hx.out) hp)
        clear hp
        go_wp2_with fail
        go_ret
        exact ⟨by rw [HR.out]; rfl, below_trans' hw1.out hbel4.out⟩
      · have HP := Lib.hid hp
        clear hp
        go_wp2_with fail
        go_roundw
        case rel =>
          refine ⟨k + 1, by omega, by go_num, fun j y hj hy => ?_, hbel4.out⟩
          rcases Nat.lt_or_ge j k with h | h
          · exact hok.out j y h hy
          · obtain rfl : j = k := by omega
            have := hx.out.symm.trans hy
            obtain rfl := Option.some.inj this
            exact HP.out
        case measure => simp [intOf]; omega
    · have hwall := Lib.hid (show ∀ q ∈ l, isS v.f.W v.f.H q.1 q.2 = true from fun q hq => by
        obtain ⟨j, hj, rfl⟩ := List.getElem_of_mem hq
        exact hok.out j _ (by omega) (List.getElem?_eq_getElem hj))
      clear hok
      go_wp2_with fail
      obtain ⟨wo, rfl⟩ : ∃ wo : World, wo = wr := ⟨_, rfl⟩
      have HV2 := Lib.hid (HV1.out.below hbel.out)
      go_loopw [31] (fun i wr => ∃ k : Nat, k ≤ n ∧ i = .int .i64 k ∧ (l.take k).Nodup ∧ Below wo.heap.size wo wr) (fun i _ => n - (intOf i).toNat)
      case atStart => exact ⟨0, by omega, rfl, by simp, Below.refl _ _⟩
      case round =>
        clear hk hlt
        obtain ⟨k, hk, rfl, hok0, hb0⟩ := hrel
        have hok := Lib.hid hok0
        have hbr := Lib.hid hb0
        have HLs := Lib.hid (HLr.out.on hb0)
        clear hok0 hb0
        by_cases hlt : k < n
        · obtain ⟨ad, q, e1, hbk, hx0, d0, d1⟩ := plat HLs.out (k := k) (by omega)
          have X := fun w => ix45 (c := c) e1 hlt w
          have hx := Lib.hid hx0
          clear hx0 e1
          go_wp2_with fail
          refine wp_gen (fun w2 => Box w2 wr.heap.size #[.int .i64 q.1, .int .i64 q.2] ∧ Below wr.heap.size wr w2) ⟨Box.new _ _ _, belowA _ _⟩ ?_
          rintro w2 ⟨bq, hb2⟩
          have c2 := bq.rg
          have HLt := Lib.hid ((HLs.out.on hb2).take hk)
          have hbel2 := Lib.hid (below_trans' hbr.out hb2)
          clear hb2 d0 d1 X
          have hkc : (k : Int) ≤ c := by omega
          have q0 : ∀ w4, Below w2.heap.size w2 w4 → Calls Try.prog 76 #[.slice A k c, pval q] w4 fun r w' => r = .returned (.bool (decide (q ∈ l.take k))) ∧ Below w4.heap.size w4 w' := fun w4 hb => contains_any A k c (l.take k) q w4 (by have := HLt.out.on hb; rwa [plcs_take] at this) (by omega)
          have Q0 := Lib.hid q0
          clear q0
          refine wp_region_qb mixed (by kernel_rfl) ?_
          repeat (go_big_quiet_step (exact rg_call Q0.out _ _))
          refine wpQuiet_nil ?_
          intro w4 hb4
          have hbel4 := Lib.hid (below_trans' hbel2.out hb4)
          clear hb4 c2
          cases hd : decide (q ∈ l.take k)
          · have HD := Lib.hid (of_decide_eq_false hd)
            clear hd
            go_wp2_with fail
            go_roundw
            case rel => exact ⟨k + 1, by omega, by go_num, nodup_take_succ hx.out hok.out HD.out, hbel4.out⟩
            case measure => simp [intOf]; omega
          · have HR := Lib.hid (regE_twice HZ.out hwall.out (not_nodup hx.out (of_decide_eq_true hd)))
            clear hd
            go_wp2_with fail
            go_ret
            exact ⟨by rw [HR.out]; rfl, below_trans' hw1.out (below_trans' hbel.out hbel4.out)⟩
        · have HR := Lib.hid (regE_ok HZ.out hwall.out (by have := hok.out; rwa [List.take_of_length_le (by omega)] at this))
          go_wp2_with fail
          go_ret
          exact ⟨by rw [HR.out]; rfl, below_trans' hw1.out (below_trans' hbel.out hbr.out)⟩

theorem region_any (v : FV) (A : Option Addr) (n c : Nat) (l : List Plc) (w : World) (hv : v.In w) (hl : Reads w w.heap.size 2 A n (plcs l)) (hn : n ≤ 9223372036854775807) :
    Calls Try.prog 80 #[v.val, .slice A n c] w fun r w' => r = .returned (.int .i64 (regE v.f l)) ∧ Below w.heap.size w w' := by
  have hlen := hl.1
  rw [plcs_length] at hlen
  have l1 : n ≤ l.length := by omega
  have l2 : l.length ≤ n := by omega
  clear hlen
  have HL := Lib.hid hl
  have HVv := Lib.hid hv
  clear hv hl
  go_enter Try.func80, Try.ntmps80
  dsimp only [FV.val, eval_]
  go_wp2_with fail
  refine (refValidate_any v _ (HVv.out.below (belowA _ _))).mono ?_
  rintro r w1 ⟨rfl, hb1⟩
  have b0 := (Box.new _ _ _).below hb1
  have hw1 := Lib.hid (below1 _ hb1)
  clear hb1
  by_cases hz : valid v.f = 0
  case neg =>
    have hz' : (valid v.f != 0) = true := by simpa using hz
    have HR := Lib.hid (regE_bad (l := l) hz)
    clear hz
    go_wp2_with fail
    go_ret
    exact ⟨by rw [HR.out]; rfl, hw1.out⟩
  have ok := Lib.hid (okf_of_valid hz)
  have hz' : (valid v.f != 0) = false := by simpa using hz
  have HZ := Lib.hid hz
  clear hz
  go_wp2_with fail
  have HV1 := Lib.hid (HVv.out.below hw1.out)
  have HL1 := Lib.hid (HL.out.on hw1.out)
  go_loopw [6] (fun i wr => ∃ k : Nat, k ≤ n ∧ i = .int .i64 k ∧ (∀ j q, j < k → l[j]? = some q → isS v.f.W v.f.H q.1 q.2 = true) ∧ Below w1.heap.size w1 wr) (fun i _ => n - (intOf i).toNat)
  case atStart => exact ⟨0, by omega, rfl, fun j q hj => absurd hj (by omega), Below.refl _ _⟩
  case round =>
    obtain ⟨k, hk, rfl, hok0, hb0⟩ := hrel
    have hok := Lib.hid hok0
    have hbel := Lib.hid hb0
    have b2 := b0.below hb0
    have HLr := Lib.hid (HL1.out.on hb0)
    clear hok0 hb0
    by_cases hlt : k < n
    · obtain ⟨ad, q, e1, hbk, hx0, d0, d1⟩ := plat HLr.out (k := k) (by omega)
      have X := fun w => ix45 (c := c) e1 hlt w
      have hx := Lib.hid hx0
      clear hx0 e1
      go_wp2_with fail
      have c2 := b2.rg
      have f0 := rg_cell d0
      have f1 := rg_cell d1
      clear d0 d1
      refine wp_region_qb mixed (by kernel_rfl) ?_
      repeat (go_big_quiet_step (exact rg_call (fun w1 hb => isSquare_any v q.1 q.2 w1 ok.out.w1 ok.out.w2 ok.out.h1 ok.out.h2) _ _))
      refine wpQuiet_nil ?_
      intro w4 hb4
      have hbel4 := Lib.hid (below_trans' hbel.out hb4)
      clear hb4 c2 f0 f1 X
      cases hp : isS v.f.W v.f.H q.1 q.2
      · have HR := Lib.hid (regE_off HZ.out (List.mem_of_getElem? hx.out) hp)
        clear hp
        go_wp2_with fail
        go_ret
        exact ⟨by rw [HR.out]; rfl, below_trans' hw1.out hbel4.out⟩
      · have HP := Lib.hid hp
        clear hp
        go_wp2_with fail
        go_roundw
        case rel =>
          refine ⟨k + 1, by omega, by go_num, fun j y hj hy => ?_, hbel4.out⟩
          rcases Nat.lt_or_ge j k with h | h
          · exact hok.out j y h hy
          · obtain rfl : j = k := by omega
            have := hx.out.symm.trans hy
            obtain rfl := Option.some.inj this
            exact HP.out
        case measure => simp [intOf]; omega
    · have hwall := Lib.hid (show ∀ q ∈ l, isS v.f.W v.f.H q.1 q.2 = true from fun q hq => by
        obtain ⟨j, hj, rfl⟩ := List.getElem_of_mem hq
        exact hok.out j _ (by omega) (List.getElem?_eq_getElem hj))
      clear hok
      go_wp2_with fail
      obtain ⟨wo, rfl⟩ : ∃ wo : World, wo = wr := ⟨_, rfl⟩
      go_loopw [7] (fun i wr => ∃ k : Nat, k ≤ n ∧ i = .int .i64 k ∧ (l.take k).Nodup ∧ Below wo.heap.size wo wr) (fun i _ => n - (intOf i).toNat)
      case atStart => exact ⟨0, by omega, rfl, by simp, Below.refl _ _⟩
      case round =>
        clear hk hlt
        obtain ⟨k, hk, rfl, hok0, hb0⟩ := hrel
        have hok := Lib.hid hok0
        have hbr := Lib.hid hb0
        have HLs := Lib.hid (HLr.out.on hb0)
        clear hok0 hb0
        by_cases hlt : k < n
        · obtain ⟨ad, q, e1, hbk, hx0, d0, d1⟩ := plat HLs.out (k := k) (by omega)
          have X := fun w => ix45 (c := c) e1 hlt w
          have hx := Lib.hid hx0
          have E1 := Lib.hid e1
          have D0 := Lib.hid d0
          have D1 := Lib.hid d1
          clear hx0 e1 d0 d1
          go_wp2_with fail
          obtain ⟨wi, rfl⟩ : ∃ wi : World, wi = wr := ⟨_, rfl⟩
          go_loopw [8] (fun i wr => ∃ j : Nat, j ≤ k ∧ i = .int .i64 j ∧ q ∉ l.take j ∧ Below wi.heap.size wi wr) (fun i _ => k - (intOf i).toNat)
          case atStart => exact ⟨0, by omega, rfl, by simp, Below.refl _ _⟩
          case round =>
            obtain ⟨j, hj, rfl, hnq0, hb0⟩ := hrel
            have hnq := Lib.hid hnq0
            have hbi := Lib.hid hb0
            clear hnq0
            by_cases hjk : j < k
            · obtain ⟨ad', q', e1', hbk', hy0, d0', d1'⟩ := plat (HLs.out.on hb0) (k := j) (by omega)
              obtain ⟨ad2, q2, e12, hbk2, hx2, d02, d12⟩ := plat (HLs.out.on hb0) (k := k) (by omega)
              obtain rfl : ad2 = ad' := Option.some.inj (e12.symm.trans e1')
              obtain rfl : q2 = q := Option.some.inj (hx2.symm.trans hx.out)
              have X' := fun w => ix45 (c := c) e1' (show j < n by omega) w
              have X2 := fun w => ix45 (c := c) e12 hlt w
              have hy := Lib.hid hy0
              clear hy0 e1' e12 hx2 X hb0
              have q1 := eqg35 .eql
              have q2' := eql35 q2 q'
              go_wp2_with fail
              go_quiet (fail)
              cases hq : eqP q2 q'
              · have HQ := Lib.hid (eqP_not.1 hq)
                go_wp2_with fail
                go_roundw
                case rel =>
                  refine ⟨j + 1, by omega, by go_num, fun hm => ?_, below_drewN' hbi.out _⟩
                  obtain ⟨hjl, he⟩ := List.getElem?_eq_some_iff.1 hy.out
                  rw [List.take_succ_eq_append_getElem hjl, List.mem_append] at hm
                  rcases hm with hm | hm
                  · exact hnq.out hm
                  · simp at hm; rw [he] at hm; exact HQ.out hm
                case measure => simp [intOf]; omega
              · have HR := Lib.hid (regE_twice HZ.out hwall.out (not_nodup hx.out (by
                  rw [eqP_iff.1 hq]
                  obtain ⟨hjl, he⟩ := List.getElem?_eq_some_iff.1 hy.out
                  exact List.mem_take_iff_getElem.2 ⟨j, by omega, he⟩)))
                clear hq
                go_wp2_with fail
                go_ret
                exact ⟨by rw [HR.out]; rfl, below_trans' hw1.out (below_trans' hbel.out (below_trans' hbr.out (below_drewN' hbi.out _)))⟩
            · clear hb0
              go_wp2_with fail
              go_roundw
              case rel => exact ⟨k + 1, by omega, by go_num, nodup_take_succ hx.out hok.out (by have := hnq.out; rwa [show j = k by omega] at this), below_trans' hbr.out hbi.out⟩
              case measure => simp [intOf]; omega
        · have HR := Lib.hid (regE_ok HZ.out hwall.out (by have := hok.out; rwa [List.take_of_length_le (by omega)] at this))
          go_wp2_with fail
          go_ret
          exact ⟨by rw [HR.out]; rfl, below_trans' hw1.out (below_trans' hbel.out hbr.out)⟩
end Go.Proofs.Ytahmdnboeenfkaa

namespace Go.Proofs.Ytahmdnboeenfkaa
open Go.RowKit Go.Sort

theorem rnd_bd4 (f : Fld) (x y : Int) : -16 ≤ f.rnd x y ∧ f.rnd x y ≤ 16 := rnd_bd f x y
theorem tdiv_bd (f : Fld) (x y : Int) : -4 ≤ (f.rnd x y).tdiv 4 ∧ (f.rnd x y).tdiv 4 ≤ 4 := by
  have := rnd_four f x y
  have := rnd_bd f x y
  omega
theorem insR_bad {f : Fld} {l : List Plc} (h : regE f l ≠ 0) : insR f l = (0, regE f l) := by unfold insR; rw [if_pos h]
theorem insR_ok {f : Fld} {l : List Plc} (h : regE f l = 0) : insR f l = (inP f l, 0) := by unfold insR; rw [if_neg (by simpa using h)]
theorem rimsR_bad {f : Fld} {l : List Plc} (h : regE f l ≠ 0) : rimsR f l = (0, regE f l) := by unfold rimsR; rw [if_pos h]
theorem rimsR_ok {f : Fld} {l : List Plc} (h : regE f l = 0) : rimsR f l = (rnds f l, 0) := by unfold rimsR; rw [if_neg (by simpa using h)]
theorem inP_bd (f : Fld) (l : List Plc) : -(4 * (l.length : Int)) ≤ inP f l ∧ inP f l ≤ 4 * (l.length : Int) := lsum_bd (g := fun p : Plc => (f.rnd p.1 p.2).tdiv 4) (b := 4) (fun p => tdiv_bd f p.1 p.2) l
theorem rnds_bd (f : Fld) (l : List Plc) : -(16 * (l.length : Int)) ≤ rnds f l ∧ rnds f l ≤ 16 * (l.length : Int) := lsum_bd (g := fun p : Plc => f.rnd p.1 p.2) (b := 16) (fun p => rnd_bd f p.1 p.2) l

theorem Inside_any (v : FV) (A : Option Addr) (n c : Nat) (l : List Plc) (w : World) (hv : v.In w) (hl : Reads w w.heap.size 2 A n (plcs l)) (hn : n ≤ 1000000) (hc : n ≤ c) :
    Calls Try.prog 33 #[v.val, .slice A n c] w fun r w' => r = .returned (.tuple #[.int .i64 (insR v.f l).1, .int .i64 (insR v.f l).2]) ∧ Below w.heap.size w w' := by
  have hlen := hl.1
  rw [plcs_length] at hlen
  have l1 : n ≤ l.length := by omega
  have l2 : l.length ≤ n := by omega
  clear hlen
  have HL := Lib.hid hl
  have HVv := Lib.hid hv
  clear hv hl
  go_enter Try.func33, Try.ntmps33
  dsimp only [FV.val, eval_]
  go_wp2_with fail
  refine (squares_any v A n c l _ (HVv.out.below (belowA _ _)) (HL.out.on (belowA _ _)) (by omega) hc).mono ?_
  rintro r w1 ⟨rfl, hb1⟩
  have b0 := (Box.new _ _ _).below hb1
  have hw1 := Lib.hid (below1 _ hb1)
  clear hb1
  by_cases hz : regE v.f l = 0
  case neg =>
    have hz' : (regE v.f l != 0) = true := by simpa using hz
    have HR := Lib.hid (insR_bad hz)
    clear hz
    go_wp2_with fail
    go_ret2
    exact ⟨by rw [HR.out]; rfl, hw1.out⟩
  obtain ⟨hv0, hs0, hn0⟩ := regE_zero hz
  have ok := Lib.hid (okf_of_valid hv0)
  have HS := Lib.hid hs0
  have hz' : (regE v.f l != 0) = false := by simpa using hz
  have HR := Lib.hid (insR_ok hz)
  clear hz hv0 hs0 hn0
  go_wp2_with fail
  have HV1 := Lib.hid (HVv.out.below hw1.out)
  have HL1 := Lib.hid (HL.out.on hw1.out)
  go_loopw [7, 18] (fun s i wr => ∃ k : Nat, k ≤ n ∧ i = .int .i64 k ∧ s = .int .i64 (inP v.f (l.take k)) ∧ Below w1.heap.size w1 wr) (fun _ i _ => n - (intOf i).toNat)
  case atStart => exact ⟨0, by omega, rfl, by simp [inP, lsum], Below.refl _ _⟩
  case round =>
    obtain ⟨k, hk, rfl, rfl, hb0⟩ := hrel
    have hbel := Lib.hid hb0
    have b2 := b0.below hb0
    have HLr := Lib.hid (HL1.out.on hb0)
    have HVr := Lib.hid (HV1.out.below hb0)
    clear hb0
    have hib := inP_bd v.f (l.take k)
    rw [List.length_take] at hib
    by_cases hlt : k < n
    · obtain ⟨ad, q, e1, hbk, hx0, d0, d1⟩ := plat HLr.out (k := k) (by omega)
      have X := fun w => ix45 (c := c) e1 hlt w
      have HSU := Lib.hid (show inP v.f (l.take (k + 1)) = inP v.f (l.take k) + (v.f.rnd q.1 q.2).tdiv 4 from lsum_take_succ _ hx0)
      have hsq := Lib.hid (HS.out q (List.mem_of_getElem? hx0))
      have htb := tdiv_bd v.f q.1 q.2
      clear hx0 e1
      generalize inP v.f (l.take k) = S at hib HSU ⊢
      have hS0 : -4000000 ≤ S := by omega
      have hS1 : S ≤ 4000000 := by omega
      obtain ⟨t0, t1⟩ := htb
      clear hib
      have c0 := b2.at
      have c1 := fun o => (b2.alloc o).at
      go_wp2_with fail
      refine (index_any v q.1 q.2 _ (HVr.out.below (belowA _ _)) ok.out hsq.out).mono ?_
      rintro r w4 ⟨rfl, hb4⟩
      have hbel4 := Lib.hid (below_trans' hbel.out (below_trans' (belowA _ _) hb4))
      clear hb4 c0 c1 d0 d1 X
      go_wp2_with fail
      go_roundw
      case rel => exact ⟨k + 1, by omega, by go_num, by rw [HSU.out], hbel4.out⟩
      case measure => simp [intOf]; omega
    · have HE := Lib.hid (show l.take k = l from List.take_of_length_le (by omega))
      clear hib
      go_wp2_with fail
      go_ret2
      exact ⟨by rw [HR.out, HE.out]; rfl, below_trans' hw1.out hbel.out⟩

theorem refInside_any (v : FV) (A : Option Addr) (n c : Nat) (l : List Plc) (w : World) (hv : v.In w) (hl : Reads w w.heap.size 2 A n (plcs l)) (hn : n ≤ 1000000) :
    Calls Try.prog 34 #[v.val, .slice A n c] w fun r w' => r = .returned (.tuple #[.int .i64 (insR v.f l).1, .int .i64 (insR v.f l).2]) ∧ Below w.heap.size w w' := by
  have hlen := hl.1
  rw [plcs_length] at hlen
  have l1 : n ≤ l.length := by omega
  have l2 : l.length ≤ n := by omega
  clear hlen
  have HL := Lib.hid hl
  have HVv := Lib.hid hv
  clear hv hl
  go_enter Try.func34, Try.ntmps34
  dsimp only [FV.val, eval_]
  go_wp2_with fail
  refine (region_any v A n c l _ (HVv.out.below (belowA _ _)) (HL.out.on (belowA _ _)) (by omega)).mono ?_
  rintro r w1 ⟨rfl, hb1⟩
  have b0 := (Box.new _ _ _).below hb1
  have hw1 := Lib.hid (below1 _ hb1)
  clear hb1
  by_cases hz : regE v.f l = 0
  case neg =>
    have hz' : (regE v.f l != 0) = true := by simpa using hz
    have HR := Lib.hid (insR_bad hz)
    clear hz
    go_wp2_with fail
    go_ret2
    exact ⟨by rw [HR.out]; rfl, hw1.out⟩
  obtain ⟨hv0, hs0, hn0⟩ := regE_zero hz
  have ok := Lib.hid (okf_of_valid hv0)
  have HS := Lib.hid hs0
  have hz' : (regE v.f l != 0) = false := by simpa using hz
  have HR := Lib.hid (insR_ok hz)
  clear hz hv0 hs0 hn0
  go_wp2_with fail
  have HV1 := Lib.hid (HVv.out.below hw1.out)
  have HL1 := Lib.hid (HL.out.on hw1.out)
  go_loopw [7, 8] (fun s i wr => ∃ k : Nat, k ≤ n ∧ i = .int .i64 k ∧ s = .int .i64 (rnds v.f (l.take k)) ∧ Below w1.heap.size w1 wr) (fun _ i _ => n - (intOf i).toNat)
  case atStart => exact ⟨0, by omega, rfl, by simp [rnds, lsum], Below.refl _ _⟩
  case round =>
    obtain ⟨k, hk, rfl, rfl, hb0⟩ := hrel
    have hbel := Lib.hid hb0
    have b2 := b0.below hb0
    have HLr := Lib.hid (HL1.out.on hb0)
    have HVr := Lib.hid (HV1.out.below hb0)
    clear hb0
    have hib := rnds_bd v.f (l.take k)
    rw [List.length_take] at hib
    by_cases hlt : k < n
    · obtain ⟨ad, q, e1, hbk, hx0, d0, d1⟩ := plat HLr.out (k := k) (by omega)
      have X := fun w => ix45 (c := c) e1 hlt w
      have HSU := Lib.hid (show rnds v.f (l.take (k + 1)) = rnds v.f (l.take k) + v.f.rnd q.1 q.2 from lsum_take_succ _ hx0)
      have hsq := Lib.hid (HS.out q (List.mem_of_getElem? hx0))
      have htb := rnd_bd v.f q.1 q.2
      clear hx0 e1
      generalize rnds v.f (l.take k) = S at hib HSU ⊢
      have hS0 : -16000000 ≤ S := by omega
      have hS1 : S ≤ 16000000 := by omega
      obtain ⟨t0, t1⟩ := htb
      clear hib
      go_wp2_with fail
      have c2 := b2.rg
      have f0 := rg_cell d0
      have f1 := rg_cell d1
      have q0 : ∀ w4, Below wr.heap.size wr w4 → Calls Try.prog 70 #[v.val, .int .i64 q.1, .int .i64 q.2] w4 fun r w' => r = .returned (.int .i64 (v.f.rnd q.1 q.2)) ∧ Below w4.heap.size w4 w' := fun w4 hb => round_any v q.1 q.2 w4 (HVr.out.below hb) ok.out hsq.out
      have Q0 := Lib.hid q0
      clear q0 d0 d1
      refine wp_region_qb mixed (by kernel_rfl) ?_
      repeat (go_big_quiet_step (exact rg_call Q0.out _ _))
      refine wpQuiet_nil ?_
      intro w4 hb4
      have hbel4 := Lib.hid (below_trans' hbel.out hb4)
      clear hb4 c2 f0 f1 X
      go_wp2_with fail
      go_roundw
      case rel => exact ⟨k + 1, by omega, by go_num, by rw [HSU.out], hbel4.out⟩
      case measure => simp [intOf]; omega
    · have HE := Lib.hid (show l.take k = l from List.take_of_length_le (by omega))
      have hq := Lib.hid (show (rnds v.f l).tdiv 4 = inP v.f l by rw [inP_four, Int.mul_tdiv_cancel_left _ (by omega)])
      rw [HE.out] at hib ⊢
      have hS0 : -16000000 ≤ rnds v.f l := by omega
      have hS1 : rnds v.f l ≤ 16000000 := by omega
      clear hib
      go_wp2_with fail
      go_ret2
      exact ⟨by rw [HR.out, ← hq.out]; rfl, below_trans' hw1.out hbel.out⟩
end Go.Proofs.Ytahmdnboeenfkaa

namespace Go.Proofs.Ytahmdnboeenfkaa
open Go.RowKit Go.Sort

def othA (q : Plc) : Array Value := #[.int .i64 q.1, .int .i64 (q.2 - 1), .int .i64 (q.1 + 1), .int .i64 q.2, .int .i64 q.1, .int .i64 (q.2 + 1), .int .i64 (q.1 - 1), .int .i64 q.2]
set_option maxRecDepth 4000 in
theorem side_k (f : Fld) (q : Plc) (k : Nat) (hk : k < 4) (hs : isS f.W f.H q.1 q.2 = true) : ∃ (e : Edg) (sg : Int) (oq : Plc), (sideE q).getD k ((0, 0, 0), 0) = (e, sg) ∧ (other q).getD k (0, 0) = oq ∧
    (∀ w, (Instr.index 91 (sidesV q.1 q.2) (.int .i64 (k : Int))).run Try.prog w = .ok (.agg #[.int .i64 e.1, .int .i64 e.2.1, .int .i64 e.2.2, .int .i64 sg]) w) ∧
    isE f.W f.H e = true ∧ (sg = 1 ∨ sg = -1) ∧ (othA q)[k * 2]? = some (.int .i64 oq.1) ∧ (othA q)[k * 2 + 1]? = some (.int .i64 oq.2) := by
  unfold isS at hs
  rw [decide_eq_true_eq] at hs
  rcases (show k = 0 ∨ k = 1 ∨ k = 2 ∨ k = 3 by omega) with rfl | rfl | rfl | rfl
  all_goals
    refine ⟨_, _, _, rfl, rfl, fun _ => by kernel_rfl, ?_, ?_, rfl, rfl⟩
    · unfold isE; rw [decide_eq_true_eq]; simp; omega
    · first | exact .inl rfl | exact .inr rfl
theorem ix89 {b k : Nat} (h : k < 4) (w : World) : (Instr.indexAt 89 (.pointer (some ⟨b, 0, none⟩)) (.int .i64 (k : Int))).run Try.prog w = .ok (.pointer (some ⟨b, k * 2, none⟩)) w := by
  have hl : (Try.prog.arrayLen 89 : Int) = 4 := by kernel_rfl
  have hs : (sizeOf (Try.prog.elem 89)).run Try.prog w = .ok 2 w := by kernel_rfl
  rw [run_indexAt_array w 89 ⟨b, 0, none⟩ .i64 k (by kernel_rfl), hl, if_pos (by omega), hs]
  simp only [Result.andThen, Addr.add]
  split
  · rename_i h0; simp at h0; simp [h0]
  · simp
theorem rimN_bd (f : Fld) (l : List Plc) (q : Plc) (n : Nat) : -(4 * (n : Int)) ≤ rimN f l q n ∧ rimN f l q n ≤ 4 * (n : Int) := by
  induction n with
  | zero => simp [rimN]
  | succ n ih =>
    have h : -4 ≤ sideV f l q n ∧ sideV f l q n ≤ 4 := by
      unfold sideV
      split
      · omega
      · have h1 : ((sideE q).getD n ((0, 0, 0), 0)).2 = 1 ∨ ((sideE q).getD n ((0, 0, 0), 0)).2 = -1 ∨ ((sideE q).getD n ((0, 0, 0), 0)).2 = 0 := by
          rcases (show n = 0 ∨ n = 1 ∨ n = 2 ∨ n = 3 ∨ 4 ≤ n by omega) with rfl | rfl | rfl | rfl | h
          · exact .inl rfl
          · exact .inl rfl
          · exact .inr (.inl rfl)
          · exact .inr (.inl rfl)
          · right; right; rw [List.getD_eq_getElem?_getD, List.getElem?_eq_none (by simpa [sideE] using h)]; rfl
        have h2 := trn_bd f ((sideE q).getD n ((0, 0, 0), 0)).1
        rcases h1 with h1 | h1 | h1 <;> rw [h1] <;> omega
    simp only [rimN]; omega
def rimT (f : Fld) (l : List Plc) (k : Nat) : Int := lsum (fun p => rimN f l p 4) (l.take k)
theorem rimT_bd (f : Fld) (l : List Plc) (k : Nat) : -(16 * (k : Int)) ≤ rimT f l k ∧ rimT f l k ≤ 16 * (k : Int) := by
  have := lsum_bd (g := fun p : Plc => rimN f l p 4) (b := 16) (fun p => by have := rimN_bd f l p 4; omega) (l.take k)
  rw [List.length_take] at this
  unfold rimT
  omega

set_option maxRecDepth 4000 in
theorem Rim_any (v : FV) (A : Option Addr) (n c : Nat) (l : List Plc) (w : World) (hv : v.In w) (hl : Reads w w.heap.size 2 A n (plcs l)) (hn : n ≤ 1000000) (hc : n ≤ c) :
    Calls Try.prog 35 #[v.val, .slice A n c] w fun r w' => r = .returned (.tuple #[.int .i64 (rimsR v.f l).1, .int .i64 (rimsR v.f l).2]) ∧ Below w.heap.size w w' := by
  have hlen := hl.1
  rw [plcs_length] at hlen
  have l1 : n ≤ l.length := by omega
  have l2 : l.length ≤ n := by omega
  clear hlen
  have HL := Lib.hid hl
  have HVv := Lib.hid hv
  clear hv hl
  go_enter Try.func35, Try.ntmps35
  dsimp only [FV.val, eval_]
  go_wp2_with fail
  refine (squares_any v A n c l _ (HVv.out.below (belowA _ _)) (HL.out.on (belowA _ _)) (by omega) hc).mono ?_
  rintro r w1 ⟨rfl, hb1⟩
  have b0 := (Box.new _ _ _).below hb1
  have hw1 := Lib.hid (below1 _ hb1)
  clear hb1
  by_cases hz : regE v.f l = 0
  case neg =>
    have hz' : (regE v.f l != 0) = true := by simpa using hz
    have HR := Lib.hid (rimsR_bad hz)
    clear hz
    go_wp2_with fail
    go_ret2
    exact ⟨by rw [HR.out]; rfl, hw1.out⟩
  obtain ⟨hv0, hs0, hn0⟩ := regE_zero hz
  have ok := Lib.hid (okf_of_valid hv0)
  have HS := Lib.hid hs0
  have hz' : (regE v.f l != 0) = false := by simpa using hz
  have HR := Lib.hid (show rimsR v.f l = (rimT v.f l n, 0) by
    rw [rimsR_ok hz, ← rimP_eq v.f hn0]; unfold rimT rimP; rw [List.take_of_length_le l2])
  clear hz hv0 hs0 hn0
  go_wp2_with fail
  have HV1 := Lib.hid (HVv.out.below hw1.out)
  have HL1 := Lib.hid (HL.out.on hw1.out)
  go_loopw [7, 21] (fun s i wr => ∃ k : Nat, k ≤ n ∧ i = .int .i64 k ∧ s = .int .i64 (rimT v.f l k) ∧ Below w1.heap.size w1 wr) (fun _ i _ => n - (intOf i).toNat)
  case atStart => exact ⟨0, by omega, rfl, by simp [rimT, lsum], Below.refl _ _⟩
  case round =>
    obtain ⟨k, hk, rfl, rfl, hb0⟩ := hrel
    have hbel := Lib.hid hb0
    have b2 := b0.below hb0
    have HLr := Lib.hid (HL1.out.on hb0)
    have HVr := Lib.hid (HV1.out.below hb0)
    clear hb0
    by_cases hlt : k < n
    · obtain ⟨ad, q, e1, hbk, hx0, d0, d1⟩ := plat HLr.out (k := k) (by omega)
      have X := fun w => ix45 (c := c) e1 hlt w
      have HSU := Lib.hid (show rimT v.f l (k + 1) = rimT v.f l k + rimN v.f l q 4 from lsum_take_succ _ hx0)
      have hsq := Lib.hid (HS.out q (List.mem_of_getElem? hx0))
      have hib := rimT_bd v.f l k
      clear hx0 e1
      generalize rimT v.f l k = S at hib HSU ⊢
      have hS0 : -16000000 ≤ S := by omega
      have hS1 : S ≤ 16000000 := by omega
      clear hib
      have hsb := hsq.out
      unfold isS at hsb
      rw [decide_eq_true_eq] at hsb
      obtain ⟨x0, x1, y0, y1⟩ := hsb
      have okw := ok.out.w2
      have okh := ok.out.h2
      go_wp2_with fail
      refine (sides_any q.1 q.2 _ x0 (by omega) y0 (by omega)).mono ?_
      rintro r w3 ⟨rfl, hb3⟩
      have bq := ((Box.new _ _ _).alloc _).below hb3
      have bo := (show Box _ (wr.heap.size + 1) (othA q) from Box.new2 _ _ _ _ _).below hb3
      have hbel3 := Lib.hid (below_trans' hbel.out (below2 _ _ hb3))
      replace HLr := Lib.hid (HLr.out.on (below2 _ _ hb3))
      replace HVr := Lib.hid (HVr.out.below (below2 _ _ hb3))
      replace b2 := b2.below (below2 _ _ hb3)
      clear hb3 d0 d1 X
      go_wp2_with fail
      go_loopw [7, 55] (fun s i wr => ∃ j : Nat, j ≤ 4 ∧ i = .int .i64 j ∧ s = .int .i64 (S + rimN v.f l q j) ∧ Below w3.heap.size w3 wr) (fun _ i _ => 4 - (intOf i).toNat)
      case atStart => exact ⟨0, by omega, rfl, by simp [rimN], Below.refl _ _⟩
      case round =>
        obtain ⟨j, hj, rfl, rfl, hb0⟩ := hrel
        have hbi := Lib.hid hb0
        have b3 := b2.below hb0
        have bp := bo.below hb0
        have HLi := Lib.hid (HLr.out.on hb0)
        have HVi := Lib.hid (HVr.out.below hb0)
        clear hb0
        have hrb := rimN_bd v.f l q j
        have HSN := Lib.hid (show rimN v.f l q (j + 1) = rimN v.f l q j + sideV v.f l q j from rfl)
        by_cases hjlt : j < 4
        · obtain ⟨e, sg, oq, hse, hso, ixk, hie, hsg, ho0, ho1⟩ := side_k v.f q j hjlt hsq.out
          have HE := Lib.hid hie
          have HSV := Lib.hid (show sideV v.f l q j = if oq ∈ l then 0 else sg * v.f.trn e by unfold sideV; rw [hse, hso])
          have tb := trn_bd v.f e
          clear hie hse hso
          generalize rimN v.f l q j = R at hrb HSN ⊢
          have hR0 : -16 ≤ R := by omega
          have hR1 : R ≤ 16 := by omega
          obtain ⟨t0, t1⟩ := tb
          clear hrb
          have X := fun b w => ix89 (b := b) hjlt w
          have g0 := fun o => ((bp.alloc o).at (j * 2)).trans ho0
          have g1 := fun o => ((bp.alloc o).at (j * 2 + 1)).trans ho1
          clear ho0 ho1
          go_wp2_with fail
          refine (contains_any A n c l oq _ (HLi.out.on (belowA _ _)) (by omega)).mono ?_
          rintro r w4 ⟨rfl, hb4⟩
          have be := (Box.new _ _ _).below hb4
          have hbel4 := Lib.hid (below_trans' hbi.out (below1 _ hb4))
          replace HVi := Lib.hid (HVi.out.below (below1 _ hb4))
          replace b3 := b3.below (below1 _ hb4)
          clear hb4 g0 g1 X
          cases hc2 : decide (oq ∈ l)
          · have HC := Lib.hid (of_decide_eq_false hc2)
            clear hc2
            go_wp2_with fail
            have c2 := b3.rg
            have c3 := be.rg
            have q0 : ∀ w5, Below w4.heap.size w4 w5 → Calls Try.prog 60 #[v.val, eval_ e] w5 fun r w' => r = .returned (.int .i64 (v.f.trn e)) ∧ Below w5.heap.size w5 w' := fun w5 hb => turns_any v e w5 (HVi.out.below hb) ok.out HE.out
            have Q0 := Lib.hid q0
            clear q0
            rcases hsg with rfl | rfl
            all_goals
              refine wp_region_qb mixed (by kernel_rfl) ?_
              repeat (go_big_quiet_step (exact rg_call Q0.out _ _))
              refine wpQuiet_nil ?_
              intro w6 hb6
              have hbel6 := Lib.hid (below_trans' hbel4.out hb6)
              clear hb6 c2 c3
              go_wp2_with fail
              go_roundw
              case rel => exact ⟨j + 1, by omega, by go_num, congrArg _ (by rw [HSN.out, HSV.out, if_neg HC.out]; omega), hbel6.out⟩
              case measure => simp [intOf]; omega
          · have HC := Lib.hid (of_decide_eq_true hc2)
            clear hc2
            go_wp2_with fail
            go_roundw
            case rel => exact ⟨j + 1, by omega, by go_num, congrArg _ (by rw [HSN.out, HSV.out, if_pos HC.out]; omega), hbel4.out⟩
            case measure => simp [intOf]; omega
        · obtain rfl : j = 4 := by omega
          go_wp2_with fail
          go_roundw
          case rel => exact ⟨k + 1, by omega, by go_num, congrArg _ (by rw [HSU.out]), below_trans' hbel3.out hbi.out⟩
          case measure => simp [intOf]; omega
    · obtain rfl : k = n := by omega
      go_wp2_with fail
      go_ret2
      exact ⟨by rw [HR.out]; rfl, below_trans' hw1.out hbel.out⟩
end Go.Proofs.Ytahmdnboeenfkaa

namespace Go.Proofs.Ytahmdnboeenfkaa
open Go.RowKit Go.Sort

theorem edgeV_bd (f : Fld) (l : List Plc) (e : Edg) : -8 ≤ edgeV f l e ∧ edgeV f l e ≤ 8 := by
  have := trn_bd f e
  unfold edgeV
  repeat' split
  all_goals omega
def rimS (f : Fld) (l : List Plc) (k : Nat) : Int := rimR f l ((edgesR f.W f.H f.W.toNat).take k)
theorem rimS_bd (f : Fld) (l : List Plc) (k : Nat) : -(8 * (k : Int)) ≤ rimS f l k ∧ rimS f l k ≤ 8 * (k : Int) := by
  have := lsum_bd (g := edgeV f l) (b := 8) (fun e => edgeV_bd f l e) ((edgesR f.W f.H f.W.toNat).take k)
  rw [List.length_take] at this
  unfold rimS rimR
  omega

set_option maxRecDepth 100000 in
theorem refRim_any (v : FV) (A : Option Addr) (n c : Nat) (l : List Plc) (w : World) (hv : v.In w) (hl : Reads w w.heap.size 2 A n (plcs l)) (hn : n ≤ 1000000) :
    Calls Try.prog 36 #[v.val, .slice A n c] w fun r w' => r = .returned (.tuple #[.int .i64 (rimsR v.f l).1, .int .i64 (rimsR v.f l).2]) ∧ Below w.heap.size w w' := by
  have HL := Lib.hid hl
  have HVv := Lib.hid hv
  have hnn : n ≤ 9223372036854775807 := by omega
  clear hv hl
  go_enter Try.func36, Try.ntmps36
  dsimp only [FV.val, eval_]
  go_wp2_with fail
  refine (region_any v A n c l _ (HVv.out.below (belowA _ _)) (HL.out.on (belowA _ _)) (by omega)).mono ?_
  rintro r w1 ⟨rfl, hb1⟩
  have b0 := (Box.new _ _ _).below hb1
  have hw1 := Lib.hid (below1 _ hb1)
  clear hb1
  by_cases hz : regE v.f l = 0
  case neg =>
    have hz' : (regE v.f l != 0) = true := by simpa using hz
    have HR := Lib.hid (rimsR_bad hz)
    clear hz
    go_wp2_with fail
    go_ret2
    exact ⟨by rw [HR.out]; rfl, hw1.out⟩
  obtain ⟨hv0, hs0, hn0⟩ := regE_zero hz
  have ok := Lib.hid (okf_of_valid hv0)
  have hz' : (regE v.f l != 0) = false := by simpa using hz
  have HR := Lib.hid (show rimsR v.f l = (rimR v.f l (edgesR v.f.W v.f.H v.f.W.toNat), 0) by rw [rimsR_ok hz, rimR_eq v.f hn0 hs0])
  clear hz hv0 hs0 hn0
  have c0 := b0.at
  go_wp2_with fail
  clear c0
  refine (refEdges_any v _ ok.out.w1 ok.out.w2 ok.out.h1 ok.out.h2).mono ?_
  rintro r w2 ⟨B, d, rfl, hre, hb2⟩
  have hle := edgesR_le v.f.W v.f.H v.f.W.toNat ok.out.h2
  have okw := ok.out.w2
  obtain ⟨es, hes⟩ : ∃ es, es = edgesR v.f.W v.f.H v.f.W.toNat := ⟨_, rfl⟩
  rw [← hes] at hre hle ⊢
  have HES := Lib.hid hes
  replace HR := Lib.hid (show rimsR v.f l = (rimR v.f l es, 0) by rw [HR.out, ← hes])
  replace b0 := b0.below hb2
  replace hw1 := Lib.hid (below_trans' hw1.out hb2)
  have HV1 := Lib.hid (HVv.out.below hw1.out)
  have HL1 := Lib.hid (HL.out.on hw1.out)
  have HE1 := Lib.hid hre
  have hm : es.length ≤ 288 := by omega
  clear hb2 hre hle hes okw
  go_wp2_with fail
  go_loopw [7, 9] (fun s i wr => ∃ k : Nat, k ≤ es.length ∧ i = .int .i64 k ∧ s = .int .i64 (rimR v.f l (es.take k)) ∧ Below w2.heap.size w2 wr) (fun _ i _ => es.length - (intOf i).toNat)
  case atStart => exact ⟨0, by omega, rfl, by simp [rimR, lsum], Below.refl _ _⟩
  case round =>
    obtain ⟨k, hk, rfl, rfl, hb0⟩ := hrel
    have hbel := Lib.hid hb0
    have b2 := b0.below hb0
    have HEr := Lib.hid (HE1.out.on hb0)
    have HLr := Lib.hid (HL1.out.on hb0)
    have HVr := Lib.hid (HV1.out.below hb0)
    clear hb0
    by_cases hlt : k < es.length
    · obtain ⟨ad, e, e1, hbk, hx0, d0, d1, d2⟩ := psat HEr.out (k := k) hlt
      have X := fun w => ix23 (c := d) e1 hlt w
      have HSU := Lib.hid (show rimR v.f l (es.take (k + 1)) = rimR v.f l (es.take k) + edgeV v.f l e from lsum_take_succ _ hx0)
      have hib := lsum_bd (g := edgeV v.f l) (b := 8) (fun e => edgeV_bd v.f l e) (es.take k)
      rw [List.length_take] at hib
      have hie := Lib.hid (show isE v.f.W v.f.H e = true from mem_edgesR.1 (by rw [← HES.out]; exact List.mem_of_getElem? hx0))
      clear hx0 e1
      have hsm : rimR v.f l (es.take k) = lsum (edgeV v.f l) (es.take k) := rfl
      rw [← hsm] at hib
      clear hsm
      generalize rimR v.f l (es.take k) = S at hib HSU ⊢
      have hS0 : -5000 ≤ S := by omega
      have hS1 : S ≤ 5000 := by omega
      have hew := hie.out
      unfold isE at hew
      rw [decide_eq_true_eq] at hew
      have okw := ok.out.w2
      have okh := ok.out.h2
      have x0 : 0 ≤ e.1 := by omega
      have x1 : e.1 ≤ 12 := by omega
      have y0 : 0 ≤ e.2.1 := by omega
      have y1 : e.2.1 ≤ 12 := by omega
      have u01 : e.2.2 = 0 ∨ e.2.2 = 1 := by omega
      obtain ⟨t0, t1⟩ := trn_bd v.f e
      clear hib hew okw okh
      go_wp2_with fail
      refine wp_gen (fun W => Box W wr.heap.size #[.int .i64 e.1, .int .i64 e.2.1, .int .i64 e.2.2] ∧ Below wr.heap.size wr W) ⟨Box.new _ _ _, belowA _ _⟩ ?_
      rintro w3 ⟨be, hb3⟩
      have hbel3 := Lib.hid (below_trans' hbel.out hb3)
      have HL3 := Lib.hid (HLr.out.on hb3)
      have HV3 := Lib.hid (HVr.out.below hb3)
      have b3 := b2.below hb3
      clear hb3 d0 d1 d2 X
      have c3 := be.rg
      have q0 : ∀ x y w4, Below w3.heap.size w3 w4 → Calls Try.prog 77 #[.slice A n c, .int .i64 x, .int .i64 y] w4 fun r w' => r = .returned (.bool (decide ((x, y) ∈ l))) ∧ Below w4.heap.size w4 w' := fun x y w4 hb => named_any A n c l x y w4 (HL3.out.on hb) hnn
      have Q0 := Lib.hid q0
      clear q0
      refine wp_region_qb mixed (by kernel_rfl) ?_
      repeat (go_big_quiet_step (first | exact rg_call (Q0.out _ _) _ _))
      refine wpQuiet_nil ?_
      intro w4 hb4
      have hbel4 := Lib.hid (below_trans' hbel3.out hb4)
      have HL4 := Lib.hid (HL3.out.on hb4)
      have HV4 := Lib.hid (HV3.out.below hb4)
      replace be := be.below hb4
      replace b3 := b3.below hb4
      clear hb4 c3 Q0
      have ce := be.at
      rcases u01 with u | u
      · have g0 : (e.2.2 == 1) = false := by rw [u]; rfl
        have HVAL := Lib.hid (show edgeV v.f l e = (if (e.1, e.2.1) ∈ l then v.f.trn e else 0) - (if (e.1, e.2.1 - 1) ∈ l then v.f.trn e else 0) by unfold edgeV; rw [if_neg (by omega)])
        clear u
        have ce3 := fun o => (be.alloc o).at
        have cf := b3.at
        cases h1 : decide ((e.1, e.2.1) ∈ l)
        all_goals cases h2 : decide ((e.1, e.2.1 - 1) ∈ l)
        all_goals
          have H1 := Lib.hid h1
          have H2 := Lib.hid h2
          clear h1 h2
          go_wp2_with (go_at_call 65; refine (turning_any v e _ HV4.out ok.out hie.out).mono ?_; rintro r w5 ⟨rfl, hb5⟩; have HB5 := Lib.hid hb5; clear hb5)
          go_roundw
          case rel =>
            refine ⟨k + 1, by omega, by go_num, congrArg _ ?_, ?_⟩
            · rw [HSU.out, HVAL.out]
              have h1 := H1.out
              have h2 := H2.out
              simp only [decide_eq_true_eq, decide_eq_false_iff_not] at h1 h2
              simp only [h1, h2, if_true, if_false]
              omega
            · first | exact hbel4.out | exact below_trans' hbel4.out HB5.out
          case measure => simp [intOf]; omega
      · have g0 : (e.2.2 == 1) = true := by rw [u]; rfl
        have HVAL := Lib.hid (show edgeV v.f l e = (if (e.1 - 1, e.2.1) ∈ l then v.f.trn e else 0) - (if (e.1, e.2.1) ∈ l then v.f.trn e else 0) by unfold edgeV; rw [if_pos u])
        clear u
        go_wp2_with fail
        clear ce
        have c3 := be.rg
        have q0 : ∀ x y w5, Below w4.heap.size w4 w5 → Calls Try.prog 77 #[.slice A n c, .int .i64 x, .int .i64 y] w5 fun r w' => r = .returned (.bool (decide ((x, y) ∈ l))) ∧ Below w5.heap.size w5 w' := fun x y w5 hb => named_any A n c l x y w5 (HL4.out.on hb) hnn
        have Q0 := Lib.hid q0
        clear q0
        refine wp_region_qb mixed (by kernel_rfl) ?_
        repeat (go_big_quiet_step (first | exact rg_call (Q0.out _ _) _ _))
        refine wpQuiet_nil ?_
        intro w5 hb5
        have hbel5 := Lib.hid (below_trans' hbel4.out hb5)
        have HV5 := Lib.hid (HV4.out.below hb5)
        replace be := be.below hb5
        replace b3 := b3.below hb5
        clear hb5 c3 Q0
        have ce := be.at
        have cf := b3.at
        cases h1 : decide ((e.1 - 1, e.2.1) ∈ l)
        all_goals cases h2 : decide ((e.1, e.2.1) ∈ l)
        all_goals
          have H1 := Lib.hid h1
          have H2 := Lib.hid h2
          clear h1 h2
          go_wp2_with (go_at_call 65; refine (turning_any v e _ HV5.out ok.out hie.out).mono ?_; rintro r w6 ⟨rfl, hb6⟩; have HB6 := Lib.hid hb6; clear hb6)
          go_roundw
          case rel =>
            refine ⟨k + 1, by omega, by go_num, congrArg _ ?_, ?_⟩
            · rw [HSU.out, HVAL.out]
              have h1 := H1.out
              have h2 := H2.out
              simp only [decide_eq_true_eq, decide_eq_false_iff_not] at h1 h2
              simp only [h1, h2, if_true, if_false]
              omega
            · first | exact hbel5.out | exact below_trans' hbel5.out HB6.out
          case measure => simp [intOf]; omega
    · have HE := Lib.hid (show es.take k = es from List.take_of_length_le (by omega))
      go_wp2_with fail
      go_ret2
      exact ⟨by rw [HR.out, HE.out]; rfl, below_trans' hw1.out hbel.out⟩

theorem lawRims (v : FV) (A : Option Addr) (n c : Nat) (l : List Plc) (w : World) (hv : v.In w) (hl : Reads w w.heap.size 2 A n (plcs l)) (hn : n ≤ 9223372036854775807) (hc : n ≤ c) :
    Calls Try.prog 10 #[v.val, .slice A n c] w fun r w' => r = .returned (.bool true) ∧ Below w.heap.size w w' := by
  have HV := Lib.hid hv
  have HL := Lib.hid hl
  have hlen := hl.1
  rw [plcs_length] at hlen
  have l2 : l.length ≤ n := by omega
  clear hv hl hlen
  go_enter Try.func10, Try.ntmps10
  dsimp only [FV.val, eval_]
  go_wp2_with fail
  refine (long_any v _ (HV.out.below (belowA _ _))).mono ?_
  rintro r w1 ⟨rfl, hb1⟩
  have b0 := (Box.new _ _ _).below hb1
  have hw1 := Lib.hid (below1 _ hb1)
  clear hb1
  cases hlong : longF v.f
  case true =>
    go_wp2_with fail
    refine (known_any _).mono ?_
    rintro r w2 ⟨rfl, hb2⟩
    go_wp2_with fail
    go_ret
    exact ⟨rfl, below_trans' hw1.out hb2⟩
  clear hlong
  by_cases hmany : 200 < n
  · go_wp2_with fail
    refine (known_any _).mono ?_
    rintro r w2 ⟨rfl, hb2⟩
    go_wp2_with fail
    go_ret
    exact ⟨rfl, below_trans' hw1.out hb2⟩
  have c0 := b0.at
  go_wp2_with fail
  clear c0
  refine (Inside_any v A n c l _ (HV.out.below hw1.out) (HL.out.on hw1.out) (by omega) hc).mono ?_
  rintro r w2 ⟨rfl, hb2⟩
  replace b0 := b0.below hb2
  replace hw1 := Lib.hid (below_trans' hw1.out hb2)
  clear hb2
  have c0 := b0.at
  go_wp2_with fail
  clear c0
  refine (refInside_any v A n c l _ (HV.out.below hw1.out) (HL.out.on hw1.out) (by omega)).mono ?_
  rintro r w2 ⟨rfl, hb2⟩
  replace b0 := b0.below hb2
  replace hw1 := Lib.hid (below_trans' hw1.out hb2)
  clear hb2
  have c0 := b0.at
  go_wp2_with fail
  clear c0
  refine (Rim_any v A n c l _ (HV.out.below hw1.out) (HL.out.on hw1.out) (by omega) hc).mono ?_
  rintro r w2 ⟨rfl, hb2⟩
  replace b0 := b0.below hb2
  replace hw1 := Lib.hid (below_trans' hw1.out hb2)
  clear hb2
  have c0 := b0.at
  go_wp2_with fail
  clear c0
  refine (refRim_any v A n c l _ (HV.out.below hw1.out) (HL.out.on hw1.out) (by omega)).mono ?_
  rintro r w2 ⟨rfl, hb2⟩
  replace hw1 := Lib.hid (below_trans' hw1.out hb2)
  clear hb2 b0
  rw [rimsR_four]
  have hb : -4000 ≤ (insR v.f l).1 ∧ (insR v.f l).1 ≤ 4000 := by
    unfold insR
    split
    · simp
    · have := inP_bd v.f l
      simp only; omega
  obtain ⟨i0, i1⟩ := hb
  generalize (insR v.f l).1 = z at i0 i1 ⊢
  generalize (insR v.f l).2 = y
  generalize (rimsR v.f l).2 = x
  go_wp2_with fail
  refine (known_any _).mono ?_
  rintro r w4 ⟨rfl, hb2⟩
  have HB := Lib.hid hb2
  clear hb2
  go_wp2_with fail
  go_ret
  exact ⟨rfl, below_trans' hw1.out HB.out⟩
theorem lawRimsR (v : FV) (A : Option Addr) (n c : Nat) (l : List Plc) (w : World) (hv : v.In w) (hl : (Reads w w.heap.size 2 A n (plcs l) ∧ n ≤ 9223372036854775807 ∧ ∀ q ∈ l, Bd q.1 ∧ Bd q.2) ∧ n ≤ c) :
    Calls Try.prog 10 #[v.val, .slice A n c] w fun r w' => r = .returned (.bool true) ∧ Below w.heap.size w w' := lawRims v A n c l w hv hl.1.1 hl.1.2.1 hl.2
end Go.Proofs.Ytahmdnboeenfkaa
