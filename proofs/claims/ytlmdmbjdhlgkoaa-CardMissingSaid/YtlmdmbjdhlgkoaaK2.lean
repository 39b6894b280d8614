/- Walks: what a copy with a clock lacks, and what stood on the copy when an entry was written; the reference's. -/
import Derived.Test.YtlmdmbjdhlgkoaaC13
import Derived.Test.YtlmdmbjdhlgkoaaK1
namespace Go.Proofs.Ytlmdmbjdhlgkoaa
open Go.RowKit Go.Sort

theorem ix35o (b k : Nat) (h : k < 3) (w : World) : (Instr.indexAt 35 (.pointer (some ⟨b, 0, none⟩)) (.int .i64 (k : Int))).run Try.prog w = .ok (.pointer (some ⟨b, k, none⟩)) w := by
  have := ix35 b 0 k h w
  rwa [Nat.zero_add] at this
theorem tr_cell {w : World} {b : Nat} {t : Int × Int × Int} (h : Box w b #[.int .i64 t.1, .int .i64 t.2.1, .int .i64 t.2.2]) {p : Nat} (hp : p < 3) : w.cell? ⟨b, p, none⟩ = some (.int .i64 (tr t p)) := by
  rw [h.at p]
  rcases (show p = 0 ∨ p = 1 ∨ p = 2 by omega) with rfl | rfl | rfl <;> rfl
set_option maxRecDepth 100000 in
set_option maxHeartbeats 4000000 in
theorem refMissing_any (A : Option Addr) (n c : Nat) (es : List Ent) (t : Int × Int × Int) (w : World) (hl : Reads w w.heap.size 6 A n (ents es)) (hn : n ≤ 1000000) (hnc : n ≤ c) (ht : shortT es) :
    Calls Try.prog 38 #[.slice A n c, cval t] w (RetE (misE es (tr t)) (val es) w) := by
  have hlen := hl.1
  rw [ents_length] at hlen
  have l1 : n ≤ es.length := by omega
  have l2 : es.length ≤ n := by omega
  have HL := Lib.hid hl
  have HS := Lib.hid ht
  clear hl ht hlen
  go_enter Try.func38, Try.ntmps38
  dsimp only [cval]
  go_wp2_with fail
  with_reducible refine (refValidate_any A n c es _ (HL.out.on (belowA _ _)) hn hnc HS.out).mono ?_
  rintro _ w2 ⟨rfl, hb2⟩
  have b0 := (Box.new w #[.int .i64 t.1, .int .i64 t.2.1, .int .i64 t.2.2] 35).below hb2
  have HW2 := Lib.hid (below1 _ hb2)
  replace HL := Lib.hid ((HL.out.on (belowA _ _)).on hb2)
  clear hb2
  by_cases hv : val es = 0
  case neg =>
    have HV : Hid (misE es (tr t) = []) := Lib.hid (if_neg hv)
    have g := neB hv
    clear hv
    go_wp2_with fail
    go_ret2
    rw [HV.out]
    exact RetE.nil rfl HW2.out
  have HV := Lib.hid hv
  have HV2 : Hid (misE es (tr t) = misC es (tr t)) := Lib.hid (if_pos hv)
  have g := neBf hv
  have HPL := Lib.hid (pl_of hv)
  clear hv
  go_wp2_with fail
  go_loopw [7, 8] (fun v i wr => ∃ k : Nat, k ≤ n ∧ i = .int .i64 k ∧ Coll w2 es (fun e => decide (tr t e.1.toNat < e.2.1)) k wr v) (fun _ i _ => n - (intOf i).toNat)
  case atStart => exact ⟨0, by omega, rfl, Coll.nil⟩
  case round =>
    obtain ⟨k, hk, rfl, hown⟩ := hrel
    have HOWN := Lib.hid hown
    clear hown
    by_cases hlt : k < n
    · obtain ⟨ad, e, e1, he, d0, d1, d2, d3, d4, d5⟩ := eat_rg (HL.out.on HOWN.out.bel) (k := k) (by omega)
      have X := fun w => ix22 (c := c) e1 hlt w
      have HT := Lib.hid (take_succ_of he)
      have hle := fl_le es k (fun e => decide (tr t e.1.toNat < e.2.1))
      have hlen : ((es.take k).filter (fun e => decide (tr t e.1.toNat < e.2.1))).length < 1000000000 := by omega
      obtain ⟨p0, p1⟩ := HPL.out e (List.mem_of_getElem? he)
      have HE := Lib.hid he
      obtain ⟨m, hm⟩ := Int.eq_ofNat_of_zero_le p0
      have hm3 : m < 3 := by omega
      have Y := fun w' => ix35o w.heap.size m hm3 w'
      have ct := rg_cell (tr_cell (b0.below HOWN.out.bel) hm3)
      have HFD : Hid ((fun e : Ent => decide (tr t e.1.toNat < e.2.1)) e = decide (tr t m < e.2.1)) := Lib.hid (by show decide (tr t e.1.toNat < e.2.1) = _; rw [hm]; rfl)
      rw [hm] at d0
      clear he e1 hle p0 p1 hm d2 d3 d4 d5
      generalize tr t m = z at ct HFD
      by_cases hq : z < e.2.1
      · have HF := Lib.hid (HFD.out.trans (decide_eq_true hq))
        have g1 : decide (z < e.2.1) = true := decide_eq_true hq
        clear hq
        go_wp2_with fail
        refine wp_region_qb mixed (by kernel_rfl) ?_
        repeat (go_big_quiet_step (fail))
        refine wpQuiet_nil ?_
        intro w5 hb5
        obtain ⟨ad', e', e1', hbk', he', q0, q1, q2, q3, q4, q5⟩ := eat ((HL.out.on HOWN.out.bel).on hb5) (k := k) (by omega)
        obtain rfl : e = e' := Option.some.inj (HE.out.symm.trans he')
        have X2 := fun w => ix22 (c := c) e1' hlt w
        have HOWN2 := Lib.hid (HOWN.out.on hb5)
        clear hb5 he' e1' d0 d1 X Y ct
        go_wp2_with (at_builtin; refine wpList_pushX rfl _ _ 22 53 rfl Try.underlying22 info53b rfl (by omega) (by omega) w2 _ _ _ _ (ecells e) _ rfl (HOWN2.out.own.on (belowA _ _)) rfl (Box.new _ _ _) rfl (ecells_one e) hlen ?_; intro v' w' hown'; have hown5 := Lib.hid hown'; clear hown')
        go_roundw
        case rel => exact ⟨k + 1, by omega, by go_num, Coll.yes HT.out HF.out hown5.out⟩
        case measure => simp [intOf]; omega
      · have HF := Lib.hid (HFD.out.trans (decide_eq_false hq))
        have g1 : decide (z < e.2.1) = false := decide_eq_false hq
        clear hq
        go_wp2_with fail
        refine wp_region_qb mixed (by kernel_rfl) ?_
        repeat (go_big_quiet_step (fail))
        refine wpQuiet_nil ?_
        intro w5 hb5
        have HOWN2 := Lib.hid (HOWN.out.on hb5)
        clear hb5 d0 d1 X Y ct
        go_wp2_with fail
        go_roundw
        case rel => exact ⟨k + 1, by omega, by go_num, Coll.no HT.out HF.out HOWN2.out⟩
        case measure => simp [intOf]; omega
    · obtain ⟨B, d, rfl, hr, hb⟩ := HOWN.out.all (by omega)
      have HR := Lib.hid hr
      have HB := Lib.hid hb
      clear hr hb
      go_wp2_with fail
      go_ret2
      rw [HV2.out, HV.out]
      exact ⟨B, d, rfl, row_mono HR.out HW2.out.size, below_trans' HW2.out HB.out⟩
theorem card_fun {es : List Ent} (h : val es = 0) {i j : Nat} {e : Ent} (h1 : es[i]? = some e) (h2 : es[j]? = some e) : i = j := card_idx (val_zero.1 h) h1 h2
set_option maxRecDepth 100000 in
set_option maxHeartbeats 4000000 in
theorem refKnown_any (A : Option Addr) (n c : Nat) (es : List Ent) (i : Int) (w : World) (hl : Reads w w.heap.size 6 A n (ents es)) (hn : n ≤ 1000000) (hnc : n ≤ c) (ht : shortT es) :
    Calls Try.prog 33 #[.slice A n c, .int .i64 i] w (RetE (knL es i) (knE es i) w) := by
  have hlen := hl.1
  rw [ents_length] at hlen
  have l1 : n ≤ es.length := by omega
  have l2 : es.length ≤ n := by omega
  have HL := Lib.hid hl
  have HS := Lib.hid ht
  clear hl ht hlen
  go_enter Try.func33, Try.ntmps33
  go_wp2_with fail
  with_reducible refine (refValidate_any A n c es _ HL.out hn hnc HS.out).mono ?_
  rintro _ w2 ⟨rfl, hb2⟩
  have HW2 := Lib.hid hb2
  clear hb2
  by_cases hv : val es = 0
  case neg =>
    have HV := Lib.hid (kn_bad (i := i) hv)
    have g := neB hv
    clear hv
    go_wp2_with fail
    go_ret2
    rw [HV.out.1, HV.out.2]
    exact RetE.nil rfl HW2.out
  have HV := Lib.hid hv
  have g := neBf hv
  have HPL := Lib.hid (pl_of hv)
  clear hv
  by_cases hin : 0 ≤ i ∧ i < es.length
  case neg =>
    have HK := Lib.hid (kn_none HV.out hin)
    have hc : i < 0 ∨ (0 ≤ i ∧ (n : Int) ≤ i) := by omega
    clear hin
    rcases hc with h1 | ⟨h1, h2⟩
    all_goals
      go_wp2_with fail
      go_ret2
      rw [HK.out.1, HK.out.2]
      exact RetE.nil rfl HW2.out
  obtain ⟨i0, i1⟩ := hin
  obtain ⟨j, rfl⟩ := Int.eq_ofNat_of_zero_le i0
  have hjn : j < n := by omega
  obtain ⟨x, hx⟩ : ∃ x, es[j]? = some x := ⟨_, List.getElem?_eq_getElem (by omega)⟩
  have HX := Lib.hid hx
  have HK := Lib.hid (kn_ok HV.out i0 i1 (e := x) (by simpa using hx))
  have hnj : ¬ n ≤ j := by omega
  clear hx i1
  go_wp2_with fail
  clear hnj i0
  go_loopw [7, 8] (fun v i wr => ∃ k : Nat, k ≤ n ∧ i = .int .i64 k ∧ Coll w es (fun e => decide (e = x) || sawE x e) k wr v) (fun _ i _ => n - (intOf i).toNat)
  case atStart => exact ⟨0, by omega, rfl, Coll.nil' HW2.out⟩
  case round =>
    obtain ⟨k, hk, rfl, hown⟩ := hrel
    have HOWN := Lib.hid hown
    clear hown
    by_cases hlt : k < n
    · obtain ⟨ad, e, e1, he, d0, d1, d2, d3, d4, d5⟩ := eat_rg (HL.out.on HOWN.out.bel) (k := k) (by omega)
      obtain ⟨ad', x', e1', hx', q0, q1, q2, q3, q4, q5⟩ := eat_rg (HL.out.on HOWN.out.bel) (k := j) (by omega)
      obtain rfl : ad = ad' := Option.some.inj (e1.symm.trans e1')
      obtain rfl : x = x' := Option.some.inj (HX.out.symm.trans hx')
      have X := fun w => ix22 (c := c) e1 hlt w
      have Y := fun w => ix22 (c := c) e1 hjn w
      have HT := Lib.hid (take_succ_of he)
      have hle := fl_le es k (fun e => decide (e = x) || sawE x e)
      have hlen : ((es.take k).filter (fun e => decide (e = x) || sawE x e)).length < 1000000000 := by omega
      obtain ⟨p0, p1⟩ := HPL.out e (List.mem_of_getElem? he)
      have HE := Lib.hid he
      have HU : Hid (∀ {a b : Nat}, es[a]? = some e → es[b]? = some e → a = b) := Lib.hid fun h1 h2 => card_fun HV.out h1 h2
      have HFD : Hid ((fun e : Ent => decide (e = x) || sawE x e) e = (decide (e = x) || sawE x e)) := Lib.hid rfl
      have HOWN1 := HOWN
      by_cases hkj : k = j
      · have HF : Hid ((fun e : Ent => decide (e = x) || sawE x e) e = true) := Lib.hid (by
          subst hkj
          obtain rfl : e = x := Option.some.inj (he.symm.trans HX.out)
          simp)
        subst hkj
        have Q0 : Hid (∀ w4, Below wr.heap.size wr w4 → Calls Try.prog 52 #[eval_ x, eval_ e] w4 fun r w' => r = .returned (.bool (sawE x e)) ∧ Below w4.heap.size w4 w') := Lib.hid fun w4 _ => seen_any x e w4 p0 p1
        clear he e1 e1' hle hx' p0 p1
        go_wp2_with fail
        refine wp_region_qb mixed (by kernel_rfl) ?_
        repeat (go_big_quiet_step (first | exact rg_call Q0.out _ _))
        refine wpQuiet_nil ?_
        intro w5 hb5
        obtain ⟨ad', e', e1', hbk', he', r0, r1, r2, r3, r4, r5⟩ := eat ((HL.out.on HOWN.out.bel).on hb5) (k := k) (by omega)
        obtain rfl : e = e' := Option.some.inj (HE.out.symm.trans he')
        have X2 := fun w => ix22 (c := c) e1' hlt w
        have HOWN2 := Lib.hid (HOWN.out.on hb5)
        clear hb5 he' e1' d0 d1 d2 d3 d4 d5 q0 q1 q2 q3 q4 q5 X Y Q0
        go_wp2_with (at_builtin; refine wpList_pushX rfl _ _ 22 53 rfl Try.underlying22 info53b rfl (by omega) (by omega) w _ _ _ _ (ecells e) _ rfl (HOWN2.out.own.on (belowA _ _)) rfl (Box.new _ _ _) rfl (ecells_one e) hlen ?_; intro v' w' hown'; have hown5 := Lib.hid hown'; clear hown')
        go_roundw
        case rel => exact ⟨k + 1, by omega, by go_num, Coll.yes HT.out HF.out hown5.out⟩
        case measure => simp [intOf]; omega
      · have hex : e ≠ x := fun h => hkj (HU.out HE.out (h ▸ HX.out))
        have gk : ((k : Int) == (j : Int)) = false := by simp; omega
        have HFE : Hid ((fun e : Ent => decide (e = x) || sawE x e) e = sawE x e) := Lib.hid (by simp [hex])
        clear hex hkj
        have Q0 : Hid (∀ w4, Below wr.heap.size wr w4 → Calls Try.prog 52 #[eval_ x, eval_ e] w4 fun r w' => r = .returned (.bool (sawE x e)) ∧ Below w4.heap.size w4 w') := Lib.hid fun w4 _ => seen_any x e w4 p0 p1
        clear he e1 e1' hle hx' p0 p1
        rcases Bool.eq_false_or_eq_true (sawE x e) with hs | hs
        · have HF := Lib.hid (HFE.out.trans hs)
          rw [hs] at Q0
          clear hs
          go_wp2_with fail
          refine wp_region_qb mixed (by kernel_rfl) ?_
          repeat (go_big_quiet_step (first | exact rg_call Q0.out _ _))
          refine wpQuiet_nil ?_
          intro w5 hb5
          obtain ⟨ad', e', e1', hbk', he', r0, r1, r2, r3, r4, r5⟩ := eat ((HL.out.on HOWN.out.bel).on hb5) (k := k) (by omega)
          obtain rfl : e = e' := Option.some.inj (HE.out.symm.trans he')
          have X2 := fun w => ix22 (c := c) e1' hlt w
          have HOWN2 := Lib.hid (HOWN.out.on hb5)
          clear hb5 he' e1' d0 d1 d2 d3 d4 d5 q0 q1 q2 q3 q4 q5 X Y Q0
          go_wp2_with (at_builtin; refine wpList_pushX rfl _ _ 22 53 rfl Try.underlying22 info53b rfl (by omega) (by omega) w _ _ _ _ (ecells e) _ rfl (HOWN2.out.own.on (belowA _ _)) rfl (Box.new _ _ _) rfl (ecells_one e) hlen ?_; intro v' w' hown'; have hown5 := Lib.hid hown'; clear hown')
          go_roundw
          case rel => exact ⟨k + 1, by omega, by go_num, Coll.yes HT.out HF.out hown5.out⟩
          case measure => simp [intOf]; omega
        · have HF := Lib.hid (HFE.out.trans hs)
          rw [hs] at Q0
          clear hs
          go_wp2_with fail
          refine wp_region_qb mixed (by kernel_rfl) ?_
          repeat (go_big_quiet_step (first | exact rg_call Q0.out _ _))
          refine wpQuiet_nil ?_
          intro w5 hb5
          have HOWN2 := Lib.hid (HOWN.out.on hb5)
          clear hb5 d0 d1 d2 d3 d4 d5 q0 q1 q2 q3 q4 q5 X Y Q0
          go_wp2_with fail
          go_roundw
          case rel => exact ⟨k + 1, by omega, by go_num, Coll.no HT.out HF.out HOWN2.out⟩
          case measure => simp [intOf]; omega
    · obtain ⟨B, d, rfl, hr, hb⟩ := HOWN.out.all (by omega)
      have HR := Lib.hid hr
      have HB := Lib.hid hb
      clear hr hb
      go_wp2_with fail
      go_ret2
      rw [HK.out.1, HK.out.2]
      exact ⟨B, d, rfl, HR.out, HB.out⟩
end Go.Proofs.Ytlmdmbjdhlgkoaa
