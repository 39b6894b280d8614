/- Walks: the laws CardMerges and CardCommutes. -/
import Derived.Test.YtlmdmbjdhlgkoaaV2
namespace Go.Proofs.Ytlmdmbjdhlgkoaa
open Go.RowKit Go.Sort

theorem mrgE_zero {a b : List Ent} : mrgE a b = 0 ↔ val2 a b = 0 ∧ (mergeR a b).length ≤ 60 := by
  unfold mrgE
  by_cases h : val2 a b = 0
  · rw [if_neg (by simp [h])]
    by_cases h2 : 60 < (mergeR a b).length
    · rw [if_pos h2]; simp; omega
    · rw [if_neg h2]; simp [h]; omega
  · rw [if_pos h]; simp [h]
theorem mrgL_of {a b : List Ent} (h : mrgE a b = 0) : mrgL a b = mergeR a b := if_pos h
theorem mrgL_not {a b : List Ent} (h : mrgE a b ≠ 0) : mrgL a b = [] := if_neg h
theorem mrgL_len (a b : List Ent) : (mrgL a b).length ≤ 60 := by
  by_cases h : mrgE a b = 0
  · rw [mrgL_of h]; exact (mrgE_zero.1 h).2
  · rw [mrgL_not h]; simp
theorem mrgL_short {a b : List Ent} (ha : shortT a) (hb : shortT b) : shortT (mrgL a b) := by
  by_cases h : mrgE a b = 0
  · rw [mrgL_of h]
    obtain ⟨h1, h2, _⟩ := val2_zero.1 (mrgE_zero.1 h).1
    intro e he
    rcases (mem_mergeR h1 h2).1 he with he | he
    · exact ha e he
    · exact hb e he
  · rw [mrgL_not h]; intro e he; cases he
theorem mrg_val {a b : List Ent} (h : mrgE a b = 0) : val (mrgL a b) = 0 := by
  rw [mrgL_of h]
  obtain ⟨h0, hl⟩ := mrgE_zero.1 h
  obtain ⟨h1, h2, h3⟩ := val2_zero.1 h0
  exact val_zero.2 (card_merge h1 h2 h3 hl)
theorem mrg_comm {a b : List Ent} (h : mrgE a b = 0) : mrgE b a = 0 ∧ mrgL b a = mrgL a b := by
  obtain ⟨h0, hl⟩ := mrgE_zero.1 h
  obtain ⟨h1, h2⟩ := mergeR_comm h0
  have h3 : mrgE b a = 0 := mrgE_zero.2 ⟨h1, by rw [h2]; exact hl⟩
  exact ⟨h3, by rw [mrgL_of h3, mrgL_of h, h2]⟩
theorem mrg_self {a b : List Ent} (h : mrgE a b = 0) : mrgE a a = 0 ∧ mrgL a a = a := by
  obtain ⟨h1, h2, h3⟩ := val2_zero.1 (mrgE_zero.1 h).1
  obtain ⟨q1, q2⟩ := mergeR_self h1
  have h4 : mrgE a a = 0 := mrgE_zero.2 ⟨q1, by rw [q2]; exact h1.len⟩
  exact ⟨h4, by rw [mrgL_of h4, q2]⟩
theorem meetL_len (a b : List Ent) : (meetL a b).length ≤ a.length := by
  unfold meetL
  split
  · exact List.length_filter_le _ _
  · simp
set_option maxRecDepth 100000 in
/-- A row of the call's own is written into: all else is as it was. -/
theorem spoil_row (B : Nat) (A : Option Addr) (n c : Nat) (es : List Ent) (w : World) (hl : w.ownsRow B 53 6 (.slice A n c) n (ents es)) (hn : n ≤ 1000000) :
    Calls Try.prog 18 #[.slice A n c] w fun r w' => r = .returned (.tuple #[]) ∧ w.grownBy w' (Value.slice A n c).ownBlock := by
  have HL := Lib.hid hl
  clear hl
  go_enter Try.func18, Try.ntmps18
  go_wp2_with fail
  go_loopw [2] (fun i wr => ∃ k : Nat, k ≤ n ∧ i = .int .i64 k ∧ (∃ fs, fs.length = n ∧ wr.ownsRow B 53 6 (.slice A n c) n (ents fs)) ∧ w.grownBy wr (Value.slice A n c).ownBlock) (fun i _ => n - (intOf i).toNat)
  case atStart => exact ⟨0, by omega, rfl, ⟨es, by have := HL.out.1; rw [ents_length] at this; omega, HL.out⟩, World.grownBy.refl _ _⟩
  case round =>
    obtain ⟨k, hk, rfl, ⟨fs, hfl, hrow⟩, hbw⟩ := hrel
    have HR := Lib.hid hrow
    have HBW := Lib.hid hbw
    clear hrow hbw
    by_cases hlt : k < n
    · obtain ⟨ad, x, e1, hbk, hx, d0, d1, d2, d3, d4, d5⟩ := eat (Reads.of_own HR.out) (k := k) (by omega)
      have X := fun w => ix22 (n := n) (c := c) e1 hlt w
      obtain ⟨g, rfl⟩ : ∃ g, ad = ⟨g, 0, none⟩ := by
        obtain ⟨g, cap, hv, _, _⟩ := HR.out.form (by omega)
        injection hv with e _ _
        rw [e1] at e
        injection e with e
        exact ⟨g, e⟩
      subst e1
      obtain ⟨st, gr⟩ := HR.out.stored (k * 6 + 1) (.int .i64 (-1))
      have fz := HR.out.frozenAt (k * 6 + 1)
      rw [ents_set fs hx] at st
      have ea : (⟨g, 0, none⟩ : Addr).add (k * 6) = ⟨g, k * 6, none⟩ := by
        unfold Addr.add
        split
        · rename_i h0; rw [h0]
        · simp
      have cc : wr.cell? ⟨g, k * 6 + 1, none⟩ = some (.int .i64 x.2.1) := by rw [ea] at d1; exact d1
      rw [ea] at X
      have HST := Lib.hid st
      have HB2 := Lib.hid (HBW.out.trans gr)
      have hfl2 : (fs.set k (x.1, -1, x.2.2)).length = n := by rw [List.length_set]; exact hfl
      clear st gr ea d0 d1 d2 d3 d4 d5 hx hbk
      go_wp2_with fail
      go_roundw
      case rel => exact ⟨k + 1, by omega, by go_num, ⟨_, hfl2, HST.out⟩, HB2.out⟩
      case measure => simp [intOf]; omega
    · go_wp2_with fail
      go_end0
      exact ⟨rfl, HBW.out⟩
set_option maxRecDepth 100000 in
set_option maxHeartbeats 4000000 in
theorem lawMerges (A : Option Addr) (n c : Nat) (es : List Ent) (B : Option Addr) (m d : Nat) (fs : List Ent) (w : World) (hl : InE w w A n c es) (hm : InE w w B m d fs) :
    Calls Try.prog 7 #[.slice A n c, .slice B m d] w fun r w' => r = .returned (.bool true) ∧ Below w.heap.size w w' := by
  have hlen := hl.rd.1
  rw [ents_length] at hlen
  have l2 : es.length ≤ n := by omega
  have HL := Lib.hid hl
  have HM := Lib.hid hm
  clear hl hm hlen
  go_enter Try.func7, Try.ntmps7
  go_wp2_with fail
  with_reducible refine (long_any A n c es _ HL.out.rd).mono ?_
  rintro _ w1 ⟨rfl, hb1⟩
  have HW1 := Lib.hid hb1
  clear hb1
  cases hlong : longE es
  case true =>
    go_wp2_with fail
    with_reducible refine (known_any _).mono ?_
    rintro _ w2 ⟨rfl, hb2⟩
    go_wp2_with fail
    go_ret
    exact ⟨rfl, below_trans' HW1.out hb2⟩
  have HN := Lib.hid (HL.out.small hlong)
  have HS := Lib.hid (long_no hlong).2
  clear hlong
  go_wp2_with fail
  with_reducible refine (long_any B m d fs _ (HM.out.rd.on HW1.out)).mono ?_
  rintro _ w2 ⟨rfl, hb2⟩
  have HW2 := Lib.hid (below_trans' HW1.out hb2)
  clear hb2 HW1
  cases hlong : longE fs
  case true =>
    go_wp2_with fail
    with_reducible refine (known_any _).mono ?_
    rintro _ w3 ⟨rfl, hb3⟩
    go_wp2_with fail
    go_ret
    exact ⟨rfl, below_trans' HW2.out hb3⟩
  have HN2 := Lib.hid (HM.out.small hlong)
  have HS2 := Lib.hid (long_no hlong).2
  have HC := Lib.hid HL.out.cap
  have HC2 := Lib.hid HM.out.cap
  replace HL := Lib.hid (HL.out.rd.on HW2.out)
  replace HM := Lib.hid (HM.out.rd.on HW2.out)
  clear hlong
  go_wp2_with fail
  with_reducible refine (copied_any A n c es _ HL.out HN.out).mono ?_
  rintro _ w3 ⟨A3, c3, rfl, hr3, hb3⟩
  have HO := Lib.hid (Reads.of_own hr3)
  have HW3 := Lib.hid (below_trans' HW2.out hb3)
  replace HL := Lib.hid (HL.out.on hb3)
  replace HM := Lib.hid (HM.out.on hb3)
  clear hr3 hb3 HW2
  go_wp2_with fail
  with_reducible refine (copied_any B m d fs _ HM.out HN2.out).mono ?_
  rintro _ w4 ⟨B4, d4, rfl, hr4, hb4⟩
  have HP := Lib.hid (Reads.of_own hr4)
  have HW4 := Lib.hid (below_trans' HW3.out hb4)
  replace HL := Lib.hid (HL.out.on hb4)
  replace HM := Lib.hid (HM.out.on hb4)
  replace HO := Lib.hid (HO.out.on hb4)
  clear hr4 hb4 HW3
  obtain ⟨l, hl⟩ : ∃ l, mrgL es fs = l := ⟨_, rfl⟩
  obtain ⟨e, he⟩ : ∃ e, mrgE es fs = e := ⟨_, rfl⟩
  obtain ⟨l', hl'⟩ : ∃ l, meetL es fs = l := ⟨_, rfl⟩
  obtain ⟨e', he'⟩ : ∃ e, val2 es fs = e := ⟨_, rfl⟩
  obtain ⟨v, hv⟩ : ∃ v, relV es fs = v := ⟨_, rfl⟩
  have HLS := Lib.hid (show l.length ≤ 1000000 by have := mrgL_len es fs; rw [hl] at this; omega)
  have HLS2 := Lib.hid (show l'.length ≤ 1000000 by have := meetL_len es fs; rw [hl'] at this; have := HN.out; omega)
  have K1 := merge_any A3 B4 n m c3 d4 es fs w4 HO.out HP.out HN.out HN2.out HS.out HS2.out
  have K2 := fun W (hb : Below w4.heap.size w4 W) => refMerge_any A B n m c d es fs W (HL.out.on hb) (HM.out.on hb) HN.out HN2.out HC.out HC2.out HS.out HS2.out
  have K3 := fun W (hb : Below w4.heap.size w4 W) => meet_any A3 B4 n m c3 d4 es fs W (HO.out.on hb) (HP.out.on hb) HN.out HN2.out HS.out HS2.out
  have K4 := fun W (hb : Below w4.heap.size w4 W) => refMeet_any A B n m c d es fs W (HL.out.on hb) (HM.out.on hb) HN.out HN2.out HC.out HC2.out HS.out HS2.out
  have K5 := fun W (hb : Below w4.heap.size w4 W) => relation_any A B n m c d es fs W (HL.out.on hb) (HM.out.on hb) HN.out HN2.out HS.out HS2.out
  have K6 := fun W (hb : Below w4.heap.size w4 W) => refRelation_any A B n m c d es fs W (HL.out.on hb) (HM.out.on hb) HN.out HN2.out HC.out HC2.out HS.out HS2.out
  rw [hl, he] at K1 K2
  rw [hl', he'] at K3 K4
  rw [hv, he'] at K5 K6
  have HK2 := Lib.hid K2
  have HK3 := Lib.hid K3
  have HK4 := Lib.hid K4
  have HK5 := Lib.hid K5
  have HK6 := Lib.hid K6
  clear K2 K3 K4 K5 K6 hl he hl' he' hv l2
  have HFIN : Hid (∀ W, Below w4.heap.size w4 W → (Reads W W.heap.size 6 A3 n (ents es) ∧ Reads W W.heap.size 6 A n (ents es) ∧ Reads W W.heap.size 6 B4 m (ents fs) ∧ Reads W W.heap.size 6 B m (ents fs)) ∧ Below w.heap.size w W) := Lib.hid fun W hb => ⟨⟨HO.out.on hb, HL.out.on hb, HP.out.on hb, HM.out.on hb⟩, below_trans' HW4.out hb⟩
  clear HL HM HO HP HW4
  go_wp2_with fail
  with_reducible refine K1.mono ?_
  rintro _ w5 ⟨A5, c5, rfl, hr5, hb5⟩
  have HR5 := Lib.hid hr5
  have HB5 := Lib.hid hb5
  clear hr5 hb5 K1
  go_wp2_with fail
  with_reducible refine (HK2.out _ HB5.out).mono ?_
  rintro _ w6 ⟨A6, c6, rfl, hr6, hb⟩
  have HR6 := Lib.hid (Reads.of_own hr6)
  replace HR5 := Lib.hid (row_on HR5.out hb)
  have HB6 := Lib.hid (below_trans' HB5.out hb)
  clear hr6 hb HB5 HK2
  go_wp2_with fail
  with_reducible refine (HK3.out _ HB6.out).mono ?_
  rintro _ w7 ⟨A7, c7, rfl, hr7, hb⟩
  have HM7S := Lib.hid HB6.out.size
  have HR7 := Lib.hid hr7
  have HNE : Hid ((Value.slice A7 l'.length c7).ownBlock = none ∨ (Value.slice A7 l'.length c7).ownBlock ≠ (Value.slice A5 l.length c5).ownBlock) := Lib.hid (by
    cases h7 : (Value.slice A7 l'.length c7).ownBlock with
    | none => exact .inl rfl
    | some k =>
      refine .inr fun h => ?_
      have q1 := (hr7.lt k h7).1
      have q2 := (HR5.out.lt k h.symm).2
      omega)
  replace HR5 := Lib.hid (row_on HR5.out hb)
  replace HR6 := Lib.hid (HR6.out.on hb)
  have HB7 := Lib.hid (below_trans' HB6.out hb)
  clear hr7 hb HB6 HK3
  go_wp2_with fail
  with_reducible refine (HK4.out _ HB7.out).mono ?_
  rintro _ w8 ⟨A8, c8, rfl, hr8, hb⟩
  have HR8 := Lib.hid (Reads.of_own hr8)
  replace HR5 := Lib.hid (row_on HR5.out hb)
  replace HR6 := Lib.hid (HR6.out.on hb)
  replace HR7 := Lib.hid (row_on HR7.out hb)
  have HB8 := Lib.hid (below_trans' HB7.out hb)
  clear hr8 hb HB7 HK4
  go_wp2_with fail
  with_reducible refine (HK5.out _ HB8.out).mono ?_
  rintro _ w9 ⟨rfl, hb⟩
  replace HR5 := Lib.hid (row_on HR5.out hb)
  replace HR6 := Lib.hid (HR6.out.on hb)
  replace HR7 := Lib.hid (row_on HR7.out hb)
  replace HR8 := Lib.hid (HR8.out.on hb)
  have HB9 := Lib.hid (below_trans' HB8.out hb)
  clear hb HB8 HK5
  go_wp2_with fail
  with_reducible refine (HK6.out _ HB9.out).mono ?_
  rintro _ w10 ⟨rfl, hb⟩
  replace HR5 := Lib.hid (row_on HR5.out hb)
  replace HR6 := Lib.hid (HR6.out.on hb)
  replace HR7 := Lib.hid (row_on HR7.out hb)
  replace HR8 := Lib.hid (HR8.out.on hb)
  have HB10 := Lib.hid (below_trans' HB9.out hb)
  clear hb HB9 HK6
  go_wp2_with fail
  with_reducible refine (same_refl A5 A6 l.length l.length c5 c6 l _ (Reads.of_own HR5.out) HR6.out HLS.out).mono ?_
  rintro _ w11 ⟨rfl, hb⟩
  replace HR5 := Lib.hid (row_on HR5.out hb)
  replace HR7 := Lib.hid (row_on HR7.out hb)
  replace HR8 := Lib.hid (HR8.out.on hb)
  have HB11 := Lib.hid (below_trans' HB10.out hb)
  clear hb HB10 HR6
  go_wp2_with fail
  with_reducible refine (same_refl A7 A8 l'.length l'.length c7 c8 l' _ (Reads.of_own HR7.out) HR8.out HLS2.out).mono ?_
  rintro _ w12 ⟨rfl, hb⟩
  replace HR5 := Lib.hid (row_on HR5.out hb)
  replace HR7 := Lib.hid (row_on HR7.out hb)
  have HB12 := Lib.hid (below_trans' HB11.out hb)
  clear hb HB11 HR8
  have HM7 := Lib.hid (row_mono HR7.out HM7S.out)
  go_wp2_with fail
  with_reducible refine (spoil_row w4.heap.size A5 l.length c5 l _ HR5.out HLS.out).mono ?_
  rintro _ w13 ⟨rfl, hg⟩
  have HR13 := Lib.hid (HM7.out.kept hg HNE.out)
  have HB13 := Lib.hid (HB12.out.grown hg HB12.out.size fun k hk => (HR5.out.lt k hk).1)
  clear hg HR7 HR5 HB12 HM7 HNE
  go_wp2_with fail
  with_reducible refine (spoil_any w4.heap.size A7 l'.length c7 l' _ HR13.out HLS2.out).mono ?_
  rintro _ w14 ⟨rfl, hb⟩
  have HB14 := Lib.hid (HB13.out.trans hb)
  clear hb HR13 HB13
  obtain ⟨⟨q1, q2, q3, q4⟩, q5⟩ := HFIN.out w14 HB14.out
  have HQ1 := Lib.hid q1
  have HQ2 := Lib.hid q2
  have HQ3 := Lib.hid q3
  have HQ4 := Lib.hid q4
  have HQ5 := Lib.hid q5
  clear q1 q2 q3 q4 q5 HFIN
  go_wp2_with fail
  with_reducible refine (same_refl A3 A n n c3 c es _ HQ1.out HQ2.out HN.out).mono ?_
  rintro _ w15 ⟨rfl, hb⟩
  replace HQ3 := Lib.hid (HQ3.out.on hb)
  replace HQ4 := Lib.hid (HQ4.out.on hb)
  have HW15 := Lib.hid (below_trans' HQ5.out hb)
  clear hb
  go_wp2_with fail
  with_reducible refine (same_refl B4 B m m d4 d fs _ HQ3.out HQ4.out HN2.out).mono ?_
  rintro _ w16 ⟨rfl, hb⟩
  have HW16 := Lib.hid (below_trans' HW15.out hb)
  clear hb
  go_wp2_with fail
  with_reducible refine (known_any _).mono ?_
  rintro _ w17 ⟨rfl, hb⟩
  have HW17 := Lib.hid (below_trans' HW16.out hb)
  clear hb
  go_wp2_with fail
  go_ret
  exact ⟨rfl, HW17.out⟩
theorem mrg_assoc {a b c : List Ent} (h1 : mrgE a b = 0) (h2 : mrgE (mrgL a b) c = 0) : mrgE b c = 0 ∧ mrgE a (mrgL b c) = 0 ∧ mrgL a (mrgL b c) = mrgL (mrgL a b) c := by
  have e1 := mrgL_of h1
  rw [e1] at h2 ⊢
  have e2 := mrgL_of h2
  obtain ⟨p1, p2⟩ := mrgE_zero.1 h1
  obtain ⟨q1, q2⟩ := mrgE_zero.1 h2
  obtain ⟨r1, r2, r3, r4, _⟩ := mergeR_assoc p1 q1 q2
  have s1 : mrgE b c = 0 := mrgE_zero.2 ⟨r1, r2⟩
  have e3 := mrgL_of s1
  rw [e3]
  have s2 : mrgE a (mergeR b c) = 0 := mrgE_zero.2 ⟨r3, by rw [r4]; exact q2⟩
  exact ⟨s1, s2, by rw [mrgL_of s2, e2, r4]⟩
set_option maxRecDepth 100000 in
set_option maxHeartbeats 4000000 in
theorem lawCommutes (A : Option Addr) (n c : Nat) (es : List Ent) (B : Option Addr) (m d : Nat) (fs : List Ent) (C : Option Addr) (o b : Nat) (gs : List Ent) (w : World) (hl : InE w w A n c es) (hm : InE w w B m d fs) (ho : InE w w C o b gs) :
    Calls Try.prog 4 #[.slice A n c, .slice B m d, .slice C o b] w fun r w' => r = .returned (.bool true) ∧ Below w.heap.size w w' := by
  have HL := Lib.hid hl
  have HM := Lib.hid hm
  have HO := Lib.hid ho
  clear hl hm ho
  go_enter Try.func4, Try.ntmps4
  go_wp2_with fail
  with_reducible refine (long_any A n c es _ HL.out.rd).mono ?_
  rintro _ w1 ⟨rfl, hb1⟩
  have HW1 := Lib.hid hb1
  clear hb1
  cases hlong : longE es
  case true =>
    go_wp2_with fail
    with_reducible refine (known_any _).mono ?_
    rintro _ w2 ⟨rfl, hb2⟩
    go_wp2_with fail
    go_ret
    exact ⟨rfl, below_trans' HW1.out hb2⟩
  have HN := Lib.hid (HL.out.small hlong)
  have HS := Lib.hid (long_no hlong).2
  clear hlong
  go_wp2_with fail
  with_reducible refine (long_any B m d fs _ (HM.out.rd.on HW1.out)).mono ?_
  rintro _ w2 ⟨rfl, hb2⟩
  have HW2 := Lib.hid (below_trans' HW1.out hb2)
  clear hb2 HW1
  cases hlong : longE fs
  case true =>
    go_wp2_with fail
    with_reducible refine (known_any _).mono ?_
    rintro _ w3 ⟨rfl, hb3⟩
    go_wp2_with fail
    go_ret
    exact ⟨rfl, below_trans' HW2.out hb3⟩
  have HN2 := Lib.hid (HM.out.small hlong)
  have HS2 := Lib.hid (long_no hlong).2
  clear hlong
  go_wp2_with fail
  with_reducible refine (long_any C o b gs _ (HO.out.rd.on HW2.out)).mono ?_
  rintro _ w3 ⟨rfl, hb3⟩
  have HW3 := Lib.hid (below_trans' HW2.out hb3)
  clear hb3 HW2
  cases hlong : longE gs
  case true =>
    go_wp2_with fail
    with_reducible refine (known_any _).mono ?_
    rintro _ w4 ⟨rfl, hb4⟩
    go_wp2_with fail
    go_ret
    exact ⟨rfl, below_trans' HW3.out hb4⟩
  have HN3 := Lib.hid (HO.out.small hlong)
  have HS3 := Lib.hid (long_no hlong).2
  clear hlong
  replace HL := Lib.hid (HL.out.rd.on HW3.out)
  replace HM := Lib.hid (HM.out.rd.on HW3.out)
  replace HO := Lib.hid (HO.out.rd.on HW3.out)
  have HX := Lib.hid (mrgL_len es fs)
  have HXS := Lib.hid (mrgL_short HS.out HS2.out)
  go_wp2_with fail
  with_reducible refine (merge_any A B n m c d es fs _ HL.out HM.out HN.out HN2.out HS.out HS2.out).mono ?_
  rintro _ w4 ⟨A4, c4, rfl, hr4, hb⟩
  have HR4 := Lib.hid (Reads.of_own hr4)
  replace HL := Lib.hid (HL.out.on hb)
  replace HM := Lib.hid (HM.out.on hb)
  replace HO := Lib.hid (HO.out.on hb)
  have HW4 := Lib.hid (below_trans' HW3.out hb)
  clear hr4 hb HW3
  go_wp2_with fail
  with_reducible refine (merge_any B A m n d c fs es _ HM.out HL.out HN2.out HN.out HS2.out HS.out).mono ?_
  rintro _ w5 ⟨A5, c5, rfl, hr5, hb⟩
  have HR5 := Lib.hid (Reads.of_own hr5)
  replace HL := Lib.hid (HL.out.on hb)
  replace HM := Lib.hid (HM.out.on hb)
  replace HO := Lib.hid (HO.out.on hb)
  replace HR4 := Lib.hid (HR4.out.on hb)
  have HW5 := Lib.hid (below_trans' HW4.out hb)
  clear hr5 hb HW4
  by_cases hE : mrgE es fs = 0
  case neg =>
    have g := neB hE
    have g' : (mrgE es fs == 0) = false := by simpa using hE
    clear hE
    go_wp2_with fail
    with_reducible refine (known_any _).mono ?_
    rintro _ w6 ⟨rfl, hb6⟩
    go_wp2_with fail
    go_ret
    exact ⟨rfl, below_trans' HW5.out hb6⟩
  have HE := Lib.hid hE
  have g := neBf hE
  have g' : (mrgE es fs == 0) = true := by simpa using hE
  obtain ⟨x1, x2⟩ := mrg_comm hE
  obtain ⟨y1, y2⟩ := mrg_self hE
  have G2 := neBf x1
  have HC := Lib.hid x2
  have HSE := Lib.hid y1
  have HSL := Lib.hid y2
  have G3 := neBf y1
  have HR5' := HR5.out
  rw [HC.out] at HR5'
  replace HR5 := Lib.hid HR5'
  rw [HC.out]
  obtain ⟨l, hl⟩ : ∃ l, mrgL es fs = l := ⟨_, rfl⟩
  rw [hl] at HR4 HR5 HX HXS ⊢
  clear hE x1 x2 y1 y2 HR5' HC
  go_wp2_with fail
  with_reducible refine (same_refl A4 A5 l.length l.length c4 c5 l _ HR4.out HR5.out (by have := HX.out; omega)).mono ?_
  rintro _ w6 ⟨rfl, hb⟩
  replace HL := Lib.hid (HL.out.on hb)
  replace HM := Lib.hid (HM.out.on hb)
  replace HO := Lib.hid (HO.out.on hb)
  replace HR4 := Lib.hid (HR4.out.on hb)
  have HW6 := Lib.hid (below_trans' HW5.out hb)
  clear hb HW5 HR5
  go_wp2_with fail
  have K1 := merge_any A A n n c c es es _ HL.out HL.out HN.out HN.out HS.out HS.out
  rw [HSL.out, HSE.out] at K1
  with_reducible refine K1.mono ?_
  rintro _ w7 ⟨A7, c7, rfl, hr7, hb⟩
  have HR7 := Lib.hid (Reads.of_own hr7)
  replace HL := Lib.hid (HL.out.on hb)
  replace HM := Lib.hid (HM.out.on hb)
  replace HO := Lib.hid (HO.out.on hb)
  replace HR4 := Lib.hid (HR4.out.on hb)
  have HW7 := Lib.hid (below_trans' HW6.out hb)
  clear hr7 hb HW6 K1
  have hlen := HL.out.1
  rw [ents_length] at hlen
  have hn7 : es.length ≤ 1000000 := by have := HN.out; omega
  clear hlen
  go_wp2_with fail
  with_reducible refine (same_refl A7 A es.length n c7 c es _ HR7.out HL.out hn7).mono ?_
  rintro _ w8 ⟨rfl, hb⟩
  replace HL := Lib.hid (HL.out.on hb)
  replace HM := Lib.hid (HM.out.on hb)
  replace HO := Lib.hid (HO.out.on hb)
  replace HR4 := Lib.hid (HR4.out.on hb)
  have HW8 := Lib.hid (below_trans' HW7.out hb)
  clear hb HW7 HR7
  go_wp2_with fail
  with_reducible refine (merge_any A4 C l.length o c4 b l gs _ HR4.out HO.out (by have := HX.out; omega) HN3.out HXS.out HS3.out).mono ?_
  rintro _ w9 ⟨A9, c9, rfl, hr9, hb⟩
  have HR9 := Lib.hid (Reads.of_own hr9)
  replace HL := Lib.hid (HL.out.on hb)
  replace HM := Lib.hid (HM.out.on hb)
  replace HO := Lib.hid (HO.out.on hb)
  have HW9 := Lib.hid (below_trans' HW8.out hb)
  clear hr9 hb HW8 HR4
  by_cases hE : mrgE l gs = 0
  case neg =>
    have gg := neB hE
    clear hE
    go_wp2_with fail
    with_reducible refine (known_any _).mono ?_
    rintro _ w10 ⟨rfl, hb10⟩
    go_wp2_with fail
    go_ret
    exact ⟨rfl, below_trans' HW9.out hb10⟩
  have gg := neBf hE
  obtain ⟨z1, z2, z3⟩ := mrg_assoc HE.out (by rw [hl]; exact hE)
  rw [hl] at z3
  have HV := Lib.hid (mrg_val hE)
  have HY := Lib.hid (mrgL_len l gs)
  have HYS := Lib.hid (mrgL_short HXS.out HS3.out)
  have HZ := Lib.hid (mrgL_len fs gs)
  have HZS := Lib.hid (mrgL_short HS2.out HS3.out)
  obtain ⟨u, hu⟩ : ∃ u, mrgL l gs = u := ⟨_, rfl⟩
  obtain ⟨v, hv⟩ : ∃ v, mrgL fs gs = v := ⟨_, rfl⟩
  rw [hu] at HR9 HV HY HYS z3 ⊢
  rw [hv] at HZ HZS z2 z3
  have HZ1 := Lib.hid z1
  have HZ2 := Lib.hid z2
  have HZ3 := Lib.hid z3
  have HVV := Lib.hid hv
  clear hE z1 z2 z3 hl hu hv
  go_wp2_with fail
  have K1 := merge_any B C m o d b fs gs _ HM.out HO.out HN2.out HN3.out HS2.out HS3.out
  rw [HVV.out, HZ1.out] at K1
  with_reducible refine K1.mono ?_
  rintro _ w10 ⟨A10, c10, rfl, hr10, hb⟩
  have HR10 := Lib.hid (Reads.of_own hr10)
  replace HL := Lib.hid (HL.out.on hb)
  replace HR9 := Lib.hid (HR9.out.on hb)
  have HW10 := Lib.hid (below_trans' HW9.out hb)
  clear hr10 hb HW9 K1 HM HO
  go_wp2_with fail
  have K1 := merge_any A A10 n v.length c c10 es v _ HL.out HR10.out HN.out (by have := HZ.out; omega) HS.out HZS.out
  rw [HZ3.out, HZ2.out] at K1
  with_reducible refine K1.mono ?_
  rintro _ w11 ⟨A11, c11, rfl, hr11, hb⟩
  have HR11 := Lib.hid (Reads.of_own hr11)
  replace HR9 := Lib.hid (HR9.out.on hb)
  have HW11 := Lib.hid (below_trans' HW10.out hb)
  clear hr11 hb HW10 K1 HL HR10
  go_wp2_with fail
  with_reducible refine (same_refl A9 A11 u.length u.length c9 c11 u _ HR9.out HR11.out (by have := HY.out; omega)).mono ?_
  rintro _ w12 ⟨rfl, hb⟩
  replace HR9 := Lib.hid (HR9.out.on hb)
  have HW12 := Lib.hid (below_trans' HW11.out hb)
  clear hb HW11 HR11
  go_wp2_with fail
  have K1 := validate_any A9 u.length c9 u _ HR9.out (by have := HY.out; omega) HYS.out
  rw [HV.out] at K1
  with_reducible refine K1.mono ?_
  rintro _ w13 ⟨rfl, hb⟩
  have HW13 := Lib.hid (below_trans' HW12.out hb)
  clear hb HW12 HR9 K1
  go_wp2_with fail
  with_reducible refine (known_any _).mono ?_
  rintro _ w14 ⟨rfl, hb⟩
  have HW14 := Lib.hid (below_trans' HW13.out hb)
  clear hb
  go_wp2_with fail
  go_ret
  exact ⟨rfl, HW14.out⟩
end Go.Proofs.Ytlmdmbjdhlgkoaa
