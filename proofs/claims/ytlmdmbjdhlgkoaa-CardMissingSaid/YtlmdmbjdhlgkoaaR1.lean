/- Walks: one more entry, the reference's. -/
import Derived.Test.YtlmdmbjdhlgkoaaC13
import Derived.Test.YtlmdmbjdhlgkoaaHv
namespace Go.Proofs.Ytlmdmbjdhlgkoaa
open Go.RowKit Go.Sort

def adq (c : List Ent) (p : Int) (t : ByteArray) : Nat → List Ent
  | 0 => []
  | q + 1 => adq c p t q ++ addL c p t q
theorem adq_three (c : List Ent) (p : Int) (t : ByteArray) : adq c p t 3 = addR c p t := by
  show (([] ++ _) ++ _) ++ _ = _
  rw [List.nil_append]
  rfl
theorem adq_le (c : List Ent) (p : Int) (t : ByteArray) (k : Nat) : (adq c p t k).length ≤ k * (c.length + 1) := by
  induction k with
  | zero => exact Nat.le_of_eq (by simp [adq])
  | succ k ih =>
    have h1 := ofP_le c k
    show (adq c p t k ++ addL c p t k).length ≤ _
    unfold addL
    rw [List.length_append, List.length_append, Nat.add_mul, Nat.one_mul]
    split <;> simp <;> omega
theorem addL_yes (c : List Ent) (t : ByteArray) (q : Int) : addL c q t q = ofP c q ++ [newE c q t] := by unfold addL; rw [if_pos rfl]
theorem addL_no (c : List Ent) (t : ByteArray) {p q : Int} (h : q ≠ p) : addL c p t q = ofP c q := by unfold addL; rw [if_neg h, List.append_nil]
theorem Held.of' {w0 w : World} {l : List Ent} {v : Value} {n : Nat} (h : OwnX 53 6 w0 w v n (ents l)) (hn : n = l.length) : Held w0 l w v := by
  subst hn
  obtain ⟨A, c, rfl, _⟩ := h.form
  exact ⟨A, c, rfl, h⟩
set_option maxRecDepth 100000 in
set_option maxHeartbeats 4000000 in
theorem refAdd_any (A : Option Addr) (n c : Nat) (es : List Ent) (p : Int) (t : ByteArray) (w : World) (hl : Reads w w.heap.size 6 A n (ents es)) (hn : n ≤ 1000000) (hnc : n ≤ c) (ht : shortT es) (hs : t.size ≤ 1000000) :
    Calls Try.prog 15 #[.slice A n c, .int .i64 p, .string t] w (RetE (addL' es p t) (addE es p t) w) := by
  have hlen := hl.1
  rw [ents_length] at hlen
  have l1 : n ≤ es.length := by omega
  have l2 : es.length ≤ n := by omega
  have HL := Lib.hid hl
  have HS := Lib.hid ht
  clear hl ht hlen
  go_enter Try.func15, Try.ntmps15
  go_wp2_with fail
  with_reducible refine (refValidate_any A n c es _ HL.out hn hnc HS.out).mono ?_
  rintro _ w2 ⟨rfl, hb2⟩
  have HW2 := Lib.hid hb2
  clear hb2
  by_cases hv : val es = 0
  case neg =>
    have HV : Hid (addE es p t = val es) := Lib.hid (if_pos hv)
    have HV2 : Hid (addL' es p t = []) := Lib.hid (by unfold addL'; rw [HV.out, if_neg hv])
    have g := neB hv
    clear hv
    go_wp2_with fail
    go_ret2
    rw [HV2.out]
    exact RetE.nil HV.out.symm HW2.out
  have HV := Lib.hid hv
  have g := neBf hv
  have HPL := Lib.hid (pl_of hv)
  have hsm : es.length ≤ 60 := (val_zero.1 hv).len
  have hn60 : n ≤ 60 := by omega
  clear hv
  by_cases hp : 0 ≤ p ∧ p ≤ 2 ∧ right t = true
  case neg =>
    have HV1 : Hid (addE es p t = 1) := Lib.hid (by
      unfold addE
      rw [if_neg (fun h => h HV.out), if_pos]
      cases hr : right t
      · exact .inr (.inr rfl)
      · rw [hr] at hp
        simp at hp
        omega)
    have HV2 : Hid (addL' es p t = []) := Lib.hid (by unfold addL'; rw [HV1.out]; rfl)
    have hc : p < 0 ∨ (0 ≤ p ∧ (2 < p ∨ (p ≤ 2 ∧ right t = false))) := by
      rcases Int.lt_or_le p 0 with h1 | h1
      · exact .inl h1
      rcases Int.lt_or_le 2 p with h2 | h2
      · exact .inr ⟨h1, .inl h2⟩
      refine .inr ⟨h1, .inr ⟨h2, ?_⟩⟩
      cases hr : right t
      · rfl
      · exact (hp ⟨h1, h2, hr⟩).elim
    clear hp
    rcases hc with h1 | ⟨h1, h2 | ⟨h2, h3⟩⟩
    · go_wp2_with fail
      go_ret2
      rw [HV2.out]
      exact RetE.nil HV1.out.symm HW2.out
    · go_wp2_with fail
      go_ret2
      rw [HV2.out]
      exact RetE.nil HV1.out.symm HW2.out
    · have H3 := Lib.hid h3
      clear h3
      go_wp2_with fail
      with_reducible refine (refRight_any t _ hs).mono ?_
      rintro _ w3 ⟨rfl, hb3⟩
      have HW3 := Lib.hid (below_trans' HW2.out hb3)
      rw [H3.out]
      clear hb3
      go_wp2_with fail
      go_ret2
      rw [HV2.out]
      exact RetE.nil HV1.out.symm HW3.out
  obtain ⟨p0, p1, hr⟩ := hp
  obtain ⟨k, rfl⟩ := Int.eq_ofNat_of_zero_le p0
  have HR := Lib.hid hr
  clear hr
  go_wp2_with fail
  with_reducible refine (refRight_any t _ hs).mono ?_
  rintro _ w3 ⟨rfl, hb3⟩
  have HW3 := Lib.hid (below_trans' HW2.out hb3)
  rw [HR.out]
  clear hb3
  by_cases h60 : n = 60
  · have HV1 : Hid (addE es k t = 4) := Lib.hid (by
      unfold addE
      rw [if_neg (fun h => h HV.out), if_neg (by rw [HR.out]; simp; omega), if_pos (by omega)])
    have HV2 : Hid (addL' es k t = []) := Lib.hid (by unfold addL'; rw [HV1.out]; rfl)
    have h61 : 60 ≤ n := by omega
    clear h60
    go_wp2_with fail
    go_ret2
    rw [HV2.out]
    exact RetE.nil HV1.out.symm HW3.out
  have HV1 : Hid (addE es k t = 0) := Lib.hid (addE_zero.2 ⟨val_zero.1 HV.out, p0, p1, HR.out, by omega⟩)
  have HV2 : Hid (addL' es k t = addR es k t) := Lib.hid (if_pos HV1.out)
  have hn59 : n < 60 := by omega
  clear h60
  go_wp2_with fail
  go_loopw [9, 10] (fun v i wr => ∃ q : Nat, q ≤ 3 ∧ i = .int .i64 q ∧ Held w (adq es k t q) wr v) (fun _ i _ => 3 - (intOf i).toNat)
  case atStart => exact ⟨0, by omega, rfl, Held.nil HW3.out⟩
  case round =>
    obtain ⟨q, hq, rfl, A1, c1, rfl, hown⟩ := hrel
    have HOWN := Lib.hid hown
    clear hown
    by_cases hlt : q < 3
    · have hle := adq_le es k t q
      have hle2 : q * (es.length + 1) ≤ 3 * (es.length + 1) := Nat.mul_le_mul_right _ (by omega)
      have o1 := ofP_le es q
      have HMS := Lib.hid (show adq es k t (q + 1) = adq es k t q ++ addL es k t q from rfl)
      go_wp2_with fail
      with_reducible refine (of_any A n c es q _ (HL.out.on HOWN.out.bel) hn).mono ?_
      rintro _ w4 ⟨B3, d3, rfl, hr3, hb3⟩
      have HO3 := Lib.hid (HOWN.out.on hb3)
      have HR3 := Lib.hid (Reads.of_own hr3)
      clear hr3 hb3
      have hln : (adq es k t q).length + (ofP es q).length ≤ 1000000000 := by omega
      have hln1 : (adq es k t q).length + (ofP es q).length + 1 ≤ 1000000000 := by omega
      by_cases hqk : q = k
      · subst hqk
        go_wp2_with (at_builtin; refine wpList_pushO rfl _ _ rfl w _ A1 _ c1 _ B3 _ d3 (ofP es q) rfl HO3.out rfl HR3.out hln ?_; intro A4 c4 w4 ho4; have HO4 := Lib.hid ho4; clear ho4)
        have hq3 := hlt
        have ck := clk_idx es (p := (q : Int)) (by omega) (by omega)
        have cl := clk_le es q
        have vk : IntKind.i64.wrap ((clk es q : Nat) + 1) = (clk es q : Nat) + 1 := IntWalk.i64_in _ (by omega)
        clear cl
        refine wp_region_hv [0, 1, 2, 3, 4, 5, 6, 7, 8, 9, 10] [11, 12, 13] (fun W => Reads W W.heap.size 6 A n (ents es)) mixed (by kernel_rfl) (fun W W' h hb => h.on hb) (HL.out.on HO4.out.bel).drew ?_
        iterate 3
          refine canonG_read (v := ?_) rfl (by rfl) ?_ ?_
          rotate_left
          · intro w hSw
            go_simp <;> with_reducible rfl
          simp only [List.getElem_toArray, List.getElem_cons_zero, List.getElem_cons_succ, Act.put, List.setIfInBounds_toArray, List.set_cons_succ, List.set_cons_zero]
        refine canonG_call (v := clkV es) (f := 48) (args := #[.slice A n c]) rfl (by rfl) ?_ ?_ ?_
        · intro w hSw
          go_simp
        · intro w hSw
          exact refClock_any A n c es _ hSw hn HPL.out
        simp only [List.getElem_toArray, List.getElem_cons_zero, List.getElem_cons_succ, Act.put, List.setIfInBounds_toArray, List.set_cons_succ, List.set_cons_zero]
        iterate 4
          refine canonG_read (v := ?_) rfl (by rfl) ?_ ?_
          rotate_left
          · intro w hSw
            go_simp <;> with_reducible rfl
          simp only [List.getElem_toArray, List.getElem_cons_zero, List.getElem_cons_succ, Act.put, List.setIfInBounds_toArray, List.set_cons_succ, List.set_cons_zero]
        refine canonG_call (v := clkV es) (f := 48) (args := #[.slice A n c]) rfl (by rfl) ?_ ?_ ?_
        · intro w hSw
          go_simp
        · intro w hSw
          exact refClock_any A n c es _ hSw hn HPL.out
        simp only [List.getElem_toArray, List.getElem_cons_zero, List.getElem_cons_succ, Act.put, List.setIfInBounds_toArray, List.set_cons_succ, List.set_cons_zero]
        iterate 2
          refine canonG_read (v := ?_) rfl (by rfl) ?_ ?_
          rotate_left
          · intro w hSw
            go_simp <;> with_reducible rfl
          simp only [List.getElem_toArray, List.getElem_cons_zero, List.getElem_cons_succ, Act.put, List.setIfInBounds_toArray, List.set_cons_succ, List.set_cons_zero]
        refine canonG_nil ?_
        have HO5 := Lib.hid (HO4.out.on (below_drewN' (Below.refl _ _) 1))
        have HL5 := Lib.hid ((HL.out.on HO4.out.bel).drew)
        refine tailG_one (t := 11) (ts' := [12, 13]) (by kernel_rfl) rfl rfl ?_
        intro w6 hb6
        go_wp2_with fail
        refine gen_at (fun W => OwnX 53 6 w W (.slice A4 ((adq es q t q).length + (ofP es q).length) c4) ((adq es q t q).length + (ofP es q).length) (ents (adq es q t q) ++ ents (ofP es q)) ∧ Reads W W.heap.size 6 A n (ents es) ∧ Reads W W.heap.size 6 (some ⟨w6.heap.size, 0, none⟩) 1 (ents [newE es q t])) ⟨(HO5.out.on hb6).on (belowA _ _), (Reads.on HL5.out hb6).on (belowA _ _), reads_new w6 (ents [newE es q t]) 53 6 1 rfl⟩ ?_
        generalize w6.heap.size = bN
        rintro w7 ⟨ho7, hl7, he7⟩
        have HO7 := Lib.hid ho7
        have HE7 := Lib.hid he7
        refine ⟨hl7, ?_⟩
        clear ho7 hl7 he7 hb6 HO5 HL5 HO4 HO3 HOWN ck
        refine tailG_one (t := 12) (ts' := [13]) (by kernel_rfl) rfl rfl ?_
        intro w8 hb8
        refine wpList_pushO rfl _ _ rfl w _ A4 _ c4 _ (some ⟨bN, 0, none⟩) 1 1 [newE es q t] rfl (HO7.out.on hb8) rfl (HE7.out.on hb8) hln1 ?_
        intro A9 c9 w9 ho9
        have HO9 := Lib.hid ho9
        clear ho9 hb8
        go_wp2_with fail
        refine ⟨HL.out.on HO9.out.bel, ?_⟩
        refine tailG_last (t := 13) (by kernel_rfl) rfl ?_
        intro w10 hb10
        have HO10 := Lib.hid (HO9.out.on hb10)
        clear hb10
        go_wp2_with fail
        refine NoPanic.normal ?_
        go_wp2_with fail
        go_roundw
        case rel =>
          refine ⟨q + 1, by omega, by go_num, ?_⟩
          have h7 := HO10.out
          rw [← ents_append, ← ents_append] at h7
          rw [HMS.out, addL_yes, ← List.append_assoc]
          exact Held.of' h7 (by simp; omega)
        case measure => simp [intOf]; omega
      · have gq : ((q : Int) == (k : Int)) = false := by simp; omega
        go_wp2_with (at_builtin; refine wpList_pushO rfl _ _ rfl w _ A1 _ c1 _ B3 _ d3 (ofP es q) rfl HO3.out rfl HR3.out hln ?_; intro A4 c4 w4 ho4; have HO4 := Lib.hid ho4; clear ho4)
        go_roundw
        case rel =>
          refine ⟨q + 1, by omega, by go_num, ?_⟩
          rw [HMS.out, addL_no _ _ (by omega)]
          exact Held.of HO4.out rfl
        case measure => simp [intOf]; omega
    · have HE : Hid (adq es k t q = addR es k t) := Lib.hid (by rw [show q = 3 by omega, adq_three])
      have ho := HOWN.out
      rw [HE.out] at ho
      rw [HE.out]
      have HO := Lib.hid ho
      clear ho HOWN
      go_wp2_with fail
      go_ret2
      rw [HV2.out, HV1.out]
      exact ⟨A1, c1, rfl, HO.out.row, HO.out.bel⟩
end Go.Proofs.Ytlmdmbjdhlgkoaa
