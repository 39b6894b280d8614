/- Merged texts: Wu Wv -/
import Derived.Test.YtnlhllleipemlaaGreatDoorG8
namespace Go.Proofs.YtnlhllleipemlaaGreatDoor
open Go.RowKit Go.Sort

section
variable {c x y : List Ent} {p b : List UInt8} {k m : Nat}
/-- The card that is read out of a beginning of a card's text begins the card's order. -/
theorem torn_head (hc : Card c) (hp : p <+: writeL c) (h : MaxR p x k) : ordE x <+: ordE c :=
  writeL_prefix h.card hc (by rw [h.eq]; exact (List.take_prefix _ _).trans hp)
theorem torn_mem (hc : Card c) (h : Card x) (ho : ordE x <+: ordE c) {e : Ent} (he : e ∈ x) : e ∈ c :=
  (mem_ordE hc).1 (ho.subset ((mem_ordE h).2 he))
theorem torn_merge (hc : Card c) (h : Card x) (ho : ordE x <+: ordE c) : mrgE x c = 0 ∧ mrgL x c = c := by
  have hn : noPart x c := fun e he f hf h1 h2 => sorted_inj hc.sorted (torn_mem hc h ho he) hf h1 h2
  have hv : val2 x c = 0 := val2_zero.2 ⟨h, hc, hn⟩
  have hm : mergeR x c = c := sorted_ext (mergeR_sorted h hc hn) hc.sorted fun e => by
    rw [mem_mergeR h hc]
    exact ⟨fun h' => h'.elim (torn_mem hc h ho) id, .inr⟩
  have := hc.len
  have g := mrg_ok hv (by rw [hm]; omega)
  exact ⟨g.1, g.2.trans hm⟩
theorem torn_more (h : MaxR p x k) (h' : MaxR (p ++ b) y m) : x.length ≤ y.length := by
  have h1 := h'.max x k h.card (by rw [List.length_append]; have := h.le; omega) (by rw [h.eq, List.take_append_of_le_length h.le])
  have h2 : writeL x <+: writeL y := by
    rw [h.eq, h'.eq, ← List.take_append_of_le_length (l₂ := b) h.le]
    exact List.take_prefix_take_left h1
  have h3 := (writeL_prefix h.card h'.card h2).length_le
  rwa [ordE_length h.card, ordE_length h'.card] at h3
end
theorem max_wr {s t : ByteArray} {x : List Ent} {k : Nat} (h : MaxR s.data.toList x k) (ht : t.data.toList = writeL x) : t ++ s.extract k s.size = s := by
  apply ByteArray.ext
  apply Array.toList_inj.1
  rw [ByteArray.data_append, Array.toList_append, ht, h.eq, drop_list, List.take_append_drop]
theorem wr_text {es : List Ent} (h : Card es) : (⟨(wrX es).toArray⟩ : ByteArray).data.toList = writeL es := by
  show wrX es = _
  unfold wrX
  rw [if_pos (val_zero.2 h)]
theorem card_shortT {es : List Ent} (h : Card es) : shortT es := fun e he => by
  have := card_text h he
  omega
theorem wr_size {es : List Ent} {t : ByteArray} (h : Card es) (ht : t.data.toList = writeL es) : t.size ≤ 4560 := by
  have h1 := writeL_len h
  rw [← ht] at h1
  simpa using h1
theorem cut_head (s : ByteArray) (k : Nat) : (s.extract 0 k).data.toList <+: s.data.toList := by rw [take_list]; exact List.take_prefix _ _
theorem app_list (a b : ByteArray) : (a ++ b).data.toList = a.data.toList ++ b.data.toList := by rw [ByteArray.data_append, Array.toList_append]
theorem uwrap_mod (cut : Int) {n : Nat} (h0 : 0 < n) (h1 : n ≤ 1000000000) : ∃ K : Nat, K < n ∧ wrap64 ((IntKind.u64.wrap cut).tmod (n : Int)) = (K : Int) := by
  have hu : 0 ≤ IntKind.u64.wrap cut := by
    unfold IntKind.wrap
    simp [IntKind.bits, IntKind.signed]
    exact Int.emod_nonneg _ (by omega)
  have a := Int.emod_nonneg (IntKind.u64.wrap cut) (show (n : Int) ≠ 0 by omega)
  have b := Int.emod_lt_of_pos (IntKind.u64.wrap cut) (show (0 : Int) < n by omega)
  rw [Int.tmod_eq_emod_of_nonneg hu, IntWalk.wrap64_in _ (by omega)]
  exact ⟨(IntKind.u64.wrap cut % (n : Int)).toNat, by omega, by omega⟩
end Go.Proofs.YtnlhllleipemlaaGreatDoor

namespace Go.Proofs.YtnlhllleipemlaaGreatDoor
open Go.RowKit Go.Sort

set_option maxRecDepth 100000 in
set_option maxHeartbeats 4000000 in
theorem lawTears_any (A : Option Addr) (n c : Nat) (es : List Ent) (keep : Int) (b : ByteArray) (w : World) (hm : MW w) (hl : InE w A n c es) (_ : Bd keep) (_ : b.size ≤ maxLen) :
    Calls Tryz.prog 5 #[.slice A n c, .int .i64 keep, .string b] w fun r w' => r = .returned (.bool true) ∧ Below w.heap.size w w' := by
  have HL := Lib.hid hl
  have HM := Lib.hid hm
  clear hl hm
  go_enter Tryz.func5, Tryz.ntmps5
  go_wp2_with fail
  with_reducible refine (long_any A n c es _ HL.out.rd).mono ?_
  rintro _ w1 ⟨rfl, hb1⟩
  have HW1 := Lib.hid hb1
  clear hb1
  cases hlong : longE es
  case true =>
    go_wp2_with fail
    with_reducible refine (known_any _).mono ?_
    rintro _ w2 ⟨rfl, hb2⟩
    go_wp2_with fail
    go_ret
    exact ⟨rfl, below_trans' HW1.out hb2⟩
  by_cases hbn : b.size ≤ 300
  case neg =>
    go_wp2_with fail
    with_reducible refine (known_any _).mono ?_
    rintro _ w2 ⟨rfl, hb2⟩
    go_wp2_with fail
    go_ret
    exact ⟨rfl, below_trans' HW1.out hb2⟩
  have HN := Lib.hid (HL.out.small hlong)
  have HS := Lib.hid (long_no hlong).2
  clear hlong
  go_wp2_with fail
  with_reducible refine (Write_any A n c es _ (HL.out.on HW1.out).rd HN.out HS.out (HM.out.below HW1.out).tab).mono ?_
  rintro _ w2 ⟨rfl, hb2⟩
  have HW2 := Lib.hid (below_trans' HW1.out hb2)
  clear hb2 HW1
  obtain ⟨t, ht⟩ : ∃ t : ByteArray, (⟨(wrX es).toArray⟩ : ByteArray) = t := ⟨_, rfl⟩
  obtain ⟨v, hvv⟩ : ∃ v, val es = v := ⟨_, rfl⟩
  rw [ht, hvv]
  have HV := Lib.hid hvv
  have HT0 := Lib.hid ht
  clear ht hvv
  by_cases hv : v = 0
  case neg =>
    have g := neB hv
    clear hv
    go_wp2_with fail
    with_reducible refine (known_any _).mono ?_
    rintro _ w4 ⟨rfl, hb4⟩
    go_wp2_with fail
    go_ret
    exact ⟨rfl, below_trans' HW2.out hb4⟩
  subst hv
  have HC := Lib.hid (val_zero.1 HV.out)
  have HT : Hid (t.data.toList = writeL es) := Lib.hid (by rw [← HT0.out]; exact wr_text HC.out)
  have hts : t.size ≤ 4560 := wr_size HC.out HT.out
  obtain ⟨K, hK, hKe⟩ := uwrap_mod keep (n := t.size + 1) (by omega) (by omega)
  push_cast at hKe
  have hK0 : (0 : Int) ≤ (K : Int) := by omega
  have hK1 : (K : Int) ≤ (t.size : Int) := by omega
  go_wp2_with fail
  clear hKe
  obtain ⟨p, hp⟩ : ∃ p, t.extract 0 K = p := ⟨_, rfl⟩
  rw [hp]
  have HP : Hid (p.data.toList <+: writeL es) := Lib.hid (by rw [← hp, ← HT.out]; exact cut_head _ _)
  have hps : p.size ≤ 4560 := by rw [← hp]; simp; omega
  clear hp hK0 hK1 hK
  with_reducible refine (read8_any p _ (by omega) (HM.out.below HW2.out)).mono ?_
  rintro _ w3 ⟨fs, k, B, d, hR, rfl, hr3, hb3⟩
  have HR := Lib.hid hR
  have HO := Lib.hid (torn_head HC.out HP.out hR)
  have HR3 := Lib.hid hr3
  have HW3 := Lib.hid (below_trans' HW2.out hb3)
  obtain ⟨rest, hrest⟩ : ∃ r, p.extract k p.size = r := ⟨_, rfl⟩
  have HREST := Lib.hid hrest
  rw [hrest]
  clear hR hrest hr3 hb3 HW2 HP
  have hfl : fs.length ≤ 60 := HR.out.card.len
  go_wp2_with fail
  with_reducible refine (merge_any B A fs.length n d c fs es _ (Reads.of_own HR3.out) (HL.out.on HW3.out).rd (by omega) HN.out (card_shortT HR.out.card) HS.out).mono ?_
  rintro _ w4 ⟨C, g4, rfl, hr4, hb4⟩
  have HMG := torn_merge HC.out HR.out.card HO.out
  rw [HMG.2] at hr4
  rw [HMG.1, HMG.2]
  have HR4 := Lib.hid hr4
  have HR3' := Lib.hid (row_on HR3.out hb4)
  have HW4 := Lib.hid (below_trans' HW3.out hb4)
  clear hr4 hb4 HMG HR3 HW3
  go_wp2_with fail
  with_reducible refine (Write_any B fs.length d fs _ (Reads.of_own HR3'.out) (by omega) (card_shortT HR.out.card) (HM.out.below HW4.out).tab).mono ?_
  rintro _ w5 ⟨rfl, hb5⟩
  have HR4' := Lib.hid (row_on HR4.out hb5)
  have HR5 := Lib.hid (row_on HR3'.out hb5)
  have HW5 := Lib.hid (below_trans' HW4.out hb5)
  clear hb5 HW4 HR4 HR3'
  obtain ⟨hd, hhd⟩ : ∃ t : ByteArray, (⟨(wrX fs).toArray⟩ : ByteArray) = t := ⟨_, rfl⟩
  have HHD : Hid (hd.data.toList = writeL fs) := Lib.hid (by rw [← hhd]; exact wr_text HR.out.card)
  have HAP : Hid (hd ++ rest = p) := Lib.hid (by rw [← HREST.out]; exact max_wr HR.out HHD.out)
  have hhs : hd.size ≤ 4560 := wr_size HR.out.card HHD.out
  have hres : rest.size ≤ 4560 := by rw [← HREST.out]; simp; omega
  rw [hhd, val_zero.2 HR.out.card]
  clear hhd
  go_wp2_with fail
  with_reducible refine (same_refl C A es.length n g4 c es _ (Reads.of_own HR4'.out) (HL.out.on HW5.out).rd (by have := HC.out.len; omega)).mono ?_
  rintro _ w6 ⟨rfl, hb6⟩
  have HR6 := Lib.hid (row_on HR5.out hb6)
  have HW6 := Lib.hid (below_trans' HW5.out hb6)
  clear hb6 HW5 HR4' HR5
  have gA := HAP.out
  go_wp2_with fail
  clear gA
  obtain ⟨q, hq⟩ : ∃ q, p ++ b = q := ⟨_, rfl⟩
  have HQ := Lib.hid hq
  rw [hq]
  clear hq
  have hqs : q.size ≤ 5000 := by rw [← HQ.out, ByteArray.size_append]; omega
  with_reducible refine (read8_any q _ (by omega) (HM.out.below HW6.out)).mono ?_
  rintro _ w7 ⟨gs, m, D, e, hR7, rfl, hr7, hb7⟩
  have hR' := hR7
  rw [← HQ.out, app_list] at hR'
  have HMORE := Lib.hid (torn_more HR.out hR')
  have HRG := Lib.hid hR7
  have HW7 := Lib.hid (below_trans' HW6.out hb7)
  have HR7 := Lib.hid hr7
  obtain ⟨left, hleft⟩ : ∃ r, q.extract m q.size = r := ⟨_, rfl⟩
  have HLEFT := Lib.hid hleft
  rw [hleft]
  have hgl : gs.length ≤ 60 := hR7.card.len
  clear hR7 hR' hr7 hb7 HW6 hleft HR6
  go_wp2_with fail
  with_reducible refine (Write_any D gs.length e gs _ (Reads.of_own HR7.out) (by omega) (card_shortT HRG.out.card) (HM.out.below HW7.out).tab).mono ?_
  rintro _ w8 ⟨rfl, hb8⟩
  have HW8 := Lib.hid (below_trans' HW7.out hb8)
  clear hb8 HW7 HR7
  obtain ⟨ag, hag⟩ : ∃ t : ByteArray, (⟨(wrX gs).toArray⟩ : ByteArray) = t := ⟨_, rfl⟩
  have HAG : Hid (ag.data.toList = writeL gs) := Lib.hid (by rw [← hag]; exact wr_text HRG.out.card)
  have HAL : Hid (ag ++ left = q) := Lib.hid (by rw [← HLEFT.out]; exact max_wr HRG.out HAG.out)
  have has : ag.size ≤ 4560 := wr_size HRG.out.card HAG.out
  have hles : left.size ≤ 5000 := by rw [← HLEFT.out]; simp; omega
  rw [hag, val_zero.2 HRG.out.card]
  clear hag
  have gA := HAL.out
  have gB := HQ.out
  have gC := HMORE.out
  have gD : decide ((fs.length : Int) ≤ (gs.length : Int)) = true := by rw [decide_eq_true_eq]; omega
  go_wp2_with fail
  with_reducible refine (known_any _).mono ?_
  rintro _ w9 ⟨rfl, hb9⟩
  have HW9 := Lib.hid (below_trans' HW8.out hb9)
  clear hb9
  go_wp2_with fail
  go_ret
  exact ⟨rfl, HW9.out⟩
end Go.Proofs.YtnlhllleipemlaaGreatDoor
