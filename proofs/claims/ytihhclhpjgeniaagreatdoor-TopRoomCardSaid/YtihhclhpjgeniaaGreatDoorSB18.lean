/- Merged texts: Ga H1 Qt H2 H3 -/
import Derived.Test.YtihhclhpjgeniaaGreatDoorSB1
import Derived.Test.YtihhclhpjgeniaaGreatDoorSB8
import Derived.Test.YtihhclhpjgeniaaGreatDoorSB17
import Derived.StillTail
namespace Go.Proofs.YtihhclhpjgeniaaGreatDoor
open Go.RowKit Go.Sort
theorem all_bt (t : ByteArray) (f : UInt8 → Bool) (p : Int → Prop) (h : ∀ c : UInt8, f c = true ↔ p (c.toNat : Int)) : t.data.toList.all f = true ↔ ∀ i, i < t.size → p (bt t i) := by
 rw [List.all_eq_true]
 constructor
 ·intro k i hi
  have hb : bt t i = (t[i].toNat : Int) := by unfold bt; rw [dif_pos hi]
  rw [hb]
  exact (h t[i]).1 (k t[i] (by show t.data[i] ∈ t.data.toList; rw [Array.mem_toList_iff]; exact Array.getElem_mem _))
 ·intro k c hc
  obtain ⟨i, hi, rfl⟩ := List.getElem_of_mem hc
  have hi2 : i < t.size := by simpa using hi
  have hb : bt t i = (t[i].toNat : Int) := by unfold bt; rw [dif_pos hi2]
  have := k i hi2
  rw [hb] at this
  exact (h _).2 this
theorem okC_iff (c : UInt8) : (lowC c || digC c) = true ↔ okN (c.toNat : Int) := by
 simp only [lowC, digC, Bool.or_eq_true, Bool.and_eq_true, decide_eq_true_eq, okN, lowN]
 omega
theorem letW_iff (t : ByteArray) : letW t.data.toList = true ↔ 1 ≤ t.size ∧ ∀ i, i < t.size → okN (bt t i) := by
 unfold letW
 rw [Bool.and_eq_true, all_bt t _ okN okC_iff, decide_eq_true_eq]
 have : t.data.toList ≠ [] ↔ 1 ≤ t.size := by
  rw [← List.length_pos_iff]
  have e : t.data.toList.length = t.size := by simp
  rw [e]; omega
 rw [this]
set_option maxRecDepth 100000 in
set_option maxHeartbeats 1000000 in
theorem letters_any (t : ByteArray) (w : World) (ht : t.size ≤ 1000000) : Calls Tryz.prog 93 #[.string t] w fun r w' => r = .returned (.bool (letW t.data.toList)) ∧ w' = w := by
 go_enter Tryz.func93, Tryz.ntmps93
 go_wp2_with fail
 go_loopw [6] (fun i wr => ∃ k : Nat, k ≤ t.size ∧ i = .int .i64 k ∧ (∀ j, j < k → okN (bt t j)) ∧ wr = w) (fun i _ => t.size - (intOf i).toNat)
 case atStart => exact ⟨0, by omega, rfl, fun j hj => by omega, rfl⟩
 case round =>
  obtain ⟨k, hk, rfl, hno, rfl⟩ := hrel
  have HN := Lib.hid hno
  clear hno
  by_cases hlt : k < t.size
  ·have hb := bt_bd t k
   have v2 : IntKind.i64.wrap ((k : Int) + 1) = ((k + 1 : Nat) : Int) := by rw [IntWalk.i64_in _ (by omega)]; push_cast; rfl
   by_cases hok : okN (bt t k)
   ·have HO := Lib.hid hok
    have hc : lowN (bt t k) ∨ (bt t k < 97 ∧ 48 ≤ bt t k ∧ bt t k ≤ 57) := by
     rcases okN_cases (bt t k) with h | h | h | h | h
     ·exact .inl h
     ·exact .inr h
     all_goals (exfalso; unfold okN lowN at hok; omega)
    clear hok
    rw [bt_in hlt] at hb hc
    obtain ⟨b2, b3⟩ := hb
    rcases hc with ⟨o1, o2⟩ | ⟨o1, o2, o3⟩
    all_goals
     go_wp2_with fail
     go_roundw
     case rel =>
      refine ⟨k + 1, by omega, by go_num, fun j hj => ?_, trivial⟩
      rcases Nat.lt_or_ge j k with h | h
      ·exact HN.out j h
      ·obtain rfl : j = k := by omega
       exact HO.out
     case measure => simp [intOf]; omega
   ·have HF : Hid (letW t.data.toList = false) := Lib.hid (by
     rw [Bool.eq_false_iff]; intro h
     exact hok (((letW_iff t).1 h).2 k hlt))
    have hc : (bt t k < 97 ∧ bt t k < 48) ∨ (bt t k < 97 ∧ 48 ≤ bt t k ∧ 57 < bt t k) ∨ (97 ≤ bt t k ∧ 122 < bt t k) := by
     rcases okN_cases (bt t k) with h | h | h | h | h
     ·exact absurd (.inl h) hok
     ·exact absurd (.inr h.2) hok
     ·exact .inl h
     ·exact .inr (.inl h)
     ·exact .inr (.inr h)
    clear hok
    rw [bt_in hlt] at hc hb
    obtain ⟨b2, b3⟩ := hb
    rcases hc with ⟨o1, o2⟩ | ⟨o1, o2, o3⟩ | ⟨o1, o2⟩
    all_goals
     go_wp2_with fail
     go_ret
     exact ⟨ret_bool HF.out.symm, rfl⟩
  ·have HE : Hid ((!t.toList.isEmpty) = letW t.data.toList) := Lib.hid (by
    rw [ByteArray.toList_eq]
    have e : t.data.toList.length = t.size := by simp
    rw [Bool.eq_iff_iff, letW_iff]
    constructor
    ·intro h
     refine ⟨?_, fun i hi => HN.out i (by omega)⟩
     cases hd : t.data.toList with
     | nil => rw [hd] at h; simp at h
     | cons a l => rw [hd] at e; simp at e; omega
    ·intro h
     cases hd : t.data.toList with
     | nil => rw [hd] at e; simp at e; omega
     | cons a l => rfl)
   go_wp2_with fail
   go_ret
   exact ⟨ret_bool HE.out, rfl⟩
theorem okName_let (t : ByteArray) : okName t.data.toList = true ↔ letW t.data.toList = true ∧ t.size ≤ 8 ∧ 97 ≤ bt t 0 := by
 rw [okName_iff, letW_iff]
 unfold edgeN
 constructor
 ·rintro ⟨⟨h1, h2, h3⟩, h4⟩
  exact ⟨⟨h1, h4⟩, h2, h3.1⟩
 ·rintro ⟨⟨h1, h4⟩, h2, h3⟩
  refine ⟨⟨h1, h2, h3, ?_⟩, h4⟩
  rcases h4 0 (by omega) with h | h
  ·exact h.2
  ·omega
set_option maxRecDepth 100000 in
set_option maxHeartbeats 1000000 in
theorem roomName_any (t : ByteArray) (w : World) (ht : t.size ≤ 1000000) : Calls Tryz.prog 266 #[.string t] w fun r w' => r = .returned (.bool (okName t.data.toList)) ∧ w' = w := by
 go_enter Tryz.func266, Tryz.ntmps266
 go_wp2_with fail
 with_reducible refine (letters_any t w ht).mono ?_
 rintro _ w1 ⟨rfl, rfl⟩
 cases hl : letW t.data.toList with
 | false =>
  have HF : Hid (okName t.data.toList = false) := Lib.hid (by
   rw [Bool.eq_false_iff]; intro h
   have := ((okName_let t).1 h).1
   rw [hl] at this; cases this)
  clear hl
  go_wp2_with fail
  go_ret
  exact ⟨ret_bool HF.out.symm, rfl⟩
 | true =>
  have h1 := ((letW_iff t).1 hl).1
  have HL := Lib.hid hl
  clear hl
  by_cases h2 : t.size ≤ 8
  ·have hb := bt_bd t 0
   by_cases h3 : 97 ≤ bt t 0
   ·have HT : Hid (okName t.data.toList = true) := Lib.hid ((okName_let t).2 ⟨HL.out, h2, h3⟩)
    rw [bt_in (by omega)] at hb h3
    obtain ⟨b2, b3⟩ := hb
    go_wp2_with fail
    go_ret
    exact ⟨ret_bool HT.out.symm, rfl⟩
   ·have HF : Hid (okName t.data.toList = false) := Lib.hid (by
     rw [Bool.eq_false_iff]; intro h
     exact h3 ((okName_let t).1 h).2.2)
    rw [bt_in (by omega)] at hb h3
    obtain ⟨b2, b3⟩ := hb
    go_wp2_with fail
    go_ret
    exact ⟨ret_bool (by rw [HF.out, decide_eq_false_iff_not]; omega), rfl⟩
  ·have HF : Hid (okName t.data.toList = false) := Lib.hid (by
    rw [Bool.eq_false_iff]; intro h
    exact h2 ((okName_let t).1 h).2.1)
   go_wp2_with fail
   go_ret
   exact ⟨ret_bool HF.out.symm, rfl⟩
theorem byte_toList {t : ByteArray} {i : Nat} (hi : i < t.size) : t.data.toList[i]? = some t[i] := by
 have e : t.data.toList[i]? = t.data[i]? := by simp
 rw [e, Array.getElem?_eq_getElem (by simpa using hi)]; rfl
theorem toList_len (t : ByteArray) : t.data.toList.length = t.size := by simp
theorem pow10_le : ∀ n, n < 7 → (10 : Int) ^ n ≤ 1000000 := by decide
def RetN (l : List UInt8) (r : Ending) : Prop := ∃ v : Int, r = .returned (.tuple #[.int .i64 v, .bool (numV l).isSome]) ∧ ∀ n, numV l = some n → v = n
theorem retN_no {l : List UInt8} (h : numV l = none) (v : Int) : RetN l (.returned (.tuple #[.int .i64 v, .bool false])) := ⟨v, by rw [h]; rfl, fun n hn => by rw [h] at hn; cases hn⟩
set_option maxRecDepth 100000 in
set_option maxHeartbeats 1000000 in
theorem number_any (t : ByteArray) (w : World) (ht : t.size ≤ 1000000) : Calls Tryz.prog 92 #[.string t] w fun r w' => RetN t.data.toList r ∧ w' = w := by
 have HB := Lib.hid (toList_len t)
 go_enter Tryz.func92, Tryz.ntmps92
 by_cases h1 : t.size < 1
 ·have HN : Hid (numV t.data.toList = none) := Lib.hid (if_pos (by have := HB.out; omega))
  go_wp2_with fail
  go_ret2
  exact ⟨retN_no HN.out _, rfl⟩
 by_cases h2 : 7 < t.size
 ·have HN : Hid (numV t.data.toList = none) := Lib.hid (if_pos (by have := HB.out; omega))
  go_wp2_with fail
  go_ret2
  exact ⟨retN_no HN.out _, rfl⟩
 have h0 : 0 < t.size := by omega
 by_cases h3 : 1 < t.size ∧ (t[0].toNat : Int) = 48
 ·have HN : Hid (numV t.data.toList = none) := Lib.hid (if_pos (.inr (.inr ⟨by have := HB.out; omega, by
   rw [byte_toList h0]
   have h := h3.2
   have : t[0].toNat = (48 : UInt8).toNat := by show t[0].toNat = 48; omega
   rw [UInt8.toNat_inj.1 this]⟩)))
  obtain ⟨h4, h5⟩ := h3
  go_wp2_with fail
  go_ret2
  exact ⟨retN_no HN.out _, rfl⟩
 have HS : Hid (¬ (t.data.toList.length < 1 ∨ 7 < t.data.toList.length ∨ (1 < t.data.toList.length ∧ t.data.toList[0]? = some 48))) := Lib.hid (by
  have := HB.out
  rintro (h | h | ⟨h4, h5⟩)
  ·omega
  ·omega
  ·refine h3 ⟨by omega, ?_⟩
   rw [byte_toList h0] at h5
   injection h5 with h5
   rw [h5]; rfl)
 have hc : t.size ≤ 1 ∨ (1 < t.size ∧ ¬ (t[0].toNat : Int) = 48) := by omega
 clear h3
 rcases hc with hc | ⟨hc1, hc2⟩
 rotate_left
 have hq : ((t[0].toNat : Int) == 48) = false := by simpa using hc2
 clear hc2
 rotate_left
 all_goals
  go_wp2_with fail
  go_loopw [4, 26] (fun n i wr => ∃ k : Nat, k ≤ t.size ∧ i = .int .i64 k ∧ n = .int .i64 (decV (t.data.toList.take k)) ∧ (∀ c ∈ t.data.toList.take k, digC c = true) ∧ wr = w) (fun _ i _ => t.size - (intOf i).toNat)
  case atStart => exact ⟨0, by omega, rfl, rfl, by simp, rfl⟩
  case round =>
   obtain ⟨k, hk, rfl, rfl, hd, rfl⟩ := hrel
   have HD := Lib.hid hd
   clear hd
   by_cases hlt : k < t.size
   ·have hb := byte_toList hlt
    have ht1 := take_succ_of hb
    have hv := decV_snoc (t.data.toList.take k) t[k]
    rw [← ht1] at hv
    have HV := Lib.hid hv
    have HT := Lib.hid ht1
    have bd := decV_in HD.out
    have hp := pow10_le (t.data.toList.take k).length (by have := HB.out; rw [List.length_take]; omega)
    have b3 : t[k].toNat ≤ 255 := by have := t[k].toNat_lt; omega
    by_cases hok : 48 ≤ (t[k].toNat : Int) ∧ (t[k].toNat : Int) ≤ 57
    ·obtain ⟨o1, o2⟩ := hok
     have HC : Hid (∀ c ∈ t.data.toList.take (k + 1), digC c = true) := Lib.hid (by
      rw [HT.out]
      intro c hc
      rcases List.mem_append.1 hc with hc | hc
      ·exact HD.out c hc
      ·rw [List.mem_singleton.1 hc]
       simp only [digC, Bool.and_eq_true, decide_eq_true_eq]; omega)
     clear hb ht1 hv
     generalize decV (t.data.toList.take k) = d at bd HV ⊢
     have v1 : IntKind.i64.wrap (10 * d) = 10 * d := IntWalk.i64_in _ (by omega)
     have v2 : IntKind.i64.wrap ((k : Int) + 1) = ((k + 1 : Nat) : Int) := by rw [IntWalk.i64_in _ (by omega)]; push_cast; rfl
     have v3 : IntKind.u8.wrap ((t[k].toNat : Int) - 48) = (t[k].toNat : Int) - 48 := by rw [IntKind.wrap_u8]; omega
     have v4 : IntKind.i64.wrap ((t[k].toNat : Int) - 48) = (t[k].toNat : Int) - 48 := IntWalk.i64_in _ (by omega)
     have v5 : IntKind.i64.wrap (10 * d + ((t[k].toNat : Int) - 48)) = 10 * d + ((t[k].toNat : Int) - 48) := IntWalk.i64_in _ (by omega)
     clear bd hp
     go_wp2_with fail
     exact ⟨⟨k + 1, by omega, by go_num, by rw [HV.out], HC.out, trivial⟩, by simp [intOf]; omega⟩
    ·have HN : Hid (numV t.data.toList = none) := Lib.hid (by
      unfold numV
      rw [if_neg HS.out, if_neg]
      intro h
      rw [List.all_eq_true] at h
      have := h t[k] (List.mem_of_getElem? hb)
      simp only [digC, Bool.and_eq_true, decide_eq_true_eq] at this
      omega)
     have ho : (t[k].toNat : Int) < 48 ∨ (48 ≤ (t[k].toNat : Int) ∧ 57 < (t[k].toNat : Int)) := by omega
     clear hb ht1 hv hp bd hok
     rcases ho with o1 | ⟨o1, o2⟩
     ·go_wp2_with fail
      go_ret2
      exact ⟨retN_no HN.out _, rfl⟩
     ·go_wp2_with fail
      go_ret2
      exact ⟨retN_no HN.out _, rfl⟩
   ·have hz : t.data.toList.take k = t.data.toList := List.take_of_length_le (by have := HB.out; omega)
    have HN : Hid (numV t.data.toList = if decV t.data.toList ≤ 1000000 then some (decV t.data.toList) else none) := Lib.hid (by
     unfold numV
     rw [if_neg HS.out, if_pos]
     rw [List.all_eq_true, ← hz]; exact HD.out)
    rw [hz]
    clear hz
    generalize decV t.data.toList = d at HN ⊢
    by_cases hd : d ≤ 1000000
    ·have HM : Hid (numV t.data.toList = some d) := Lib.hid (by rw [HN.out, if_pos hd])
     go_wp2_with fail
     go_ret2
     exact ⟨⟨d, by rw [HM.out]; rfl, fun n hn => by rw [HM.out] at hn; injection hn⟩, rfl⟩
    ·have HM : Hid (numV t.data.toList = none) := Lib.hid (by rw [HN.out, if_neg hd])
     go_wp2_with fail
     go_ret2
     exact ⟨retN_no HM.out _, rfl⟩
end Go.Proofs.YtihhclhpjgeniaaGreatDoor
namespace Go.Proofs.YtihhclhpjgeniaaGreatDoor
open Go.RowKit Go.Sort
theorem at1_take (l : List Int) (k n : Nat) : at1 (l.take k) n = if n ≤ k then at1 l n else 0 := by
 cases n with
 | zero => simp [at1]
 | succ n =>
  show (l.take k).getD n 0 = if n + 1 ≤ k then l.getD n 0 else 0
  simp only [List.getD_eq_getElem?_getD, List.getElem?_take]
  by_cases h : n < k
  ·rw [if_pos h, if_pos (by omega)]
  ·rw [if_neg h, if_neg (by omega)]; rfl
theorem at1_get {l : List Int} {k : Nat} {z : Int} (h : l[k]? = some z) : at1 l (k + 1) = z := by
 show l.getD k 0 = z
 rw [List.getD_eq_getElem?_getD, h]; rfl
theorem op_r (R W : List Int) {k : Nat} {z : Int} (h : R[k]? = some z) : setH (Hr.op ⟨R.take k, W⟩) 0 (k + 1) z = Hr.op ⟨R.take (k + 1), W⟩ := by
 funext a b
 unfold setH Hr.op
 by_cases ha : a = 0
 ·subst ha
  simp only [true_and, if_true, at1_take]
  by_cases hb : b = k + 1
  ·subst hb
   rw [if_pos rfl, if_pos (Nat.le_refl _), at1_get h]
  ·rw [if_neg hb]
   by_cases hc : b ≤ k
   ·rw [if_pos hc, if_pos (by omega)]
   ·rw [if_neg hc, if_neg (by omega)]
 ·rw [if_neg (fun e => ha e.1), if_neg ha, if_neg ha]
theorem op_w (R W : List Int) {k : Nat} {z : Int} (h : W[k]? = some z) : setH (Hr.op ⟨R, W.take k⟩) 1 (k + 1) z = Hr.op ⟨R, W.take (k + 1)⟩ := by
 funext a b
 unfold setH Hr.op
 by_cases h1 : a = 1
 ·subst h1
  simp only [true_and, at1_take, if_neg (show ¬ (1 : Nat) = 0 by omega), if_true]
  by_cases hb : b = k + 1
  ·subst hb
   rw [if_pos rfl, if_pos (Nat.le_refl _), at1_get h]
  ·rw [if_neg hb]
   by_cases hc : b ≤ k
   ·rw [if_pos hc, if_pos (by omega)]
   ·rw [if_neg hc, if_neg (by omega)]
 ·rw [if_neg (fun e => h1 e.1)]
  by_cases ha : a = 0
  ·rw [if_pos ha, if_pos ha]
  ·rw [if_neg ha, if_neg ha, if_neg h1, if_neg h1]
theorem op_none : Hr.op ⟨[], []⟩ = zeroH := by
 funext a b
 unfold Hr.op
 split
 ·cases b <;> rfl
 ·split
  ·cases b <;> rfl
  ·rfl
set_option maxRecDepth 100000 in
set_option maxHeartbeats 1000000 in
theorem open_any (v : BV) (w : World) (hv : v.In w) :
  Calls Tryz.prog 145 #[v.val] w fun r w' => r = .returned (.agg (arrI (flatP v.h.op))) ∧ Below w.heap.size w w' := by
 have hn := hv.nr
 have hm := hv.mw
 have hn2 := hv.ok.r
 have hm2 := hv.ok.w
 have l1 : v.n ≤ v.h.R.length := by omega
 have l2 : v.h.R.length ≤ v.n := by omega
 have l3 : v.m ≤ v.h.W.length := by omega
 have l4 : v.h.W.length ≤ v.m := by omega
 have l5 : v.n ≤ 24 := by omega
 have l6 : v.m ≤ 24 := by omega
 have HV := Lib.hid hv
 clear hv hn hm hn2 hm2
 go_enter Tryz.func145, Tryz.ntmps145
 dsimp only [BV.val]
 go_wp2_with fail
 rw [lit50]
 refine wp_gen (fun w1 => At w1 w.heap.size #[.slice v.A v.n v.c, .slice v.B v.m v.d] 56 ∧ At w1 (w.heap.size + 1) (arrI (flatP zeroH)) 217 ∧ At w1 (w.heap.size + 1 + 1) (arrI (flatP zeroH)) 217 ∧ Below w.heap.size w w1) ⟨?_, ?_, ?_, ?_⟩ ?_
 ·exact ((At.new w _ 56).below (belowA _ _)).below (belowA _ _)
 ·have := (At.new (w.alloc (.cells #[.slice v.A v.n v.c, .slice v.B v.m v.d] 56)) (arrI (flatP zeroH)) 217).below (belowA _ (.cells (arrI (flatP zeroH)) 217))
  rw [World.size_alloc] at this
  exact this
 ·have := At.new ((w.alloc (.cells #[.slice v.A v.n v.c, .slice v.B v.m v.d] 56)).alloc (.cells (arrI (flatP zeroH)) 217)) (arrI (flatP zeroH)) 217
  rw [World.size_alloc, World.size_alloc] at this
  exact this
 ·exact below1 _ (belowAA _ _ _)
 rintro w1 ⟨hb, h1, h2, hw⟩
 have HB := Lib.hid hb
 have H1 := Lib.hid h1
 have H2 := Lib.hid h2
 have HW := Lib.hid hw
 clear hb h1 h2 hw
 go_loopw [11] (fun i wr => ∃ j : Nat, j ≤ v.n ∧ i = .int .i64 j ∧ At wr w.heap.size #[.slice v.A v.n v.c, .slice v.B v.m v.d] 56 ∧ At wr (w.heap.size + 1) (arrI (flatP zeroH)) 217 ∧ LkP wr (w.heap.size + 1 + 1) (Hr.op ⟨v.h.R.take j, []⟩) ∧ Below w.heap.size w wr) (fun i _ => v.n - (intOf i).toNat)
 case atStart => exact ⟨0, by omega, rfl, HB.out, H1.out, by rw [List.take_zero, op_none]; exact H2.out, HW.out⟩
 case round =>
  obtain ⟨j, hj, rfl, hb, h1, h2, hw⟩ := hrel
  clear HB H1 H2 HW
  have HB := Lib.hid hb
  have H1 := Lib.hid h1
  have H2 := Lib.hid h2
  have HW := Lib.hid hw
  clear hb h1 h2 hw
  by_cases hlt : j < v.n
  ·obtain ⟨ad, z, e1, _, hx0, c0⟩ := dsat (HV.out.below HW.out).r (k := j) (by omega)
   have HX := Lib.hid hx0
   have f2 := H2.out.fz
   have g2 := H2.out.get0 (n := j + 1) (by omega)
   have v2 : (IntKind.i64.wrap ((j : Int) + 1)) = ((j + 1 : Nat) : Int) := by rw [IntWalk.i64_in _ (by omega)]; push_cast; rfl
   clear hx0
   go_wp2_with fail
   go_roundw
   case rel => exact ⟨j + 1, by omega, by go_num, HB.out.far (by show w.heap.size ≠ w.heap.size + 1 + 1; omega) _, H1.out.far (by show w.heap.size + 1 ≠ w.heap.size + 1 + 1; omega) _, by have := H2.out.put0 (j + 1) z; rwa [op_r _ _ HX.out] at this, below_put HW.out (by show w.heap.size ≤ w.heap.size + 1 + 1; omega) _⟩
   case measure => simp [intOf]; omega
  ·obtain rfl : j = v.n := by omega
   have H3 : Hid (LkP wr (w.heap.size + 1 + 1) (Hr.op ⟨v.h.R, []⟩)) := Lib.hid (by have := H2.out; rwa [List.take_of_length_le l2] at this)
   have b0 := HB.out.cell
   clear H2
   go_wp2_with fail
   clear hj hlt b0
   have H2 := H3
   clear H3
   go_loopw [25] (fun i wr => ∃ j : Nat, j ≤ v.m ∧ i = .int .i64 j ∧ At wr w.heap.size #[.slice v.A v.n v.c, .slice v.B v.m v.d] 56 ∧ At wr (w.heap.size + 1) (arrI (flatP zeroH)) 217 ∧ LkP wr (w.heap.size + 1 + 1) (Hr.op ⟨v.h.R, v.h.W.take j⟩) ∧ Below w.heap.size w wr) (fun i _ => v.m - (intOf i).toNat)
   case atStart => exact ⟨0, by omega, rfl, HB.out, H1.out, by simpa using H2.out, HW.out⟩
   case round =>
    obtain ⟨j, hj, rfl, hb, h1, h2, hw⟩ := hrel
    clear HB H1 H2 HW
    have HB := Lib.hid hb
    have H1 := Lib.hid h1
    have H2 := Lib.hid h2
    have HW := Lib.hid hw
    clear hb h1 h2 hw
    by_cases hlt : j < v.m
    ·obtain ⟨ad, z, e1, _, hx0, c0⟩ := dsat (HV.out.below HW.out).s (k := j) (by omega)
     have HX := Lib.hid hx0
     have f2 := H2.out.fz
     have g2 := H2.out.get1 (n := j + 1) (by omega)
     have v2 : (IntKind.i64.wrap ((j : Int) + 1)) = ((j + 1 : Nat) : Int) := by rw [IntWalk.i64_in _ (by omega)]; push_cast; rfl
     clear hx0
     go_wp2_with fail
     go_roundw
     case rel => exact ⟨j + 1, by omega, by go_num, HB.out.far (by show w.heap.size ≠ w.heap.size + 1 + 1; omega) _, H1.out.far (by show w.heap.size + 1 ≠ w.heap.size + 1 + 1; omega) _, by have := H2.out.put1 (j + 1) z; rwa [op_w _ _ HX.out] at this, below_put HW.out (by show w.heap.size ≤ w.heap.size + 1 + 1; omega) _⟩
     case measure => simp [intOf]; omega
    ·obtain rfl : j = v.m := by omega
     have H4 : Hid (LkP wr (w.heap.size + 1 + 1) v.h.op) := Lib.hid (by have := H2.out; rwa [List.take_of_length_le l4] at this)
     clear H2
     go_wp2_with (first | refine wpList_load50 rfl _ rfl (w.heap.size + 1 + 1) rfl _ H4.out ?_ | refine wpList_store50 rfl _ _ rfl (w.heap.size + 1) _ _ rfl rfl H1.out ?_)
     refine bodyPost_ret (ret50 2 (w.heap.size + 1) _ rfl rfl (H1.out.row _)) rfl ?_
     exact ⟨rfl, below_row HW.out (by omega) _⟩
end Go.Proofs.YtihhclhpjgeniaaGreatDoor
namespace Go.Proofs.YtihhclhpjgeniaaGreatDoor
open Go.RowKit Go.Sort
section
variable {P : Program} {ops : Array Oper} {md : Region.Mode} {C : World → Prop}
def wpAnyT (P : Program) (md : Region.Mode) (ops : Array Oper) (C : World → Prop) (n : Nat) (L : Array Bool → Act → Prop) : Nat → Array Bool → Act → Prop
 | 0, listed, a => L listed a
 | f + 1, listed, a =>
  Region.ready md ops listed ≠ [] ∧ ∀ i ∈ Region.ready md ops listed, i < n ∧ qOp P ops C i (wpAnyT P md ops C n L f (listed.setIfInBounds i true)) a
theorem wpAny_of_headT {n g : Nat} {L : Array Bool → Act → Prop} {Q' : Exit → Act → World → Prop} (hL : ∀ listed a w, C w → L listed a → wpAny P md ops Q' g listed a w) :
  ∀ (f : Nat) (listed : Array Bool) (a : Act) (w : World), C w → wpAnyT P md ops C n L f listed a → wpAny P md ops Q' (f + g) listed a w
 | 0, listed, a, w, hw, h => by rw [Nat.zero_add]; exact hL _ _ _ hw h
 | f + 1, listed, a, w, hw, h => by
  rw [show f + 1 + g = (f + g) + 1 by omega]
  exact ⟨fun h0 => absurd h0 h.1, fun i hi => wpOp_of_qOp hw (fun a' w' hw' h' => wpAny_of_headT hL f _ a' w' hw' h') (h.2 i hi).2⟩
theorem wpAnyT_first {n i : Nat} {oi : Oper} {v : Value} {L : Array Bool → Act → Prop} (hi : ops[i]? = some oi) (hsel : ∀ (j : Nat) (o : Oper) cs b, ops[j]? = some o → o.op ≠ .select cs b)
  (hs : Region.sinkB md ops n = true) (hc : Region.chainB md ops n = true) (hn : n < ops.size) (hin : i < n)
  (hdone : ∀ listed a, L listed a → ∀ j ∈ Region.ready md ops listed, n ≤ j) :
  ∀ (f : Nat) (listed : Array Bool) (a : Act), HeadInv md ops n listed →
   (∀ j oj, ops[j]? = some oj → j ≠ i → listed.getD j true = false → (∀ e ∈ oj.after, Region.binds md e = true → e.on ≠ i) → oi.apart ops oj = true) →
   i ∈ Region.ready md ops listed → YieldsIn P ops C oi v a →
   wpAnyT P md ops C n L f (listed.setIfInBounds i true) (a.put oi.dst v) → wpAnyT P md ops C n L (f + 1) listed a := by
 intro f
 induction f with
 | zero =>
  intro listed a inv _ hr hy H
  have hun := (mem_ready.1 hr).1
  refine ⟨fun h => (by rw [h] at hr; cases hr), fun j hj => ?_⟩
  have hjn : j < n := by
   rcases Nat.lt_or_ge j n with h | h
   ·exact h
   ·exact absurd hj (tail_waits hs hc hn inv _ i rfl hin hun j h)
  refine ⟨hjn, ?_⟩
  by_cases hji : j = i
  ·subst hji; exact hy.qOp hi H
  ·have := hdone _ _ H j (ready_mono hj hji)
   omega
 | succ f ih =>
  intro listed a inv hfree hr hy H
  have hun := (mem_ready.1 hr).1
  refine ⟨fun h => (by rw [h] at hr; cases hr), fun j hj => ?_⟩
  have hjn : j < n := by
   rcases Nat.lt_or_ge j n with h | h
   ·exact h
   ·exact absurd hj (tail_waits hs hc hn inv _ i rfl hin hun j h)
  refine ⟨hjn, ?_⟩
  by_cases hji : j = i
  ·subst hji; exact hy.qOp hi H
  ·have h1 := (H.2 j (ready_mono hj hji)).2
   obtain ⟨hjun, oj, hoj, hall⟩ := mem_ready.1 hj
   have hnot : ∀ e ∈ oj.after, Region.binds md e = true → e.on ≠ i := fun e he hb heq => by
    have h1 := hall e he hb
    rw [heq, getD_both hun] at h1
    cases h1
   have h2 := qOp_put hoj (hfree j oj hoj hji hjun hnot) (fun cs b => hsel i oi cs b hi) (fun cs b => hsel j oj cs b hoj) hy h1
   have hfree' : ∀ k ok, ops[k]? = some ok → k ≠ i → (listed.setIfInBounds j true).getD k true = false →
     (∀ e ∈ ok.after, Region.binds md e = true → e.on ≠ i) → oi.apart ops ok = true := fun k ok hk hki hun hno => by
    refine hfree k ok hk hki ?_ hno
    by_cases hjk : j = k
    ·subst hjk; exact hjun
    ·rw [getD_set_ne true hjk] at hun; exact hun
   refine qOp_mono (fun a' h3 => ih (listed.setIfInBounds j true) a' (inv.set hj hjn) hfree' (ready_mono hr (Ne.symm hji)) h3.1 ?_) h2
   rw [Array.setIfInBounds_comm _ _ hji]
   exact h3.2
theorem wpAnyT_lex {n g : Nat} {Lq : Act → Prop} (hsel : Region.noSelect ops = true) (hs : Region.sinkB md ops n = true) (hc : Region.chainB md ops n = true) (hn : n < ops.size) :
  ∀ (l : List Oper) (k : Nat) (listed : Array Bool) (a : Act), (∀ j, j < l.length → l[j]? = ops[k + j]?) → k + l.length = n → HeadInv md ops n listed →
  Region.lexHead md ops g l.length k listed = true → wpQuiet P ops C Lq l a →
  wpAnyT P md ops C n (fun listed' a' => Region.seqB md ops g n listed' = true ∧ Lq a') l.length listed a
 | [], k, listed, a, _, hk, _, hB, h => by
  have : k = n := by simpa using hk
  subst this
  exact ⟨by simpa [Region.lexHead] using hB, h⟩
 | o :: l, k, listed, a, hl, hk, inv, hB, h => by
  have h0 : ops[k]? = some o := by simpa using (hl 0 (by simp)).symm
  simp only [List.length_cons, Region.lexHead, Bool.and_eq_true] at hB
  obtain ⟨⟨hr, hf⟩, hB'⟩ := hB
  have hkn : k < n := by simp only [List.length_cons] at hk; omega
  have hr' : k ∈ Region.ready md ops listed := by simpa using hr
  have hst : qOp P ops C k (wpQuiet P ops C Lq l) a := by unfold qOp; simp only [h0]; exact h
  obtain ⟨v, hy, hK⟩ := yieldsIn_of_qOp h0 hst
  exact wpAnyT_first h0 (Region.noSelect_spec hsel) hs hc hn hkn (fun listed' a' hL => seqB_ready hL.1) l.length listed a inv (Region.free_spec h0 hf) hr' hy
   (wpAnyT_lex hsel hs hc hn l (k + 1) _ _ (fun j hj => by have := hl (j + 1) (by simp; omega); simpa [Nat.add_assoc, Nat.add_comm 1 j] using this) (by simp only [List.length_cons] at hk; omega) (inv.set hr' hkn) hB' hK)
theorem wp_region_quiet_tail {id : Nat} {Q : Exit → Act → World → Prop} {a : Act} {w : World} {l : List Oper} (n : Nat) (hm : P.follows .mixedOrders = true) (hB : Region.lexTailB .any l.toArray n = true) (hC : C { w with drawn := w.drawn + 1 })
  (h : wpQuiet P l.toArray C (fun a' => ∀ w', C w' → wpList P l.toArray Q (l.drop n) a' w') (l.take n) a) : (Code.region id l.toArray true).wp P Q a w := by
 simp only [Region.lexTailB, Bool.and_eq_true, decide_eq_true_eq] at hB
 obtain ⟨⟨⟨⟨hsel, hn⟩, hs⟩, hc⟩, hlex⟩ := hB
 have hn' : n < l.length := by simpa using hn
 have htl : (l.take n).length = n := by simp; omega
 have hdl : (l.drop n).length = l.toArray.size - n := by simp
 have inv0 : HeadInv .any l.toArray n (Array.replicate l.toArray.size false) :=
  ⟨by simp, fun j oj _ hl => (by rw [getD_replicate_false] at hl; cases hl), fun t _ ht => getD_in (by simpa using ht) (getD_replicate_false _ _)⟩
 have H := wpAnyT_lex (C := C) (md := .any) (g := l.toArray.size - n) hsel hs hc hn (l.take n) 0 _ a (fun j hj => by
  have hj' : j < n := by rw [htl] at hj; exact hj
  simp [hj']) (by simpa using htl) inv0 (by rw [htl]; exact hlex) h
 refine wp_region_any hm ?_
 have := wpAny_of_headT (Q' := Q) (g := l.toArray.size - n) (fun listed a' w' hw' hL => by
  have := wpAny_of_seq (md := .any) (Q' := Q) (l.drop n) n listed a' w' (fun j => by simp [List.getElem?_drop]) (by rw [hdl]; exact hL.1) (hL.2 w' hw')
  rwa [hdl] at this) _ _ _ _ hC H
 rw [htl, show n + (l.toArray.size - n) = l.toArray.size by omega] at this
 exact this
theorem wpQuiet_mono {Q Q' : Act → Prop} (hq : ∀ a, Q a → Q' a) : ∀ (l : List Oper) (a : Act), wpQuiet P ops C Q l a → wpQuiet P ops C Q' l a := by
 intro l
 induction l with
 | nil => intro a h; exact hq a h
 | cons o l ih =>
  intro a h
  unfold wpQuiet at h ⊢
  split
  ·rename_i hw
   rw [if_pos hw] at h
   exact Oper.quiet_mono (fun a hh => ih a hh) h
  ·rename_i hw
   rw [if_neg hw] at h
   exact ih _ h
theorem wp_region_qt {id : Nat} {Q : Exit → Act → World → Prop} {a : Act} {w : World} {l : List Oper} (n : Nat) (hm : P.follows .mixedOrders = true) (hB : Region.lexTailB .any l.toArray n = true)
  (h : wpQuiet P l.toArray (fun w' => ∃ p : Regrown, w' = grow (redrawn w p.d) p.os) (fun a' => ∀ w', Below w.heap.size w w' → wpList P l.toArray Q (l.drop n) a' w') (l.take n) a) : (Code.region id l.toArray true).wp P Q a w := by
 refine wp_region_quiet_tail (C := fun w' => ∃ p : Regrown, w' = grow (redrawn w p.d) p.os) n hm hB ⟨⟨w.drawn + 1, #[]⟩, by rw [grow_empty]; rfl⟩ ?_
 exact wpQuiet_mono (fun a' h w' ⟨p, hp⟩ => h w' (hp ▸ below_regrown w p.d p.os)) _ _ h
end
end Go.Proofs.YtihhclhpjgeniaaGreatDoor
namespace Go.Proofs.YtihhclhpjgeniaaGreatDoor
open Go.RowKit Go.Sort
set_option maxRecDepth 100000 in
set_option maxHeartbeats 1000000 in
theorem count_any (h : Lck) (w : World) (hh : h.In 100000000) :
  Calls Tryz.prog 146 #[.agg (arrI (flatP h)), .int .i64 1] w fun r w' => r = .returned (.int .i64 (cntH h)) ∧ Below w.heap.size w w' := by
 have HH := Lib.hid hh
 clear hh
 go_enter Tryz.func146, Tryz.ntmps146
 go_wp2_with fail
 have h0 := At.new w (arrI (flatP h)) 217
 refine wp_gen (fun w1 => LkP w1 w.heap.size h ∧ Below w.heap.size w w1) ⟨h0, belowA _ _⟩ ?_
 clear h0
 rintro w1 ⟨h1, hw⟩
 go_loopw [5, 6] (fun s i wr => ∃ j : Nat, j ≤ 24 ∧ i = .int .i64 ((j + 1 : Nat) : Int) ∧ s = .int .i64 (sumTo (fun n => h 0 n + h 1 n) j) ∧ LkP wr w.heap.size h ∧ Below w.heap.size w wr) (fun _ i _ => 25 - (intOf i).toNat)
 case atStart => exact ⟨0, by omega, rfl, rfl, h1, hw⟩
 case round =>
  obtain ⟨j, hj, rfl, rfl, hb, hw2⟩ := hrel
  have HB := Lib.hid hb
  have HW := Lib.hid hw2
  clear hb hw2 h1 hw
  have s0 := sumTo_in (f := fun n => h 0 n + h 1 n) (M := 200000000) (fun n => by have := HH.out 0 n; have := HH.out 1 n; omega) j
  by_cases hlt : j < 24
  ·have g0 := HB.out.rg0 (n := j + 1) (by omega)
   have g1 := HB.out.rg1 (n := j + 1) (by omega)
   have a0 := HH.out 0 (j + 1)
   have a1 := HH.out 1 (j + 1)
   have v1 : IntKind.i64.wrap (h 0 (j + 1) + h 1 (j + 1)) = h 0 (j + 1) + h 1 (j + 1) := IntWalk.i64_in _ (by omega)
   have v2 : IntKind.i64.wrap (sumTo (fun n => h 0 n + h 1 n) j + (h 0 (j + 1) + h 1 (j + 1))) = sumTo (fun n => h 0 n + h 1 n) (j + 1) := IntWalk.i64_in _ (by omega)
   have v3 : IntKind.i64.wrap (((j + 1 : Nat) : Int) + 1) = ((j + 1 + 1 : Nat) : Int) := by rw [IntWalk.i64_in _ (by omega)]; push_cast; rfl
   clear s0 a0 a1
   go_wp2_with fail
   refine wp_region_qb mixed (by kernel_rfl) ?_
   repeat (go_big_quiet_step (fail))
   refine wpQuiet_nil ?_
   intro w5 hb5
   have HW5 := Lib.hid (below_trans' HW.out hb5)
   have HB5 := Lib.hid (At.below HB.out hb5)
   clear hb5 g0 g1
   go_wp2_with fail
   go_roundw
   case rel => exact ⟨j + 1, by omega, by go_num, rfl, HB5.out, HW5.out⟩
   case measure => simp [intOf]; omega
  ·obtain rfl : j = 24 := by omega
   have HE : Hid (sumTo (fun n => h 0 n + h 1 n) 24 = cntH h) := Lib.hid rfl
   clear s0
   rw [HE.out]
   go_wp2_with fail
   go_ret
   exact ⟨rfl, HW.out⟩
end Go.Proofs.YtihhclhpjgeniaaGreatDoor
namespace Go.Proofs.YtihhclhpjgeniaaGreatDoor
open Go.RowKit Go.Sort
set_option maxRecDepth 100000 in
set_option maxHeartbeats 1000000 in
theorem takeK_any (q : Nat) (h : Lck) (m : Nat) (n : Int) (w : World) (hk : LkP w q h) (hm : m < 25) (hh : h.In 100000000) (h0 : 0 ≤ n) (h1 : n ≤ 100000000) :
  Calls Tryz.prog 271 #[.pointer (some ⟨q, 0, none⟩), .int .i64 m, .int .i64 n] w fun r w' =>
   r = .returned (.agg #[.int .i64 (tk h n m 0), .int .i64 (tk h n m 1)]) ∧ LkP w' q (setH (setH h 0 m (h 0 m - tk h n m 0)) 1 m (h 1 m - tk h n m 1)) ∧ Kp (· = q) w w' := by
 have e0 : tk h n m 0 = min n (h 0 m) := rfl
 have e1 : tk h n m 1 = n - min n (h 0 m) := rfl
 have a0 := hh 0 m
 have a1 := hh 1 m
 rw [e0, e1]
 have v0 : IntKind.i64.wrap (n - min n (h 0 m)) = n - min n (h 0 m) := IntWalk.i64_in _ (by omega)
 have v1 : IntKind.i64.wrap (h 0 m - min n (h 0 m)) = h 0 m - min n (h 0 m) := IntWalk.i64_in _ (by omega)
 have v2 : IntKind.i64.wrap (h 1 m - (n - min n (h 0 m))) = h 1 m - (n - min n (h 0 m)) := IntWalk.i64_in _ (by omega)
 have HK := Lib.hid hk
 have c0 := hk.get0 hm
 have hq := hk.lt
 clear hk hh e0 e1 a0 a1
 go_enter Tryz.func271, Tryz.ntmps271
 go_wp2_with fail
 obtain ⟨r, hr⟩ : ∃ r, min n (h 0 m) = r := ⟨_, rfl⟩
 have HR := Lib.hid hr
 rw [hr] at v0 v1 v2 ⊢
 obtain ⟨s, hs⟩ : ∃ s, n - r = s := ⟨_, rfl⟩
 have HS := Lib.hid hs
 rw [hs] at v0 v2 ⊢
 clear hr hs
 have k1 := At.new w #[.int .i64 0, .int .i64 0] 215
 have k2 := At.new (w.alloc (.cells #[.int .i64 0, .int .i64 0] 215)) #[.int .i64 r, .int .i64 s] 215
 rw [World.size_alloc] at k2
 refine wp_gen (fun w1 => LkP w1 q h ∧ At w1 w.heap.size #[.int .i64 0, .int .i64 0] 215 ∧ At w1 (w.heap.size + 1) #[.int .i64 r, .int .i64 s] 215 ∧ Kp (· = q) w w1) ⟨HK.out.below (belowAA _ _ _), k1.below (belowA _ _), k2, Kp.of (belowAA _ _ _)⟩ ?_
 clear k1 k2 c0
 rintro w1 ⟨hk, k1, k2, kp⟩
 have HK := Lib.hid hk
 have K1 := Lib.hid k1
 have K2 := Lib.hid k2
 have KP := Lib.hid kp
 have hq1 : q ≠ w.heap.size + 1 := by omega
 have g0 := hk.rg0 hm
 have g1 := hk.rg1 hm
 have b0 : ∀ d os, (grow (redrawn w1 d) os).cell? ⟨w.heap.size + 1, 0, none⟩ = some (.int .i64 r) := rg_cell (k2.cell 0)
 clear hk k1 k2 kp
 refine wp_region_qt 12 mixed (by kernel_rfl) ?_
 simp only [List.take_succ_cons, List.take_zero, List.drop_succ_cons, List.drop_zero]
 repeat (go_big_quiet_step (fail))
 refine wpQuiet_nil ?_
 intro w2 hb2
 have HK2 := Lib.hid (LkP.below HK.out hb2)
 have K12 := Lib.hid (At.below K1.out hb2)
 have K22 := Lib.hid (At.below K2.out hb2)
 have KP2 := Lib.hid (KP.out.grow hb2)
 clear hb2 g0 g1 b0 HK K1 K2 KP
 have f2 := HK2.out.fz
 have c2 := HK2.out.get0 hm
 go_wp2_with fail
 have HK3 := Lib.hid (HK2.out.put0 m (h 0 m - r))
 have K13 := Lib.hid (K12.out.far (p := ⟨q, m * 2, none⟩) (fun e => by have : w.heap.size = q := e; omega) (.int .i64 (h 0 m - r)))
 have K23 := Lib.hid (K22.out.far (p := ⟨q, m * 2, none⟩) (fun e => hq1 e.symm) (.int .i64 (h 0 m - r)))
 have KP3 := Lib.hid (KP2.out.set (p := ⟨q, m * 2, none⟩) (fun _ => rfl) (.int .i64 (h 0 m - r)))
 generalize w2.setCell ⟨q, m * 2, none⟩ (.int .i64 (h 0 m - r)) = w3 at HK3 K13 K23 KP3 ⊢
 clear f2 c2 HK2 K12 K22 KP2
 have e3 : setH h 0 m (h 0 m - r) 1 m = h 1 m := by simp [setH]
 have g0 := HK3.out.rg0 hm
 have g1 := HK3.out.rg1 hm
 rw [e3] at g1
 have b1 : ∀ d os, (grow (redrawn w3 d) os).cell? ⟨w.heap.size + 1, 1, none⟩ = some (.int .i64 s) := rg_cell (K23.out.cell 1)
 refine wp_region_qt 12 mixed (by kernel_rfl) ?_
 simp only [List.take_succ_cons, List.take_zero, List.drop_succ_cons, List.drop_zero]
 repeat (go_big_quiet_step (fail))
 refine wpQuiet_nil ?_
 intro w4 hb4
 have HK4 := Lib.hid (LkP.below HK3.out hb4)
 have K14 := Lib.hid (At.below K13.out hb4)
 have K24 := Lib.hid (At.below K23.out hb4)
 have KP4 := Lib.hid (KP3.out.grow hb4)
 clear hb4 g0 g1 b1 HK3 K13 K23 KP3 e3
 have f2 := HK4.out.fz
 have c2 := HK4.out.get1 hm
 have d0 := K24.out.cell 0
 have d1 := K24.out.cell 1
 have x0 := K14.out.cell 0
 have x1 := K14.out.cell 1
 have fx := K14.out.fz
 have hq2 : q ≠ w.heap.size := by omega
 go_wp2_with fail
 have HK5 := HK4.out.put1 m (h 1 m - s)
 have HK6 := (HK5.far (p := ⟨w.heap.size, 0, none⟩) hq2 (.int .i64 r)).far (p := ⟨w.heap.size, 1, none⟩) hq2 (.int .i64 s)
 have K16 := ((K14.out.far (p := ⟨q, m * 2 + 1, none⟩) (fun e => hq2 e.symm) (.int .i64 (h 1 m - s))).set 0 (.int .i64 r)).set 1 (.int .i64 s)
 have KP6 := ((KP4.out.set (p := ⟨q, m * 2 + 1, none⟩) (fun _ => rfl) (.int .i64 (h 1 m - s))).set (p := ⟨w.heap.size, 0, none⟩) (fun e => absurd e (Nat.lt_irrefl _)) (.int .i64 r)).set (p := ⟨w.heap.size, 1, none⟩) (fun e => absurd e (Nat.lt_irrefl _)) (.int .i64 s)
 refine bodyPost_ret (results_cell_row (p := 6) (ty := 215) rfl _ _ w.heap.size 215 #[.int .i64 r, .int .i64 s] (0, 0) _ rfl K16 Tryz.underlying215 rfl (by kernel_rfl)) rfl ?_
 rw [HR.out, HS.out]
 exact ⟨rfl, HK6, KP6⟩
end Go.Proofs.YtihhclhpjgeniaaGreatDoor
