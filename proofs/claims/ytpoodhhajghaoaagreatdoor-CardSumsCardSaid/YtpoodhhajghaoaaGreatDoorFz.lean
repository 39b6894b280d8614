/- Walks: what an entry's text does, and valid names, both sides. -/
import Derived.Lib.AtoiAll
import Derived.Lib.IndexMore
import Derived.Lib.IndexLaws
import Derived.Lib.ItoaNum
import Derived.Test.YtpoodhhajghaoaaGreatDoorC4
import Derived.Test.YtpoodhhajghaoaaGreatDoorSl
namespace Go.Proofs.YtpoodhhajghaoaaGreatDoor

/-- A number of one or two digits, written. -/
def decL (n : Nat) : List UInt8 := if n < 10 then [UInt8.ofNat (48 + n)] else [UInt8.ofNat (48 + n / 10), UInt8.ofNat (48 + n % 10)]
theorem atoi_dec : ∀ n, n < 100 → Lib.atoiAll (decL n) = .ok (n : Int) := by decide +kernel
theorem decL_inj : ∀ n, n < 100 → ∀ m, m < 100 → decL n = decL m → n = m := by decide +kernel
def wW : List UInt8 := [119, 97, 115, 104]
def bW : List UInt8 := [98, 108, 101, 97, 99, 104]
def cutW : List UInt8 := [99, 117, 116]
def dyeW : List UInt8 := [100, 121, 101]
def lowC (c : UInt8) : Bool := 97 ≤ c.toNat && c.toNat ≤ 122
def digC (c : UInt8) : Bool := 48 ≤ c.toNat && c.toNat ≤ 57
def firstC : List UInt8 → Bool
  | [] => false
  | c :: _ => lowC c
/-- A valid name. -/
def okName (s : List UInt8) : Bool := decide (1 ≤ s.length) && decide (s.length ≤ 8) && firstC s && s.all fun c => lowC c || digC c
/-- The number of a cut's text, or 0. -/
def numL (r : List UInt8) : Nat := ((List.range 100).find? fun n => decide (1 ≤ n) && decide (r = decL n)).getD 0
theorem numL_dec {n : Nat} (h1 : 1 ≤ n) (h2 : n < 100) : numL (decL n) = n := by
  unfold numL
  cases h : (List.range 100).find? fun m => decide (1 ≤ m) && decide (decL n = decL m) with
  | none =>
    have := List.find?_eq_none.1 h n (List.mem_range.2 h2)
    simp [h1] at this
  | some m =>
    have hm := List.find?_some h
    have hr := List.mem_of_find?_eq_some h
    simp only [Bool.and_eq_true, decide_eq_true_eq] at hm
    exact (decL_inj n h2 m (List.mem_range.1 hr) hm.2).symm
theorem numL_no {r : List UInt8} (h : ∀ n, 1 ≤ n → n < 100 → r ≠ decL n) : numL r = 0 := by
  unfold numL
  cases h1 : (List.range 100).find? fun m => decide (1 ≤ m) && decide (r = decL m) with
  | none => rfl
  | some m =>
    have hm := List.find?_some h1
    have hr := List.mem_of_find?_eq_some h1
    simp only [Bool.and_eq_true, decide_eq_true_eq] at hm
    exact absurd hm.2 (h m hm.1 (List.mem_range.1 hr))
theorem numL_lt (r : List UInt8) : numL r < 100 := by
  unfold numL
  cases h1 : (List.range 100).find? fun m => decide (1 ≤ m) && decide (r = decL m) with
  | none => show 0 < 100; omega
  | some m => exact List.mem_range.1 (List.mem_of_find?_eq_some h1)
/-- A history: cut, washes, bleaches, colour. -/
structure Hst where
  cut : Nat
  wash : Nat
  bleach : Nat
  color : List UInt8
def hst0 : Hst := ⟨0, 0, 0, []⟩
/-- A text's part behind its first blank, if the first word is so. -/
def behind (w t : List UInt8) : Option (List UInt8) := if (w ++ [32]).isPrefixOf t then some (t.drop (w.length + 1)) else none
def stepH (h : Hst) (t : List UInt8) : Hst :=
  if t = wW then { h with wash := h.wash + 1 }
  else if t = bW then { h with bleach := h.bleach + 1, wash := 0 }
  else match behind cutW t with
    | some r => { h with cut := h.cut + numL r }
    | none => match behind dyeW t with
      | some r => if okName r then { h with color := r, wash := 0 } else h
      | none => h
def foldH (l : List (List UInt8)) : Hst := l.foldl stepH hst0
theorem foldH_snoc (l : List (List UInt8)) (t : List UInt8) : foldH (l ++ [t]) = stepH (foldH l) t := by simp [foldH]
/-- What a text cuts, and whether it bleaches. -/
def cutV (t : List UInt8) : Nat := if t = wW then 0 else if t = bW then 0 else match behind cutW t with | some r => numL r | none => 0
def bleV (t : List UInt8) : Nat := if t = wW then 0 else if t = bW then 1 else 0
theorem stepH_cut (h : Hst) (t : List UInt8) : (stepH h t).cut = h.cut + cutV t := by
  unfold stepH cutV
  split
  · rfl
  · split
    · rfl
    · split
      · rfl
      · split
        · split <;> rfl
        · rfl
theorem stepH_bleach (h : Hst) (t : List UInt8) : (stepH h t).bleach = h.bleach + bleV t := by
  unfold stepH bleV
  split
  · rfl
  · split
    · rfl
    · split
      · rfl
      · split
        · split <;> rfl
        · rfl
theorem foldl_cut (l : List (List UInt8)) (h : Hst) : (l.foldl stepH h).cut = h.cut + (l.map cutV).sum ∧ (l.foldl stepH h).bleach = h.bleach + (l.map bleV).sum := by
  induction l generalizing h with
  | nil => simp
  | cons t l ih =>
    obtain ⟨h1, h2⟩ := ih (stepH h t)
    rw [stepH_cut] at h1
    rw [stepH_bleach] at h2
    simp only [List.foldl_cons, List.map_cons, List.sum_cons, h1, h2]
    omega
theorem foldH_sums (l : List (List UInt8)) : (foldH l).cut = (l.map cutV).sum ∧ (foldH l).bleach = (l.map bleV).sum := by
  have := foldl_cut l hst0
  simpa [hst0, foldH] using this
theorem cutV_lt (t : List UInt8) : cutV t < 100 := by
  unfold cutV
  split
  · omega
  · split
    · omega
    · split
      · exact numL_lt _
      · omega
theorem bleV_le (t : List UInt8) : bleV t ≤ 1 := by
  unfold bleV
  split
  · omega
  · split <;> omega
end Go.Proofs.YtpoodhhajghaoaaGreatDoor

namespace Go.Proofs.YtpoodhhajghaoaaGreatDoor

/-- What a text does. -/
inductive Deed where
  | cut (n : Nat)
  | wash
  | bleach
  | dye (r : List UInt8)
  | none
  deriving DecidableEq
def deedL (t : List UInt8) : Deed :=
  if t = wW then .wash
  else if t = bW then .bleach
  else match behind cutW t with
    | some r => if numL r = 0 then .none else .cut (numL r)
    | Option.none => match behind dyeW t with
      | some r => if okName r then .dye r else .none
      | Option.none => .none
def doD (h : Hst) : Deed → Hst
  | .cut n => { h with cut := h.cut + n }
  | .wash => { h with wash := h.wash + 1 }
  | .bleach => { h with bleach := h.bleach + 1, wash := 0 }
  | .dye r => { h with color := r, wash := 0 }
  | .none => h
theorem stepH_deed (h : Hst) (t : List UInt8) : stepH h t = doD h (deedL t) := by
  unfold stepH deedL
  split
  · rfl
  · split
    · rfl
    · cases behind cutW t with
      | some r =>
        show { h with cut := h.cut + numL r } = doD h (if numL r = 0 then .none else .cut (numL r))
        by_cases h0 : numL r = 0
        · rw [if_pos h0, h0]; rfl
        · rw [if_neg h0]; rfl
      | none =>
        cases behind dyeW t with
        | some r =>
          show (if okName r then { h with color := r, wash := 0 } else h) = doD h (if okName r then .dye r else .none)
          cases h0 : okName r with
          | true => rw [if_pos rfl, if_pos rfl]; rfl
          | false => rw [if_neg (by simp), if_neg (by simp)]; rfl
        | none => rfl
theorem decDigits_dec : ∀ n, n < 100 → Lib.decDigits n = decL n := by
  intro n hn
  unfold Lib.decDigits decL
  split
  · rfl
  · unfold Lib.decDigits
    rw [dif_pos (by omega)]
    rfl
theorem behind_some {w r : List UInt8} : behind w (w ++ 32 :: r) = some r := by
  unfold behind
  rw [if_pos (by rw [List.isPrefixOf_iff_prefix]; exact ⟨r, by simp⟩)]
  congr 1
  rw [List.drop_append]
  simp
theorem behind_eq {w t r : List UInt8} (h : behind w t = some r) : t = w ++ 32 :: r := by
  unfold behind at h
  split at h
  · rename_i hp
    rw [List.isPrefixOf_iff_prefix] at hp
    obtain ⟨q, rfl⟩ := hp
    simp only [Option.some.injEq] at h
    subst h
    simp
  · cases h
theorem occ_blank {s : List UInt8} {i : Nat} : Lib.occAt s [32] i = true ↔ s[i]? = some 32 := by
  unfold Lib.occAt
  rw [List.isPrefixOf_iff_prefix]
  constructor
  · rintro ⟨q, hq⟩
    rw [← Nat.add_zero i, ← List.getElem?_drop, ← hq]
    rfl
  · intro h
    obtain ⟨hi, h⟩ := List.getElem?_eq_some_iff.1 h
    exact ⟨s.drop (i + 1), by rw [List.drop_eq_getElem_cons hi, h]; rfl⟩
theorem cut_none {t : List UInt8} (h : (32 : UInt8) ∉ t) : Lib.cut t [32] = (t, [], false) := by
  have : Lib.index t [32] = -1 := Lib.index_past (i := t.length) (by simp) (fun j hj => by
    cases hc : Lib.occAt t [32] j with
    | false => rfl
    | true => exact absurd (List.mem_of_getElem? (occ_blank.1 hc)) h) (by simp)
  unfold Lib.cut
  rw [this, if_neg (by omega)]
theorem cut_some {w r : List UInt8} (h : (32 : UInt8) ∉ w) : Lib.cut (w ++ 32 :: r) [32] = (w, r, true) := by
  have : Lib.index (w ++ 32 :: r) [32] = w.length := Lib.index_hit (fun j hj => by
    cases hc : Lib.occAt (w ++ 32 :: r) [32] j with
    | false => rfl
    | true =>
      have h1 := occ_blank.1 hc
      rw [List.getElem?_append_left hj] at h1
      exact absurd (List.mem_of_getElem? h1) h) (by simp) (occ_blank.2 (by simp))
  unfold Lib.cut
  rw [this, if_pos (by omega)]
  simp
theorem blank_split (t : List UInt8) : (32 : UInt8) ∉ t ∨ ∃ w r, (32 : UInt8) ∉ w ∧ t = w ++ 32 :: r := by
  by_cases h : (32 : UInt8) ∈ t
  · obtain ⟨w, r, hw, ht⟩ := List.eq_append_cons_of_mem h
    exact .inr ⟨w, r, ht, hw⟩
  · exact .inl h
/-- What the text does, by its first word and the rest. -/
theorem deed_cut {t r : List UInt8} (h1 : t ≠ wW) (h2 : t ≠ bW) (hw : (Lib.cut t [32]).1 = cutW) (hr : (Lib.cut t [32]).2.1 = r) : deedL t = if numL r = 0 then .none else .cut (numL r) := by
  rcases blank_split t with h | ⟨w, q, h, rfl⟩
  · rw [cut_none h] at hw hr
    simp only at hw hr
    subst hw hr
    decide +kernel
  · rw [cut_some h] at hw hr
    simp only at hw hr
    subst hw hr
    unfold deedL
    rw [if_neg h1, if_neg h2, behind_some]
theorem behind_word {w t r : List UInt8} (hw : (32 : UInt8) ∉ w) (h : behind w t = some r) : (Lib.cut t [32]).1 = w ∧ (Lib.cut t [32]).2.1 = r := by
  rw [behind_eq h, cut_some hw]
  exact ⟨rfl, rfl⟩
theorem behind_not {w t : List UInt8} (hw : (32 : UInt8) ∉ w) (h : (Lib.cut t [32]).1 ≠ w) : behind w t = Option.none := by
  cases hb : behind w t with
  | none => rfl
  | some r => exact absurd (behind_word hw hb).1 h
theorem deed_dye {t r : List UInt8} (h1 : t ≠ wW) (h2 : t ≠ bW) (hw : (Lib.cut t [32]).1 = dyeW) (hr : (Lib.cut t [32]).2.1 = r) : deedL t = if okName r then .dye r else .none := by
  rcases blank_split t with h | ⟨w, q, h, rfl⟩
  · rw [cut_none h] at hw hr
    simp only at hw hr
    subst hw hr
    decide +kernel
  · rw [cut_some h] at hw hr
    simp only at hw hr
    subst hw hr
    unfold deedL
    rw [if_neg h1, if_neg h2, behind_not (by decide) (by rw [cut_some h]; show dyeW ≠ cutW; decide), behind_some]
theorem deed_none {t : List UInt8} (h1 : t ≠ wW) (h2 : t ≠ bW) (hc : (Lib.cut t [32]).1 ≠ cutW) (hd : (Lib.cut t [32]).1 ≠ dyeW) : deedL t = .none := by
  unfold deedL
  rw [if_neg h1, if_neg h2, behind_not (by decide) hc, behind_not (by decide) hd]
/-- A number behind 'cut'. -/
theorem num_yes {r : List UInt8} {v : Int} (h1 : 1 ≤ v) (h2 : v ≤ 99) (hr : Lib.itoa v = r) : numL r = v.toNat := by
  have : Lib.itoa v = decL v.toNat := by
    unfold Lib.itoa
    rw [if_neg (by omega), decDigits_dec _ (by omega)]
  rw [← hr, this]
  exact numL_dec (by omega) (by omega)
theorem num_no {r : List UInt8} (h : ∀ v : Int, Lib.atoiAll r = .ok v → 1 ≤ v → v ≤ 99 → Lib.itoa v ≠ r) : numL r = 0 := by
  refine numL_no fun n h1 h2 hr => ?_
  refine h n (by rw [hr]; exact atoi_dec n h2) (by omega) (by omega) ?_
  rw [hr]
  unfold Lib.itoa
  rw [if_neg (by omega), decDigits_dec _ (by omega)]
  rfl
end Go.Proofs.YtpoodhhajghaoaaGreatDoor

namespace Go.Proofs.YtpoodhhajghaoaaGreatDoor
open Go.RowKit Go.Sort

def lowN (b : Int) : Prop := 97 ≤ b ∧ b ≤ 122
instance (b : Int) : Decidable (lowN b) := by unfold lowN; infer_instance
def okN (b : Int) : Prop := lowN b ∨ (48 ≤ b ∧ b ≤ 57)
instance (b : Int) : Decidable (okN b) := by unfold okN; infer_instance
def edgeN (t : ByteArray) : Prop := 1 ≤ t.size ∧ t.size ≤ 8 ∧ lowN (bt t 0)
instance (t : ByteArray) : Decidable (edgeN t) := by unfold edgeN; infer_instance
theorem okName_iff (t : ByteArray) : okName t.data.toList = true ↔ edgeN t ∧ ∀ i, i < t.size → okN (bt t i) := by
  have hl : t.data.toList.length = t.size := by simp
  have hb : ∀ i (h : i < t.size), bt t i = ((t.data.toList[i]'(by omega)).toNat : Int) := fun i h => by rw [bt_in h]; rfl
  have e1 : firstC t.data.toList = true ↔ 0 < t.size ∧ lowN (bt t 0) := by
    cases h : t.data.toList with
    | nil => rw [h] at hl; simp at hl; simp [firstC]; omega
    | cons c r =>
      have h0 : 0 < t.size := by rw [h] at hl; simp at hl; omega
      have := hb 0 h0
      simp only [h, List.getElem_cons_zero] at this
      rw [this]
      simp [firstC, lowC, lowN, h0]
      omega
  have e2 : (t.data.toList.all fun c => lowC c || digC c) = true ↔ ∀ i, i < t.size → okN (bt t i) := by
    rw [List.all_eq_true]
    constructor
    · intro h i hi
      have := h _ (List.getElem_mem (by omega : i < t.data.toList.length))
      rw [hb i hi]
      simp [lowC, digC] at this
      unfold okN lowN
      simp
      omega
    · intro h c hc
      obtain ⟨i, hi, rfl⟩ := List.getElem_of_mem hc
      have := h i (by omega)
      rw [hb i (by omega)] at this
      simp [lowC, digC]
      unfold okN lowN at this
      simp at this
      omega
  unfold okName edgeN
  rw [Bool.and_eq_true, Bool.and_eq_true, Bool.and_eq_true, e1, e2, decide_eq_true_eq, decide_eq_true_eq, hl]
  constructor
  · rintro ⟨⟨⟨h1, h2⟩, h3⟩, h4⟩; exact ⟨⟨h1, h2, h3.2⟩, h4⟩
  · rintro ⟨⟨h1, h2, h3⟩, h4⟩; exact ⟨⟨⟨h1, h2⟩, by omega, h3⟩, h4⟩
theorem name_edge {t : ByteArray} (h : ¬ edgeN t) : okName t.data.toList = false := by
  rw [Bool.eq_false_iff]; exact fun h' => h ((okName_iff t).1 h').1
theorem name_at {t : ByteArray} {i : Nat} (hi : i < t.size) (h : ¬ okN (bt t i)) : okName t.data.toList = false := by
  rw [Bool.eq_false_iff]; exact fun h' => h (((okName_iff t).1 h').2 i hi)
theorem name_all {t : ByteArray} (h : edgeN t) (h2 : ∀ i, i < t.size → okN (bt t i)) : okName t.data.toList = true := (okName_iff t).2 ⟨h, h2⟩
theorem edgeN_not {t : ByteArray} (he : ¬ edgeN t) : t.size < 1 ∨ (1 ≤ t.size ∧ (8 < t.size ∨ (t.size ≤ 8 ∧ (bt t 0 < 97 ∨ (97 ≤ bt t 0 ∧ 122 < bt t 0))))) := by
  unfold edgeN lowN at he
  omega
theorem okN_cases (b : Int) : (lowN b) ∨ (b < 97 ∧ 48 ≤ b ∧ b ≤ 57) ∨ (b < 97 ∧ b < 48) ∨ (b < 97 ∧ 48 ≤ b ∧ 57 < b) ∨ (97 ≤ b ∧ 122 < b) := by unfold lowN; omega
set_option maxRecDepth 4000 in
theorem refName_any (t : ByteArray) (w : World) (ht : t.size ≤ 1000000) :
    Calls Tryz.prog 40 #[.string t] w fun r w' => r = .returned (.bool (okName t.data.toList)) ∧ Below w.heap.size w w' := by
  go_enter Tryz.func40, Tryz.ntmps40
  by_cases he : edgeN t
  case neg =>
    have HF := Lib.hid (name_edge he)
    have hc := edgeN_not he
    clear he
    rcases hc with h1 | ⟨h1, h2 | ⟨h2, h3 | ⟨h3, h4⟩⟩⟩
    · go_wp2_with fail
      go_ret
      exact ⟨ret_bool HF.out.symm, Below.refl _ _⟩
    · go_wp2_with fail
      go_ret
      exact ⟨ret_bool HF.out.symm, Below.refl _ _⟩
    · rw [bt_in (by omega)] at h3
      go_wp2_with fail
      go_ret
      exact ⟨ret_bool HF.out.symm, Below.refl _ _⟩
    · rw [bt_in (by omega)] at h3 h4
      go_wp2_with fail
      go_ret
      exact ⟨ret_bool HF.out.symm, Below.refl _ _⟩
  have HE := Lib.hid he
  obtain ⟨h1, h2, h3, h4⟩ := he
  rw [bt_in (by omega)] at h3 h4
  go_wp2_with fail
  clear h3 h4
  go_loopw [3] (fun i wr => ∃ k : Nat, k ≤ t.size ∧ i = .int .i64 k ∧ (∀ j, j < k → okN (bt t j)) ∧ wr = w) (fun i _ => t.size - (intOf i).toNat)
  case atStart => exact ⟨0, by omega, rfl, fun j hj => by omega, rfl⟩
  case round =>
    obtain ⟨k, hk, rfl, hno, hwr⟩ := hrel
    have HN := Lib.hid hno
    have HW := Lib.hid hwr
    clear hno hwr
    by_cases hlt : k < t.size
    · have hb := bt_bd t k
      by_cases hok : okN (bt t k)
      · have HO := Lib.hid hok
        have hc : lowN (bt t k) ∨ (bt t k < 97 ∧ 48 ≤ bt t k ∧ bt t k ≤ 57) := by
          rcases okN_cases (bt t k) with h | h | h | h | h
          · exact .inl h
          · exact .inr h
          all_goals (exfalso; unfold okN lowN at hok; omega)
        clear hok
        rcases hc with ⟨o1, o2⟩ | ⟨o1, o2, o3⟩
        · rw [bt_in hlt] at o1 o2 hb
          obtain ⟨b2, b3⟩ := hb
          go_wp2_with fail
          go_roundw
          case rel =>
            refine ⟨k + 1, by omega, by go_num, fun j hj => ?_, HW.out⟩
            rcases Nat.lt_or_ge j k with h | h
            · exact HN.out j h
            · obtain rfl : j = k := by omega
              exact HO.out
          case measure => simp [intOf]; omega
        · rw [bt_in hlt] at o1 o2 o3 hb
          obtain ⟨b2, b3⟩ := hb
          go_wp2_with fail
          go_roundw
          case rel =>
            refine ⟨k + 1, by omega, by go_num, fun j hj => ?_, HW.out⟩
            rcases Nat.lt_or_ge j k with h | h
            · exact HN.out j h
            · obtain rfl : j = k := by omega
              exact HO.out
          case measure => simp [intOf]; omega
      · have HF := Lib.hid (name_at hlt hok)
        have hc : (bt t k < 97 ∧ bt t k < 48) ∨ (bt t k < 97 ∧ 48 ≤ bt t k ∧ 57 < bt t k) ∨ (97 ≤ bt t k ∧ 122 < bt t k) := by
          rcases okN_cases (bt t k) with h | h | h | h | h
          · exact absurd (.inl h) hok
          · exact absurd (.inr h.2) hok
          · exact .inl h
          · exact .inr (.inl h)
          · exact .inr (.inr h)
        clear hok
        rw [bt_in hlt] at hc hb
        obtain ⟨b2, b3⟩ := hb
        rcases hc with ⟨o1, o2⟩ | ⟨o1, o2, o3⟩ | ⟨o1, o2⟩
        all_goals
          go_wp2_with fail
          go_ret
          exact ⟨ret_bool HF.out.symm, HW.out ▸ Below.refl _ _⟩
    · have HT := Lib.hid (name_all HE.out fun i hi => HN.out i (by omega))
      go_wp2_with fail
      go_ret
      exact ⟨ret_bool HT.out.symm, HW.out ▸ Below.refl _ _⟩
theorem notName_any (b : Int) (w : World) :
    Calls Tryz.prog 54 #[.int .u8 b] w fun r w' => r = .returned (.bool (!decide (okN b))) ∧ w' = w := by
  have hc := okN_cases b
  obtain ⟨q, hq⟩ : ∃ q, (!decide (okN b)) = q := ⟨_, rfl⟩
  rw [hq]
  have HQ := Lib.hid hq
  clear hq
  unfold lowN at hc
  go_enter Tryz.func54, Tryz.ntmps54
  rcases hc with ⟨o1, o2⟩ | ⟨o1, o2, o3⟩ | ⟨o1, o2⟩ | ⟨o1, o2, o3⟩ | ⟨o1, o2⟩
  all_goals
    go_wp2_with fail
    go_ret
    exact ⟨ret_bool (by rw [← HQ.out]; first | (rw [decide_eq_true (show okN b by unfold okN lowN; omega)]; first | rfl | (simp; done) | (simp; omega)) | (rw [decide_eq_false (show ¬ okN b by unfold okN lowN; omega)]; first | rfl | (simp; done) | (simp; omega))), rfl⟩
theorem nameAt_any (ad : Addr) (c : Nat) (t : ByteArray) (w : World) (hc : ∀ k, k < t.size → w.cell? (ad.add k) = some (.int .u8 (bt t k))) (ht : t.size ≤ 1000000) :
    Calls Tryz.prog 67 #[.slice (some ad) t.size c, .func (.func 54) #[] #[]] w fun r w' => (∃ i : Int, r = .returned (.int .i64 i) ∧ (0 ≤ i ↔ ∃ k, k < t.size ∧ ¬ okN (bt t k))) ∧ w' = w := by
  have HC := Lib.hid hc
  clear hc
  go_enter Tryz.func67, Tryz.ntmps67
  go_wp2_with fail
  go_loopw [8] (fun i wr => ∃ k : Nat, k ≤ t.size ∧ i = .int .i64 k ∧ (∀ j, j < k → okN (bt t j)) ∧ wr = w) (fun i _ => t.size - (intOf i).toNat)
  case atStart => exact ⟨0, by omega, rfl, fun j hj => by omega, rfl⟩
  case round =>
    obtain ⟨k, hk, rfl, hno, hwr⟩ := hrel
    have HN := Lib.hid hno
    clear hno
    subst hwr
    by_cases hlt : k < t.size
    · have X := fun w => ix69 (ad := ad) (c := c) hlt w
      have c0 := HC.out k hlt
      go_wp2_with fail
      with_reducible refine (notName_any (bt t k) _).mono ?_
      rintro _ _ ⟨rfl, rfl⟩
      by_cases hok : okN (bt t k)
      · have g : (decide (okN (bt t k))) = true := by rw [decide_eq_true_eq]; exact hok
        rw [g]
        have HO := Lib.hid hok
        clear hok g
        go_wp2_with fail
        go_roundw
        case rel =>
          refine ⟨k + 1, by omega, by go_num, fun j hj => ?_, by trivial⟩
          rcases Nat.lt_or_ge j k with h | h
          · exact HN.out j h
          · obtain rfl : j = k := by omega
            exact HO.out
        case measure => simp [intOf]; omega
      · have g : (decide (okN (bt t k))) = false := by rw [decide_eq_false_iff_not]; exact hok
        rw [g]
        have HO := Lib.hid hok
        clear hok g
        go_wp2_with fail
        go_ret
        exact ⟨⟨k, rfl, ⟨fun _ => ⟨k, hlt, HO.out⟩, fun _ => by omega⟩⟩, rfl⟩
    · go_wp2_with fail
      go_ret
      exact ⟨⟨-1, rfl, ⟨fun h => by omega, fun ⟨j, h1, h2⟩ => absurd (HN.out j (by omega)) h2⟩⟩, rfl⟩
theorem nameIn_any (ad : Addr) (c : Nat) (t : ByteArray) (w : World) (hc : ∀ k, k < t.size → w.cell? (ad.add k) = some (.int .u8 (bt t k))) (ht : t.size ≤ 1000000) :
    Calls Tryz.prog 46 #[.slice (some ad) t.size c, .func (.func 54) #[] #[]] w fun r w' => r = .returned (.bool (decide (∃ k, k < t.size ∧ ¬ okN (bt t k)))) ∧ w' = w := by
  have HC := Lib.hid hc
  clear hc
  go_enter Tryz.func46, Tryz.ntmps46
  go_wp2_with fail
  with_reducible refine (nameAt_any ad c t w HC.out ht).mono ?_
  rintro _ _ ⟨⟨i, rfl, hi⟩, rfl⟩
  have HI := Lib.hid hi
  clear hi
  go_wp2_with fail
  go_ret
  refine ⟨ret_bool ?_, rfl⟩
  rw [decide_eq_decide]
  exact HI.out
set_option maxRecDepth 4000 in
theorem validName_any (t : ByteArray) (w : World) (ht : t.size ≤ 1000000) :
    Calls Tryz.prog 34 #[.string t] w fun r w' => r = .returned (.bool (okName t.data.toList)) ∧ Below w.heap.size w w' := by
  go_enter Tryz.func34, Tryz.ntmps34
  by_cases he : edgeN t
  case neg =>
    have HF := Lib.hid (name_edge he)
    have hc := edgeN_not he
    clear he
    rcases hc with h1 | ⟨h1, h2 | ⟨h2, h3 | ⟨h3, h4⟩⟩⟩
    · go_wp2_with fail
      go_ret
      exact ⟨ret_bool HF.out.symm, Below.refl _ _⟩
    · go_wp2_with fail
      go_ret
      exact ⟨ret_bool HF.out.symm, Below.refl _ _⟩
    · rw [bt_in (by omega)] at h3
      go_wp2_with fail
      go_ret
      exact ⟨ret_bool HF.out.symm, Below.refl _ _⟩
    · rw [bt_in (by omega)] at h3 h4
      go_wp2_with fail
      go_ret
      exact ⟨ret_bool HF.out.symm, Below.refl _ _⟩
  have HE := Lib.hid he
  obtain ⟨h1, h2, h3, h4⟩ := he
  rw [bt_in (by omega)] at h3 h4
  have C := run_bytes_of_string (P := Tryz.prog) w 9 83 5 t (by kernel_rfl) (by kernel_rfl) (by kernel_rfl)
  go_wp2_with fail
  with_reducible refine (nameIn_any ⟨w.heap.size, 0, none⟩ _ t _ (fun k hk => ?_) ht).mono ?_
  · have e1 : (⟨w.heap.size, 0, none⟩ : Addr).add k = ⟨w.heap.size, k, none⟩ := by
      unfold Addr.add
      split
      · rename_i h0; rw [h0]
      · simp
    rw [e1]
    exact (cell_of_row _ _ k _ 5 _ (heap_alloc_new w _)).trans (bytes_at t _ k hk)
  rintro _ _ ⟨rfl, rfl⟩
  go_wp2_with fail
  go_ret
  refine ⟨ret_bool ?_, below_drewN' (below_alloc w _) 1⟩
  by_cases hall : ∀ k, k < t.size → okN (bt t k)
  · rw [name_all HE.out hall, decide_eq_false (fun ⟨k, hk, hn⟩ => hn (hall k hk))]; rfl
  · have : ∃ k, k < t.size ∧ ¬ okN (bt t k) := by
      refine Classical.byContradiction fun hn => hall fun k hk => Classical.byContradiction fun h => hn ⟨k, hk, h⟩
    obtain ⟨k, hk, hn⟩ := this
    rw [name_at hk hn, decide_eq_true ⟨k, hk, hn⟩]; rfl
end Go.Proofs.YtpoodhhajghaoaaGreatDoor

namespace Go.Proofs.YtpoodhhajghaoaaGreatDoor
open Go.RowKit Go.Sort

/-- A cell that holds an error, or none. -/
def ErrCell (w : World) (b : Nat) : Prop := ∃ ev, w.cell? ⟨b, 0, none⟩ = some ev ∧ (ev = .nilIface ∨ ∃ te pe, ev = .iface te pe)
/-- The library's variables are there. -/
structure MW (w : World) : Prop where
  mx : ∃ m, w.cell? ⟨0, 0, none⟩ = some (.int .i64 m)
  sy : ErrCell w 1
  ra : ErrCell w 2
theorem MW.below {w w' : World} (h : MW w) (hb : Below w.heap.size w w') : MW w' := by
  have k : ∀ (a : Addr) (v : Value), w.cell? a = some v → w'.cell? a = some v := fun a v h => (hb.cell (World.block_lt_of_cell? _ _ h)).trans h
  obtain ⟨⟨m, h1⟩, ⟨e, h2, h3⟩, f, h4, h5⟩ := h
  exact ⟨⟨m, k _ _ h1⟩, ⟨e, k _ _ h2, h3⟩, ⟨f, k _ _ h4, h5⟩⟩
theorem bytes_below {w : World} {w' : World} (h : w' = w ∨ ∃ t, w' = Lib.bytesWorld w 5 t) : Below w.heap.size w w' := by
  rcases h with rfl | ⟨t, rfl⟩
  · exact Below.refl _ _
  · exact Lib.bytesWorld_below _ _ _
theorem atoi_yes (s : ByteArray) (hs : s.size ≤ 1000000) (v : Int) (h : Lib.atoiAll s.data.toList = .ok v) (w : World) :
    Calls Tryz.prog 32 #[.string s] w fun r w' => r = .returned (.tuple #[.int .i64 v, .nilIface]) ∧ Below w.heap.size w w' :=
  (Tryz.strconv_Atoi_ok s (by omega) v h w).mono fun r w' ⟨h1, h2⟩ => ⟨h1, bytes_below h2⟩
theorem atoi_not (s : ByteArray) (hs : s.size ≤ 1000000) (h : ∀ v, Lib.atoiAll s.data.toList ≠ .ok v) (w : World) (hm : MW w) :
    Calls Tryz.prog 32 #[.string s] w fun r w' => (∃ x N, r = .returned (.tuple #[.int .i64 x, .iface 111 (.pointer (some ⟨N, 0, none⟩))])) ∧ Below w.heap.size w w' := by
  obtain ⟨_, ⟨e, h2, h3⟩, f, h4, h5⟩ := hm
  cases hc : Lib.atoiAll s.data.toList with
  | ok v => exact absurd hc (h v)
  | range => exact (Tryz.strconv_Atoi_range s (by omega) hc f w h4 h5).mono fun r w' ⟨N, k1, _, _, k2⟩ => ⟨⟨_, N, k1⟩, k2⟩
  | _ => exact (Any.strconv_Atoi_syntax Tryz.laysC172 s (by omega) hc e w h2 h3).mono fun r w' ⟨N, k1, _, _, k2⟩ => ⟨⟨_, N, k1⟩, k2⟩
theorem cut_any (s : ByteArray) (a b : List UInt8) (hs : s.size ≤ 1000000) (w : World) (hm : MW w) (ha : (Lib.cut s.data.toList [32]).1 = a) (hb : (Lib.cut s.data.toList [32]).2.1 = b) :
    Calls Tryz.prog 31 #[.string s, .string ⟨#[32]⟩] w fun r w' => (∃ x, r = .returned (.tuple #[.string ⟨a.toArray⟩, .string ⟨b.toArray⟩, .bool x])) ∧ Below w.heap.size w w' := by
  obtain ⟨⟨m, h1⟩, _, _⟩ := hm
  refine (Tryz.strings_Cut s ⟨#[32]⟩ m w (by omega) h1).mono fun r w' ⟨k1, n, k2⟩ => ⟨⟨(Lib.cut s.data.toList [32]).2.2, ?_⟩, ?_⟩
  · rw [k1, ← ha, ← hb]
  · rw [k2]; exact below_drewN' (Below.refl _ _) n
theorem cut_size (t : List UInt8) : (Lib.cut t [32]).1.length ≤ t.length ∧ (Lib.cut t [32]).2.1.length ≤ t.length := by
  unfold Lib.cut
  split
  · simp; omega
  · simp
def deedV : Deed → Value
  | .cut n => .iface 48 (.int .i64 n)
  | .wash => .iface 50 (.agg #[])
  | .bleach => .iface 51 (.agg #[])
  | .dye r => .iface 52 (.string ⟨r.toArray⟩)
  | .none => .iface 73 (.agg #[])
set_option maxRecDepth 100000 in
set_option maxHeartbeats 4000000 in
theorem deedOf_any (t : ByteArray) (w : World) (ht : t.size ≤ 1000000) (hm : MW w) :
    Calls Tryz.prog 15 #[.string t] w fun r w' => r = .returned (deedV (deedL t.data.toList)) ∧ Below w.heap.size w w' := by
  have HM := Lib.hid hm
  clear hm
  have hsz := cut_size t.data.toList
  obtain ⟨a, ha⟩ : ∃ a, (Lib.cut t.data.toList [32]).1 = a := ⟨_, rfl⟩
  obtain ⟨b, hb⟩ : ∃ b, (Lib.cut t.data.toList [32]).2.1 = b := ⟨_, rfl⟩
  rw [ha, hb] at hsz
  obtain ⟨ls1, ls2⟩ := hsz
  have hl : t.data.toList.length = t.size := by simp
  rw [hl] at ls1 ls2
  clear hl
  have HA := Lib.hid ha
  have HB := Lib.hid hb
  clear ha hb
  by_cases h1 : t.data.toList = wW
  · have g1 : (t.toList == [119, 97, 115, 104]) = true := by rw [ByteArray.toList_eq, h1]; rfl
    have HR : Hid (deedV (deedL t.data.toList) = .iface 50 (.agg #[])) := Lib.hid (by rw [h1, show deedL wW = .wash by decide +kernel]; rfl)
    clear h1
    go_enter Tryz.func15, Tryz.ntmps15
    go_wp2_with fail
    with_reducible refine (cut_any t a b ht _ HM.out HA.out HB.out).mono ?_
    rintro _ w2 ⟨⟨x, rfl⟩, hb2⟩
    have HB2 := Lib.hid hb2
    clear hb2
    go_wp2_with fail
    go_ret
    rw [HR.out]
    exact ⟨rfl, HB2.out⟩
  have g1 : (t.toList == [119, 97, 115, 104]) = false := by rw [ByteArray.toList_eq]; exact beq_eq_false_iff_ne.2 h1
  by_cases h2 : t.data.toList = bW
  · have g2 : (t.toList == [98, 108, 101, 97, 99, 104]) = true := by rw [ByteArray.toList_eq, h2]; rfl
    have HR : Hid (deedV (deedL t.data.toList) = .iface 51 (.agg #[])) := Lib.hid (by rw [h2, show deedL bW = .bleach by decide +kernel]; rfl)
    clear h1 h2
    go_enter Tryz.func15, Tryz.ntmps15
    go_wp2_with fail
    with_reducible refine (cut_any t a b ht _ HM.out HA.out HB.out).mono ?_
    rintro _ w2 ⟨⟨x, rfl⟩, hb2⟩
    have HB2 := Lib.hid hb2
    clear hb2
    go_wp2_with fail
    go_ret
    rw [HR.out]
    exact ⟨rfl, HB2.out⟩
  have g2 : (t.toList == [98, 108, 101, 97, 99, 104]) = false := by rw [ByteArray.toList_eq]; exact beq_eq_false_iff_ne.2 h2
  by_cases h3 : a = cutW
  · have HD := Lib.hid (deed_cut h1 h2 (HA.out.trans h3) HB.out)
    have g3 : (a == [99, 117, 116]) = true := by rw [h3]; rfl
    have hbs : (⟨b.toArray⟩ : ByteArray).size ≤ 1000000 := by show b.toArray.size ≤ _; simp; omega
    have HBS := Lib.hid hbs
    clear h1 h2 h3 hbs
    by_cases hat : ∃ v, Lib.atoiAll b = .ok v
    case neg =>
      have HN := Lib.hid (num_no fun v hv => absurd ⟨v, hv⟩ hat)
      have HAT : Hid (∀ v, Lib.atoiAll (⟨b.toArray⟩ : ByteArray).data.toList ≠ .ok v) := Lib.hid fun v hv => hat ⟨v, hv⟩
      clear hat
      go_enter Tryz.func15, Tryz.ntmps15
      go_wp2_with fail
      with_reducible refine (cut_any t a b ht _ HM.out HA.out HB.out).mono ?_
      rintro _ w2 ⟨⟨x, rfl⟩, hb2⟩
      have HB2 := Lib.hid hb2
      have HM2 := Lib.hid (HM.out.below hb2)
      clear hb2
      go_wp2_with fail
      with_reducible refine (atoi_not ⟨b.toArray⟩ HBS.out HAT.out _ HM2.out).mono ?_
      rintro _ w3 ⟨⟨y, N, rfl⟩, hb3⟩
      have HB3 := Lib.hid (below_trans' HB2.out hb3)
      clear hb3
      go_wp2_with fail
      go_ret
      rw [HD.out, if_pos HN.out]
      exact ⟨rfl, HB3.out⟩
    obtain ⟨v, hv⟩ := hat
    have HV : Hid (Lib.atoiAll (⟨b.toArray⟩ : ByteArray).data.toList = .ok v) := Lib.hid hv
    by_cases hc : 1 ≤ v ∧ v ≤ 99
    · obtain ⟨k, rfl⟩ : ∃ k : Nat, v = k := ⟨v.toNat, by omega⟩
      obtain ⟨k1, k2⟩ := hc
      have k3 : k < 100 := by omega
      have hi : Lib.itoa (k : Int) = Lib.decDigits k := by
        unfold Lib.itoa
        rw [if_neg (by omega)]
        rfl
      have k4 : (1 : Int) ≤ k := k1
      have k5 : (k : Int) ≤ 99 := k2
      by_cases h5 : Lib.decDigits k = b
      · have HN : Hid (numL b = k) := Lib.hid (by have := num_yes k4 k5 (hi.trans h5); simpa using this)
        have g5 : (Lib.decDigits k == b) = true := beq_iff_eq.2 h5
        clear hi h5 hv
        go_enter Tryz.func15, Tryz.ntmps15
        go_wp2_with fail
        with_reducible refine (cut_any t a b ht _ HM.out HA.out HB.out).mono ?_
        rintro _ w2 ⟨⟨x, rfl⟩, hb2⟩
        have HB2 := Lib.hid hb2
        clear hb2
        go_wp2_with fail
        with_reducible refine (atoi_yes ⟨b.toArray⟩ HBS.out k HV.out _).mono ?_
        rintro _ w3 ⟨rfl, hb3⟩
        have HB3 := Lib.hid (below_trans' HB2.out hb3)
        clear hb3
        go_wp2_with fail
        with_reducible refine (Tryz.strconv_Itoa_small k k3 _).mono ?_
        rintro _ _ ⟨rfl, rfl⟩
        go_wp2_with fail
        go_ret
        rw [HD.out, if_neg (by rw [HN.out]; omega), HN.out]
        exact ⟨rfl, HB3.out⟩
      · have HN : Hid (numL b = 0) := Lib.hid (num_no fun v' hv' _ _ he => by
          rw [hv] at hv'
          cases hv'
          exact h5 (hi.symm.trans he))
        have g5 : (Lib.decDigits k == b) = false := beq_eq_false_iff_ne.2 h5
        clear hi h5 hv
        go_enter Tryz.func15, Tryz.ntmps15
        go_wp2_with fail
        with_reducible refine (cut_any t a b ht _ HM.out HA.out HB.out).mono ?_
        rintro _ w2 ⟨⟨x, rfl⟩, hb2⟩
        have HB2 := Lib.hid hb2
        clear hb2
        go_wp2_with fail
        with_reducible refine (atoi_yes ⟨b.toArray⟩ HBS.out k HV.out _).mono ?_
        rintro _ w3 ⟨rfl, hb3⟩
        have HB3 := Lib.hid (below_trans' HB2.out hb3)
        clear hb3
        go_wp2_with fail
        with_reducible refine (Tryz.strconv_Itoa_small k k3 _).mono ?_
        rintro _ _ ⟨rfl, rfl⟩
        go_wp2_with fail
        go_ret
        rw [HD.out, if_pos HN.out]
        exact ⟨rfl, HB3.out⟩
    · have HN : Hid (numL b = 0) := Lib.hid (num_no fun v' hv' k1 k2 => by
        rw [hv] at hv'
        cases hv'
        exact absurd ⟨k1, k2⟩ hc)
      clear hv
      have hc' : v < 1 ∨ (1 ≤ v ∧ 99 < v) := by omega
      clear hc
      rcases hc' with k1 | ⟨k1, k2⟩
      all_goals
        go_enter Tryz.func15, Tryz.ntmps15
        go_wp2_with fail
        with_reducible refine (cut_any t a b ht _ HM.out HA.out HB.out).mono ?_
        rintro _ w2 ⟨⟨x, rfl⟩, hb2⟩
        have HB2 := Lib.hid hb2
        clear hb2
        go_wp2_with fail
        with_reducible refine (atoi_yes ⟨b.toArray⟩ HBS.out v HV.out _).mono ?_
        rintro _ w3 ⟨rfl, hb3⟩
        have HB3 := Lib.hid (below_trans' HB2.out hb3)
        clear hb3
        go_wp2_with fail
        go_ret
        rw [HD.out, if_pos HN.out]
        exact ⟨rfl, HB3.out⟩
  have g3 : (a == [99, 117, 116]) = false := beq_eq_false_iff_ne.2 h3
  by_cases h4 : a = dyeW
  · have HD := Lib.hid (deed_dye h1 h2 (HA.out.trans h4) HB.out)
    have g4 : (a == [100, 121, 101]) = true := by rw [h4]; rfl
    have hbs : (⟨b.toArray⟩ : ByteArray).size ≤ 1000000 := by show b.toArray.size ≤ _; simp; omega
    have HBS := Lib.hid hbs
    clear h1 h2 h3 h4 hbs
    cases hk : okName b with
    | true =>
      have HK := Lib.hid hk
      go_enter Tryz.func15, Tryz.ntmps15
      go_wp2_with fail
      with_reducible refine (cut_any t a b ht _ HM.out HA.out HB.out).mono ?_
      rintro _ w2 ⟨⟨x, rfl⟩, hb2⟩
      have HB2 := Lib.hid hb2
      clear hb2
      go_wp2_with fail
      with_reducible refine (validName_any ⟨b.toArray⟩ _ HBS.out).mono ?_
      rintro _ w3 ⟨rfl, hb3⟩
      have HB3 := Lib.hid (below_trans' HB2.out hb3)
      clear hb3
      go_wp2_with fail
      go_ret
      rw [HD.out, if_pos HK.out]
      exact ⟨rfl, HB3.out⟩
    | false =>
      have HK := Lib.hid hk
      go_enter Tryz.func15, Tryz.ntmps15
      go_wp2_with fail
      with_reducible refine (cut_any t a b ht _ HM.out HA.out HB.out).mono ?_
      rintro _ w2 ⟨⟨x, rfl⟩, hb2⟩
      have HB2 := Lib.hid hb2
      clear hb2
      go_wp2_with fail
      with_reducible refine (validName_any ⟨b.toArray⟩ _ HBS.out).mono ?_
      rintro _ w3 ⟨rfl, hb3⟩
      have HB3 := Lib.hid (below_trans' HB2.out hb3)
      clear hb3
      go_wp2_with fail
      go_ret
      rw [HD.out, if_neg (by rw [HK.out]; simp)]
      exact ⟨rfl, HB3.out⟩
  · have HD := Lib.hid (deed_none h1 h2 (fun h => h3 (HA.out.symm.trans h)) (fun h => h4 (HA.out.symm.trans h)))
    have g4 : (a == [100, 121, 101]) = false := beq_eq_false_iff_ne.2 h4
    clear h1 h2 h3 h4
    go_enter Tryz.func15, Tryz.ntmps15
    go_wp2_with fail
    with_reducible refine (cut_any t a b ht _ HM.out HA.out HB.out).mono ?_
    rintro _ w2 ⟨⟨x, rfl⟩, hb2⟩
    have HB2 := Lib.hid hb2
    clear hb2
    go_wp2_with fail
    go_ret
    rw [HD.out]
    exact ⟨rfl, HB2.out⟩
end Go.Proofs.YtpoodhhajghaoaaGreatDoor

namespace Go.Proofs.YtpoodhhajghaoaaGreatDoor
open Go.RowKit Go.Sort

theorem begins_yes (s p : ByteArray) (q : List UInt8) (w : World) (hp : p.size ≤ 100) (h : s.data.toList = p.data.toList ++ q) :
    Calls Tryz.prog 39 #[.string s, .string p] w fun r w' => r = .returned (.tuple #[.string ⟨q.toArray⟩, .bool true]) ∧ w' = w := by
  have hl : ¬ s.size < p.size := by
    have := congrArg List.length h
    simp at this
    omega
  have e1 : (s.extract 0 p.size).toList = p.toList := by
    rw [ByteArray.toList_eq, ByteArray.toList_eq, ByteArray.data_extract, Array.toList_extract, h]
    simp [List.extract]
  have e2 : s.extract p.size s.size = ⟨q.toArray⟩ := by
    apply ByteArray.ext
    rw [ByteArray.data_extract]
    apply Array.toList_inj.1
    have h2 := congrArg List.length h
    simp at h2
    have h3 : q.length = s.size - p.size := by omega
    rw [Array.toList_extract, h]
    simp [List.extract]
    first | done | omega | exact List.take_of_length_le (by omega)
  have E2 := Lib.hid e2
  have g : ((s.extract 0 p.size).toList == p.toList) = true := by rw [e1]; simp
  clear e1 e2 h
  go_enter Tryz.func39, Tryz.ntmps39
  go_wp2_with fail
  rw [E2.out]
  go_ret2
  exact ⟨rfl, rfl⟩
theorem begins_no (s p : ByteArray) (w : World) (hp : p.size ≤ 100) (h : p.data.toList.isPrefixOf s.data.toList = false) :
    Calls Tryz.prog 39 #[.string s, .string p] w fun r w' => r = .returned (.tuple #[.string ⟨#[]⟩, .bool false]) ∧ w' = w := by
  by_cases hl : s.size < p.size
  · clear h
    go_enter Tryz.func39, Tryz.ntmps39
    go_wp2_with fail
    go_ret2
    exact ⟨rfl, rfl⟩
  · have g : ((s.extract 0 p.size).toList == p.toList) = false := by
      rw [beq_eq_false_iff_ne, ByteArray.toList_eq, ByteArray.toList_eq, ByteArray.data_extract, Array.toList_extract]
      intro e
      rw [Bool.eq_false_iff] at h
      refine h (List.isPrefixOf_iff_prefix.2 ?_)
      rw [← e]
      simp [List.extract]
      exact List.take_prefix _ _
    clear h
    go_enter Tryz.func39, Tryz.ntmps39
    go_wp2_with fail
    go_ret2
    exact ⟨rfl, rfl⟩
/-- A block of the call's own. -/
structure OB (w : World) (b : Nat) (cs : Array Value) : Prop where
  box : Box w b cs
  fz : ∀ i, w.frozen? ⟨b, i, none⟩ = false
theorem OB.new (w : World) (cs : Array Value) (t : TypeId) : OB (w.alloc (.cells cs t)) w.heap.size cs := ⟨Box.new _ _ _, fz_new _ _ _⟩
theorem OB.on {w w' : World} {b : Nat} {cs : Array Value} (h : OB w b cs) (hb : Below w.heap.size w w') : OB w' b cs := ⟨h.box.below hb, fz_below h.box.1 h.fz hb⟩
theorem OB.set {w : World} {b : Nat} {cs : Array Value} (h : OB w b cs) {i : Nat} (hi : i < cs.size) (u : Value) : OB (w.setCell ⟨b, i, none⟩ u) b (cs.setIfInBounds i u) := ⟨h.box.set hi u, fun j => by rw [World.frozen?_setCell]; exact h.fz j⟩
theorem OB.far {w : World} {b : Nat} {cs : Array Value} (h : OB w b cs) {p : Addr} (hne : b ≠ p.block) (u : Value) : OB (w.setCell p u) b cs := ⟨h.box.far hne u, fun j => by rw [World.frozen?_setCell]; exact h.fz j⟩
def hcs (h : Hst) : Array Value := #[.int .i64 h.cut, .int .i64 h.wash, .int .i64 h.bleach, .string ⟨h.color.toArray⟩]
def hval (h : Hst) : Value := .agg (hcs h)
abbrev hzero : Array Value := #[.int .i64 0, .int .i64 0, .int .i64 0, .string ⟨#[]⟩]
/-- How much is cut behind the rounds ahead of one. -/
def cutTo (q : List UInt8) (n : Nat) : Nat := if numL q < n then numL q else 0
theorem numL_spec {q : List UInt8} (h : numL q ≠ 0) : q = decL (numL q) := by
  by_cases hc : ∃ n, 1 ≤ n ∧ n < 100 ∧ q = decL n
  · obtain ⟨n, h1, h2, rfl⟩ := hc
    rw [numL_dec h1 h2]
  · exact absurd (numL_no fun n h1 h2 h3 => hc ⟨n, h1, h2, h3⟩) h
theorem cutTo_one (q : List UInt8) : cutTo q 1 = 0 := by unfold cutTo; split <;> omega
theorem cutTo_end (q : List UInt8) : cutTo q 100 = numL q := by unfold cutTo; rw [if_pos (numL_lt q)]
theorem cutTo_yes {q : List UInt8} {n : Nat} (h1 : 1 ≤ n) (h2 : n < 100) (h : q = Lib.decDigits n) : cutTo q n = 0 ∧ cutTo q (n + 1) = n := by
  rw [decDigits_dec n h2] at h
  have : numL q = n := by rw [h]; exact numL_dec h1 h2
  unfold cutTo
  rw [this]
  exact ⟨if_neg (by omega), if_pos (by omega)⟩
theorem cutTo_no {q : List UInt8} {n : Nat} (h1 : 1 ≤ n) (h2 : n < 100) (h : q ≠ Lib.decDigits n) : cutTo q (n + 1) = cutTo q n := by
  rw [decDigits_dec n h2] at h
  have : numL q ≠ n := fun e => h (by have := numL_spec (q := q) (by omega); rw [e] at this; exact this)
  unfold cutTo
  by_cases h3 : numL q < n
  · rw [if_pos h3, if_pos (by omega)]
  · rw [if_neg h3, if_neg (by omega)]
theorem cutTo_lt (q : List UInt8) (n : Nat) : cutTo q n < 100 := by
  unfold cutTo
  have := numL_lt q
  split <;> omega
end Go.Proofs.YtpoodhhajghaoaaGreatDoor

namespace Go.Proofs.YtpoodhhajghaoaaGreatDoor
open Go.RowKit Go.Sort

/-- A history of little. -/
def smallH (h : Hst) : Prop := h.cut ≤ 1000000 ∧ h.wash ≤ 1000000 ∧ h.bleach ≤ 1000000
theorem pre_no {w t : List UInt8} (h : behind w t = none) : (w ++ [32]).isPrefixOf t = false := by
  unfold behind at h
  split at h
  · cases h
  · rename_i hn; exact Bool.eq_false_iff.2 hn
theorem pre_yes {w t q : List UInt8} (h : behind w t = some q) : t = (w ++ [32]) ++ q := by rw [behind_eq h]; simp
theorem start_of (w : World) (cs : Array Value) : OB ((w.alloc (.cells cs 30)).alloc (.cells hzero 30)) w.heap.size cs ∧ OB ((w.alloc (.cells cs 30)).alloc (.cells hzero 30)) (w.heap.size + 1) hzero ∧ Below w.heap.size w ((w.alloc (.cells cs 30)).alloc (.cells hzero 30)) :=
  ⟨(OB.new w cs 30).on (belowA _ _), by have := OB.new (w.alloc (.cells cs 30)) hzero 30; rwa [World.size_alloc] at this, belowAA _ _ _⟩
set_option maxRecDepth 100000 in
set_option maxHeartbeats 4000000 in
theorem fold_none (h : Hst) (t : ByteArray) (w : World) (hh : smallH h) (h1 : t.data.toList ≠ wW) (h2 : t.data.toList ≠ bW) (h3 : behind cutW t.data.toList = none) (h4 : behind dyeW t.data.toList = none) :
    Calls Tryz.prog 18 #[hval h, .string t] w fun r w' => r = .returned (hval h) ∧ Below w.heap.size w w' := by
  obtain ⟨s1, s2, s3⟩ := hh
  have g1 : (t.toList == [119, 97, 115, 104]) = false := by rw [ByteArray.toList_eq]; exact beq_eq_false_iff_ne.2 h1
  have g2 : (t.toList == [98, 108, 101, 97, 99, 104]) = false := by rw [ByteArray.toList_eq]; exact beq_eq_false_iff_ne.2 h2
  have H3 := Lib.hid (fun w => begins_no t ⟨#[99, 117, 116, 32]⟩ w (by decide) (pre_no h3))
  have H4 := Lib.hid (fun w => begins_no t ⟨#[100, 121, 101, 32]⟩ w (by decide) (pre_no h4))
  clear h1 h2 h3 h4
  obtain ⟨c, wa, bl, col⟩ := h
  unfold hval hcs
  dsimp only at s1 s2 s3 ⊢
  go_enter Tryz.func18, Tryz.ntmps18
  go_wp2_with fail
  with_reducible refine (H3.out _).mono ?_
  rintro _ _ ⟨rfl, rfl⟩
  obtain ⟨b0, b1, bw⟩ := start_of w (hcs ⟨c, wa, bl, col⟩)
  unfold hcs hzero at b0 b1 bw
  dsimp only at b0 b1 bw
  generalize (w.alloc (.cells #[.int .i64 c, .int .i64 wa, .int .i64 bl, .string ⟨col.toArray⟩] 30)).alloc (.cells #[.int .i64 0, .int .i64 0, .int .i64 0, .string ⟨#[]⟩] 30) = w1 at b0 b1 bw ⊢
  have B0 := Lib.hid b0
  have B1 := Lib.hid b1
  have BW := Lib.hid bw
  clear b0 b1 bw
  go_wp2_with fail
  go_loopw [7] (fun i wr => i = .int .i64 1 ∧ OB wr w.heap.size #[.int .i64 c, .int .i64 wa, .int .i64 bl, .string ⟨col.toArray⟩] ∧ OB wr (w.heap.size + 1) #[.int .i64 0, .int .i64 0, .int .i64 0, .string ⟨#[]⟩] ∧ Below w.heap.size w wr) (fun _ _ => 0)
  case atStart => exact ⟨rfl, B0.out, B1.out, BW.out⟩
  clear B0 B1 BW
  case round =>
    obtain ⟨rfl, b0, b1, bw⟩ := hrel
    have c0 := b0.box.at
    have f0 := b0.fz
    have c1 := b1.box.at
    have f1 := b1.fz
    have hz : w.heap.size + 1 < wr.heap.size := b1.box.1
    have B0 := Lib.hid b0
    have B1 := Lib.hid b1
    have BW := Lib.hid bw
    clear b0 b1 bw
    go_wp2_with fail
    with_reducible refine (H4.out _).mono ?_
    rintro _ _ ⟨rfl, rfl⟩
    go_wp2_with fail
    have cF := ((((B1.out.box.set (i := 0) (by simp) (.int .i64 c)).set (i := 1) (by simp) (.int .i64 wa)).set (i := 2) (by simp) (.int .i64 bl)).set (i := 3) (by simp) (.string ⟨col.toArray⟩)).at
    exact bodyPost_ret (v := .agg #[.int .i64 c, .int .i64 wa, .int .i64 bl, .string ⟨col.toArray⟩]) (by simp [results, Tryz.results18, go_sem, cF]) rfl ⟨rfl, ((((BW.out.setCell (p := ⟨w.heap.size + 1, 0, none⟩) (Nat.le_succ _) _).setCell (p := ⟨w.heap.size + 1, 1, none⟩) (Nat.le_succ _) _).setCell (p := ⟨w.heap.size + 1, 2, none⟩) (Nat.le_succ _) _).setCell (p := ⟨w.heap.size + 1, 3, none⟩) (Nat.le_succ _) _)⟩
set_option maxRecDepth 100000 in
set_option maxHeartbeats 4000000 in
theorem fold_wash (h : Hst) (t : ByteArray) (w : World) (hh : smallH h) (h1 : t.data.toList = wW) :
    Calls Tryz.prog 18 #[hval h, .string t] w fun r w' => r = .returned (hval { h with wash := h.wash + 1 }) ∧ Below w.heap.size w w' := by
  obtain ⟨s1, s2, s3⟩ := hh
  have h3 : behind cutW t.data.toList = none := by rw [h1]; decide +kernel
  have h4 : behind dyeW t.data.toList = none := by rw [h1]; decide +kernel
  have g1 : (t.toList == [119, 97, 115, 104]) = true := by rw [ByteArray.toList_eq, h1]; rfl
  have g2 : (t.toList == [98, 108, 101, 97, 99, 104]) = false := by rw [ByteArray.toList_eq, h1]; rfl
  have H3 := Lib.hid (fun w => begins_no t ⟨#[99, 117, 116, 32]⟩ w (by decide) (pre_no h3))
  have H4 := Lib.hid (fun w => begins_no t ⟨#[100, 121, 101, 32]⟩ w (by decide) (pre_no h4))
  clear h1 h3 h4
  obtain ⟨c, wa, bl, col⟩ := h
  unfold hval hcs
  dsimp only at s1 s2 s3 ⊢
  push_cast
  go_enter Tryz.func18, Tryz.ntmps18
  go_wp2_with fail
  with_reducible refine (H3.out _).mono ?_
  rintro _ _ ⟨rfl, rfl⟩
  obtain ⟨b0, b1, bw⟩ := start_of w (hcs ⟨c, wa, bl, col⟩)
  unfold hcs hzero at b0 b1 bw
  dsimp only at b0 b1 bw
  generalize (w.alloc (.cells #[.int .i64 c, .int .i64 wa, .int .i64 bl, .string ⟨col.toArray⟩] 30)).alloc (.cells #[.int .i64 0, .int .i64 0, .int .i64 0, .string ⟨#[]⟩] 30) = w1 at b0 b1 bw ⊢
  have B0 := Lib.hid b0
  have B1 := Lib.hid b1
  have BW := Lib.hid bw
  clear b0 b1 bw
  go_wp2_with fail
  go_loopw [7] (fun i wr => i = .int .i64 1 ∧ OB wr w.heap.size #[.int .i64 c, .int .i64 wa, .int .i64 bl, .string ⟨col.toArray⟩] ∧ OB wr (w.heap.size + 1) #[.int .i64 0, .int .i64 0, .int .i64 0, .string ⟨#[]⟩] ∧ Below w.heap.size w wr) (fun _ _ => 0)
  case atStart => exact ⟨rfl, B0.out, B1.out, BW.out⟩
  clear B0 B1 BW
  case round =>
    obtain ⟨rfl, b0, b1, bw⟩ := hrel
    have c0 := b0.box.at
    have f0 := b0.fz
    have c1 := b1.box.at
    have f1 := b1.fz
    have hz : w.heap.size + 1 < wr.heap.size := b1.box.1
    have B0 := Lib.hid b0
    have B1 := Lib.hid b1
    have BW := Lib.hid bw
    clear b0 b1 bw
    go_wp2_with fail
    with_reducible refine (H4.out _).mono ?_
    rintro _ _ ⟨rfl, rfl⟩
    go_wp2_with fail
    have cF := (((((B1.out.box.far (p := ⟨w.heap.size, 1, none⟩) (by show w.heap.size + 1 ≠ w.heap.size; omega) (.int .i64 ((wa : Int) + 1))).set (i := 0) (by simp) (.int .i64 c)).set (i := 1) (by simp) (.int .i64 ((wa : Int) + 1))).set (i := 2) (by simp) (.int .i64 bl)).set (i := 3) (by simp) (.string ⟨col.toArray⟩)).at
    exact bodyPost_ret (v := .agg #[.int .i64 c, .int .i64 ((wa : Int) + 1), .int .i64 bl, .string ⟨col.toArray⟩]) (by simp [results, Tryz.results18, go_sem, cF]) rfl ⟨rfl, (((((BW.out.setCell (p := ⟨w.heap.size, 1, none⟩) (Nat.le_refl _) _).setCell (p := ⟨w.heap.size + 1, 0, none⟩) (Nat.le_succ _) _).setCell (p := ⟨w.heap.size + 1, 1, none⟩) (Nat.le_succ _) _).setCell (p := ⟨w.heap.size + 1, 2, none⟩) (Nat.le_succ _) _).setCell (p := ⟨w.heap.size + 1, 3, none⟩) (Nat.le_succ _) _)⟩
set_option maxRecDepth 100000 in
set_option maxHeartbeats 4000000 in
theorem fold_bleach (h : Hst) (t : ByteArray) (w : World) (hh : smallH h) (h2 : t.data.toList = bW) :
    Calls Tryz.prog 18 #[hval h, .string t] w fun r w' => r = .returned (hval { h with bleach := h.bleach + 1, wash := 0 }) ∧ Below w.heap.size w w' := by
  obtain ⟨s1, s2, s3⟩ := hh
  have h3 : behind cutW t.data.toList = none := by rw [h2]; decide +kernel
  have h4 : behind dyeW t.data.toList = none := by rw [h2]; decide +kernel
  have g2 : (t.toList == [98, 108, 101, 97, 99, 104]) = true := by rw [ByteArray.toList_eq, h2]; rfl
  have g1 : (t.toList == [119, 97, 115, 104]) = false := by rw [ByteArray.toList_eq, h2]; rfl
  have H3 := Lib.hid (fun w => begins_no t ⟨#[99, 117, 116, 32]⟩ w (by decide) (pre_no h3))
  have H4 := Lib.hid (fun w => begins_no t ⟨#[100, 121, 101, 32]⟩ w (by decide) (pre_no h4))
  clear h2 h3 h4
  obtain ⟨c, wa, bl, col⟩ := h
  unfold hval hcs
  dsimp only at s1 s2 s3 ⊢
  push_cast
  go_enter Tryz.func18, Tryz.ntmps18
  go_wp2_with fail
  with_reducible refine (H3.out _).mono ?_
  rintro _ _ ⟨rfl, rfl⟩
  obtain ⟨b0, b1, bw⟩ := start_of w (hcs ⟨c, wa, bl, col⟩)
  unfold hcs hzero at b0 b1 bw
  dsimp only at b0 b1 bw
  generalize (w.alloc (.cells #[.int .i64 c, .int .i64 wa, .int .i64 bl, .string ⟨col.toArray⟩] 30)).alloc (.cells #[.int .i64 0, .int .i64 0, .int .i64 0, .string ⟨#[]⟩] 30) = w1 at b0 b1 bw ⊢
  have B0 := Lib.hid b0
  have B1 := Lib.hid b1
  have BW := Lib.hid bw
  clear b0 b1 bw
  go_wp2_with fail
  go_loopw [7] (fun i wr => i = .int .i64 1 ∧ OB wr w.heap.size #[.int .i64 c, .int .i64 wa, .int .i64 bl, .string ⟨col.toArray⟩] ∧ OB wr (w.heap.size + 1) #[.int .i64 0, .int .i64 0, .int .i64 0, .string ⟨#[]⟩] ∧ Below w.heap.size w wr) (fun _ _ => 0)
  case atStart => exact ⟨rfl, B0.out, B1.out, BW.out⟩
  clear B0 B1 BW
  case round =>
    obtain ⟨rfl, b0, b1, bw⟩ := hrel
    have c0 := b0.box.at
    have f0 := b0.fz
    have c1 := b1.box.at
    have f1 := b1.fz
    have hz : w.heap.size + 1 < wr.heap.size := b1.box.1
    have B0 := Lib.hid b0
    have B1 := Lib.hid b1
    have BW := Lib.hid bw
    clear b0 b1 bw
    go_wp2_with fail
    with_reducible refine (H4.out _).mono ?_
    rintro _ _ ⟨rfl, rfl⟩
    go_wp2_with fail
    have cF := ((((((B1.out.box.far (p := ⟨w.heap.size, 2, none⟩) (by show w.heap.size + 1 ≠ w.heap.size; omega) (.int .i64 ((bl : Int) + 1))).far (p := ⟨w.heap.size, 1, none⟩) (by show w.heap.size + 1 ≠ w.heap.size; omega) (.int .i64 0)).set (i := 0) (by simp) (.int .i64 c)).set (i := 1) (by simp) (.int .i64 0)).set (i := 2) (by simp) (.int .i64 ((bl : Int) + 1))).set (i := 3) (by simp) (.string ⟨col.toArray⟩)).at
    exact bodyPost_ret (v := .agg #[.int .i64 c, .int .i64 0, .int .i64 ((bl : Int) + 1), .string ⟨col.toArray⟩]) (by simp [results, Tryz.results18, go_sem, cF]) rfl ⟨rfl, ((((((BW.out.setCell (p := ⟨w.heap.size, 2, none⟩) (Nat.le_refl _) _).setCell (p := ⟨w.heap.size, 1, none⟩) (Nat.le_refl _) _).setCell (p := ⟨w.heap.size + 1, 0, none⟩) (Nat.le_succ _) _).setCell (p := ⟨w.heap.size + 1, 1, none⟩) (Nat.le_succ _) _).setCell (p := ⟨w.heap.size + 1, 2, none⟩) (Nat.le_succ _) _).setCell (p := ⟨w.heap.size + 1, 3, none⟩) (Nat.le_succ _) _)⟩
set_option maxRecDepth 100000 in
set_option maxHeartbeats 4000000 in
theorem fold_dye (h : Hst) (t : ByteArray) (q : List UInt8) (w : World) (ht : t.size ≤ 1000000) (hh : smallH h) (h1 : t.data.toList ≠ wW) (h2 : t.data.toList ≠ bW) (h3 : behind cutW t.data.toList = none) (h4 : behind dyeW t.data.toList = some q) (h5 : okName q = true) :
    Calls Tryz.prog 18 #[hval h, .string t] w fun r w' => r = .returned (hval { h with color := q, wash := 0 }) ∧ Below w.heap.size w w' := by
  obtain ⟨s1, s2, s3⟩ := hh
  have hq : (⟨q.toArray⟩ : ByteArray).size ≤ 1000000 := by have := congrArg List.length (pre_yes h4); show q.toArray.size ≤ _; simp at this ⊢; omega
  have HQ := Lib.hid hq
  have g1 : (t.toList == [119, 97, 115, 104]) = false := by rw [ByteArray.toList_eq]; exact beq_eq_false_iff_ne.2 h1
  have g2 : (t.toList == [98, 108, 101, 97, 99, 104]) = false := by rw [ByteArray.toList_eq]; exact beq_eq_false_iff_ne.2 h2
  have H3 := Lib.hid (fun w => begins_no t ⟨#[99, 117, 116, 32]⟩ w (by decide) (pre_no h3))
  have H4 := Lib.hid (fun w => begins_yes t ⟨#[100, 121, 101, 32]⟩ q w (by decide) (pre_yes h4))
  clear h1 h2 h3 h4 hq
  obtain ⟨c, wa, bl, col⟩ := h
  unfold hval hcs
  dsimp only at s1 s2 s3 ⊢
  go_enter Tryz.func18, Tryz.ntmps18
  go_wp2_with fail
  with_reducible refine (H3.out _).mono ?_
  rintro _ _ ⟨rfl, rfl⟩
  obtain ⟨b0, b1, bw⟩ := start_of w (hcs ⟨c, wa, bl, col⟩)
  unfold hcs hzero at b0 b1 bw
  dsimp only at b0 b1 bw
  generalize (w.alloc (.cells #[.int .i64 c, .int .i64 wa, .int .i64 bl, .string ⟨col.toArray⟩] 30)).alloc (.cells #[.int .i64 0, .int .i64 0, .int .i64 0, .string ⟨#[]⟩] 30) = w1 at b0 b1 bw ⊢
  have B0 := Lib.hid b0
  have B1 := Lib.hid b1
  have BW := Lib.hid bw
  clear b0 b1 bw
  go_wp2_with fail
  go_loopw [7] (fun i wr => i = .int .i64 1 ∧ OB wr w.heap.size #[.int .i64 c, .int .i64 wa, .int .i64 bl, .string ⟨col.toArray⟩] ∧ OB wr (w.heap.size + 1) #[.int .i64 0, .int .i64 0, .int .i64 0, .string ⟨#[]⟩] ∧ Below w.heap.size w wr) (fun _ _ => 0)
  case atStart => exact ⟨rfl, B0.out, B1.out, BW.out⟩
  clear B0 B1 BW
  case round =>
    obtain ⟨rfl, b0, b1, bw⟩ := hrel
    have c0 := b0.box.at
    have f0 := b0.fz
    have c1 := b1.box.at
    have f1 := b1.fz
    have hz : w.heap.size + 1 < wr.heap.size := b1.box.1
    have B0 := Lib.hid b0
    have B1 := Lib.hid b1
    have BW := Lib.hid bw
    clear b0 b1 bw
    go_wp2_with fail
    with_reducible refine (H4.out _).mono ?_
    rintro _ _ ⟨rfl, rfl⟩
    go_wp2_with fail
    with_reducible refine (refName_any ⟨q.toArray⟩ _ HQ.out).mono ?_
    rintro _ w9 ⟨rfl, hb9⟩
    have B0 := Lib.hid (B0.out.on hb9)
    have B1 := Lib.hid (B1.out.on hb9)
    have BW := Lib.hid (BW.out.trans (hb9.mono BW.out.size))
    have c0 := B0.out.box.at
    have f0 := B0.out.fz
    have c1 := B1.out.box.at
    have f1 := B1.out.fz
    have hz : w.heap.size + 1 < w9.heap.size := B1.out.box.1
    clear hb9
    go_wp2_with fail
    have cF := ((((((B1.out.box.far (p := ⟨w.heap.size, 3, none⟩) (by show w.heap.size + 1 ≠ w.heap.size; omega) (.string ⟨q.toArray⟩)).far (p := ⟨w.heap.size, 1, none⟩) (by show w.heap.size + 1 ≠ w.heap.size; omega) (.int .i64 0)).set (i := 0) (by simp) (.int .i64 c)).set (i := 1) (by simp) (.int .i64 0)).set (i := 2) (by simp) (.int .i64 bl)).set (i := 3) (by simp) (.string ⟨q.toArray⟩)).at
    exact bodyPost_ret (v := .agg #[.int .i64 c, .int .i64 0, .int .i64 bl, .string ⟨q.toArray⟩]) (by simp [results, Tryz.results18, go_sem, cF]) rfl ⟨rfl, ((((((BW.out.setCell (p := ⟨w.heap.size, 3, none⟩) (Nat.le_refl _) _).setCell (p := ⟨w.heap.size, 1, none⟩) (Nat.le_refl _) _).setCell (p := ⟨w.heap.size + 1, 0, none⟩) (Nat.le_succ _) _).setCell (p := ⟨w.heap.size + 1, 1, none⟩) (Nat.le_succ _) _).setCell (p := ⟨w.heap.size + 1, 2, none⟩) (Nat.le_succ _) _).setCell (p := ⟨w.heap.size + 1, 3, none⟩) (Nat.le_succ _) _)⟩
set_option maxRecDepth 100000 in
set_option maxHeartbeats 4000000 in
theorem fold_nodye (h : Hst) (t : ByteArray) (q : List UInt8) (w : World) (ht : t.size ≤ 1000000) (hh : smallH h) (h1 : t.data.toList ≠ wW) (h2 : t.data.toList ≠ bW) (h3 : behind cutW t.data.toList = none) (h4 : behind dyeW t.data.toList = some q) (h5 : okName q = false) :
    Calls Tryz.prog 18 #[hval h, .string t] w fun r w' => r = .returned (hval h) ∧ Below w.heap.size w w' := by
  obtain ⟨s1, s2, s3⟩ := hh
  have hq : (⟨q.toArray⟩ : ByteArray).size ≤ 1000000 := by have := congrArg List.length (pre_yes h4); show q.toArray.size ≤ _; simp at this ⊢; omega
  have HQ := Lib.hid hq
  have g1 : (t.toList == [119, 97, 115, 104]) = false := by rw [ByteArray.toList_eq]; exact beq_eq_false_iff_ne.2 h1
  have g2 : (t.toList == [98, 108, 101, 97, 99, 104]) = false := by rw [ByteArray.toList_eq]; exact beq_eq_false_iff_ne.2 h2
  have H3 := Lib.hid (fun w => begins_no t ⟨#[99, 117, 116, 32]⟩ w (by decide) (pre_no h3))
  have H4 := Lib.hid (fun w => begins_yes t ⟨#[100, 121, 101, 32]⟩ q w (by decide) (pre_yes h4))
  clear h1 h2 h3 h4 hq
  obtain ⟨c, wa, bl, col⟩ := h
  unfold hval hcs
  dsimp only at s1 s2 s3 ⊢
  go_enter Tryz.func18, Tryz.ntmps18
  go_wp2_with fail
  with_reducible refine (H3.out _).mono ?_
  rintro _ _ ⟨rfl, rfl⟩
  obtain ⟨b0, b1, bw⟩ := start_of w (hcs ⟨c, wa, bl, col⟩)
  unfold hcs hzero at b0 b1 bw
  dsimp only at b0 b1 bw
  generalize (w.alloc (.cells #[.int .i64 c, .int .i64 wa, .int .i64 bl, .string ⟨col.toArray⟩] 30)).alloc (.cells #[.int .i64 0, .int .i64 0, .int .i64 0, .string ⟨#[]⟩] 30) = w1 at b0 b1 bw ⊢
  have B0 := Lib.hid b0
  have B1 := Lib.hid b1
  have BW := Lib.hid bw
  clear b0 b1 bw
  go_wp2_with fail
  go_loopw [7] (fun i wr => i = .int .i64 1 ∧ OB wr w.heap.size #[.int .i64 c, .int .i64 wa, .int .i64 bl, .string ⟨col.toArray⟩] ∧ OB wr (w.heap.size + 1) #[.int .i64 0, .int .i64 0, .int .i64 0, .string ⟨#[]⟩] ∧ Below w.heap.size w wr) (fun _ _ => 0)
  case atStart => exact ⟨rfl, B0.out, B1.out, BW.out⟩
  clear B0 B1 BW
  case round =>
    obtain ⟨rfl, b0, b1, bw⟩ := hrel
    have c0 := b0.box.at
    have f0 := b0.fz
    have c1 := b1.box.at
    have f1 := b1.fz
    have hz : w.heap.size + 1 < wr.heap.size := b1.box.1
    have B0 := Lib.hid b0
    have B1 := Lib.hid b1
    have BW := Lib.hid bw
    clear b0 b1 bw
    go_wp2_with fail
    with_reducible refine (H4.out _).mono ?_
    rintro _ _ ⟨rfl, rfl⟩
    go_wp2_with fail
    with_reducible refine (refName_any ⟨q.toArray⟩ _ HQ.out).mono ?_
    rintro _ w9 ⟨rfl, hb9⟩
    have B0 := Lib.hid (B0.out.on hb9)
    have B1 := Lib.hid (B1.out.on hb9)
    have BW := Lib.hid (BW.out.trans (hb9.mono BW.out.size))
    have c0 := B0.out.box.at
    have f0 := B0.out.fz
    have c1 := B1.out.box.at
    have f1 := B1.out.fz
    have hz : w.heap.size + 1 < w9.heap.size := B1.out.box.1
    clear hb9
    go_wp2_with fail
    have cF := ((((B1.out.box.set (i := 0) (by simp) (.int .i64 c)).set (i := 1) (by simp) (.int .i64 wa)).set (i := 2) (by simp) (.int .i64 bl)).set (i := 3) (by simp) (.string ⟨col.toArray⟩)).at
    exact bodyPost_ret (v := .agg #[.int .i64 c, .int .i64 wa, .int .i64 bl, .string ⟨col.toArray⟩]) (by simp [results, Tryz.results18, go_sem, cF]) rfl ⟨rfl, ((((BW.out.setCell (p := ⟨w.heap.size + 1, 0, none⟩) (Nat.le_succ _) _).setCell (p := ⟨w.heap.size + 1, 1, none⟩) (Nat.le_succ _) _).setCell (p := ⟨w.heap.size + 1, 2, none⟩) (Nat.le_succ _) _).setCell (p := ⟨w.heap.size + 1, 3, none⟩) (Nat.le_succ _) _)⟩
set_option maxRecDepth 100000 in
set_option maxHeartbeats 4000000 in
theorem fold_cut (h : Hst) (t : ByteArray) (q : List UInt8) (w : World) (hh : smallH h) (h3 : behind cutW t.data.toList = some q) :
    Calls Tryz.prog 18 #[hval h, .string t] w fun r w' => r = .returned (hval { h with cut := h.cut + numL q }) ∧ Below w.heap.size w w' := by
  obtain ⟨s1, s2, s3⟩ := hh
  have g1 : (t.toList == [119, 97, 115, 104]) = false := by rw [ByteArray.toList_eq, pre_yes h3]; rfl
  have g2 : (t.toList == [98, 108, 101, 97, 99, 104]) = false := by rw [ByteArray.toList_eq, pre_yes h3]; rfl
  have h4 : behind dyeW t.data.toList = none := by rw [pre_yes h3]; rfl
  have H3 := Lib.hid (fun w => begins_yes t ⟨#[99, 117, 116, 32]⟩ q w (by decide) (pre_yes h3))
  have H4 := Lib.hid (fun w => begins_no t ⟨#[100, 121, 101, 32]⟩ w (by decide) (pre_no h4))
  clear h3 h4
  obtain ⟨c, wa, bl, col⟩ := h
  unfold hval hcs
  dsimp only at s1 s2 s3 ⊢
  push_cast
  go_enter Tryz.func18, Tryz.ntmps18
  go_wp2_with fail
  with_reducible refine (H3.out _).mono ?_
  rintro _ _ ⟨rfl, rfl⟩
  obtain ⟨b0, b1, bw⟩ := start_of w (hcs ⟨c, wa, bl, col⟩)
  unfold hcs hzero at b0 b1 bw
  dsimp only at b0 b1 bw
  generalize (w.alloc (.cells #[.int .i64 c, .int .i64 wa, .int .i64 bl, .string ⟨col.toArray⟩] 30)).alloc (.cells #[.int .i64 0, .int .i64 0, .int .i64 0, .string ⟨#[]⟩] 30) = w1 at b0 b1 bw ⊢
  have B0 := Lib.hid b0
  have B1 := Lib.hid b1
  have BW := Lib.hid bw
  clear b0 b1 bw
  go_wp2_with fail
  go_loopw [7] (fun i wr => ∃ k : Nat, 1 ≤ k ∧ k ≤ 100 ∧ i = .int .i64 k ∧ OB wr w.heap.size #[.int .i64 ((c : Int) + cutTo q k), .int .i64 wa, .int .i64 bl, .string ⟨col.toArray⟩] ∧ OB wr (w.heap.size + 1) #[.int .i64 0, .int .i64 0, .int .i64 0, .string ⟨#[]⟩] ∧ Below w.heap.size w wr) (fun i _ => 100 - (intOf i).toNat)
  case atStart => exact ⟨1, by omega, by omega, rfl, by rw [cutTo_one]; simpa using B0.out, B1.out, BW.out⟩
  clear B0 B1 BW
  case round =>
    obtain ⟨k, hk1, hk, rfl, b0, b1, bw⟩ := hrel
    have hcl := cutTo_lt q k
    by_cases hlt : (k : Int) ≤ 99
    · by_cases he : q = Lib.decDigits k
      · obtain ⟨e1, e2⟩ := cutTo_yes hk1 (by omega) he
        have g5 : (q == Lib.decDigits k) = true := beq_iff_eq.2 he
        rw [e1] at b0
        have h2 := b0.set (i := 0) (by simp) (.int .i64 ((c : Int) + k))
        have H2 := Lib.hid (show OB (wr.setCell ⟨w.heap.size, 0, none⟩ (.int .i64 ((c : Int) + k))) w.heap.size #[.int .i64 ((c : Int) + cutTo q (k + 1)), .int .i64 wa, .int .i64 bl, .string ⟨col.toArray⟩] by rw [e2]; exact h2)
        have H3' := Lib.hid (b1.far (p := ⟨w.heap.size, 0, none⟩) (by show w.heap.size + 1 ≠ w.heap.size; omega) (.int .i64 ((c : Int) + k)))
        have H4' := Lib.hid (bw.setCell (p := ⟨w.heap.size, 0, none⟩) (Nat.le_refl _) (.int .i64 ((c : Int) + k)))
        have c0 : wr.cell? ⟨w.heap.size, 0, none⟩ = some (.int .i64 c) := by have := b0.box.at 0; simpa using this
        have f0 := b0.fz
        have hz : w.heap.size + 1 < wr.heap.size := b1.box.1
        clear b0 b1 bw e1 e2 he h2 hcl
        go_wp2_with fail
        with_reducible refine (Tryz.strconv_Itoa_small k (by omega) _).mono ?_
        rintro _ _ ⟨rfl, rfl⟩
        go_wp2_with fail
        go_roundw
        case rel => exact ⟨k + 1, by omega, by omega, by go_num, H2.out, H3'.out, H4'.out⟩
        case measure => simp [intOf]; omega
      · have e2 := cutTo_no hk1 (by omega) he
        have g5 : (q == Lib.decDigits k) = false := beq_eq_false_iff_ne.2 he
        have H2 := Lib.hid (show OB wr w.heap.size #[.int .i64 ((c : Int) + cutTo q (k + 1)), .int .i64 wa, .int .i64 bl, .string ⟨col.toArray⟩] by rw [e2]; exact b0)
        have H3' := Lib.hid b1
        have H4' := Lib.hid bw
        clear b0 b1 bw e2 he hcl
        go_wp2_with fail
        with_reducible refine (Tryz.strconv_Itoa_small k (by omega) _).mono ?_
        rintro _ _ ⟨rfl, rfl⟩
        go_wp2_with fail
        go_roundw
        case rel => exact ⟨k + 1, by omega, by omega, by go_num, H2.out, H3'.out, H4'.out⟩
        case measure => simp [intOf]; omega
    · have hk100 : cutTo q k = numL q := by rw [show k = 100 by omega]; exact cutTo_end q
      rw [hk100] at b0
      have c0 := b0.box.at
      have f0 := b0.fz
      have c1 := b1.box.at
      have f1 := b1.fz
      have hz : w.heap.size + 1 < wr.heap.size := b1.box.1
      have B0 := Lib.hid b0
      have B1 := Lib.hid b1
      have BW := Lib.hid bw
      have hnl := numL_lt q
      clear b0 b1 bw hk100 hcl
      go_wp2_with fail
      with_reducible refine (H4.out _).mono ?_
      rintro _ _ ⟨rfl, rfl⟩
      go_wp2_with fail
      have cF := ((((B1.out.box.set (i := 0) (by simp) (.int .i64 ((c : Int) + numL q))).set (i := 1) (by simp) (.int .i64 wa)).set (i := 2) (by simp) (.int .i64 bl)).set (i := 3) (by simp) (.string ⟨col.toArray⟩)).at
      exact bodyPost_ret (v := .agg #[.int .i64 ((c : Int) + numL q), .int .i64 wa, .int .i64 bl, .string ⟨col.toArray⟩]) (by simp [results, Tryz.results18, go_sem, cF]) rfl ⟨rfl, ((((BW.out.setCell (p := ⟨w.heap.size + 1, 0, none⟩) (Nat.le_succ _) _).setCell (p := ⟨w.heap.size + 1, 1, none⟩) (Nat.le_succ _) _).setCell (p := ⟨w.heap.size + 1, 2, none⟩) (Nat.le_succ _) _).setCell (p := ⟨w.heap.size + 1, 3, none⟩) (Nat.le_succ _) _)⟩
theorem fold_any (h : Hst) (t : ByteArray) (w : World) (ht : t.size ≤ 1000000) (hh : smallH h) :
    Calls Tryz.prog 18 #[hval h, .string t] w fun r w' => r = .returned (hval (stepH h t.data.toList)) ∧ Below w.heap.size w w' := by
  by_cases h1 : t.data.toList = wW
  · rw [show stepH h t.data.toList = { h with wash := h.wash + 1 } from if_pos h1]
    exact fold_wash h t w hh h1
  by_cases h2 : t.data.toList = bW
  · rw [show stepH h t.data.toList = { h with bleach := h.bleach + 1, wash := 0 } from (if_neg h1).trans (if_pos h2)]
    exact fold_bleach h t w hh h2
  cases h3 : behind cutW t.data.toList with
  | some q =>
    rw [show stepH h t.data.toList = { h with cut := h.cut + numL q } by unfold stepH; rw [if_neg h1, if_neg h2, h3]]
    exact fold_cut h t q w hh h3
  | none =>
    cases h4 : behind dyeW t.data.toList with
    | some q =>
      cases h5 : okName q with
      | true =>
        rw [show stepH h t.data.toList = { h with color := q, wash := 0 } by unfold stepH; rw [if_neg h1, if_neg h2, h3, h4]; exact if_pos h5]
        exact fold_dye h t q w ht hh h1 h2 h3 h4 h5
      | false =>
        rw [show stepH h t.data.toList = h by unfold stepH; rw [if_neg h1, if_neg h2, h3, h4]; exact if_neg (by rw [h5]; simp)]
        exact fold_nodye h t q w ht hh h1 h2 h3 h4 h5
    | none =>
      rw [show stepH h t.data.toList = h by unfold stepH; rw [if_neg h1, if_neg h2, h3, h4]]
      exact fold_none h t w hh h1 h2 h3 h4
end Go.Proofs.YtpoodhhajghaoaaGreatDoor
