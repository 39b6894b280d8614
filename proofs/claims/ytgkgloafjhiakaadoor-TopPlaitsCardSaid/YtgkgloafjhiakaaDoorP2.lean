/- Walks: which texts are words; both sides. -/
import Derived.Test.YtgkgloafjhiakaaDoorP1
import Derived.Lib.OthersKept
namespace Go.Proofs.YtgkgloafjhiakaaDoor
open Go.RowKit Go.Sort

instance (c : UInt8) : Decidable (isL c) := inferInstanceAs (Decidable (_ ∨ _))
instance (l : List UInt8) : Decidable (wordL l) := inferInstanceAs (Decidable (∀ c ∈ l, isL c))
theorem ne8 {c : UInt8} {n : Nat} (h : c ≠ UInt8.ofNat n) (hn : n < 256) : ((c.toNat : Int) == (n : Int)) = false := by
  rw [beq_eq_false_iff_ne]
  intro e
  apply h
  apply UInt8.toNat_inj.1
  rw [UInt8.toNat_ofNat_of_lt' hn]
  omega
theorem isLetter_any (c : UInt8) (w : World) : Calls Tryd.prog 72 #[.int .u8 (c.toNat : Int)] w fun r w' => r = .returned (.bool (decide (isL c))) ∧ w' = w := by
  go_enter Tryd.func72, Tryd.ntmps72
  by_cases h1 : c = 97
  · subst h1
    go_wp2_with fail
    go_ret
    exact ⟨rfl, rfl⟩
  have g1 : ((c.toNat : Int) == 97) = false := ne8 (n := 97) h1 (by decide)
  by_cases h2 : c = 65
  · subst h2
    go_wp2_with fail
    go_ret
    exact ⟨rfl, rfl⟩
  have g2 : ((c.toNat : Int) == 65) = false := ne8 (n := 65) h2 (by decide)
  by_cases h3 : c = 98
  · subst h3
    go_wp2_with fail
    go_ret
    exact ⟨rfl, rfl⟩
  have g3 : ((c.toNat : Int) == 98) = false := ne8 (n := 98) h3 (by decide)
  by_cases h4 : c = 66
  · subst h4
    go_wp2_with fail
    go_ret
    exact ⟨rfl, rfl⟩
  have g4 : ((c.toNat : Int) == 66) = false := ne8 (n := 66) h4 (by decide)
  have HF := Lib.hid (show decide (isL c) = false by rw [decide_eq_false_iff_not]; unfold isL; simp [h1, h2, h3, h4])
  clear h1 h2 h3 h4
  go_wp2_with fail
  go_ret
  exact ⟨ret_bool HF.out.symm, rfl⟩
/-- A word: at most sixty letters. -/
def okW (t : ByteArray) : Bool := decide (t.size ≤ 60 ∧ wordL (liB t))
theorem okW_iff {t : ByteArray} : okW t = true ↔ t.size ≤ 60 ∧ wordL (liB t) := by unfold okW; rw [decide_eq_true_eq]
theorem okW_long {t : ByteArray} (h : 60 < t.size) : okW t = false := by unfold okW; rw [decide_eq_false_iff_not]; intro h'; omega
theorem okW_bad {t : ByteArray} {k : Nat} (hk : k < t.size) (h : ¬ isL t[k]) : okW t = false := by
  unfold okW; rw [decide_eq_false_iff_not]; intro h'
  exact h (h'.2 _ (List.mem_of_getElem? (li_get hk)))
theorem okW_all {t : ByteArray} (h : t.size ≤ 60) (h2 : ∀ i, (hi : i < t.size) → isL t[i]) : okW t = true := by
  rw [okW_iff]
  refine ⟨h, fun c hc => ?_⟩
  obtain ⟨i, hi⟩ := List.mem_iff_getElem?.1 hc
  have hlt : i < t.size := by
    have := (List.getElem?_eq_some_iff.1 hi).1
    rwa [li_size] at this
  rw [li_get hlt] at hi
  obtain rfl := Option.some.inj hi
  exact h2 i hlt
set_option maxRecDepth 100000 in
theorem refValid_any (t : ByteArray) (w : World) (ht : t.size ≤ 1000000) : Calls Tryd.prog 33 #[.string t] w fun r w' => r = .returned (.bool (okW t)) ∧ w' = w := by
  go_enter Tryd.func33, Tryd.ntmps33
  go_wp2_with fail
  go_loopw [3] (fun i wr => ∃ k : Nat, k ≤ t.size ∧ i = .int .i64 k ∧ (∀ i, (hi : i < t.size) → i < k → isL t[i]) ∧ wr = w) (fun i _ => t.size - (intOf i).toNat)
  case atStart => exact ⟨0, by omega, rfl, fun i _ h => by omega, rfl⟩
  case round =>
    obtain ⟨k, hk, rfl, hno, rfl⟩ := hrel
    have HNO := Lib.hid hno
    clear hno
    by_cases hlt : k < t.size
    · go_wp2_with fail
      with_reducible refine (isLetter_any t[k] _).mono ?_
      rintro _ w2 ⟨rfl, rfl⟩
      by_cases hL : isL t[k]
      · have HN2 : Hid (∀ i, (hi : i < t.size) → i < k + 1 → isL t[i]) := Lib.hid fun i hi h => by
          rcases Nat.lt_or_ge i k with h' | h'
          · exact HNO.out i hi h'
          · obtain rfl : i = k := by omega
            exact hL
        rw [decide_eq_true hL]
        clear hL
        go_wp2_with fail
        go_roundw
        case rel => exact ⟨k + 1, by omega, by go_num, HN2.out, trivial⟩
        case measure => simp [intOf]; omega
      · have HB := Lib.hid (okW_bad hlt hL)
        rw [decide_eq_false hL]
        clear hL
        go_wp2_with fail
        go_ret
        exact ⟨ret_bool HB.out.symm, rfl⟩
    · by_cases h60 : t.size ≤ 60
      · have HA := Lib.hid (okW_all h60 fun i hi => HNO.out i hi (by omega))
        go_wp2_with fail
        go_ret
        refine ⟨ret_bool ?_, rfl⟩
        rw [HA.out, decide_eq_true_eq]
        omega
      · have HA := Lib.hid (okW_long (t := t) (by omega))
        go_wp2_with fail
        go_ret
        refine ⟨ret_bool ?_, rfl⟩
        rw [HA.out, decide_eq_false_iff_not]
        omega
theorem contains4 {c : UInt8} : decide (0 ≤ Lib.indexByte (liB four) c) = decide (isL c) := by
  rw [← Lib.contains_iff_indexByte]
  rw [Bool.eq_iff_iff, decide_eq_true_eq]
  unfold isL
  simp [liB]
set_option maxRecDepth 100000 in
/-- strings.ContainsRune among the four letters. -/
theorem containsRune_low (c : UInt8) (w : World) (hc : c.toNat < 128) : Calls Tryd.prog 71 #[.string four, .int .i32 (c.toNat : Int)] w fun r w' => r = .returned (.bool (decide (isL c))) ∧ Below w.heap.size w w' := by
  refine (Tryd.strings_ContainsRune_ascii four (c.toNat : Int) w (by omega) (by omega)).mono fun r w' ⟨h1, h2⟩ => ?_
  subst h2
  refine ⟨?_, Below.refl _ _⟩
  rw [h1, show ((c.toNat : Int)).toNat.toUInt8 = c by simp, contains4]
set_option maxRecDepth 100000 in
theorem containsRune_high (r : Int) (w : World) (h0 : 128 ≤ r) (h1 : r ≤ 2147483647) : Calls Tryd.prog 71 #[.string four, .int .i32 r] w fun e w' => e = .returned (.bool false) ∧ Below w.heap.size w w' := by
  go_enter Tryd.func71, Tryd.ntmps71
  go_wp2_with fail
  with_reducible refine (indexRune_high r _ h0 h1).mono ?_
  rintro _ w2 ⟨rfl, hb⟩
  have HB := Lib.hid hb
  clear hb
  go_wp2_with fail
  go_ret
  exact ⟨rfl, HB.out⟩
theorem iterPos_of {w : World} {b p : Nat} {t : ByteArray} (h : w.heap[b]? = some (.stringIter t p)) : w.iterPos b = p := by unfold World.iterPos; rw [h]
theorem iter_on {w w' : World} {b p : Nat} {t : ByteArray} (h : w.heap[b]? = some (.stringIter t p)) (hb : Below w.heap.size w w') : w'.heap[b]? = some (.stringIter t p) := by
  rw [hb.block b (Array.getElem?_eq_some_iff.1 h).1]; exact h
set_option maxRecDepth 100000 in
set_option maxHeartbeats 4000000 in
theorem valid_any (t : ByteArray) (w : World) (ht : t.size ≤ 1000000) : Calls Tryd.prog 32 #[.string t] w fun r w' => r = .returned (.bool (okW t)) ∧ Below w.heap.size w w' := by
  go_enter Tryd.func32, Tryd.ntmps32
  by_cases h60 : 60 < t.size
  · have HA := Lib.hid (okW_long h60)
    go_wp2_with fail
    go_ret
    exact ⟨ret_bool HA.out.symm, Below.refl _ _⟩
  go_wp2_with fail
  go_loopw [4] (fun _ wr => ∃ k : Nat, k ≤ t.size ∧ (∀ i, (hi : i < t.size) → i < k → isL t[i]) ∧ wr.heap[w.heap.size]? = some (.stringIter t k) ∧ Below w.heap.size w wr) (fun _ wr => t.size - wr.iterPos w.heap.size)
  case atStart => exact ⟨0, by omega, fun i _ h => by omega, World.iter_heap w t 0, belowA _ _⟩
  case round =>
    obtain ⟨k, hk, hno, hit, hbw⟩ := hrel
    have HNO := Lib.hid hno
    have HIT := Lib.hid hit
    have HBW := Lib.hid hbw
    clear hno hit hbw
    by_cases hlt : k < t.size
    · by_cases ha : (t[k]'hlt).toNat < 128
      · have N := fun ty => Lib.run_next_ascii_at (P := Tryd.prog) wr w.heap.size t k ty HIT.out hlt ha
        have hi := Lib.iterAt_heap wr w.heap.size t k (k + 1) HIT.out
        have hb := Lib.below_iterAt HBW.out (Nat.le_refl w.heap.size) t (k + 1)
        have hp := iterPos_of HIT.out
        generalize wr.iterAt w.heap.size t (k + 1) = w1 at N hi hb
        have HI := Lib.hid hi
        have HB := Lib.hid hb
        have HP := Lib.hid hp
        clear hi hb hp
        go_wp2_with fail
        with_reducible refine (containsRune_low t[k] _ ha).mono ?_
        rintro _ w2 ⟨rfl, hb2⟩
        have HI2 := Lib.hid (iter_on HI.out hb2)
        have HB2 := Lib.hid (HB.out.trans (hb2.mono HB.out.size))
        clear hb2 N
        by_cases hL : isL t[k]
        · have HN2 : Hid (∀ i, (hi : i < t.size) → i < k + 1 → isL t[i]) := Lib.hid fun i hi h => by
            rcases Nat.lt_or_ge i k with h' | h'
            · exact HNO.out i hi h'
            · obtain rfl : i = k := by omega
              exact hL
          rw [decide_eq_true hL]
          clear hL
          go_wp2_with fail
          go_roundw
          case rel => exact ⟨k + 1, by omega, HN2.out, HI2.out, HB2.out⟩
          case measure => rw [iterPos_of HI2.out, HP.out]; omega
        · have HBD := Lib.hid (okW_bad hlt hL)
          rw [decide_eq_false hL]
          clear hL
          go_wp2_with fail
          go_ret
          exact ⟨ret_bool HBD.out.symm, HB2.out⟩
      · have N := fun ty => Lib.run_next_any_at (P := Tryd.prog) wr w.heap.size t k ty HIT.out hlt
        have hb := Lib.below_iterAt HBW.out (Nat.le_refl w.heap.size) t (k + (Utf8.decode t k).2)
        have h1 := (decode_high t k hlt (by omega)).1
        have h2 := decode_le t k
        generalize wr.iterAt w.heap.size t (k + (Utf8.decode t k).2) = w1 at N hb
        generalize (Utf8.decode t k).1 = r at N h1 h2
        have HB := Lib.hid hb
        have HBD := Lib.hid (okW_bad hlt (fun h => by
          have := isL_cases (P := fun c => c.toNat < 128) (by decide) (by decide) (by decide) (by decide) h
          exact ha this))
        clear hb
        go_wp2_with fail
        with_reducible refine (containsRune_high r _ (by omega) (by omega)).mono ?_
        rintro _ w2 ⟨rfl, hb2⟩
        have HB2 := Lib.hid (HB.out.trans (hb2.mono HB.out.size))
        clear hb2 N
        go_wp2_with fail
        go_ret
        exact ⟨ret_bool HBD.out.symm, HB2.out⟩
    · have N := fun ty => Lib.run_next_end_at (P := Tryd.prog) wr w.heap.size t k ty HIT.out hlt
      have HA := Lib.hid (okW_all (by omega) fun i hi => HNO.out i hi (by omega))
      go_wp2_with fail
      go_ret
      exact ⟨ret_bool HA.out.symm, HBW.out⟩
end Go.Proofs.YtgkgloafjhiakaaDoor
