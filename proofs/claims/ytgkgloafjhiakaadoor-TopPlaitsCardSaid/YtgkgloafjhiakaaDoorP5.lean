/- Walks: Inverse, Mirror and Flip; both sides. -/
import Derived.Test.YtgkgloafjhiakaaDoorP4
namespace Go.Proofs.YtgkgloafjhiakaaDoor
open Go.RowKit Go.Sort

theorem get_li {t : ByteArray} {k : Nat} (hlt : k < t.size) (hll : k < (liB t).length) : (liB t)[k] = t[k] := by
  have := li_get hlt
  rw [List.getElem?_eq_getElem hll] at this
  exact Option.some.inj this
theorem slice1 {t : ByteArray} {k : Nat} (hlt : k < t.size) : t.extract k (k + 1) = mkB [t[k]] := by
  apply ByteArray.ext
  apply Array.ext
  · simp; omega
  · intro i h1 h2
    have h3 : i = 0 := by simpa using h2
    subst h3
    simp
    rfl
set_option maxRecDepth 100000 in
set_option maxHeartbeats 4000000 in
theorem backward_any (t : ByteArray) (w : World) (ht : t.size ≤ 1000000) : Calls Tryd.prog 63 #[.string t] w fun r w' => r = .returned (.string (mkB (liB t).reverse)) ∧ w' = w := by
  have hl := li_size t
  go_enter Tryd.func63, Tryd.ntmps63
  go_wp2_with fail
  go_loopw [3, 4] (fun s i wr => ∃ k : Nat, k ≤ t.size ∧ i = .int .i64 k ∧ s = .string (mkB ((liB t).take k).reverse) ∧ wr = w) (fun _ i _ => t.size - (intOf i).toNat)
  case atStart => exact ⟨0, by omega, rfl, rfl, rfl⟩
  case round =>
    obtain ⟨k, hk, rfl, rfl, rfl⟩ := hrel
    by_cases hlt : k < t.size
    · have hll : k < (liB t).length := by omega
      have HT := Lib.hid (take_succ_map id hll)
      have HS := Lib.hid (slice1 hlt)
      have HG := Lib.hid (get_li hlt hll)
      have hs1 : (mkB ((liB t).take k).reverse).size = k := by rw [size_mk]; simp; omega
      have hs2 : (t.extract k (k + 1)).size = 1 := by rw [slice1 hlt]; rfl
      obtain ⟨S, hS⟩ : ∃ S, ((liB t).take k).reverse = S := ⟨_, rfl⟩
      rw [hS] at hs1
      rw [hS]
      go_wp2_with fail
      go_roundw
      case rel =>
        refine ⟨k + 1, by omega, by go_num, ?_, trivial⟩
        rw [HS.out, mk_append, ← hS]
        congr 2
        have := HT.out
        rw [List.map_id, List.map_id, HG.out] at this
        rw [this, List.reverse_append]
        rfl
      case measure => simp [intOf]; omega
    · obtain rfl : k = t.size := by omega
      have HL := Lib.hid (show (liB t).take t.size = liB t by rw [← hl]; exact List.take_length)
      go_wp2_with fail
      go_ret
      exact ⟨by rw [HL.out]; rfl, rfl⟩
set_option maxRecDepth 100000 in
set_option maxHeartbeats 4000000 in
theorem refFlipped_any (t : ByteArray) (w : World) (ht : t.size ≤ 1000000) (hW : wordL (liB t)) : Calls Tryd.prog 67 #[.string t] w fun r w' => r = .returned (.string (mkB (flL (liB t)))) ∧ Below w.heap.size w w' := by
  have hl := li_size t
  go_enter Tryd.func67, Tryd.ntmps67
  go_wp2_with fail
  go_loopw [3, 4] (fun s i wr => ∃ k : Nat, k ≤ t.size ∧ i = .int .i64 k ∧ s = .string (mkB (flL ((liB t).take k))) ∧ Below w.heap.size w wr) (fun _ i _ => t.size - (intOf i).toNat)
  case atStart => exact ⟨0, by omega, rfl, rfl, Below.refl _ _⟩
  case round =>
    obtain ⟨k, hk, rfl, rfl, hbw⟩ := hrel
    have HBW := Lib.hid hbw
    clear hbw
    by_cases hlt : k < t.size
    · have hll : k < (liB t).length := by omega
      have hget := get_li hlt hll
      have HT := Lib.hid (take_succ_map (· ^^^ 3) hll)
      have hLk : isL t[k] := by rw [← hget]; exact hW _ (List.getElem_mem hll)
      rw [hget] at HT
      have hs1 : (mkB (flL ((liB t).take k))).size = k := by rw [size_mk]; simp [flL]; omega
      obtain ⟨S, hS⟩ : ∃ S, flL ((liB t).take k) = S := ⟨_, rfl⟩
      rw [hS] at hs1
      rw [hS]
      have HB2 := Lib.hid fun c : UInt8 => (HBW.out.alloc (HBW.out.size) (.cells #[.int .u8 (c.toNat : Int)] 5))
      have HE : Hid (∀ d : UInt8, t[k] ^^^ 3 = d → mkB S ++ mkB [d] = mkB (flL ((liB t).take (k + 1)))) := Lib.hid fun d hd => by
        rw [mk_append, ← hS, ← hd]
        congr 2
        exact HT.out.symm
      clear HT hget
      generalize hdd : t[k] = d at HE hLk
      have c97 : (convert 70 9 (.slice (some ⟨wr.heap.size, 0, none⟩) 1 1)).run Tryd.prog (wr.alloc (.cells #[.int .u8 97] 5)) = .ok (.string (mkB [97])) (wr.alloc (.cells #[.int .u8 97] 5)) := conv1 wr 97
      have c65 : (convert 70 9 (.slice (some ⟨wr.heap.size, 0, none⟩) 1 1)).run Tryd.prog (wr.alloc (.cells #[.int .u8 65] 5)) = .ok (.string (mkB [65])) (wr.alloc (.cells #[.int .u8 65] 5)) := conv1 wr 65
      have c98 : (convert 70 9 (.slice (some ⟨wr.heap.size, 0, none⟩) 1 1)).run Tryd.prog (wr.alloc (.cells #[.int .u8 98] 5)) = .ok (.string (mkB [98])) (wr.alloc (.cells #[.int .u8 98] 5)) := conv1 wr 98
      have c66 : (convert 70 9 (.slice (some ⟨wr.heap.size, 0, none⟩) 1 1)).run Tryd.prog (wr.alloc (.cells #[.int .u8 66] 5)) = .ok (.string (mkB [66])) (wr.alloc (.cells #[.int .u8 66] 5)) := conv1 wr 66
      have gk : ∀ n : Nat, ((t[k]'hlt).toNat : Int) = (d.toNat : Int) := fun _ => by rw [hdd]
      rcases hLk with rfl | rfl | rfl | rfl
      all_goals
        first
          | (have HE2 := Lib.hid (HE.out 98 (by decide)); have HB3 := Lib.hid (HB2.out 98); clear c97 c65 c66)
          | (have HE2 := Lib.hid (HE.out 66 (by decide)); have HB3 := Lib.hid (HB2.out 66); clear c97 c65 c98)
          | (have HE2 := Lib.hid (HE.out 97 (by decide)); have HB3 := Lib.hid (HB2.out 97); clear c98 c65 c66)
          | (have HE2 := Lib.hid (HE.out 65 (by decide)); have HB3 := Lib.hid (HB2.out 65); clear c97 c98 c66)
        clear gk HE HB2
        go_wp2_with fail
        go_roundw
        case rel =>
          exact ⟨k + 1, by omega, by go_num, by rw [← HE2.out], HB3.out⟩
        case measure => simp [intOf]; omega
    · obtain rfl : k = t.size := by omega
      have HL := Lib.hid (show (liB t).take t.size = liB t by rw [← hl]; exact List.take_length)
      go_wp2_with fail
      go_ret
      exact ⟨by rw [HL.out]; rfl, HBW.out⟩
/-- The answer about a word, or that it is none. -/
def ansB (t : ByteArray) (l : List UInt8) : ByteArray := mkB (if okW t then l else [])
/-- The error about a word. -/
def ansE (t : ByteArray) : Int := if okW t then 0 else 1
theorem ansE_ok {t : ByteArray} (h : okW t = true) : ansE t = 0 := by simp [ansE, h]
theorem ansE_no {t : ByteArray} (h : okW t = false) : ansE t = 1 := by simp [ansE, h]
theorem ansB_ok {t : ByteArray} (h : okW t = true) (l : List UInt8) : ansB t l = mkB l := by simp [ansB, h]
theorem ansB_no {t : ByteArray} (h : okW t = false) (l : List UInt8) : ansB t l = mkB [] := by simp [ansB, h]
/-- Both. -/
def ansW (t : ByteArray) (l : List UInt8) : Value := .tuple #[.string (ansB t l), .int .i64 (ansE t)]
theorem ansW_ok {t : ByteArray} (h : okW t = true) (l : List UInt8) : ansW t l = .tuple #[.string (mkB l), .int .i64 0] := by simp [ansW, ansB, ansE, h]
theorem ansW_no {t : ByteArray} (h : okW t = false) (l : List UInt8) : ansW t l = .tuple #[.string (mkB []), .int .i64 1] := by simp [ansW, ansB, ansE, h]
theorem mirrored_any (t : ByteArray) (w : World) (ht : t.size ≤ 1000000) : Calls Tryd.prog 65 #[.string t] w fun r w' => r = .returned (.string (mkB (miL (liB t)))) ∧ Below w.heap.size w w' := by
  go_enter Tryd.func65, Tryd.ntmps65
  go_wp2_with fail
  with_reducible refine (exchanged69_any t _ ht).mono ?_
  rintro _ w2 ⟨rfl, hb⟩
  have HB := Lib.hid hb
  clear hb
  go_wp2_with fail
  go_ret
  exact ⟨rfl, HB.out⟩
theorem flipped_any (t : ByteArray) (w : World) (ht : t.size ≤ 1000000) : Calls Tryd.prog 66 #[.string t] w fun r w' => r = .returned (.string (mkB (flL (liB t)))) ∧ Below w.heap.size w w' := by
  go_enter Tryd.func66, Tryd.ntmps66
  go_wp2_with fail
  with_reducible refine (exchanged88_any t _ ht).mono ?_
  rintro _ w2 ⟨rfl, hb⟩
  have HB := Lib.hid hb
  clear hb
  go_wp2_with fail
  go_ret
  exact ⟨rfl, HB.out⟩
theorem changed62_any (t : ByteArray) (w : World) (ht : t.size ≤ 1000000) : Calls Tryd.prog 61 #[.string t, .func (.func 62) #[] #[]] w fun r w' => r = .returned (ansW t (inL (liB t))) ∧ Below w.heap.size w w' := by
  go_enter Tryd.func61, Tryd.ntmps61
  go_wp2_with fail
  with_reducible refine (valid_any t _ ht).mono ?_
  rintro _ w2 ⟨rfl, hb⟩
  have HB := Lib.hid hb
  clear hb
  by_cases h : okW t = true
  · have HA := Lib.hid (ansW_ok h (inL (liB t)))
    rw [h]
    clear h
    go_wp2_with fail
    with_reducible refine (inverted_any t _ ht).mono ?_
    rintro _ w3 ⟨rfl, hb⟩
    have HB2 := Lib.hid (below_trans' HB.out hb)
    clear hb
    go_wp2_with fail
    go_ret2
    exact ⟨by rw [HA.out]; rfl, HB2.out⟩
  · have h' : okW t = false := by simpa using h
    have HA := Lib.hid (ansW_no h' (inL (liB t)))
    rw [h']
    clear h h'
    go_wp2_with fail
    go_ret2
    exact ⟨by rw [HA.out]; rfl, HB.out⟩
theorem inverse_any (t : ByteArray) (w : World) (ht : t.size ≤ 1000000) : Calls Tryd.prog 23 #[.string t] w fun r w' => r = .returned (ansW t (inL (liB t))) ∧ Below w.heap.size w w' := by
  go_enter Tryd.func23, Tryd.ntmps23
  go_wp2_with fail
  with_reducible refine (changed62_any t _ ht).mono ?_
  rintro _ w2 ⟨rfl, hb⟩
  have HB := Lib.hid hb
  clear hb
  unfold ansW
  go_wp2_with fail
  go_ret2
  exact ⟨rfl, HB.out⟩
theorem changed65_any (t : ByteArray) (w : World) (ht : t.size ≤ 1000000) : Calls Tryd.prog 61 #[.string t, .func (.func 65) #[] #[]] w fun r w' => r = .returned (ansW t (miL (liB t))) ∧ Below w.heap.size w w' := by
  go_enter Tryd.func61, Tryd.ntmps61
  go_wp2_with fail
  with_reducible refine (valid_any t _ ht).mono ?_
  rintro _ w2 ⟨rfl, hb⟩
  have HB := Lib.hid hb
  clear hb
  by_cases h : okW t = true
  · have HA := Lib.hid (ansW_ok h (miL (liB t)))
    rw [h]
    clear h
    go_wp2_with fail
    with_reducible refine (mirrored_any t _ ht).mono ?_
    rintro _ w3 ⟨rfl, hb⟩
    have HB2 := Lib.hid (below_trans' HB.out hb)
    clear hb
    go_wp2_with fail
    go_ret2
    exact ⟨by rw [HA.out]; rfl, HB2.out⟩
  · have h' : okW t = false := by simpa using h
    have HA := Lib.hid (ansW_no h' (miL (liB t)))
    rw [h']
    clear h h'
    go_wp2_with fail
    go_ret2
    exact ⟨by rw [HA.out]; rfl, HB.out⟩
theorem mirror_any (t : ByteArray) (w : World) (ht : t.size ≤ 1000000) : Calls Tryd.prog 25 #[.string t] w fun r w' => r = .returned (ansW t (miL (liB t))) ∧ Below w.heap.size w w' := by
  go_enter Tryd.func25, Tryd.ntmps25
  go_wp2_with fail
  with_reducible refine (changed65_any t _ ht).mono ?_
  rintro _ w2 ⟨rfl, hb⟩
  have HB := Lib.hid hb
  clear hb
  unfold ansW
  go_wp2_with fail
  go_ret2
  exact ⟨rfl, HB.out⟩
theorem changed66_any (t : ByteArray) (w : World) (ht : t.size ≤ 1000000) : Calls Tryd.prog 61 #[.string t, .func (.func 66) #[] #[]] w fun r w' => r = .returned (ansW t (flL (liB t))) ∧ Below w.heap.size w w' := by
  go_enter Tryd.func61, Tryd.ntmps61
  go_wp2_with fail
  with_reducible refine (valid_any t _ ht).mono ?_
  rintro _ w2 ⟨rfl, hb⟩
  have HB := Lib.hid hb
  clear hb
  by_cases h : okW t = true
  · have HA := Lib.hid (ansW_ok h (flL (liB t)))
    rw [h]
    clear h
    go_wp2_with fail
    with_reducible refine (flipped_any t _ ht).mono ?_
    rintro _ w3 ⟨rfl, hb⟩
    have HB2 := Lib.hid (below_trans' HB.out hb)
    clear hb
    go_wp2_with fail
    go_ret2
    exact ⟨by rw [HA.out]; rfl, HB2.out⟩
  · have h' : okW t = false := by simpa using h
    have HA := Lib.hid (ansW_no h' (flL (liB t)))
    rw [h']
    clear h h'
    go_wp2_with fail
    go_ret2
    exact ⟨by rw [HA.out]; rfl, HB.out⟩
theorem flip_any (t : ByteArray) (w : World) (ht : t.size ≤ 1000000) : Calls Tryd.prog 27 #[.string t] w fun r w' => r = .returned (ansW t (flL (liB t))) ∧ Below w.heap.size w w' := by
  go_enter Tryd.func27, Tryd.ntmps27
  go_wp2_with fail
  with_reducible refine (changed66_any t _ ht).mono ?_
  rintro _ w2 ⟨rfl, hb⟩
  have HB := Lib.hid hb
  clear hb
  unfold ansW
  go_wp2_with fail
  go_ret2
  exact ⟨rfl, HB.out⟩
theorem refInverse_any (t : ByteArray) (w : World) (ht : t.size ≤ 1000000) : Calls Tryd.prog 24 #[.string t] w fun r w' => r = .returned (ansW t (inL (liB t))) ∧ Below w.heap.size w w' := by
  go_enter Tryd.func24, Tryd.ntmps24
  go_wp2_with fail
  with_reducible refine (refValid_any t _ ht).mono ?_
  rintro _ w2 ⟨rfl, rfl⟩
  by_cases h : okW t = true
  · have HA := Lib.hid (ansW_ok h (inL (liB t)))
    have hW := (okW_iff.1 h).2
    rw [h]
    clear h
    go_wp2_with fail
    with_reducible refine (swapped_any t _ ht hW).mono ?_
    rintro _ w3 ⟨rfl, hb⟩
    have HB2 := Lib.hid hb
    clear hb
    go_wp2_with fail
    with_reducible refine (backward_any _ _ ?_).mono ?_
    · rw [size_mk]; unfold miL; rw [List.length_map, li_size]; exact ht
    rintro _ w4 ⟨rfl, rfl⟩
    go_wp2_with fail
    go_ret2
    exact ⟨by rw [HA.out]; rfl, HB2.out⟩
  · have h' : okW t = false := by simpa using h
    have HA := Lib.hid (ansW_no h' (inL (liB t)))
    rw [h']
    clear h h'
    go_wp2_with fail
    go_ret2
    exact ⟨by rw [HA.out]; rfl, Below.refl _ _⟩
theorem refMirror_any (t : ByteArray) (w : World) (ht : t.size ≤ 1000000) : Calls Tryd.prog 26 #[.string t] w fun r w' => r = .returned (ansW t (miL (liB t))) ∧ Below w.heap.size w w' := by
  go_enter Tryd.func26, Tryd.ntmps26
  go_wp2_with fail
  with_reducible refine (refValid_any t _ ht).mono ?_
  rintro _ w2 ⟨rfl, rfl⟩
  by_cases h : okW t = true
  · have HA := Lib.hid (ansW_ok h (miL (liB t)))
    have hW := (okW_iff.1 h).2
    rw [h]
    clear h
    go_wp2_with fail
    with_reducible refine (swapped_any t _ ht hW).mono ?_
    rintro _ w3 ⟨rfl, hb⟩
    have HB2 := Lib.hid hb
    clear hb
    go_wp2_with fail
    go_ret2
    exact ⟨by rw [HA.out]; rfl, HB2.out⟩
  · have h' : okW t = false := by simpa using h
    have HA := Lib.hid (ansW_no h' (miL (liB t)))
    rw [h']
    clear h h'
    go_wp2_with fail
    go_ret2
    exact ⟨by rw [HA.out]; rfl, Below.refl _ _⟩
theorem refFlip_any (t : ByteArray) (w : World) (ht : t.size ≤ 1000000) : Calls Tryd.prog 28 #[.string t] w fun r w' => r = .returned (ansW t (flL (liB t))) ∧ Below w.heap.size w w' := by
  go_enter Tryd.func28, Tryd.ntmps28
  go_wp2_with fail
  with_reducible refine (refValid_any t _ ht).mono ?_
  rintro _ w2 ⟨rfl, rfl⟩
  by_cases h : okW t = true
  · have HA := Lib.hid (ansW_ok h (flL (liB t)))
    have hW := (okW_iff.1 h).2
    rw [h]
    clear h
    go_wp2_with fail
    with_reducible refine (refFlipped_any t _ ht hW).mono ?_
    rintro _ w3 ⟨rfl, hb⟩
    have HB2 := Lib.hid hb
    clear hb
    go_wp2_with fail
    go_ret2
    exact ⟨by rw [HA.out]; rfl, HB2.out⟩
  · have h' : okW t = false := by simpa using h
    have HA := Lib.hid (ansW_no h' (flL (liB t)))
    rw [h']
    clear h h'
    go_wp2_with fail
    go_ret2
    exact ⟨by rw [HA.out]; rfl, Below.refl _ _⟩
end Go.Proofs.YtgkgloafjhiakaaDoor
