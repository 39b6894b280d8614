/- Walks: words turned around; both sides. -/
import Derived.Test.YtgkgloafjhiakaaDoorP3
namespace Go.Proofs.YtgkgloafjhiakaaDoor
open Go.RowKit Go.Sort

/-- A list, laid from behind. -/
def back (l : List UInt8) (k : Nat) : List UInt8 := List.replicate (l.length - k) 0 ++ (inL l).drop (l.length - k)
theorem inL_length (l : List UInt8) : (inL l).length = l.length := by simp [inL, miL]
theorem back_length (l : List UInt8) (k : Nat) : (back l k).length = l.length := by
  unfold back
  rw [List.length_append, List.length_replicate, List.length_drop, inL_length]
  omega
theorem back_zero (l : List UInt8) : back l 0 = List.replicate l.length 0 := by
  unfold back
  rw [Nat.sub_zero, List.drop_of_length_le (by rw [inL_length]; exact Nat.le_refl _), List.append_nil]
theorem back_all (l : List UInt8) : back l l.length = inL l := by simp [back]
theorem inL_at (l : List UInt8) {k : Nat} (h : k < l.length) (h2 : l.length - 1 - k < (inL l).length) : (inL l)[l.length - 1 - k] = l[k] ^^^ 32 := by
  simp only [inL, List.getElem_reverse, miL, List.length_map, List.getElem_map]
  congr 2
  omega
theorem back_set (l : List UInt8) {k : Nat} (h : k < l.length) : (back l k).set (l.length - 1 - k) (l[k] ^^^ 32) = back l (k + 1) := by
  have h2 : l.length - 1 - k < (inL l).length := by rw [inL_length]; omega
  unfold back
  rw [List.set_append, if_pos (by rw [List.length_replicate]; omega), show l.length - k = (l.length - (k + 1)) + 1 by omega, List.drop_eq_getElem_cons (l := inL l) (i := l.length - (k + 1)) (by rw [inL_length]; omega),
    show l.length - 1 - k = l.length - (k + 1) by omega, List.replicate_succ']
  rw [List.set_append, if_neg (by simp), List.length_replicate, Nat.sub_self, List.set_cons_zero, List.append_assoc, List.singleton_append]
  congr 2
  have := inL_at l h h2
  rw [← this]
  congr 1
  omega
set_option maxRecDepth 100000 in
set_option maxHeartbeats 4000000 in
theorem inverted_any (t : ByteArray) (w : World) (ht : t.size ≤ 1000000) : Calls Tryd.prog 62 #[.string t] w fun r w' => r = .returned (.string (mkB (inL (liB t)))) ∧ Below w.heap.size w w' := by
  have M := mk70 t.size ht w
  have hb := madeB_zero t.size w 5
  have hw := belowA w (.cells (madeCells #[.int .u8 0] t.size) 5)
  generalize w.alloc (.cells (madeCells #[.int .u8 0] t.size) 5) = w1 at M hb hw
  have hl := li_size t
  go_enter Tryd.func62, Tryd.ntmps62
  go_wp2_with fail
  go_loopw [10] (fun i wr => ∃ k : Nat, k ≤ t.size ∧ i = .int .i64 k ∧ BRow wr w.heap.size (back (liB t) k) ∧ Below w.heap.size w wr) (fun i _ => t.size - (intOf i).toNat)
  case atStart => exact ⟨0, by omega, rfl, by rw [back_zero, hl]; exact hb, hw⟩
  case round =>
    obtain ⟨k, hk, rfl, hrow, hbw⟩ := hrel
    have HROW := Lib.hid hrow
    have HBW := Lib.hid hbw
    clear hrow hbw hb hw M
    by_cases hlt : k < t.size
    · have hll : k < (liB t).length := by omega
      obtain ⟨j, hj⟩ : ∃ j : Nat, t.size = j + 1 + k := ⟨t.size - 1 - k, by omega⟩
      have hku : j < (back (liB t) k).length := by rw [back_length]; omega
      have c1 : ∃ x : Int, wr.cell? ⟨w.heap.size, j, none⟩ = some (.int .u8 x) := ⟨_, HROW.out.cell j hku⟩
      obtain ⟨x, c1⟩ := c1
      have f1 := HROW.out.fz j hku
      have hbs := back_set (liB t) hll
      rw [show (liB t).length - 1 - k = j by omega] at hbs
      have HS := Lib.hid (HROW.out.set hku ((liB t)[k] ^^^ 32))
      have HU := Lib.hid hbs
      have HB2 := Lib.hid (below_set HBW.out (p := ⟨w.heap.size, j, none⟩) (Nat.le_refl _) (.int .u8 (((liB t)[k] ^^^ 32).toNat : Int)))
      have hget : (liB t)[k] = t[k] := by
        have := li_get hlt
        rw [List.getElem?_eq_getElem hll] at this
        exact Option.some.inj this
      rw [hget] at HS HU HB2
      have e1 : (t.size : Int) - 1 - (k : Int) = (j : Int) := by omega
      have j1 : j < t.size := by omega
      clear hbs hj
      go_wp2_with fail
      with_reducible refine (other_any t[k] _).mono ?_
      rintro _ w2 ⟨rfl, rfl⟩
      generalize t[k] ^^^ 32 = d at HS HU HB2 ⊢
      go_wp2_with fail
      go_roundw
      case rel =>
        have := HS.out
        rw [HU.out] at this
        exact ⟨k + 1, by omega, by go_num, this, HB2.out⟩
      case measure => simp [intOf]; omega
    · obtain rfl : k = t.size := by omega
      have CB := run_convert_bytes_back (P := Tryd.prog) wr 70 9 5 ⟨w.heap.size, 0, none⟩ t.size (inL (liB t)) (by kernel_rfl) (by kernel_rfl) (by kernel_rfl) (fun j hj => by
        have hr := HROW.out
        rw [← hl, back_all] at hr
        rw [show (⟨w.heap.size, 0, none⟩ : Addr).add j = ⟨w.heap.size, j, none⟩ by unfold Addr.add; split <;> simp_all]
        exact hr.cell j hj)
      rw [inL_length, hl] at CB
      go_wp2_with fail
      go_ret
      exact ⟨rfl, HBW.out⟩
/-- The letter that undoes one, of the reference. -/
theorem opposite_any (c : UInt8) (hc : isL c) (w : World) : Calls Tryd.prog 70 #[.int .u8 (c.toNat : Int)] w fun r w' => r = .returned (.int .u8 ((c ^^^ 32).toNat : Int)) ∧ w' = w := by
  go_enter Tryd.func70, Tryd.ntmps70
  rcases hc with rfl | rfl | rfl | rfl
  all_goals
    go_wp2_with fail
    go_ret
    exact ⟨rfl, rfl⟩
/-- A text of a single byte. -/
theorem conv1 (w : World) (c : UInt8) : (convert 70 9 (.slice (some ⟨w.heap.size, 0, none⟩) 1 1)).run Tryd.prog (w.alloc (.cells #[.int .u8 (c.toNat : Int)] 5)) = .ok (.string (mkB [c])) (w.alloc (.cells #[.int .u8 (c.toNat : Int)] 5)) :=
  run_convert_bytes_back (P := Tryd.prog) (w.alloc (.cells #[.int .u8 (c.toNat : Int)] 5)) 70 9 5 ⟨w.heap.size, 0, none⟩ 1 [c] (by kernel_rfl) (by kernel_rfl) (by kernel_rfl) (fun j hj => by
    obtain rfl : j = 0 := by simpa using hj
    rw [show (⟨w.heap.size, 0, none⟩ : Addr).add 0 = ⟨w.heap.size, 0, none⟩ from rfl, cell_of_row _ _ 0 _ 5 (0, 0) (heap_alloc_new w _)]
    rfl)
theorem mk_append (a b : List UInt8) : mkB a ++ mkB b = mkB (a ++ b) := by
  apply ByteArray.ext
  simp
theorem take_succ_map (g : UInt8 → UInt8) {l : List UInt8} {k : Nat} (h : k < l.length) : (l.take (k + 1)).map g = (l.take k).map g ++ [g l[k]] := by
  rw [List.take_succ_eq_append_getElem h, List.map_append]
  rfl
theorem size_mk (l : List UInt8) : (mkB l).size = l.length := rfl
set_option maxRecDepth 100000 in
set_option maxHeartbeats 4000000 in
theorem swapped_any (t : ByteArray) (w : World) (ht : t.size ≤ 1000000) (hW : wordL (liB t)) : Calls Tryd.prog 64 #[.string t] w fun r w' => r = .returned (.string (mkB (miL (liB t)))) ∧ Below w.heap.size w w' := by
  have hl := li_size t
  go_enter Tryd.func64, Tryd.ntmps64
  go_wp2_with fail
  go_loopw [3, 4] (fun s i wr => ∃ k : Nat, k ≤ t.size ∧ i = .int .i64 k ∧ s = .string (mkB (miL ((liB t).take k))) ∧ Below w.heap.size w wr) (fun _ i _ => t.size - (intOf i).toNat)
  case atStart => exact ⟨0, by omega, rfl, rfl, Below.refl _ _⟩
  case round =>
    obtain ⟨k, hk, rfl, rfl, hbw⟩ := hrel
    have HBW := Lib.hid hbw
    clear hbw
    by_cases hlt : k < t.size
    · have hll : k < (liB t).length := by omega
      have hget : (liB t)[k] = t[k] := by
        have := li_get hlt
        rw [List.getElem?_eq_getElem hll] at this
        exact Option.some.inj this
      have HT := Lib.hid (take_succ_map (· ^^^ 32) hll)
      have hLk : isL t[k] := by rw [← hget]; exact hW _ (List.getElem_mem hll)
      rw [hget] at HT
      have hs1 : (mkB (miL ((liB t).take k))).size = k := by rw [size_mk]; simp [miL]; omega
      obtain ⟨S, hS⟩ : ∃ S, miL ((liB t).take k) = S := ⟨_, rfl⟩
      rw [hS] at hs1
      rw [hS]
      have CV := conv1 wr (t[k] ^^^ 32)
      have HB2 := Lib.hid (HBW.out.alloc (HBW.out.size) (.cells #[.int .u8 (((t[k] ^^^ 32)).toNat : Int)] 5))
      go_wp2_with fail
      with_reducible refine (opposite_any t[k] hLk _).mono ?_
      rintro _ w2 ⟨rfl, rfl⟩
      generalize t[k] ^^^ 32 = d at CV HT HB2 ⊢
      go_wp2_with fail
      go_roundw
      case rel =>
        refine ⟨k + 1, by omega, by go_num, ?_, HB2.out⟩
        rw [mk_append, ← hS]
        congr 2
        exact HT.out.symm
      case measure => simp [intOf]; omega
    · obtain rfl : k = t.size := by omega
      have HL := Lib.hid (show (liB t).take t.size = liB t by rw [← hl]; exact List.take_length)
      go_wp2_with fail
      go_ret
      exact ⟨by rw [HL.out]; rfl, HBW.out⟩
end Go.Proofs.YtgkgloafjhiakaaDoor
