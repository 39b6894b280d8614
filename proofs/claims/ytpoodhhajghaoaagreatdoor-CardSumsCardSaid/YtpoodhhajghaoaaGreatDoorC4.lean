/- Walks: whether a text is a right one, the program's. -/
import Derived.Test.YtpoodhhajghaoaaGreatDoorC3
import Derived.Laws.IdiomStrings
namespace Go.Proofs.YtpoodhhajghaoaaGreatDoor
open Go.RowKit Go.Sort

theorem wrongByte_any (b : Int) (w : World) :
    Calls Tryz.prog 47 #[.int .u8 b] w fun r w' => r = .returned (.bool (!decide (32 ≤ b ∧ b ≤ 126))) ∧ w' = w := by
  go_enter Tryz.func47, Tryz.ntmps47
  by_cases h1 : b < 32
  · go_wp2_with fail
    go_ret
    exact ⟨ret_bool (by simp; omega), rfl⟩
  · by_cases h2 : 126 < b
    · go_wp2_with fail
      go_ret
      exact ⟨ret_bool (by simp; omega), rfl⟩
    · go_wp2_with fail
      go_ret
      exact ⟨ret_bool (by first | (simp; done) | (simp; omega)), rfl⟩
theorem ix69 {ad : Addr} {n c k : Nat} (hk : k < n) (w : World) : (Instr.indexAt 83 (.slice (some ad) n c) (.int .i64 (k : Int))).run Tryz.prog w = .ok (.pointer (some (ad.add k))) w := by
  have h0 : (0 : Int) ≤ (k : Int) ∧ (k : Int) < (n : Int) := by omega
  have hs : (sizeOf (Tryz.prog.elem 83)).run Tryz.prog w = .ok 1 w := by kernel_rfl
  rw [run_indexAt_slice w 83 ad n c .i64 k (by kernel_rfl), if_pos h0, hs]
  simp [Result.andThen]
theorem wrongAt_any (ad : Addr) (c : Nat) (t : ByteArray) (w : World) (hc : ∀ k, k < t.size → w.cell? (ad.add k) = some (.int .u8 (bt t k))) (ht : t.size ≤ 1000000) :
    Calls Tryz.prog 67 #[.slice (some ad) t.size c, .func (.func 47) #[] #[]] w fun r w' => (∃ i : Int, r = .returned (.int .i64 i) ∧ (0 ≤ i ↔ ∃ k, k < t.size ∧ ¬ okB t k)) ∧ w' = w := by
  have HC := Lib.hid hc
  clear hc
  go_enter Tryz.func67, Tryz.ntmps67
  go_wp2_with fail
  go_loopw [8] (fun i wr => ∃ k : Nat, k ≤ t.size ∧ i = .int .i64 k ∧ (∀ j, j < k → okB t j) ∧ wr = w) (fun i _ => t.size - (intOf i).toNat)
  case atStart => exact ⟨0, by omega, rfl, fun j hj => by omega, rfl⟩
  case round =>
    obtain ⟨k, hk, rfl, hno, hwr⟩ := hrel
    have HN := Lib.hid hno
    clear hno
    subst hwr
    by_cases hlt : k < t.size
    · have X := fun w => ix69 (ad := ad) (c := c) hlt w
      have c0 := HC.out k hlt
      go_wp2_with fail
      with_reducible refine (wrongByte_any (bt t k) _).mono ?_
      rintro _ _ ⟨rfl, rfl⟩
      by_cases hok : okB t k
      · have g : (decide (32 ≤ bt t k ∧ bt t k ≤ 126)) = true := by rw [decide_eq_true_eq]; exact hok
        rw [g]
        have HO := Lib.hid hok
        clear hok g
        go_wp2_with fail
        go_roundw
        case rel =>
          refine ⟨k + 1, by omega, by go_num, fun j hj => ?_, by trivial⟩
          rcases Nat.lt_or_ge j k with h | h
          · exact HN.out j h
          · obtain rfl : j = k := by omega
            exact HO.out
        case measure => simp [intOf]; omega
      · have g : (decide (32 ≤ bt t k ∧ bt t k ≤ 126)) = false := by rw [decide_eq_false_iff_not]; exact hok
        rw [g]
        have HO := Lib.hid hok
        clear hok g
        go_wp2_with fail
        go_ret
        exact ⟨⟨k, rfl, ⟨fun _ => ⟨k, hlt, HO.out⟩, fun _ => by omega⟩⟩, rfl⟩
    · go_wp2_with fail
      go_ret
      exact ⟨⟨-1, rfl, ⟨fun h => by omega, fun ⟨j, h1, h2⟩ => absurd (HN.out j (by omega)) h2⟩⟩, rfl⟩
theorem wrongIn_any (ad : Addr) (c : Nat) (t : ByteArray) (w : World) (hc : ∀ k, k < t.size → w.cell? (ad.add k) = some (.int .u8 (bt t k))) (ht : t.size ≤ 1000000) :
    Calls Tryz.prog 46 #[.slice (some ad) t.size c, .func (.func 47) #[] #[]] w fun r w' => r = .returned (.bool (decide (∃ k, k < t.size ∧ ¬ okB t k))) ∧ w' = w := by
  have HC := Lib.hid hc
  clear hc
  go_enter Tryz.func46, Tryz.ntmps46
  go_wp2_with fail
  with_reducible refine (wrongAt_any ad c t w HC.out ht).mono ?_
  rintro _ _ ⟨⟨i, rfl, hi⟩, rfl⟩
  have HI := Lib.hid hi
  clear hi
  go_wp2_with fail
  go_ret
  refine ⟨ret_bool ?_, rfl⟩
  rw [decide_eq_decide]
  exact HI.out
theorem bytes_at (t : ByteArray) (cap k : Nat) (hk : k < t.size) : (bytesRow t cap)[k]? = some (.int .u8 (bt t k)) := by
  rw [bytesRow_at t cap k hk, bt_in hk]
  rfl
set_option maxRecDepth 4000 in
theorem rightText_any (t : ByteArray) (w : World) (ht : t.size ≤ 1000000) :
    Calls Tryz.prog 23 #[.string t] w fun r w' => r = .returned (.bool (right t)) ∧ Below w.heap.size w w' := by
  go_enter Tryz.func23, Tryz.ntmps23
  by_cases he : edgeB t
  case neg =>
    have HF := Lib.hid (right_edge he)
    have hc : t.size < 1 ∨ (1 ≤ t.size ∧ (60 < t.size ∨ (t.size ≤ 60 ∧ (bt t 0 = 32 ∨ (bt t 0 ≠ 32 ∧ bt t (t.size - 1) = 32))))) := by
      unfold edgeB at he
      omega
    clear he
    rcases hc with h1 | ⟨h1, h2 | ⟨h2, h3 | ⟨h3, h4⟩⟩⟩
    · go_wp2_with fail
      go_ret
      exact ⟨ret_bool HF.out.symm, Below.refl _ _⟩
    · go_wp2_with fail
      go_ret
      exact ⟨ret_bool HF.out.symm, Below.refl _ _⟩
    · have g : ((t[0].toNat : Int) == 32) = true := by rw [beq_iff_eq]; exact (bt_in (by omega)).symm.trans h3
      clear h3
      go_wp2_with fail
      go_ret
      exact ⟨ret_bool HF.out.symm, Below.refl _ _⟩
    · have g : ((t[0].toNat : Int) == 32) = false := by rw [beq_eq_false_iff_ne, ← bt_in (by omega)]; exact h3
      have g2 : ((t[t.size - 1].toNat : Int) == 32) = true := by rw [beq_iff_eq]; exact (bt_in (by omega)).symm.trans h4
      clear h3 h4
      go_wp2_with fail
      go_ret
      exact ⟨ret_bool HF.out.symm, Below.refl _ _⟩
  have HE := Lib.hid he
  obtain ⟨h1, h2, h3, h4⟩ := he
  have g3 : ((t[0].toNat : Int) == 32) = false := by rw [beq_eq_false_iff_ne, ← bt_in (by omega)]; exact h3
  have g4 : ((t[t.size - 1].toNat : Int) == 32) = false := by rw [beq_eq_false_iff_ne, ← bt_in (by omega)]; exact h4
  clear h3 h4
  have C := run_bytes_of_string (P := Tryz.prog) w 9 83 5 t (by kernel_rfl) (by kernel_rfl) (by kernel_rfl)
  go_wp2_with fail
  with_reducible refine (wrongIn_any ⟨w.heap.size, 0, none⟩ _ t _ (fun k hk => ?_) ht).mono ?_
  · have e1 : (⟨w.heap.size, 0, none⟩ : Addr).add k = ⟨w.heap.size, k, none⟩ := by
      unfold Addr.add
      split
      · rename_i h0; rw [h0]
      · simp
    rw [e1]
    exact (cell_of_row _ _ k _ 5 _ (heap_alloc_new w _)).trans (bytes_at t _ k hk)
  rintro _ _ ⟨rfl, rfl⟩
  go_wp2_with fail
  go_ret
  refine ⟨ret_bool ?_, below_drewN' (below_alloc w _) 1⟩
  by_cases hall : ∀ k, k < t.size → okB t k
  · rw [right_all HE.out hall, decide_eq_false (fun ⟨k, hk, hn⟩ => hn (hall k hk))]; rfl
  · have : ∃ k, k < t.size ∧ ¬ okB t k := by
      refine Classical.byContradiction fun hn => hall fun k hk => Classical.byContradiction fun h => hn ⟨k, hk, h⟩
    obtain ⟨k, hk, hn⟩ := this
    rw [right_at hk hn, decide_eq_true ⟨k, hk, hn⟩]; rfl
end Go.Proofs.YtpoodhhajghaoaaGreatDoor
