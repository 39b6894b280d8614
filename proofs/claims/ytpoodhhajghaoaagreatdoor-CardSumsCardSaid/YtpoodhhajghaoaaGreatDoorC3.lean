/- Walks: whether a text is a right one, the reference's. -/
import Derived.Test.YtpoodhhajghaoaaGreatDoorC2
namespace Go.Proofs.YtpoodhhajghaoaaGreatDoor
open Go.RowKit Go.Sort

/-- The byte at a place. -/
def bt (t : ByteArray) (i : Nat) : Int := if h : i < t.size then (t[i].toNat : Int) else 0
theorem bt_bd (t : ByteArray) (i : Nat) : 0 ≤ bt t i ∧ bt t i ≤ 255 := by
  unfold bt
  split
  · have := UInt8.toNat_lt t[i]; omega
  · omega
theorem bt_in {t : ByteArray} {i : Nat} (h : i < t.size) : bt t i = (t[i].toNat : Int) := by unfold bt; rw [dif_pos h]
def okB (t : ByteArray) (i : Nat) : Prop := 32 ≤ bt t i ∧ bt t i ≤ 126
instance (t : ByteArray) (i : Nat) : Decidable (okB t i) := by unfold okB; infer_instance
def edgeB (t : ByteArray) : Prop := 1 ≤ t.size ∧ t.size ≤ 60 ∧ bt t 0 ≠ 32 ∧ bt t (t.size - 1) ≠ 32
instance (t : ByteArray) : Decidable (edgeB t) := by unfold edgeB; infer_instance
def right (t : ByteArray) : Bool := decide (edgeB t ∧ ∀ i, i < t.size → okB t i)
theorem right_edge {t : ByteArray} (h : ¬ edgeB t) : right t = false := by unfold right; rw [decide_eq_false_iff_not]; exact fun h' => h h'.1
theorem right_at {t : ByteArray} {i : Nat} (hi : i < t.size) (h : ¬ okB t i) : right t = false := by unfold right; rw [decide_eq_false_iff_not]; exact fun h' => h (h'.2 i hi)
theorem right_all {t : ByteArray} (h : edgeB t) (h2 : ∀ i, i < t.size → okB t i) : right t = true := by unfold right; rw [decide_eq_true_eq]; exact ⟨h, h2⟩
set_option maxRecDepth 4000 in
theorem refRight_any (t : ByteArray) (w : World) (ht : t.size ≤ 1000000) :
    Calls Tryz.prog 35 #[.string t] w fun r w' => r = .returned (.bool (right t)) ∧ Below w.heap.size w w' := by
  go_enter Tryz.func35, Tryz.ntmps35
  by_cases he : edgeB t
  case neg =>
    have HF := Lib.hid (right_edge he)
    have hc : t.size < 1 ∨ (1 ≤ t.size ∧ (60 < t.size ∨ (t.size ≤ 60 ∧ (bt t 0 = 32 ∨ (bt t 0 ≠ 32 ∧ bt t (t.size - 1) = 32))))) := by
      unfold edgeB at he
      omega
    clear he
    rcases hc with h1 | ⟨h1, h2 | ⟨h2, h3 | ⟨h3, h4⟩⟩⟩
    · go_wp2_with fail
      go_ret
      exact ⟨ret_bool HF.out.symm, Below.refl _ _⟩
    · go_wp2_with fail
      go_ret
      exact ⟨ret_bool HF.out.symm, Below.refl _ _⟩
    · have g : ((t[0].toNat : Int) == 32) = true := by rw [beq_iff_eq]; exact (bt_in (by omega)).symm.trans h3
      clear h3
      go_wp2_with fail
      go_ret
      exact ⟨ret_bool HF.out.symm, Below.refl _ _⟩
    · have g : ((t[0].toNat : Int) == 32) = false := by rw [beq_eq_false_iff_ne, ← bt_in (by omega)]; exact h3
      have g2 : ((t[t.size - 1].toNat : Int) == 32) = true := by rw [beq_iff_eq]; exact (bt_in (by omega)).symm.trans h4
      clear h3 h4
      go_wp2_with fail
      go_ret
      exact ⟨ret_bool HF.out.symm, Below.refl _ _⟩
  have HE := Lib.hid he
  obtain ⟨h1, h2, h3, h4⟩ := he
  have g3 : ((t[0].toNat : Int) == 32) = false := by rw [beq_eq_false_iff_ne, ← bt_in (by omega)]; exact h3
  have g4 : ((t[t.size - 1].toNat : Int) == 32) = false := by rw [beq_eq_false_iff_ne, ← bt_in (by omega)]; exact h4
  clear h3 h4
  go_wp2_with fail
  clear g3 g4
  go_loopw [3] (fun i wr => ∃ k : Nat, k ≤ t.size ∧ i = .int .i64 k ∧ (∀ j, j < k → okB t j) ∧ wr = w) (fun i _ => t.size - (intOf i).toNat)
  case atStart => exact ⟨0, by omega, rfl, fun j hj => by omega, rfl⟩
  case round =>
    obtain ⟨k, hk, rfl, hno, hwr⟩ := hrel
    have HN := Lib.hid hno
    have HW := Lib.hid hwr
    clear hno hwr
    by_cases hlt : k < t.size
    · have hb := bt_bd t k
      by_cases hok : okB t k
      · have HO := Lib.hid hok
        obtain ⟨o1, o2⟩ := hok
        rw [bt_in hlt] at o1 o2 hb
        obtain ⟨b2, b3⟩ := hb
        go_wp2_with fail
        go_roundw
        case rel =>
          refine ⟨k + 1, by omega, by go_num, fun j hj => ?_, HW.out⟩
          rcases Nat.lt_or_ge j k with h | h
          · exact HN.out j h
          · obtain rfl : j = k := by omega
            exact HO.out
        case measure => simp [intOf]; omega
      · have HF := Lib.hid (right_at hlt hok)
        have hc : bt t k < 32 ∨ (32 ≤ bt t k ∧ 126 < bt t k) := by unfold okB at hok; omega
        clear hok
        rw [bt_in hlt] at hc hb
        obtain ⟨b2, b3⟩ := hb
        rcases hc with o1 | ⟨o1, o2⟩
        all_goals
          go_wp2_with fail
          go_ret
          exact ⟨ret_bool HF.out.symm, HW.out ▸ Below.refl _ _⟩
    · have HT := Lib.hid (right_all HE.out fun i hi => HN.out i (by omega))
      go_wp2_with fail
      go_ret
      exact ⟨ret_bool HT.out.symm, HW.out ▸ Below.refl _ _⟩
end Go.Proofs.YtpoodhhajghaoaaGreatDoor
