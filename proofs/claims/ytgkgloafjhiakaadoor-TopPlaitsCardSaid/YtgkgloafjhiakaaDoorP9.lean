/- Walks: the normal form of a word; the reference's side. -/
import Derived.Test.YtgkgloafjhiakaaDoorP8
namespace Go.Proofs.YtgkgloafjhiakaaDoor
open Go.RowKit Go.Sort

theorem extract_mk (p : List UInt8) (i j : Nat) : (mkB p).extract i j = mkB ((p.drop i).take (j - i)) := by
  apply ByteArray.ext
  apply Array.toList_inj.1
  simp [ByteArray.extract, ByteArray.copySlice]
theorem mk_inj {a b : List UInt8} (h : mkB a = mkB b) : a = b := by
  have := congrArg (fun t => t.data.toList) h
  exact this
/-- A half twist at a place. -/
theorem at_place {p m : List UInt8} {i : Nat} (h : (p.drop i).take 3 = m) (hi : i ≤ p.length) : ∃ x y, p = x ++ (m ++ y) ∧ x.length = i :=
  ⟨p.take i, p.drop (i + 3), by rw [← h, ← List.drop_drop, List.take_append_drop, List.take_append_drop], by rw [List.length_take]; omega⟩
theorem no_place {p m : List UInt8} (hm : m.length = 3) (h : ∀ i, i + 3 ≤ p.length → (p.drop i).take 3 ≠ m) (x y : List UInt8) : p ≠ x ++ (m ++ y) := by
  intro e
  refine h x.length ?_ ?_
  · rw [e]; simp; omega
  · rw [e, List.drop_left, ← hm, List.take_left]
set_option maxRecDepth 100000 in
set_option maxHeartbeats 4000000 in
theorem find_any (p : List UInt8) (w : World) (hp : p.length ≤ 1000) :
    Calls Tryd.prog 80 #[.string (mkB p)] w fun r w' => w' = w ∧ ((r = .returned (.int .i64 (-1)) ∧ noHalf p) ∨ ∃ x y m, r = .returned (.int .i64 (x.length : Int)) ∧ p = x ++ (m ++ y) ∧ matL m = dM ∧ m.length = 3) := by
  have hs : (mkB p).size = p.length := size_mk p
  go_enter Tryd.func80, Tryd.ntmps80
  go_wp2_with fail
  go_loopw [3] (fun i wr => ∃ j : Nat, j ≤ p.length + 1 ∧ i = .int .i64 j ∧ (∀ i, i < j → i + 3 ≤ p.length → (p.drop i).take 3 ≠ [97, 98, 97] ∧ (p.drop i).take 3 ≠ [98, 97, 98]) ∧ wr = w) (fun i _ => p.length + 1 - (intOf i).toNat)
  case atStart => exact ⟨0, by omega, rfl, fun i h => absurd h (by omega), rfl⟩
  case round =>
    obtain ⟨j, hj, rfl, hno, rfl⟩ := hrel
    have HNO := Lib.hid hno
    clear hno
    by_cases hlt : j + 3 ≤ p.length
    · have hx := extract_mk p j (j + 3)
      rw [show j + 3 - j = 3 by omega] at hx
      have e : ((mkB p).extract j (j + 3)).toList = (p.drop j).take 3 := by rw [ByteArray.toList_eq, hx]
      clear hx
      by_cases h1 : (p.drop j).take 3 = [97, 98, 97]
      · obtain ⟨x, y, hxy, hxl⟩ := at_place h1 (by omega)
        have HX := Lib.hid hxy
        have HXL := Lib.hid hxl
        rw [h1] at e
        clear h1 hxy hxl
        go_wp2_with fail
        go_ret
        exact ⟨rfl, .inr ⟨x, y, [97, 98, 97], by rw [HXL.out]; rfl, HX.out, by decide, rfl⟩⟩
      · by_cases h2 : (p.drop j).take 3 = [98, 97, 98]
        · obtain ⟨x, y, hxy, hxl⟩ := at_place h2 (by omega)
          have HX := Lib.hid hxy
          have HXL := Lib.hid hxl
          rw [h2] at e
          clear h1 h2 hxy hxl
          go_wp2_with fail
          go_ret
          exact ⟨rfl, .inr ⟨x, y, [98, 97, 98], by rw [HXL.out]; rfl, HX.out, by decide, rfl⟩⟩
        · have HN2 : Hid (∀ i, i < j + 1 → i + 3 ≤ p.length → (p.drop i).take 3 ≠ [97, 98, 97] ∧ (p.drop i).take 3 ≠ [98, 97, 98]) := Lib.hid fun i hi h => by
            rcases Nat.lt_or_ge i j with h' | h'
            · exact HNO.out i h' h
            · obtain rfl : i = j := by omega
              exact ⟨h1, h2⟩
          generalize (p.drop j).take 3 = S at e h1 h2
          have g1 : (S == [97, 98, 97]) = false := by simpa using h1
          have g2 : (S == [98, 97, 98]) = false := by simpa using h2
          clear HNO
          go_wp2_with fail
          go_roundw
          case rel => exact ⟨j + 1, by omega, by go_num, HN2.out, trivial⟩
          case measure => simp [intOf]; omega
    · have HQ : Hid (noHalf p) := Lib.hid (noHalf_of (no_place rfl fun i hi => (HNO.out i (by omega) hi).1) (no_place rfl fun i hi => (HNO.out i (by omega) hi).2))
      go_wp2_with fail
      go_ret
      exact ⟨rfl, .inl ⟨rfl, HQ.out⟩⟩
end Go.Proofs.YtgkgloafjhiakaaDoor
