/- Walks: changes of words. -/
import Derived.Test.YtgkgloafjhiakaaDoorCg
import Derived.Test.YtgkgloafjhiakaaDoorN1
import Derived.Laws.BitsLemmas
import Derived.Laws.Bits64
namespace Go.Proofs.YtgkgloafjhiakaaDoor
open Go.RowKit Go.Sort

theorem u64_nat (a : Int) : ∃ N : Nat, IntKind.u64.wrap a = (N : Int) := by
  have : 0 ≤ IntKind.u64.wrap a := by rw [IntKind.wrap_u64]; omega
  exact ⟨(IntKind.u64.wrap a).toNat, by omega⟩
theorem mk_take (l : List UInt8) (i : Nat) : (mkB l).extract 0 i = mkB (l.take i) := by
  apply ByteArray.ext
  simp [ByteArray.data_extract]
theorem mk_drop (l : List UInt8) (i : Nat) : (mkB l).extract i l.length = mkB (l.drop i) := by
  apply ByteArray.ext
  simp [ByteArray.data_extract, List.take_of_length_le]
theorem mk_mid (l : List UInt8) (i : Nat) : (mkB l).extract i (i + 3) = mkB ((l.drop i).take 3) := by
  apply ByteArray.ext
  simp [ByteArray.data_extract]
set_option maxRecDepth 100000 in
set_option maxHeartbeats 4000000 in
theorem changed_any (l : List UInt8) (a k : Int) (w : World) (hl : l.length ≤ 60) : Calls Tryd.prog 45 #[.string (mkB l), .agg #[.int .i64 a, .int .i64 k]] w fun r w' => (∃ i j, r = .returned (.string (mkB (chgL l i j)))) ∧ Below w.heap.size w w' := by
  have hs := size_mk l
  obtain ⟨N, hN⟩ := u64_nat a
  obtain ⟨K, hK⟩ := u64_nat k
  obtain ⟨i, hi, hil⟩ : ∃ i : Nat, (N : Int) % ((l.length : Int) + 1) = (i : Int) ∧ i ≤ l.length := ⟨N % (l.length + 1), (Int.natCast_emod N (l.length + 1)).symm, Nat.lt_succ_iff.1 (Nat.mod_lt N (Nat.succ_pos l.length))⟩
  obtain ⟨j, hj, hj6⟩ : ∃ j : Nat, (K : Int) % 6 = (j : Int) ∧ j < 6 := ⟨K % 6, by omega, by omega⟩
  have wi : RowKit.wrap64 (i : Int) = (i : Int) := by unfold RowKit.wrap64; omega
  have e1 := mk_take l i
  have e2 := mk_drop l i
  have e3 := mk_mid l i
  have HB := Lib.hid (belowAA w (.cells #[.int .i64 a, .int .i64 k] 46) (.cells #[.string ⟨#[97, 65]⟩, .string ⟨#[65, 97]⟩, .string ⟨#[98, 66]⟩, .string ⟨#[66, 98]⟩] 78))
  rcases (show j = 0 ∨ j = 1 ∨ j = 2 ∨ j = 3 ∨ j = 4 ∨ j = 5 by omega) with rfl | rfl | rfl | rfl | rfl | rfl
  · have hres : chgL l i 0 = l.take i ++ ([97, 65] ++ l.drop i) := by unfold chgL; rw [if_pos (by decide)]; rfl
    have HRS := Lib.hid hres
    clear hres
    have c1 : mkB (l.take i) ++ ({ data := #[97, 65] } : ByteArray) = mkB (l.take i ++ [97, 65]) := mk_append (l.take i) [97, 65]
    have c2 : mkB (l.take i ++ [97, 65]) ++ mkB (l.drop i) = mkB (l.take i ++ ([97, 65] ++ l.drop i)) := by rw [mk_append, List.append_assoc]
    have t1 : (l.take i).length ≤ 60 := by rw [List.length_take]; omega
    have t2 := size_mk (l.take i)
    have d1 : (l.drop i).length ≤ 60 := by rw [List.length_drop]; omega
    have d2 := size_mk (l.drop i)
    generalize hT : l.take i = T at e1 c1 c2 HRS t1 t2
    generalize hD : l.drop i = D at e2 c2 HRS d1 d2
    clear hT hD e3
    go_enter Tryd.func45, Tryd.ntmps45
    go_wp2_with fail
    go_quiet (fail)
    go_wp2_with fail
    go_ret
    exact ⟨⟨i, 0, by rw [HRS.out]; rfl⟩, below_drewN' HB.out nq⟩
  · have hres : chgL l i 1 = l.take i ++ ([65, 97] ++ l.drop i) := by unfold chgL; rw [if_pos (by decide)]; rfl
    have HRS := Lib.hid hres
    clear hres
    have c1 : mkB (l.take i) ++ ({ data := #[65, 97] } : ByteArray) = mkB (l.take i ++ [65, 97]) := mk_append (l.take i) [65, 97]
    have c2 : mkB (l.take i ++ [65, 97]) ++ mkB (l.drop i) = mkB (l.take i ++ ([65, 97] ++ l.drop i)) := by rw [mk_append, List.append_assoc]
    have t1 : (l.take i).length ≤ 60 := by rw [List.length_take]; omega
    have t2 := size_mk (l.take i)
    have d1 : (l.drop i).length ≤ 60 := by rw [List.length_drop]; omega
    have d2 := size_mk (l.drop i)
    generalize hT : l.take i = T at e1 c1 c2 HRS t1 t2
    generalize hD : l.drop i = D at e2 c2 HRS d1 d2
    clear hT hD e3
    go_enter Tryd.func45, Tryd.ntmps45
    go_wp2_with fail
    go_quiet (fail)
    go_wp2_with fail
    go_ret
    exact ⟨⟨i, 1, by rw [HRS.out]; rfl⟩, below_drewN' HB.out nq⟩
  · have hres : chgL l i 2 = l.take i ++ ([98, 66] ++ l.drop i) := by unfold chgL; rw [if_pos (by decide)]; rfl
    have HRS := Lib.hid hres
    clear hres
    have c1 : mkB (l.take i) ++ ({ data := #[98, 66] } : ByteArray) = mkB (l.take i ++ [98, 66]) := mk_append (l.take i) [98, 66]
    have c2 : mkB (l.take i ++ [98, 66]) ++ mkB (l.drop i) = mkB (l.take i ++ ([98, 66] ++ l.drop i)) := by rw [mk_append, List.append_assoc]
    have t1 : (l.take i).length ≤ 60 := by rw [List.length_take]; omega
    have t2 := size_mk (l.take i)
    have d1 : (l.drop i).length ≤ 60 := by rw [List.length_drop]; omega
    have d2 := size_mk (l.drop i)
    generalize hT : l.take i = T at e1 c1 c2 HRS t1 t2
    generalize hD : l.drop i = D at e2 c2 HRS d1 d2
    clear hT hD e3
    go_enter Tryd.func45, Tryd.ntmps45
    go_wp2_with fail
    go_quiet (fail)
    go_wp2_with fail
    go_ret
    exact ⟨⟨i, 2, by rw [HRS.out]; rfl⟩, below_drewN' HB.out nq⟩
  · have hres : chgL l i 3 = l.take i ++ ([66, 98] ++ l.drop i) := by unfold chgL; rw [if_pos (by decide)]; rfl
    have HRS := Lib.hid hres
    clear hres
    have c1 : mkB (l.take i) ++ ({ data := #[66, 98] } : ByteArray) = mkB (l.take i ++ [66, 98]) := mk_append (l.take i) [66, 98]
    have c2 : mkB (l.take i ++ [66, 98]) ++ mkB (l.drop i) = mkB (l.take i ++ ([66, 98] ++ l.drop i)) := by rw [mk_append, List.append_assoc]
    have t1 : (l.take i).length ≤ 60 := by rw [List.length_take]; omega
    have t2 := size_mk (l.take i)
    have d1 : (l.drop i).length ≤ 60 := by rw [List.length_drop]; omega
    have d2 := size_mk (l.drop i)
    generalize hT : l.take i = T at e1 c1 c2 HRS t1 t2
    generalize hD : l.drop i = D at e2 c2 HRS d1 d2
    clear hT hD e3
    go_enter Tryd.func45, Tryd.ntmps45
    go_wp2_with fail
    go_quiet (fail)
    go_wp2_with fail
    go_ret
    exact ⟨⟨i, 3, by rw [HRS.out]; rfl⟩, below_drewN' HB.out nq⟩
  · by_cases hi3 : l.length < i + 3
    · have hres : chgL l i 4 = l := by unfold chgL; rw [if_neg (by omega), if_pos hi3]
      have HRS := Lib.hid hres
      clear hres e1 e2 e3
      go_enter Tryd.func45, Tryd.ntmps45
      go_wp2_with fail
      go_ret
      exact ⟨⟨i, 4, by rw [HRS.out]; rfl⟩, HB.out⟩
    · have e4 : (mkB l).extract (i + 3) l.length = mkB (l.drop (i + 3)) := mk_drop l (i + 3)
      by_cases hm : (l.drop i).take 3 = [97, 98, 97]
      · have hres : chgL l i 4 = l.take i ++ ([98, 97, 98] ++ l.drop (i + 3)) := by unfold chgL; rw [if_neg (by omega), if_neg hi3, if_pos hm]
        rw [hm] at e3
        have HRS := Lib.hid hres
        clear hres hm
        have c1 : mkB (l.take i) ++ ({ data := #[98, 97, 98] } : ByteArray) = mkB (l.take i ++ [98, 97, 98]) := mk_append (l.take i) [98, 97, 98]
        have c2 : mkB (l.take i ++ [98, 97, 98]) ++ mkB (l.drop (i + 3)) = mkB (l.take i ++ ([98, 97, 98] ++ l.drop (i + 3))) := by rw [mk_append, List.append_assoc]
        have t1 : (l.take i).length ≤ 60 := by rw [List.length_take]; omega
        have t2 := size_mk (l.take i)
        have d1 : (l.drop (i + 3)).length ≤ 60 := by rw [List.length_drop]; omega
        have d2 := size_mk (l.drop (i + 3))
        generalize hT : l.take i = T at e1 c1 c2 HRS t1 t2
        generalize hD : l.drop (i + 3) = D at e4 c2 HRS d1 d2
        clear hT hD e2
        go_enter Tryd.func45, Tryd.ntmps45
        go_wp2_with fail
        go_quiet (fail)
        go_wp2_with fail
        go_ret
        exact ⟨⟨i, 4, by rw [HRS.out]; rfl⟩, below_drewN' HB.out nq⟩
      · by_cases hm2 : (l.drop i).take 3 = [98, 97, 98]
        · have hres : chgL l i 4 = l.take i ++ ([97, 98, 97] ++ l.drop (i + 3)) := by unfold chgL; rw [if_neg (by omega), if_neg hi3, if_neg hm, if_pos hm2]
          rw [hm2] at e3
          have HRS := Lib.hid hres
          clear hres hm hm2
          have c1 : mkB (l.take i) ++ ({ data := #[97, 98, 97] } : ByteArray) = mkB (l.take i ++ [97, 98, 97]) := mk_append (l.take i) [97, 98, 97]
          have c2 : mkB (l.take i ++ [97, 98, 97]) ++ mkB (l.drop (i + 3)) = mkB (l.take i ++ ([97, 98, 97] ++ l.drop (i + 3))) := by rw [mk_append, List.append_assoc]
          have t1 : (l.take i).length ≤ 60 := by rw [List.length_take]; omega
          have t2 := size_mk (l.take i)
          have d1 : (l.drop (i + 3)).length ≤ 60 := by rw [List.length_drop]; omega
          have d2 := size_mk (l.drop (i + 3))
          generalize hT : l.take i = T at e1 c1 c2 HRS t1 t2
          generalize hD : l.drop (i + 3) = D at e4 c2 HRS d1 d2
          clear hT hD e2
          go_enter Tryd.func45, Tryd.ntmps45
          go_wp2_with fail
          go_quiet (fail)
          go_wp2_with fail
          go_ret
          exact ⟨⟨i, 4, by rw [HRS.out]; rfl⟩, below_drewN' HB.out nq⟩
        · have hres : chgL l i 4 = l := by unfold chgL; rw [if_neg (by omega), if_neg hi3, if_neg hm, if_neg hm2]
          have HRS := Lib.hid hres
          clear hres e1 e2 e4
          generalize (l.drop i).take 3 = M at e3 hm hm2
          have b1 : (M == [97, 98, 97]) = false := beq_false_of_ne hm
          have b2 : (M == [98, 97, 98]) = false := beq_false_of_ne hm2
          go_enter Tryd.func45, Tryd.ntmps45
          go_wp2_with fail
          go_ret
          exact ⟨⟨i, 4, by rw [HRS.out]; rfl⟩, HB.out⟩
  · by_cases hi3 : l.length < i + 3
    · have hres : chgL l i 5 = l := by unfold chgL; rw [if_neg (by omega), if_pos hi3]
      have HRS := Lib.hid hres
      clear hres e1 e2 e3
      go_enter Tryd.func45, Tryd.ntmps45
      go_wp2_with fail
      go_ret
      exact ⟨⟨i, 5, by rw [HRS.out]; rfl⟩, HB.out⟩
    · have e4 : (mkB l).extract (i + 3) l.length = mkB (l.drop (i + 3)) := mk_drop l (i + 3)
      by_cases hm : (l.drop i).take 3 = [97, 98, 97]
      · have hres : chgL l i 5 = l.take i ++ ([98, 97, 98] ++ l.drop (i + 3)) := by unfold chgL; rw [if_neg (by omega), if_neg hi3, if_pos hm]
        rw [hm] at e3
        have HRS := Lib.hid hres
        clear hres hm
        have c1 : mkB (l.take i) ++ ({ data := #[98, 97, 98] } : ByteArray) = mkB (l.take i ++ [98, 97, 98]) := mk_append (l.take i) [98, 97, 98]
        have c2 : mkB (l.take i ++ [98, 97, 98]) ++ mkB (l.drop (i + 3)) = mkB (l.take i ++ ([98, 97, 98] ++ l.drop (i + 3))) := by rw [mk_append, List.append_assoc]
        have t1 : (l.take i).length ≤ 60 := by rw [List.length_take]; omega
        have t2 := size_mk (l.take i)
        have d1 : (l.drop (i + 3)).length ≤ 60 := by rw [List.length_drop]; omega
        have d2 := size_mk (l.drop (i + 3))
        generalize hT : l.take i = T at e1 c1 c2 HRS t1 t2
        generalize hD : l.drop (i + 3) = D at e4 c2 HRS d1 d2
        clear hT hD e2
        go_enter Tryd.func45, Tryd.ntmps45
        go_wp2_with fail
        go_quiet (fail)
        go_wp2_with fail
        go_ret
        exact ⟨⟨i, 5, by rw [HRS.out]; rfl⟩, below_drewN' HB.out nq⟩
      · by_cases hm2 : (l.drop i).take 3 = [98, 97, 98]
        · have hres : chgL l i 5 = l.take i ++ ([97, 98, 97] ++ l.drop (i + 3)) := by unfold chgL; rw [if_neg (by omega), if_neg hi3, if_neg hm, if_pos hm2]
          rw [hm2] at e3
          have HRS := Lib.hid hres
          clear hres hm hm2
          have c1 : mkB (l.take i) ++ ({ data := #[97, 98, 97] } : ByteArray) = mkB (l.take i ++ [97, 98, 97]) := mk_append (l.take i) [97, 98, 97]
          have c2 : mkB (l.take i ++ [97, 98, 97]) ++ mkB (l.drop (i + 3)) = mkB (l.take i ++ ([97, 98, 97] ++ l.drop (i + 3))) := by rw [mk_append, List.append_assoc]
          have t1 : (l.take i).length ≤ 60 := by rw [List.length_take]; omega
          have t2 := size_mk (l.take i)
          have d1 : (l.drop (i + 3)).length ≤ 60 := by rw [List.length_drop]; omega
          have d2 := size_mk (l.drop (i + 3))
          generalize hT : l.take i = T at e1 c1 c2 HRS t1 t2
          generalize hD : l.drop (i + 3) = D at e4 c2 HRS d1 d2
          clear hT hD e2
          go_enter Tryd.func45, Tryd.ntmps45
          go_wp2_with fail
          go_quiet (fail)
          go_wp2_with fail
          go_ret
          exact ⟨⟨i, 5, by rw [HRS.out]; rfl⟩, below_drewN' HB.out nq⟩
        · have hres : chgL l i 5 = l := by unfold chgL; rw [if_neg (by omega), if_neg hi3, if_neg hm, if_neg hm2]
          have HRS := Lib.hid hres
          clear hres e1 e2 e4
          generalize (l.drop i).take 3 = M at e3 hm hm2
          have b1 : (M == [97, 98, 97]) = false := beq_false_of_ne hm
          have b2 : (M == [98, 97, 98]) = false := beq_false_of_ne hm2
          go_enter Tryd.func45, Tryd.ntmps45
          go_wp2_with fail
          go_ret
          exact ⟨⟨i, 5, by rw [HRS.out]; rfl⟩, HB.out⟩
end Go.Proofs.YtgkgloafjhiakaaDoor
