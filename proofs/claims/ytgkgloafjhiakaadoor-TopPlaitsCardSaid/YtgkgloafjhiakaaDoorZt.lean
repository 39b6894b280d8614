/- Changes, twists, sameness and the statement through the layers, walked. -/
import Derived.Test.YtgkgloafjhiakaaDoorTw
import Derived.Test.YtgkgloafjhiakaaDoorCg
import Derived.Test.YtgkgloafjhiakaaDoorN1
import Derived.Laws.BitsLemmas
import Derived.Laws.Bits64
import Derived.Test.YtgkgloafjhiakaaDoorPk
import Derived.Test.YtgkgloafjhiakaaDoorLu
import Derived.Test.YtgkgloafjhiakaaDoorC1
import Derived.Test.YtgkgloafjhiakaaDoorLe
import Derived.Test.YtgkgloafjhiakaaDoorS2
import Derived.Test.YtgkgloafjhiakaaDoorM4
namespace Go.Proofs.YtgkgloafjhiakaaDoor
open Go.RowKit Go.Sort

/-- A matrix mirrored. -/
def mirM (m : Mat) : Mat := (m.1, -m.2.1, -m.2.2.1, m.2.2.2)
theorem mirM_mul (a b : Mat) : mirM (mulM a b) = mulM (mirM a) (mirM b) := by
  obtain ⟨a1, a2, a3, a4⟩ := a
  obtain ⟨b1, b2, b3, b4⟩ := b
  simp only [mirM, mulM, Int.neg_mul, Int.mul_neg, Int.neg_neg, Int.neg_add]
theorem ltM_mi {c : UInt8} (h : isL c) : ltM (c ^^^ 32) = mirM (ltM c) := isL_cases (P := fun c => ltM (c ^^^ 32) = mirM (ltM c)) (by decide) (by decide) (by decide) (by decide) h
theorem matL_miL {l : List UInt8} (h : wordL l) : matL (miL l) = mirM (matL l) := by
  induction l with
  | nil => rfl
  | cons c l ih =>
    have e : miL (c :: l) = (c ^^^ 32) :: miL l := rfl
    rw [e, matL_cons, matL_cons, mirM_mul, ltM_mi (h c (by simp)), ih fun d hd => h d (by simp [hd])]
theorem cntL_miL {l : List UInt8} (h : wordL l) : cntL (miL l) = -cntL l := by
  induction l with
  | nil => rfl
  | cons c l ih =>
    have e : cntL (miL (c :: l)) = sgL (c ^^^ 32) + cntL (miL l) := rfl
    have e2 : cntL (c :: l) = sgL c + cntL l := rfl
    have := sgL_opp (h c (by simp))
    rw [e, e2, ih fun d hd => h d (by simp [hd])]
    omega
theorem mirM_tw (k : Int) : mirM (twM k) = twM (-k) := by
  have h : k % 4 = 0 ∨ k % 4 = 1 ∨ k % 4 = 2 ∨ k % 4 = 3 := by omega
  unfold twM
  rcases h with h | h | h | h
  · rw [if_pos h, if_pos (by omega)]; rfl
  · rw [if_neg (by omega), if_pos h, if_neg (by omega), if_neg (by omega), if_neg (by omega)]; rfl
  · rw [if_neg (by omega), if_neg (by omega), if_pos h, if_neg (by omega), if_neg (by omega), if_pos (by omega)]; rfl
  · rw [if_neg (by omega), if_neg (by omega), if_neg (by omega), if_neg (by omega), if_pos (by omega)]; rfl
theorem nf_mirror_nil {u : List UInt8} {k : Int} (hw : wordL u) (h : Nf u k []) : Nf (miL u) (-k) [] := by
  have hl : (miL u).length = u.length := by simp [miL]
  refine ⟨⟨fun c hc => absurd hc (by simp), ?_, ?_, by simp, ?_⟩, h.free⟩
  · rw [matL_miL hw, h.form.mat, matL_nil, mul_oneM, mul_oneM, mirM_tw]
  · have := h.form.cnt
    rw [cntL_miL hw, this]; simp; omega
  · have := h.high
    rw [hl]; omega
theorem nf_mirror_neg {u p q : List UInt8} {k n : Int} (hw : wordL u) (h : Nf u k p) (hm : Nf (miL u) n q) (hk : 0 < k) : n < 0 := by
  have h1 := h.form.cnt
  have h2 := hm.form.cnt
  rw [cntL_miL hw] at h2
  omega
theorem twM_comm (k : Int) : mulM (twM k) dM = mulM dM (twM k) := by
  have h : k % 4 = 0 ∨ k % 4 = 1 ∨ k % 4 = 2 ∨ k % 4 = 3 := by omega
  unfold twM
  rcases h with h | h | h | h
  · rw [if_pos h]; rfl
  · rw [if_neg (by omega), if_pos h]; rfl
  · rw [if_neg (by omega), if_neg (by omega), if_pos h]; rfl
  · rw [if_neg (by omega), if_neg (by omega), if_neg (by omega)]; rfl
theorem dM_cancel {a b : Mat} (h : mulM dM a = mulM dM b) : a = b := by
  have h2 := congrArg (mulM (0, -1, 1, 0)) h
  rwa [← mulM_assoc, ← mulM_assoc, show mulM (0, -1, 1, 0) dM = oneM by decide, oneM_mul, oneM_mul] at h2
theorem nf_flip {w p : List UInt8} {k : Int} (hw : wordL w) (h : Nf w k p) : Nf (flL w) k (flL p) := by
  have hl : (flL w).length = w.length := by simp [flL]
  have hp : (flL p).length = p.length := by simp [flL]
  refine ⟨⟨posL_fl h.form.pos, ?_, ?_, ?_, ?_⟩, noHalf_fl h.free⟩
  · apply dM_cancel
    rw [← matL_dM hw, h.form.mat, mulM_assoc, matL_dM (posL_word h.form.pos), ← mulM_assoc, twM_comm, mulM_assoc]
  · rw [cntL_flL hw, h.form.cnt, hp]
  · rw [hp, hl]; exact h.form.len
  · rw [hl]; exact h.form.low
end Go.Proofs.YtgkgloafjhiakaaDoor

namespace Go.Proofs.YtgkgloafjhiakaaDoor
open Go.RowKit Go.Sort

theorem u64_nat (a : Int) : ∃ N : Nat, IntKind.u64.wrap a = (N : Int) := by
  have : 0 ≤ IntKind.u64.wrap a := by rw [IntKind.wrap_u64]; omega
  exact ⟨(IntKind.u64.wrap a).toNat, by omega⟩
theorem mk_take (l : List UInt8) (i : Nat) : (mkB l).extract 0 i = mkB (l.take i) := by
  apply ByteArray.ext
  simp [ByteArray.data_extract]
theorem mk_drop (l : List UInt8) (i : Nat) : (mkB l).extract i l.length = mkB (l.drop i) := by
  apply ByteArray.ext
  simp [ByteArray.data_extract, List.take_of_length_le]
theorem mk_mid (l : List UInt8) (i : Nat) : (mkB l).extract i (i + 3) = mkB ((l.drop i).take 3) := by
  apply ByteArray.ext
  simp [ByteArray.data_extract]
set_option maxRecDepth 100000 in
set_option maxHeartbeats 4000000 in
theorem changed_any (l : List UInt8) (a k : Int) (w : World) (hl : l.length ≤ 60) : Calls Tryd.prog 45 #[.string (mkB l), .agg #[.int .i64 a, .int .i64 k]] w fun r w' => (∃ i j, r = .returned (.string (mkB (chgL l i j)))) ∧ Below w.heap.size w w' := by
  have hs := size_mk l
  obtain ⟨N, hN⟩ := u64_nat a
  obtain ⟨K, hK⟩ := u64_nat k
  obtain ⟨i, hi, hil⟩ : ∃ i : Nat, (N : Int) % ((l.length : Int) + 1) = (i : Int) ∧ i ≤ l.length := ⟨N % (l.length + 1), (Int.natCast_emod N (l.length + 1)).symm, Nat.lt_succ_iff.1 (Nat.mod_lt N (Nat.succ_pos l.length))⟩
  obtain ⟨j, hj, hj6⟩ : ∃ j : Nat, (K : Int) % 6 = (j : Int) ∧ j < 6 := ⟨K % 6, by omega, by omega⟩
  have wi : RowKit.wrap64 (i : Int) = (i : Int) := by unfold RowKit.wrap64; omega
  have e1 := mk_take l i
  have e2 := mk_drop l i
  have e3 := mk_mid l i
  have HB := Lib.hid (belowAA w (.cells #[.int .i64 a, .int .i64 k] 46) (.cells #[.string ⟨#[97, 65]⟩, .string ⟨#[65, 97]⟩, .string ⟨#[98, 66]⟩, .string ⟨#[66, 98]⟩] 78))
  rcases (show j = 0 ∨ j = 1 ∨ j = 2 ∨ j = 3 ∨ j = 4 ∨ j = 5 by omega) with rfl | rfl | rfl | rfl | rfl | rfl
  · have hres : chgL l i 0 = l.take i ++ ([97, 65] ++ l.drop i) := by unfold chgL; rw [if_pos (by decide)]; rfl
    have HRS := Lib.hid hres
    clear hres
    have c1 : mkB (l.take i) ++ ({ data := #[97, 65] } : ByteArray) = mkB (l.take i ++ [97, 65]) := mk_append (l.take i) [97, 65]
    have c2 : mkB (l.take i ++ [97, 65]) ++ mkB (l.drop i) = mkB (l.take i ++ ([97, 65] ++ l.drop i)) := by rw [mk_append, List.append_assoc]
    have t1 : (l.take i).length ≤ 60 := by rw [List.length_take]; omega
    have t2 := size_mk (l.take i)
    have d1 : (l.drop i).length ≤ 60 := by rw [List.length_drop]; omega
    have d2 := size_mk (l.drop i)
    generalize hT : l.take i = T at e1 c1 c2 HRS t1 t2
    generalize hD : l.drop i = D at e2 c2 HRS d1 d2
    clear hT hD e3
    go_enter Tryd.func45, Tryd.ntmps45
    go_wp2_with fail
    go_quiet (fail)
    go_wp2_with fail
    go_ret
    exact ⟨⟨i, 0, by rw [HRS.out]; rfl⟩, below_drewN' HB.out nq⟩
  · have hres : chgL l i 1 = l.take i ++ ([65, 97] ++ l.drop i) := by unfold chgL; rw [if_pos (by decide)]; rfl
    have HRS := Lib.hid hres
    clear hres
    have c1 : mkB (l.take i) ++ ({ data := #[65, 97] } : ByteArray) = mkB (l.take i ++ [65, 97]) := mk_append (l.take i) [65, 97]
    have c2 : mkB (l.take i ++ [65, 97]) ++ mkB (l.drop i) = mkB (l.take i ++ ([65, 97] ++ l.drop i)) := by rw [mk_append, List.append_assoc]
    have t1 : (l.take i).length ≤ 60 := by rw [List.length_take]; omega
    have t2 := size_mk (l.take i)
    have d1 : (l.drop i).length ≤ 60 := by rw [List.length_drop]; omega
    have d2 := size_mk (l.drop i)
    generalize hT : l.take i = T at e1 c1 c2 HRS t1 t2
    generalize hD : l.drop i = D at e2 c2 HRS d1 d2
    clear hT hD e3
    go_enter Tryd.func45, Tryd.ntmps45
    go_wp2_with fail
    go_quiet (fail)
    go_wp2_with fail
    go_ret
    exact ⟨⟨i, 1, by rw [HRS.out]; rfl⟩, below_drewN' HB.out nq⟩
  · have hres : chgL l i 2 = l.take i ++ ([98, 66] ++ l.drop i) := by unfold chgL; rw [if_pos (by decide)]; rfl
    have HRS := Lib.hid hres
    clear hres
    have c1 : mkB (l.take i) ++ ({ data := #[98, 66] } : ByteArray) = mkB (l.take i ++ [98, 66]) := mk_append (l.take i) [98, 66]
    have c2 : mkB (l.take i ++ [98, 66]) ++ mkB (l.drop i) = mkB (l.take i ++ ([98, 66] ++ l.drop i)) := by rw [mk_append, List.append_assoc]
    have t1 : (l.take i).length ≤ 60 := by rw [List.length_take]; omega
    have t2 := size_mk (l.take i)
    have d1 : (l.drop i).length ≤ 60 := by rw [List.length_drop]; omega
    have d2 := size_mk (l.drop i)
    generalize hT : l.take i = T at e1 c1 c2 HRS t1 t2
    generalize hD : l.drop i = D at e2 c2 HRS d1 d2
    clear hT hD e3
    go_enter Tryd.func45, Tryd.ntmps45
    go_wp2_with fail
    go_quiet (fail)
    go_wp2_with fail
    go_ret
    exact ⟨⟨i, 2, by rw [HRS.out]; rfl⟩, below_drewN' HB.out nq⟩
  · have hres : chgL l i 3 = l.take i ++ ([66, 98] ++ l.drop i) := by unfold chgL; rw [if_pos (by decide)]; rfl
    have HRS := Lib.hid hres
    clear hres
    have c1 : mkB (l.take i) ++ ({ data := #[66, 98] } : ByteArray) = mkB (l.take i ++ [66, 98]) := mk_append (l.take i) [66, 98]
    have c2 : mkB (l.take i ++ [66, 98]) ++ mkB (l.drop i) = mkB (l.take i ++ ([66, 98] ++ l.drop i)) := by rw [mk_append, List.append_assoc]
    have t1 : (l.take i).length ≤ 60 := by rw [List.length_take]; omega
    have t2 := size_mk (l.take i)
    have d1 : (l.drop i).length ≤ 60 := by rw [List.length_drop]; omega
    have d2 := size_mk (l.drop i)
    generalize hT : l.take i = T at e1 c1 c2 HRS t1 t2
    generalize hD : l.drop i = D at e2 c2 HRS d1 d2
    clear hT hD e3
    go_enter Tryd.func45, Tryd.ntmps45
    go_wp2_with fail
    go_quiet (fail)
    go_wp2_with fail
    go_ret
    exact ⟨⟨i, 3, by rw [HRS.out]; rfl⟩, below_drewN' HB.out nq⟩
  · by_cases hi3 : l.length < i + 3
    · have hres : chgL l i 4 = l := by unfold chgL; rw [if_neg (by omega), if_pos hi3]
      have HRS := Lib.hid hres
      clear hres e1 e2 e3
      go_enter Tryd.func45, Tryd.ntmps45
      go_wp2_with fail
      go_ret
      exact ⟨⟨i, 4, by rw [HRS.out]; rfl⟩, HB.out⟩
    · have e4 : (mkB l).extract (i + 3) l.length = mkB (l.drop (i + 3)) := mk_drop l (i + 3)
      by_cases hm : (l.drop i).take 3 = [97, 98, 97]
      · have hres : chgL l i 4 = l.take i ++ ([98, 97, 98] ++ l.drop (i + 3)) := by unfold chgL; rw [if_neg (by omega), if_neg hi3, if_pos hm]
        rw [hm] at e3
        have HRS := Lib.hid hres
        clear hres hm
        have c1 : mkB (l.take i) ++ ({ data := #[98, 97, 98] } : ByteArray) = mkB (l.take i ++ [98, 97, 98]) := mk_append (l.take i) [98, 97, 98]
        have c2 : mkB (l.take i ++ [98, 97, 98]) ++ mkB (l.drop (i + 3)) = mkB (l.take i ++ ([98, 97, 98] ++ l.drop (i + 3))) := by rw [mk_append, List.append_assoc]
        have t1 : (l.take i).length ≤ 60 := by rw [List.length_take]; omega
        have t2 := size_mk (l.take i)
        have d1 : (l.drop (i + 3)).length ≤ 60 := by rw [List.length_drop]; omega
        have d2 := size_mk (l.drop (i + 3))
        generalize hT : l.take i = T at e1 c1 c2 HRS t1 t2
        generalize hD : l.drop (i + 3) = D at e4 c2 HRS d1 d2
        clear hT hD e2
        go_enter Tryd.func45, Tryd.ntmps45
        go_wp2_with fail
        go_quiet (fail)
        go_wp2_with fail
        go_ret
        exact ⟨⟨i, 4, by rw [HRS.out]; rfl⟩, below_drewN' HB.out nq⟩
      · by_cases hm2 : (l.drop i).take 3 = [98, 97, 98]
        · have hres : chgL l i 4 = l.take i ++ ([97, 98, 97] ++ l.drop (i + 3)) := by unfold chgL; rw [if_neg (by omega), if_neg hi3, if_neg hm, if_pos hm2]
          rw [hm2] at e3
          have HRS := Lib.hid hres
          clear hres hm hm2
          have c1 : mkB (l.take i) ++ ({ data := #[97, 98, 97] } : ByteArray) = mkB (l.take i ++ [97, 98, 97]) := mk_append (l.take i) [97, 98, 97]
          have c2 : mkB (l.take i ++ [97, 98, 97]) ++ mkB (l.drop (i + 3)) = mkB (l.take i ++ ([97, 98, 97] ++ l.drop (i + 3))) := by rw [mk_append, List.append_assoc]
          have t1 : (l.take i).length ≤ 60 := by rw [List.length_take]; omega
          have t2 := size_mk (l.take i)
          have d1 : (l.drop (i + 3)).length ≤ 60 := by rw [List.length_drop]; omega
          have d2 := size_mk (l.drop (i + 3))
          generalize hT : l.take i = T at e1 c1 c2 HRS t1 t2
          generalize hD : l.drop (i + 3) = D at e4 c2 HRS d1 d2
          clear hT hD e2
          go_enter Tryd.func45, Tryd.ntmps45
          go_wp2_with fail
          go_quiet (fail)
          go_wp2_with fail
          go_ret
          exact ⟨⟨i, 4, by rw [HRS.out]; rfl⟩, below_drewN' HB.out nq⟩
        · have hres : chgL l i 4 = l := by unfold chgL; rw [if_neg (by omega), if_neg hi3, if_neg hm, if_neg hm2]
          have HRS := Lib.hid hres
          clear hres e1 e2 e4
          generalize (l.drop i).take 3 = M at e3 hm hm2
          have b1 : (M == [97, 98, 97]) = false := beq_false_of_ne hm
          have b2 : (M == [98, 97, 98]) = false := beq_false_of_ne hm2
          go_enter Tryd.func45, Tryd.ntmps45
          go_wp2_with fail
          go_ret
          exact ⟨⟨i, 4, by rw [HRS.out]; rfl⟩, HB.out⟩
  · by_cases hi3 : l.length < i + 3
    · have hres : chgL l i 5 = l := by unfold chgL; rw [if_neg (by omega), if_pos hi3]
      have HRS := Lib.hid hres
      clear hres e1 e2 e3
      go_enter Tryd.func45, Tryd.ntmps45
      go_wp2_with fail
      go_ret
      exact ⟨⟨i, 5, by rw [HRS.out]; rfl⟩, HB.out⟩
    · have e4 : (mkB l).extract (i + 3) l.length = mkB (l.drop (i + 3)) := mk_drop l (i + 3)
      by_cases hm : (l.drop i).take 3 = [97, 98, 97]
      · have hres : chgL l i 5 = l.take i ++ ([98, 97, 98] ++ l.drop (i + 3)) := by unfold chgL; rw [if_neg (by omega), if_neg hi3, if_pos hm]
        rw [hm] at e3
        have HRS := Lib.hid hres
        clear hres hm
        have c1 : mkB (l.take i) ++ ({ data := #[98, 97, 98] } : ByteArray) = mkB (l.take i ++ [98, 97, 98]) := mk_append (l.take i) [98, 97, 98]
        have c2 : mkB (l.take i ++ [98, 97, 98]) ++ mkB (l.drop (i + 3)) = mkB (l.take i ++ ([98, 97, 98] ++ l.drop (i + 3))) := by rw [mk_append, List.append_assoc]
        have t1 : (l.take i).length ≤ 60 := by rw [List.length_take]; omega
        have t2 := size_mk (l.take i)
        have d1 : (l.drop (i + 3)).length ≤ 60 := by rw [List.length_drop]; omega
        have d2 := size_mk (l.drop (i + 3))
        generalize hT : l.take i = T at e1 c1 c2 HRS t1 t2
        generalize hD : l.drop (i + 3) = D at e4 c2 HRS d1 d2
        clear hT hD e2
        go_enter Tryd.func45, Tryd.ntmps45
        go_wp2_with fail
        go_quiet (fail)
        go_wp2_with fail
        go_ret
        exact ⟨⟨i, 5, by rw [HRS.out]; rfl⟩, below_drewN' HB.out nq⟩
      · by_cases hm2 : (l.drop i).take 3 = [98, 97, 98]
        · have hres : chgL l i 5 = l.take i ++ ([97, 98, 97] ++ l.drop (i + 3)) := by unfold chgL; rw [if_neg (by omega), if_neg hi3, if_neg hm, if_pos hm2]
          rw [hm2] at e3
          have HRS := Lib.hid hres
          clear hres hm hm2
          have c1 : mkB (l.take i) ++ ({ data := #[97, 98, 97] } : ByteArray) = mkB (l.take i ++ [97, 98, 97]) := mk_append (l.take i) [97, 98, 97]
          have c2 : mkB (l.take i ++ [97, 98, 97]) ++ mkB (l.drop (i + 3)) = mkB (l.take i ++ ([97, 98, 97] ++ l.drop (i + 3))) := by rw [mk_append, List.append_assoc]
          have t1 : (l.take i).length ≤ 60 := by rw [List.length_take]; omega
          have t2 := size_mk (l.take i)
          have d1 : (l.drop (i + 3)).length ≤ 60 := by rw [List.length_drop]; omega
          have d2 := size_mk (l.drop (i + 3))
          generalize hT : l.take i = T at e1 c1 c2 HRS t1 t2
          generalize hD : l.drop (i + 3) = D at e4 c2 HRS d1 d2
          clear hT hD e2
          go_enter Tryd.func45, Tryd.ntmps45
          go_wp2_with fail
          go_quiet (fail)
          go_wp2_with fail
          go_ret
          exact ⟨⟨i, 5, by rw [HRS.out]; rfl⟩, below_drewN' HB.out nq⟩
        · have hres : chgL l i 5 = l := by unfold chgL; rw [if_neg (by omega), if_neg hi3, if_neg hm, if_neg hm2]
          have HRS := Lib.hid hres
          clear hres e1 e2 e4
          generalize (l.drop i).take 3 = M at e3 hm hm2
          have b1 : (M == [97, 98, 97]) = false := beq_false_of_ne hm
          have b2 : (M == [98, 97, 98]) = false := beq_false_of_ne hm2
          go_enter Tryd.func45, Tryd.ntmps45
          go_wp2_with fail
          go_ret
          exact ⟨⟨i, 5, by rw [HRS.out]; rfl⟩, HB.out⟩
end Go.Proofs.YtgkgloafjhiakaaDoor

namespace Go.Proofs.YtgkgloafjhiakaaDoor
open Go.RowKit Go.Sort

theorem chgL_len (u : List UInt8) (a k : Nat) : (chgL u a k).length ≤ u.length + 2 := by
  have hp : (putC k).length = 2 := by
    unfold putC
    split
    · rfl
    · split
      · rfl
      · split <;> rfl
  unfold chgL
  split
  · simp only [List.length_append, List.length_take, List.length_drop, hp]; omega
  · split
    · omega
    · split
      · simp only [List.length_append, List.length_take, List.length_drop, List.length_cons, List.length_nil]; omega
      · split
        · simp only [List.length_append, List.length_take, List.length_drop, List.length_cons, List.length_nil]; omega
        · omega
set_option maxRecDepth 100000 in
set_option maxHeartbeats 8000000 in
theorem changes_any (t : ByteArray) (A : Option Addr) (n c : Nat) (l : List (Int × Int)) (w : World) (hm : MX w) (hr : Reads w w.heap.size 2 A n (plcs l)) (hn : n ≤ 9223372036854775807) : Calls Tryd.prog 13 #[.string t, .slice A n c] w fun r w' => r = .returned (.bool true) ∧ Below w.heap.size w w' := by
  have HM := Lib.hid hm
  have HP := Lib.hid hm.lt
  have hlen := hr.1
  rw [plcs_length] at hlen
  have hln : l.length = n := by omega
  have HRD := Lib.hid hr
  clear hm hr hlen
  go_enter Tryd.func13, Tryd.ntmps13
  go_wp2_with fail
  with_reducible refine (long_any t _).mono ?_
  rintro _ w1 ⟨rfl, rfl⟩
  by_cases h1 : 200 < t.size
  · rw [decide_eq_true h1]
    clear h1
    go_wp2_with fail
    with_reducible refine (known_any _ HM.out).mono ?_
    rintro _ wk ⟨rfl, hbk⟩
    have HBK := Lib.hid (hbk)
    clear hbk
    go_wp2_with fail
    go_ret
    exact ⟨rfl, HBK.out⟩
  rw [decide_eq_false h1]
  have HT := Lib.hid (show t.size ≤ 1000000 by omega)
  clear h1
  go_wp2_with fail
  with_reducible refine (valid_any t _ HT.out).mono ?_
  rintro _ w2 ⟨rfl, hb2⟩
  have HB2 := Lib.hid hb2
  clear hb2
  rcases Bool.eq_false_or_eq_true (okW t) with hok | hno
  · rw [hok]
    have HO := Lib.hid hok
    clear hok
    by_cases hn100 : 100 < n
    · go_wp2_with fail
      with_reducible refine (known_any _ (HM.out.below HP.out HB2.out)).mono ?_
      rintro _ wk ⟨rfl, hbk⟩
      have HBK := Lib.hid (below_trans' HB2.out hbk)
      clear hbk
      go_wp2_with fail
      go_ret
      exact ⟨rfl, HBK.out⟩
    · go_wp2_with fail
      go_loopw [5, 6] (fun v i wr => ∃ (k : Nat) (u : List UInt8), k ≤ n ∧ i = .int .i64 k ∧ v = .string (mkB u) ∧ Alike (liB t) u ∧ okW (mkB u) = true ∧ Below w1.heap.size w1 wr) (fun _ i _ => n - (intOf i).toNat)
      case atStart => exact ⟨0, liB t, by omega, rfl, by rw [mk_li], .refl _, by rw [mk_li]; exact HO.out, HB2.out⟩
      case round =>
        obtain ⟨k, u, hk, rfl, rfl, hal, hou, hb⟩ := hrel
        have HAL := Lib.hid hal
        have HOU := Lib.hid hou
        have HB3 := Lib.hid hb
        have hu60 : u.length ≤ 60 := (okW_iff.1 hou).1
        clear hal hou hb
        by_cases hlt : k < n
        · obtain ⟨ad, e1, hbk, d0, d1⟩ := eat2 (HRD.out.on HB3.out) (k := k) (by omega)
          have X := fun w => ix43 (c := c) e1 hlt w
          generalize l[k] = q at d0 d1
          obtain ⟨qa, qk⟩ := q
          dsimp only at d0 d1
          clear e1 hbk
          go_wp2_with fail
          with_reducible refine (changed_any u qa qk _ hu60).mono ?_
          rintro _ w3 ⟨⟨i, j, rfl⟩, hb3⟩
          have HB4 := Lib.hid (below_trans' HB3.out hb3)
          have HA2 := Lib.hid (HAL.out.trans (alike_chg u i j))
          have hcl : (chgL u i j).length ≤ 62 := by have := chgL_len u i j; omega
          clear hb3 d0 d1 X
          generalize chgL u i j = v at HA2 hcl ⊢
          go_wp2_with fail
          with_reducible refine (valid_any (mkB v) _ (by rw [size_mk]; omega)).mono ?_
          rintro _ w4 ⟨rfl, hb4⟩
          have HB5 := Lib.hid (below_trans' HB4.out hb4)
          clear hb4
          rcases Bool.eq_false_or_eq_true (okW (mkB v)) with hv | hv
          · rw [hv]
            have HV := Lib.hid hv
            clear hv
            go_wp2_with fail
            go_roundw
            case rel => exact ⟨k + 1, v, by omega, by go_num, rfl, HA2.out, HV.out, HB5.out⟩
            case measure => simp [intOf]; omega
          · rw [hv]
            clear hv
            go_wp2_with fail
            go_roundw
            case rel => exact ⟨k + 1, u, by omega, by go_num, rfl, HAL.out, HOU.out, HB5.out⟩
            case measure => simp [intOf]; omega
        · have HS : Hid (sameR t (mkB u) = (true, 0)) := Lib.hid (by
            rw [sameR_ok HO.out HOU.out]
            unfold sameP
            rw [decide_eq_true ⟨HAL.out.mat, HAL.out.cnt⟩])
          have HE1 : Hid (endsR t = endsL u) := Lib.hid (by rw [endsR_ok HO.out, HAL.out.endsL])
          have HE2 : Hid (endsR (mkB u) = endsL u) := Lib.hid (endsR_ok HOU.out)
          have HC1 : Hid (crossR t = cntL u) := Lib.hid (by unfold crossR; rw [HO.out]; exact HAL.out.cnt)
          have HC2 : Hid (crossR (mkB u) = cntL u) := Lib.hid (by unfold crossR; rw [HOU.out]; rfl)
          have hus := size_mk u
          obtain rfl : k = n := by omega
          go_wp2_with fail
          with_reducible refine (same_any t (mkB u) _ (HM.out.below HP.out HB3.out) HT.out (by omega)).mono ?_
          rintro _ w4 ⟨rfl, hb4⟩
          rw [HS.out]
          have HB4 := Lib.hid (below_trans' HB3.out hb4)
          clear hb4
          go_wp2_with fail
          with_reducible refine (ends_any t _ HT.out).mono ?_
          rintro _ w5 ⟨rfl, hb5⟩
          rw [HE1.out, ansE_ok HO.out]
          have HB5 := Lib.hid (below_trans' HB4.out hb5)
          clear hb5
          generalize endsL u = EE at HE2 ⊢
          go_wp2_with fail
          have HA := Lib.hid (TriAt.new w5 EE)
          have HB6 := Lib.hid (below_trans' HB5.out (belowA w5 (.cells (tcs EE) 47)))
          generalize w5.alloc (.cells (tcs EE) 47) = w6 at HA HB6 ⊢
          generalize w5.heap.size = Y1 at HA ⊢
          with_reducible refine (ends_any (mkB u) _ (by omega)).mono ?_
          rintro _ w7 ⟨rfl, hb7⟩
          rw [HE2.out, ansE_ok HOU.out]
          have HA7 := Lib.hid (HA.out.below hb7)
          have HB7 := Lib.hid (below_trans' HB6.out hb7)
          clear hb7
          go_wp2_with fail
          have HA8 := Lib.hid (HA7.out.below (belowA w7 (.cells (tcs EE) 47)))
          have HD8 := Lib.hid (TriAt.new w7 EE)
          have HB8 := Lib.hid (below_trans' HB7.out (belowA w7 (.cells (tcs EE) 47)))
          generalize w7.alloc (.cells (tcs EE) 47) = w8 at HA8 HD8 HB8 ⊢
          generalize w7.heap.size = Y2 at HD8 ⊢
          with_reducible refine (crossings_any t _ HT.out).mono ?_
          rintro _ w9 ⟨rfl, hb9⟩
          rw [HC1.out, ansE_ok HO.out]
          have HA9 := Lib.hid (HA8.out.below hb9)
          have HD9 := Lib.hid (HD8.out.below hb9)
          have HB9 := Lib.hid (below_trans' HB8.out hb9)
          clear hb9
          generalize cntL u = CC at HC2 ⊢
          go_wp2_with fail
          with_reducible refine (crossings_any (mkB u) _ (by omega)).mono ?_
          rintro _ w10 ⟨rfl, hb10⟩
          rw [HC2.out, ansE_ok HOU.out]
          have HB10 := Lib.hid (below_trans' HB9.out hb10)
          have x1 := (HA9.out.below hb10).box.2
          have x2 := (HD9.out.below hb10).box.2
          have EQ : ∀ w, (binOp .eql 47 (tval EE) (tval EE)).run Tryd.prog w = .ok (.bool true) w := fun w => by rw [eql47, decide_eq_true rfl]
          clear hb10
          go_wp2_with fail
          with_reducible refine (known_any _ (HM.out.below HP.out HB10.out)).mono ?_
          rintro _ wk ⟨rfl, hbk⟩
          have HBK := Lib.hid (below_trans' HB10.out hbk)
          clear hbk
          go_wp2_with fail
          go_ret
          exact ⟨rfl, HBK.out⟩
  · rw [hno]
    go_wp2_with fail
    with_reducible refine (known_any _ (HM.out.below HP.out HB2.out)).mono ?_
    rintro _ wk ⟨rfl, hbk⟩
    have HBK := Lib.hid (below_trans' HB2.out hbk)
    clear hbk
    go_wp2_with fail
    go_ret
    exact ⟨rfl, HBK.out⟩
end Go.Proofs.YtgkgloafjhiakaaDoor

namespace Go.Proofs.YtgkgloafjhiakaaDoor
open Go.RowKit Go.Sort

set_option maxRecDepth 100000 in
set_option maxHeartbeats 8000000 in
theorem sames_any (u v : ByteArray) (w : World) (hm : MX w) : Calls Tryd.prog 11 #[.string u, .string v] w fun r w' => r = .returned (.bool true) ∧ Below w.heap.size w w' := by
  have HM := Lib.hid hm
  have HP := Lib.hid hm.lt
  clear hm
  go_enter Tryd.func11, Tryd.ntmps11
  go_wp2_with fail
  with_reducible refine (long_any u _).mono ?_
  rintro _ w1 ⟨rfl, rfl⟩
  by_cases h1 : 200 < u.size
  · rw [decide_eq_true h1]
    clear h1
    go_wp2_with fail
    with_reducible refine (known_any _ HM.out).mono ?_
    rintro _ wk ⟨rfl, hbk⟩
    have HBK := Lib.hid (hbk)
    clear hbk
    go_wp2_with fail
    go_ret
    exact ⟨rfl, HBK.out⟩
  rw [decide_eq_false h1]
  have HU := Lib.hid (show u.size ≤ 1000000 by omega)
  clear h1
  go_wp2_with fail
  with_reducible refine (long_any v _).mono ?_
  rintro _ w2 ⟨rfl, rfl⟩
  by_cases h1 : 200 < v.size
  · rw [decide_eq_true h1]
    clear h1
    go_wp2_with fail
    with_reducible refine (known_any _ HM.out).mono ?_
    rintro _ wk ⟨rfl, hbk⟩
    have HBK := Lib.hid (hbk)
    clear hbk
    go_wp2_with fail
    go_ret
    exact ⟨rfl, HBK.out⟩
  rw [decide_eq_false h1]
  have HV := Lib.hid (show v.size ≤ 1000000 by omega)
  clear h1
  go_wp2_with fail
  with_reducible refine (same_any u v _ HM.out HU.out HV.out).mono ?_
  rintro _ w3 ⟨rfl, hb3⟩
  have HB3 := Lib.hid hb3
  clear hb3
  generalize hj : sameR u v = J
  have HJ := Lib.hid hj
  clear hj
  go_wp2_with fail
  with_reducible refine (refSame_any u v _ HU.out HV.out).mono ?_
  rintro _ w4 ⟨rfl, hb4⟩
  rw [HJ.out]
  have HB4 := Lib.hid (below_trans' HB3.out hb4)
  clear hb4
  by_cases hok : okW u = true ∧ okW v = true
  · have hj : J = (sameP u v, 0) := HJ.out.symm.trans (sameR_ok hok.1 hok.2)
    have HO := Lib.hid hok
    subst hj
    clear hok HJ
    go_wp2_with fail
    with_reducible refine (normalE_any u _ (HM.out.below HP.out HB4.out) HU.out).mono ?_
    rintro _ w5 ⟨hb5, ⟨hno, _⟩ | ⟨_, k, p, rfl, hn1⟩⟩
    · rw [HO.out.1] at hno; cases hno
    have HB5 := Lib.hid (below_trans' HB4.out hb5)
    have HN1 := Lib.hid hn1
    clear hb5 hn1
    go_wp2_with fail
    with_reducible refine (normalE_any v _ (HM.out.below HP.out HB5.out) HV.out).mono ?_
    rintro _ w6 ⟨hb6, ⟨hno, _⟩ | ⟨_, k2, p2, rfl, hn2⟩⟩
    · rw [HO.out.2] at hno; cases hno
    have HB6 := Lib.hid (below_trans' HB5.out hb6)
    have HN2 := Lib.hid hn2
    clear hb6 hn2
    go_wp2_with fail
    with_reducible refine (matrix_any u _ HU.out).mono ?_
    rintro _ w7 ⟨rfl, hb7⟩
    have HB7 := Lib.hid (below_trans' HB6.out hb7)
    clear hb7
    rw [matR_ok HO.out.1, ansE_ok HO.out.1]
    go_wp2_with fail
    have HA := Lib.hid (MatAt.new w7 (matL (liB u)))
    have HB8 := Lib.hid (below_trans' HB7.out (belowA w7 (.cells (mcs (matL (liB u))) 34)))
    generalize w7.alloc (.cells (mcs (matL (liB u))) 34) = w8 at HA HB8 ⊢
    generalize w7.heap.size = Y1 at HA ⊢
    with_reducible refine (matrix_any v _ HV.out).mono ?_
    rintro _ w9 ⟨rfl, hb9⟩
    have HA9 := Lib.hid (HA.out.below hb9)
    have HB9 := Lib.hid (below_trans' HB8.out hb9)
    clear hb9
    rw [matR_ok HO.out.2, ansE_ok HO.out.2]
    go_wp2_with fail
    have HA10 := Lib.hid (HA9.out.below (belowA w9 (.cells (mcs (matL (liB v))) 34)))
    have HC10 := Lib.hid (MatAt.new w9 (matL (liB v)))
    have HB10 := Lib.hid (below_trans' HB9.out (belowA w9 (.cells (mcs (matL (liB v))) 34)))
    generalize w9.alloc (.cells (mcs (matL (liB v))) 34) = w10 at HA10 HC10 HB10 ⊢
    generalize w9.heap.size = Y2 at HC10 ⊢
    with_reducible refine (crossings_any u _ HU.out).mono ?_
    rintro _ w11 ⟨rfl, hb11⟩
    have HA11 := Lib.hid (HA10.out.below hb11)
    have HC11 := Lib.hid (HC10.out.below hb11)
    have HB11 := Lib.hid (below_trans' HB10.out hb11)
    clear hb11
    rw [show crossR u = cntL (liB u) by unfold crossR; rw [HO.out.1]; rfl, ansE_ok HO.out.1]
    go_wp2_with fail
    with_reducible refine (crossings_any v _ HV.out).mono ?_
    rintro _ w12 ⟨rfl, hb12⟩
    have HA12 := Lib.hid (HA11.out.below hb12)
    have HC12 := Lib.hid (HC11.out.below hb12)
    have HB12 := Lib.hid (below_trans' HB11.out hb12)
    clear hb12
    rw [show crossR v = cntL (liB v) by unfold crossR; rw [HO.out.2]; rfl, ansE_ok HO.out.2]
    have x0 := HA12.out.box.2
    have y0 := HC12.out.box.2
    simp only [mcs] at x0 y0
    have EQ := fun w => eql34 (matL (liB u)) (matL (liB v)) w
    have hif := HN1.out.iff HN2.out
    have es := mk_toList_eq p p2
    by_cases hs : matL (liB u) = matL (liB v) ∧ cntL (liB u) = cntL (liB v)
    · have hsp : sameP u v = true := by unfold sameP; exact decide_eq_true hs
      obtain ⟨rfl, rfl⟩ := hif.2 hs
      rw [hsp]
      rw [decide_eq_true hs.1] at EQ
      rw [hs.2]
      clear hif hs hsp es
      go_wp2_with fail
      with_reducible refine (known_any _ (HM.out.below HP.out HB12.out)).mono ?_
      rintro _ wk ⟨rfl, hbk⟩
      have HBK := Lib.hid (below_trans' HB12.out hbk)
      clear hbk
      go_wp2_with fail
      go_ret
      exact ⟨rfl, HBK.out⟩
    · have hsp : sameP u v = false := by unfold sameP; exact decide_eq_false hs
      have hne : ¬ (k = k2 ∧ p = p2) := fun h => hs (hif.1 h)
      rw [hsp]
      clear hif hsp
      by_cases hk : k = k2
      · have hp : ¬ p = p2 := fun h => hne ⟨hk, h⟩
        have hpb : (p == p2) = false := beq_false_of_ne hp
        clear es
        subst hk
        by_cases hM : matL (liB u) = matL (liB v)
        · have hc : (cntL (liB u) == cntL (liB v)) = false := beq_false_of_ne fun h => hs ⟨hM, h⟩
          rw [decide_eq_true hM] at EQ
          clear hs hne hM
          go_wp2_with fail
          with_reducible refine (known_any _ (HM.out.below HP.out HB12.out)).mono ?_
          rintro _ wk ⟨rfl, hbk⟩
          have HBK := Lib.hid (below_trans' HB12.out hbk)
          clear hbk
          go_wp2_with fail
          go_ret
          exact ⟨rfl, HBK.out⟩
        · rw [decide_eq_false hM] at EQ
          clear hs hne hM
          go_wp2_with fail
          with_reducible refine (known_any _ (HM.out.below HP.out HB12.out)).mono ?_
          rintro _ wk ⟨rfl, hbk⟩
          have HBK := Lib.hid (below_trans' HB12.out hbk)
          clear hbk
          go_wp2_with fail
          go_ret
          exact ⟨rfl, HBK.out⟩
      · clear hne es
        by_cases hM : matL (liB u) = matL (liB v)
        · have hc : (cntL (liB u) == cntL (liB v)) = false := beq_false_of_ne fun h => hs ⟨hM, h⟩
          rw [decide_eq_true hM] at EQ
          clear hs hM
          go_wp2_with fail
          with_reducible refine (known_any _ (HM.out.below HP.out HB12.out)).mono ?_
          rintro _ wk ⟨rfl, hbk⟩
          have HBK := Lib.hid (below_trans' HB12.out hbk)
          clear hbk
          go_wp2_with fail
          go_ret
          exact ⟨rfl, HBK.out⟩
        · rw [decide_eq_false hM] at EQ
          clear hs hM
          go_wp2_with fail
          with_reducible refine (known_any _ (HM.out.below HP.out HB12.out)).mono ?_
          rintro _ wk ⟨rfl, hbk⟩
          have HBK := Lib.hid (below_trans' HB12.out hbk)
          clear hbk
          go_wp2_with fail
          go_ret
          exact ⟨rfl, HBK.out⟩
  · have hj : J = (false, 1) := by rw [← HJ.out]; unfold sameR; rw [if_neg hok]
    subst hj
    clear hok HJ
    go_wp2_with fail
    with_reducible refine (known_any _ (HM.out.below HP.out HB4.out)).mono ?_
    rintro _ wk ⟨rfl, hbk⟩
    have HBK := Lib.hid (below_trans' HB4.out hbk)
    clear hbk
    go_wp2_with fail
    go_ret
    exact ⟨rfl, HBK.out⟩
end Go.Proofs.YtgkgloafjhiakaaDoor

namespace Go.Proofs.YtgkgloafjhiakaaDoor
open Go.RowKit Go.Sort

/-- What IsTwist answers of a word. -/
theorem TwR.no {t : ByteArray} {r : Ending} (h : okW t = false) (hr : TwR t r) : r = .returned (.tuple #[.bool false, .int .i64 1]) := by
  rcases hr with ⟨_, hr⟩ | ⟨h', _⟩
  · exact hr
  · rw [h] at h'; cases h'
theorem TwR.ok {t : ByteArray} {r : Ending} {k : Int} {p : List UInt8} (h : okW t = true) (hn : Nf (liB t) k p) (hr : TwR t r) : r = .returned (.tuple #[.bool p.isEmpty, .int .i64 0]) := by
  rcases hr with ⟨h', _⟩ | ⟨_, k', p', hn', hr⟩
  · rw [h] at h'; cases h'
  · obtain ⟨rfl, rfl⟩ := hn.unique hn'; exact hr
theorem TwR.some {t : ByteArray} {r : Ending} (h : okW t = true) (hr : TwR t r) : ∃ k p, Nf (liB t) k p := by
  rcases hr with ⟨h', _⟩ | ⟨_, k', p', hn', _⟩
  · rw [h] at h'; cases h'
  · exact ⟨k', p', hn'⟩
theorem pow_half {m : Nat} (hm : m ≤ 7) : powR (mkB [97, 98, 97]) (m : Int) = (twW m, 0) := by
  rw [powR_small (by decide) ⟨by omega, by omega⟩, Int.natAbs_natCast, if_neg (show ¬ 60 < (mkB [97, 98, 97]).size * m by show ¬ 60 < 3 * m; omega), if_neg (show ¬ ((m : Int) < 0) by omega)]
theorem twW_len (m : Nat) : (twW m).length = 3 * m := by rw [rep_length]; simp [Nat.mul_comm]
set_option maxRecDepth 100000 in
set_option maxHeartbeats 8000000 in
theorem twists_any (t : ByteArray) (n : Int) (_hn : -9223372036854775808 ≤ n ∧ n ≤ 9223372036854775807) (w : World) (hm : MX w) : Calls Tryd.prog 14 #[.string t, .int .i64 n] w fun r w' => r = .returned (.bool true) ∧ Below w.heap.size w w' := by
  have HM := Lib.hid hm
  have HP := Lib.hid hm.lt
  clear hm
  go_enter Tryd.func14, Tryd.ntmps14
  go_wp2_with fail
  with_reducible refine (long_any t _).mono ?_
  rintro _ w1 ⟨rfl, rfl⟩
  by_cases h1 : 200 < t.size
  · rw [decide_eq_true h1]
    clear h1
    go_wp2_with fail
    with_reducible refine (known_any _ HM.out).mono ?_
    rintro _ wk ⟨rfl, hbk⟩
    have HBK := Lib.hid (hbk)
    clear hbk
    go_wp2_with fail
    go_ret
    exact ⟨rfl, HBK.out⟩
  rw [decide_eq_false h1]
  have HT := Lib.hid (show t.size ≤ 1000000 by omega)
  clear h1
  go_wp2_with fail
  obtain ⟨m, hm7, hb, hmod⟩ := and7 n
  have HMB := Lib.hid hb
  have HM7 := Lib.hid hm7
  clear hb hm7
  rcases Bool.eq_false_or_eq_true (okW t) with hok | hno
  · with_reducible refine (isTwist_any t _ HM.out HT.out).mono ?_
    rintro r w3 ⟨hb3, hr⟩
    obtain ⟨k, p, hn⟩ := hr.some hok
    obtain rfl := hr.ok hok hn
    have HB3 := Lib.hid hb3
    clear hb3 hr
    have HN := Lib.hid hn
    have HO := Lib.hid hok
    obtain ⟨pe, hpe⟩ : ∃ b, p.isEmpty = b := ⟨_, rfl⟩
    rw [hpe]
    have HPE := Lib.hid hpe
    have hWo := (okW_iff.1 hok).2
    have h60 := (okW_iff.1 hok).1
    have HW := Lib.hid hWo
    clear hn hok hpe hWo
    go_wp2_with fail
    with_reducible refine (refIsTwist_any t _ HT.out).mono ?_
    rintro r w4 ⟨hb4, hr⟩
    obtain rfl := hr.ok HO.out HN.out
    rw [HPE.out]
    have HB4 := Lib.hid (below_trans' HB3.out hb4)
    clear hb4 hr
    go_wp2_with fail
    rw [HMB.out]
    with_reducible refine (power_any (mkB [97, 98, 97]) (m : Int) _ (by decide)).mono ?_
    rintro _ w5 ⟨rfl, hb5⟩
    rw [pow_half HM7.out]
    have HB5 := Lib.hid (below_trans' HB4.out hb5)
    have L1 := Lib.hid (twW_len m)
    have O1 := Lib.hid (okW_of (twW_word m) (by rw [twW_len]; have := HM7.out; omega))
    have HP1 := Lib.hid (twist_pass HW.out m)
    have HP2 := Lib.hid (twist_cnt HW.out m)
    have HTW := Lib.hid (nf_twW m)
    have W1 := Lib.hid (twW_word m)
    clear hb5
    generalize twW m = T at L1 O1 HP1 HP2 HTW W1 ⊢
    go_wp2_with fail
    with_reducible refine (join_any (mkB T) t _ (by rw [size_mk, L1.out]; have := HM7.out; omega) HT.out).mono ?_
    rintro _ w6 ⟨rfl, hb6⟩
    have HB6 := Lib.hid (below_trans' HB5.out hb6)
    clear hb6
    have hcase : (60 < 3 * m + t.size ∧ joinR (mkB T) t = ([], 4)) ∨ (¬ 60 < 3 * m + t.size ∧ joinR (mkB T) t = (T ++ liB t, 0)) := by
      by_cases h : 60 < 3 * m + t.size
      · exact .inl ⟨h, joinR_long O1.out HO.out (by show 60 < T.length + t.size; rw [L1.out]; exact h)⟩
      · exact .inr ⟨h, joinR_ok O1.out HO.out (by show ¬ 60 < T.length + t.size; rw [L1.out]; exact h)⟩
    rcases hcase with ⟨_, hj⟩ | ⟨h7, hj⟩
    · rw [hj]
      clear hj
      rcases (show n % 2 = 1 ∨ n % 2 = 0 by omega) with hp | hp
      · have h1 : bits .and .i64 n 1 = 1 := by rw [i64_and1]; exact hp
        go_wp2_with fail
        with_reducible refine (flip_any t _ HT.out).mono ?_
        rintro _ w7 ⟨rfl, hb7⟩
        have HB7 := Lib.hid (below_trans' HB6.out hb7)
        clear hb7
        unfold ansW
        rw [ansB_ok HO.out, ansE_ok HO.out]
        go_wp2_with fail
        with_reducible refine (join_any (mkB (flL (liB t))) (mkB T) _ (by rw [size_mk]; simp only [flL, List.length_map]; rw [li_size]; exact HT.out) (by rw [size_mk, L1.out]; have := HM7.out; omega)).mono ?_
        rintro _ w8 ⟨rfl, hb8⟩
        have HB8 := Lib.hid (below_trans' HB7.out hb8)
        clear hb8
        generalize joinR (mkB (flL (liB t))) (mkB T) = J
        go_wp2_with fail
        with_reducible refine (known_any _ (HM.out.below HP.out HB8.out)).mono ?_
        rintro _ wk ⟨rfl, hbk⟩
        have HBK := Lib.hid (below_trans' HB8.out hbk)
        clear hbk
        go_wp2_with fail
        go_ret
        exact ⟨rfl, HBK.out⟩
      · have h1 : bits .and .i64 n 1 = 0 := by rw [i64_and1]; exact hp
        go_wp2_with fail
        with_reducible refine (join_any t (mkB T) _ HT.out (by rw [size_mk, L1.out]; have := HM7.out; omega)).mono ?_
        rintro _ w8 ⟨rfl, hb8⟩
        have HB8 := Lib.hid (below_trans' HB6.out hb8)
        clear hb8
        generalize joinR t (mkB T) = J
        go_wp2_with fail
        with_reducible refine (known_any _ (HM.out.below HP.out HB8.out)).mono ?_
        rintro _ wk ⟨rfl, hbk⟩
        have HBK := Lib.hid (below_trans' HB8.out hbk)
        clear hbk
        go_wp2_with fail
        go_ret
        exact ⟨rfl, HBK.out⟩
    · rw [hj]
      have H7 := Lib.hid h7
      clear hj h7
      have SMg : ∀ Y, Y = flN m (liB t) → sameR (mkB (T ++ liB t)) (mkB (Y ++ T)) = (true, 0) := fun Y hY => by
        have ly : Y.length = t.size := by
          rw [hY]; unfold flN; split
          · simp only [flL, List.length_map]; exact li_size t
          · exact li_size t
        have wy : wordL Y := by rw [hY]; exact wordL_flN m HW.out
        rw [sameR_ok (okW_of (wordL_append W1.out HW.out) (by rw [List.length_append, L1.out, li_size]; have := H7.out; omega)) (okW_of (wordL_append wy W1.out) (by rw [List.length_append, L1.out, ly]; have := H7.out; omega))]
        unfold sameP
        rw [decide_eq_true ⟨by rw [hY]; exact HP1.out, by rw [hY]; exact HP2.out⟩]
      have hm2 : n % 2 = ((m % 2 : Nat) : Int) := by omega
      rcases (show m % 2 = 1 ∨ m % 2 = 0 by omega) with hp | hp
      · have h1 : bits .and .i64 n 1 = 1 := by rw [i64_and1, hm2, hp]; rfl
        have SMH := Lib.hid (SMg (flL (liB t)) (by unfold flN; rw [if_pos hp]))
        have hly : (flL (liB t)).length = t.size := by simp only [flL, List.length_map]; exact li_size t
        have LYH := Lib.hid hly
        have OYH := Lib.hid (okW_of (wordL_fl HW.out) (by rw [hly]; exact h60))
        clear SMg hm2 hp hmod hly
        go_wp2_with fail
        with_reducible refine (flip_any t _ HT.out).mono ?_
        rintro _ w7 ⟨rfl, hb7⟩
        have HB7 := Lib.hid (below_trans' HB6.out hb7)
        clear hb7
        unfold ansW
        rw [ansB_ok HO.out, ansE_ok HO.out]
        obtain ⟨Y, hY⟩ : ∃ Y, flL (liB t) = Y := ⟨_, rfl⟩
        rw [hY] at SMH LYH OYH ⊢
        have SM := SMH
        have LY := LYH
        have OY := OYH
        clear hY SMH LYH OYH
        go_wp2_with fail
        with_reducible refine (join_any (mkB Y) (mkB T) _ (by rw [size_mk, LY.out]; exact HT.out) (by rw [size_mk, L1.out]; have := HM7.out; omega)).mono ?_
        rintro _ w8 ⟨rfl, hb8⟩
        have HB8 := Lib.hid (below_trans' HB7.out hb8)
        clear hb8
        rw [joinR_ok OY.out O1.out (by show ¬ 60 < Y.length + T.length; rw [L1.out, LY.out]; have := H7.out; omega), show liB (mkB Y) ++ liB (mkB T) = Y ++ T from rfl]
        go_wp2_with fail
        with_reducible refine (same_any (mkB (T ++ liB t)) (mkB (Y ++ T)) _ (HM.out.below HP.out HB8.out) (by rw [size_mk, List.length_append, L1.out, li_size]; have := H7.out; omega) (by rw [size_mk, List.length_append, L1.out, LY.out]; have := H7.out; omega)).mono ?_
        rintro _ w9 ⟨rfl, hb9⟩
        rw [SM.out]
        have HB9 := Lib.hid (below_trans' HB8.out hb9)
        clear hb9
        go_wp2_with fail
        with_reducible refine (isTwist_any (mkB T) _ (HM.out.below HP.out HB9.out) (by rw [size_mk, L1.out]; have := HM7.out; omega)).mono ?_
        rintro r w10 ⟨hb10, hr⟩
        obtain rfl := hr.ok O1.out HTW.out
        rw [show ([] : List UInt8).isEmpty = true from rfl]
        have HB10 := Lib.hid (below_trans' HB9.out hb10)
        clear hb10 hr
        go_wp2_with fail
        with_reducible refine (known_any _ (HM.out.below HP.out HB10.out)).mono ?_
        rintro _ wk ⟨rfl, hbk⟩
        have HBK := Lib.hid (below_trans' HB10.out hbk)
        clear hbk
        go_wp2_with fail
        go_ret
        exact ⟨rfl, HBK.out⟩
      · have h1 : bits .and .i64 n 1 = 0 := by rw [i64_and1, hm2, hp]; rfl
        have SM := Lib.hid (SMg (liB t) (by unfold flN; rw [if_neg (by omega)]))
        have LY := Lib.hid (li_size t)
        have OY : Hid (okW (mkB (liB t)) = true) := Lib.hid (okW_of HW.out (by rw [li_size]; exact h60))
        clear SMg hm2 hp hmod
        go_wp2_with fail
        with_reducible refine (join_any t (mkB T) _ HT.out (by rw [size_mk, L1.out]; have := HM7.out; omega)).mono ?_
        rintro _ w8 ⟨rfl, hb8⟩
        have HB8 := Lib.hid (below_trans' HB6.out hb8)
        clear hb8
        rw [joinR_ok HO.out O1.out (by show ¬ 60 < t.size + T.length; rw [L1.out]; have := H7.out; omega), show liB t ++ liB (mkB T) = liB t ++ T from rfl]
        go_wp2_with fail
        with_reducible refine (same_any (mkB (T ++ liB t)) (mkB (liB t ++ T)) _ (HM.out.below HP.out HB8.out) (by rw [size_mk, List.length_append, L1.out, li_size]; have := H7.out; omega) (by rw [size_mk, List.length_append, L1.out, LY.out]; have := H7.out; omega)).mono ?_
        rintro _ w9 ⟨rfl, hb9⟩
        rw [SM.out]
        have HB9 := Lib.hid (below_trans' HB8.out hb9)
        clear hb9
        go_wp2_with fail
        with_reducible refine (isTwist_any (mkB T) _ (HM.out.below HP.out HB9.out) (by rw [size_mk, L1.out]; have := HM7.out; omega)).mono ?_
        rintro r w10 ⟨hb10, hr⟩
        obtain rfl := hr.ok O1.out HTW.out
        rw [show ([] : List UInt8).isEmpty = true from rfl]
        have HB10 := Lib.hid (below_trans' HB9.out hb10)
        clear hb10 hr
        go_wp2_with fail
        with_reducible refine (known_any _ (HM.out.below HP.out HB10.out)).mono ?_
        rintro _ wk ⟨rfl, hbk⟩
        have HBK := Lib.hid (below_trans' HB10.out hbk)
        clear hbk
        go_wp2_with fail
        go_ret
        exact ⟨rfl, HBK.out⟩
  · with_reducible refine (isTwist_any t _ HM.out HT.out).mono ?_
    rintro r w3 ⟨hb3, hr⟩
    obtain rfl := hr.no hno
    have HB3 := Lib.hid hb3
    have HO := Lib.hid hno
    clear hb3 hr hno
    go_wp2_with fail
    with_reducible refine (refIsTwist_any t _ HT.out).mono ?_
    rintro r w4 ⟨hb4, hr⟩
    obtain rfl := hr.no HO.out
    have HB4 := Lib.hid (below_trans' HB3.out hb4)
    clear hb4 hr
    go_wp2_with fail
    rw [HMB.out]
    with_reducible refine (power_any (mkB [97, 98, 97]) (m : Int) _ (by decide)).mono ?_
    rintro _ w5 ⟨rfl, hb5⟩
    rw [pow_half HM7.out]
    have HB5 := Lib.hid (below_trans' HB4.out hb5)
    have L1 := Lib.hid (twW_len m)
    clear hb5
    generalize twW m = T at L1 ⊢
    go_wp2_with fail
    with_reducible refine (join_any (mkB T) t _ (by rw [size_mk, L1.out]; have := HM7.out; omega) HT.out).mono ?_
    rintro _ w6 ⟨rfl, hb6⟩
    rw [joinR_no2 HO.out]
    have HB6 := Lib.hid (below_trans' HB5.out hb6)
    clear hb6
    rcases (show n % 2 = 1 ∨ n % 2 = 0 by omega) with hp | hp
    · have h1 : bits .and .i64 n 1 = 1 := by rw [i64_and1]; exact hp
      go_wp2_with fail
      with_reducible refine (flip_any t _ HT.out).mono ?_
      rintro _ w7 ⟨rfl, hb7⟩
      have HB7 := Lib.hid (below_trans' HB6.out hb7)
      clear hb7
      unfold ansW
      rw [ansB_no HO.out, ansE_no HO.out]
      go_wp2_with fail
      with_reducible refine (join_any (mkB []) (mkB T) _ (by rw [size_mk]; decide) (by rw [size_mk, L1.out]; have := HM7.out; omega)).mono ?_
      rintro _ w8 ⟨rfl, hb8⟩
      have HB8 := Lib.hid (below_trans' HB7.out hb8)
      clear hb8
      generalize joinR (mkB []) (mkB T) = J
      go_wp2_with fail
      with_reducible refine (known_any _ (HM.out.below HP.out HB8.out)).mono ?_
      rintro _ wk ⟨rfl, hbk⟩
      have HBK := Lib.hid (below_trans' HB8.out hbk)
      clear hbk
      go_wp2_with fail
      go_ret
      exact ⟨rfl, HBK.out⟩
    · have h1 : bits .and .i64 n 1 = 0 := by rw [i64_and1]; exact hp
      go_wp2_with fail
      with_reducible refine (join_any t (mkB T) _ HT.out (by rw [size_mk, L1.out]; have := HM7.out; omega)).mono ?_
      rintro _ w8 ⟨rfl, hb8⟩
      have HB8 := Lib.hid (below_trans' HB6.out hb8)
      clear hb8
      generalize joinR t (mkB T) = J
      go_wp2_with fail
      with_reducible refine (known_any _ (HM.out.below HP.out HB8.out)).mono ?_
      rintro _ wk ⟨rfl, hbk⟩
      have HBK := Lib.hid (below_trans' HB8.out hbk)
      clear hbk
      go_wp2_with fail
      go_ret
      exact ⟨rfl, HBK.out⟩
end Go.Proofs.YtgkgloafjhiakaaDoor

namespace Go.Proofs.YtgkgloafjhiakaaDoor
open Go.RowKit Go.Sort

set_option maxRecDepth 100000 in
set_option maxHeartbeats 16000000 in
theorem topPlaits_any (t s0 : ByteArray) (A : Option Addr) (n c : Nat) (l : List (Int × Int)) (w : World) (hm : MX w) (hr : Reads w w.heap.size 2 A n (plcs l)) (_hn : n ≤ 9223372036854775807) : Calls Tryd.prog 16 #[.string t, .string s0, .slice A n c] w fun r w' => r = .returned (.bool true) ∧ Below w.heap.size w w' := by
  have HM := Lib.hid hm
  have HP := Lib.hid hm.lt
  have HRD := Lib.hid hr
  clear hm hr
  obtain ⟨s, rfl⟩ : ∃ s, s0 = mkB s := ⟨liB s0, (mk_li s0).symm⟩
  have hss := size_mk s
  go_enter Tryd.func16, Tryd.ntmps16
  go_wp2_with fail
  with_reducible refine (same_any (mkB [97, 98, 97]) (mkB [98, 97, 98]) _ HM.out (by decide) (by decide)).mono ?_
  rintro _ w1 ⟨rfl, hb1⟩
  rw [show sameR (mkB [97, 98, 97]) (mkB [98, 97, 98]) = (true, 0) by rw [sameR_ok (by decide) (by decide)]; unfold sameP; rw [decide_eq_true (by decide)]]
  have HB1 := Lib.hid hb1
  clear hb1
  by_cases g1 : 200 < t.size
  · go_wp2_with fail
    go_ret
    exact ⟨rfl, HB1.out⟩
  by_cases g2 : 2000 < s.length
  · go_wp2_with fail
    go_ret
    exact ⟨rfl, HB1.out⟩
  by_cases g3 : 60 < n
  · go_wp2_with fail
    go_ret
    exact ⟨rfl, HB1.out⟩
  have HT := Lib.hid (show t.size ≤ 1000000 by omega)
  go_wp2_with fail
  with_reducible refine (parseE_any s _ (by omega)).mono ?_
  rintro _ w2 ⟨rfl, hb2⟩
  have HB2 := Lib.hid (below_trans' HB1.out hb2)
  clear hb2
  obtain ⟨P, hp⟩ : ∃ P, pStyle s = P := ⟨_, rfl⟩
  rw [hp]
  have HPX := Lib.hid hp
  clear hp
  obtain ⟨u, F⟩ := P
  by_cases e1 : F = 0
  · subst e1
    obtain ⟨_, _, wu, lu⟩ := pStyle_ok HPX.out
    have OU := Lib.hid (okW_of wu lu)
    have HWU := Lib.hid wu
    have husz := size_mk u
    clear wu
    go_wp2_with fail
    with_reducible refine (normalE_any (mkB u) _ (HM.out.below HP.out HB2.out) (by omega)).mono ?_
    rintro _ w3 ⟨hb, ⟨hno, _⟩ | ⟨_, k, p, rfl, hn1⟩⟩
    · rw [OU.out] at hno; cases hno
    have HB3 := Lib.hid (below_trans' HB2.out hb)
    clear hb
    have hk1 := hn1.high
    have hk2 := hn1.form.low
    have hk3 := hn1.form.len
    rw [show liB (mkB u) = u from rfl] at hk1 hk2 hk3 hn1
    have HN1 := Lib.hid hn1
    clear hn1
    go_wp2_with fail
    with_reducible refine (mirror_any (mkB u) _ (by omega)).mono ?_
    rintro _ w4 ⟨rfl, hb⟩
    rw [ansW_ok OU.out, show liB (mkB u) = u from rfl]
    have HB4 := Lib.hid (below_trans' HB3.out hb)
    have HMO : Hid (okW (mkB (miL u)) = true) := Lib.hid (okW_of (wordL_mi HWU.out) (by simp only [miL, List.length_map]; exact lu))
    clear hb
    go_wp2_with fail
    with_reducible refine (normalE_any (mkB (miL u)) _ (HM.out.below HP.out HB4.out) (by rw [size_mk]; simp only [miL, List.length_map]; omega)).mono ?_
    rintro _ w5 ⟨hb, ⟨hno, _⟩ | ⟨_, m, q, rfl, hn2⟩⟩
    · rw [HMO.out] at hno; cases hno
    have HB5 := Lib.hid (below_trans' HB4.out hb)
    clear hb
    rw [show liB (mkB (miL u)) = miL u from rfl] at hn2
    have hps := size_mk p
    have hqs := size_mk q
    cases p with
    | nil =>
      obtain ⟨rfl, rfl⟩ := Nf.unique hn2 (nf_mirror_nil HWU.out HN1.out)
      clear hn2
      generalize miL u = mu
      have HBB := Lib.hid (HB5.out)
      go_wp2_with fail
      with_reducible refine (valid_any t _ HT.out).mono ?_
      rintro _ wb1 ⟨rfl, hb⟩
      have HB1 := Lib.hid (below_trans' HBB.out hb)
      clear hb
      rcases Bool.eq_false_or_eq_true (okW t) with hok | hno
      · rw [hok]
        have HO := Lib.hid hok
        have HWT := Lib.hid (okW_iff.1 hok).2
        have h60 := (okW_iff.1 hok).1
        clear hok
        go_wp2_with fail
        with_reducible refine (changes_any t A n c l _ (HM.out.below HP.out HB1.out) (HRD.out.on HB1.out) (by omega)).mono ?_
        rintro _ wb2 ⟨rfl, hb⟩
        have HB2 := Lib.hid (below_trans' HB1.out hb)
        clear hb
        go_wp2_with fail
        with_reducible refine (sames_any t (mkB [97, 98, 65, 66]) _ (HM.out.below HP.out HB2.out)).mono ?_
        rintro _ wb3 ⟨rfl, hb⟩
        have HB3 := Lib.hid (below_trans' HB2.out hb)
        clear hb
        go_wp2_with fail
        with_reducible refine (inverse_any t _ HT.out).mono ?_
        rintro _ wb4 ⟨rfl, hb⟩
        rw [ansW_ok HO.out, show inL (liB t) = (miL (liB t)).reverse from rfl]
        have HB4 := Lib.hid (below_trans' HB3.out hb)
        clear hb
        go_wp2_with fail
        with_reducible refine (mirror_any t _ HT.out).mono ?_
        rintro _ wb5 ⟨rfl, hb⟩
        rw [ansW_ok HO.out]
        have HB5 := Lib.hid (below_trans' HB4.out hb)
        have hml : (miL (liB t)).length = t.size := by simp only [miL, List.length_map]; exact li_size t
        clear hb
        generalize miL (liB t) = M at hml ⊢
        have hms := size_mk M
        go_wp2_with fail
        go_loopw [23, 24] (fun v i wr => ∃ j : Nat, j ≤ M.length ∧ i = .int .i64 j ∧ v = .string (mkB (M.take j).reverse) ∧ wr = wb5) (fun _ i _ => M.length - (intOf i).toNat)
        case atStart => exact ⟨0, by omega, rfl, rfl, rfl⟩
        case round =>
          obtain ⟨j, hj, rfl, rfl, rfl⟩ := hrel
          by_cases hlt : j < M.length
          · have hlt2 : j < (mkB M).size := hlt
            have hs1 := slice1 hlt2
            have hget : (mkB M)[j] = M[j] := rfl
            rw [hget] at hs1
            have htk : (M.take (j + 1)).reverse = M[j] :: (M.take j).reverse := by rw [List.take_succ_eq_append_getElem hlt, List.reverse_append]; rfl
            have hap := mk_append [M[j]] (M.take j).reverse
            have hrl : ((M.take j).reverse).length ≤ 60 := by rw [List.length_reverse, List.length_take]; omega
            have hrs := size_mk (M.take j).reverse
            rw [show [M[j]] ++ (M.take j).reverse = (M.take (j + 1)).reverse by rw [htk]; rfl] at hap
            clear htk hget
            generalize M[j] = d at hs1 hap
            generalize (M.take j).reverse = R at hap hrl hrs ⊢
            generalize hR2 : (M.take (j + 1)).reverse = R2 at hap
            have HR2 := Lib.hid hR2
            clear hR2
            go_wp2_with fail
            go_roundw
            case rel => exact ⟨j + 1, by omega, by go_num, by rw [HR2.out], trivial⟩
            case measure => simp [intOf]; omega
          · obtain rfl : j = M.length := by omega
            rw [List.take_length]
            go_wp2_with fail
            with_reducible refine (normalE_any t _ (HM.out.below HP.out HB5.out) HT.out).mono ?_
            rintro _ wb6 ⟨hb, ⟨hno, _⟩ | ⟨_, k2, p2, rfl, hn2⟩⟩
            · rw [HO.out] at hno; cases hno
            have HB6 := Lib.hid (below_trans' HB5.out hb)
            have HN2 := Lib.hid hn2
            have HF2 := Lib.hid (nf_flip HWT.out hn2)
            have hpl := hn2.form.len
            rw [li_size] at hpl
            have hp120 : p2.length ≤ 120 := by omega
            have hps2 := size_mk p2
            clear hb hn2 hpl
            go_wp2_with fail
            with_reducible refine (isTwist_any t _ (HM.out.below HP.out HB6.out) HT.out).mono ?_
            rintro r wb7 ⟨hb, hr⟩
            obtain rfl := hr.ok HO.out HN2.out
            have HB7 := Lib.hid (below_trans' HB6.out hb)
            clear hb hr
            go_wp2_with fail
            with_reducible refine (flip_any t _ HT.out).mono ?_
            rintro _ wb8 ⟨rfl, hb⟩
            rw [ansW_ok HO.out]
            have HB8 := Lib.hid (below_trans' HB7.out hb)
            have HFO : Hid (okW (mkB (flL (liB t))) = true) := Lib.hid (okW_of (wordL_fl HWT.out) (by simp only [flL, List.length_map]; rw [li_size]; exact h60))
            have HFL : Hid ((mkB (flL (liB t))).size ≤ 1000000) := Lib.hid (by rw [size_mk]; simp only [flL, List.length_map]; rw [li_size]; exact HT.out)
            clear hb
            obtain ⟨FL, hFL⟩ : ∃ F, flL (liB t) = F := ⟨_, rfl⟩
            rw [hFL] at HF2 HFO HFL ⊢
            clear hFL
            go_wp2_with fail
            with_reducible refine (normalE_any (mkB FL) _ (HM.out.below HP.out HB8.out) HFL.out).mono ?_
            rintro _ wb9 ⟨hb, ⟨hno, _⟩ | ⟨_, k3, p3, rfl, hn3⟩⟩
            · rw [HFO.out] at hno; cases hno
            have HB9 := Lib.hid (below_trans' HB8.out hb)
            obtain ⟨rfl, rfl⟩ := Nf.unique hn3 HF2.out
            have HP2 := Lib.hid HN2.out.form.pos
            clear hb hn3
            go_wp2_with fail
            go_loopw [35, 36] (fun v i wr => ∃ j : Nat, j ≤ p2.length ∧ i = .int .i64 j ∧ v = .string (mkB (flL (p2.take j))) ∧ wr = wb9) (fun _ i _ => p2.length - (intOf i).toNat)
            case atStart => exact ⟨0, by omega, rfl, rfl, rfl⟩
            case round =>
              obtain ⟨j, hj, rfl, rfl, rfl⟩ := hrel
              by_cases hlt3 : j < p2.length
              · have hlt2 : j < (mkB p2).size := hlt3
                have hget : (mkB p2)[j] = p2[j] := rfl
                have hpj := HP2.out p2[j] (List.getElem_mem hlt3)
                have htk : flL (p2.take (j + 1)) = flL (p2.take j) ++ [p2[j] ^^^ 3] := by rw [List.take_succ_eq_append_getElem hlt3]; unfold flL; rw [List.map_append]; rfl
                have hrl : (flL (p2.take j)).length ≤ 120 := by simp only [flL, List.length_map, List.length_take]; omega
                have hrs := size_mk (flL (p2.take j))
                generalize hcc : p2[j] = d at hget hpj htk
                have HTK := Lib.hid htk
                clear hcc htk
                generalize flL (p2.take j) = R at HTK hrl hrs ⊢
                rcases hpj with rfl | rfl
                · have XN : ((mkB p2)[j]).toNat = 97 := by rw [hget]; rfl
                  have hap : mkB R ++ ({ data := #[98] } : ByteArray) = mkB (R ++ [98]) := mk_append R [98]
                  clear hget
                  go_wp2_with fail
                  go_roundw
                  case rel => exact ⟨j + 1, by omega, by go_num, by rw [HTK.out]; rfl, trivial⟩
                  case measure => simp [intOf]; omega
                · have XN : ((mkB p2)[j]).toNat = 98 := by rw [hget]; rfl
                  have hap : mkB R ++ ({ data := #[97] } : ByteArray) = mkB (R ++ [97]) := mk_append R [97]
                  clear hget
                  go_wp2_with fail
                  go_roundw
                  case rel => exact ⟨j + 1, by omega, by go_num, by rw [HTK.out]; rfl, trivial⟩
                  case measure => simp [intOf]; omega
              · obtain rfl : j = p2.length := by omega
                rw [List.take_length]
                cases p2 with
                | nil =>
                  go_wp2_with fail
                  go_ret
                  exact ⟨rfl, HB9.out⟩
                | cons d p4 =>
                  have hem : (d :: p4).isEmpty = false := rfl
                  generalize flL (d :: p4) = FP
                  go_wp2_with fail
                  go_ret
                  exact ⟨rfl, HB9.out⟩
      · rw [hno]
        go_wp2_with fail
        go_ret
        exact ⟨rfl, HB1.out⟩
    | cons x p =>
      have hkk : 0 < k → m < 0 := fun h => nf_mirror_neg HWU.out HN1.out hn2 h
      clear hn2
      have b1 : decide ((0 : Int) < (((x :: p).length : Nat) : Int)) = true := decide_eq_true (by rw [List.length_cons]; omega)
      have b0 : 0 < (x :: p).length := by rw [List.length_cons]; omega
      have b2 : ((((x :: p).length : Nat) : Int) == 0) = false := beq_false_of_ne (by rw [List.length_cons]; omega)
      generalize x :: p = pp at b0 b1 b2 hps hk3
      generalize miL u = mu
      by_cases hm0 : 0 ≤ m
      · have hk0 : ¬ 0 < k := fun h => by have := hkk h; omega
        clear hkk
        have HBB := Lib.hid (HB5.out)
        go_wp2_with fail
        with_reducible refine (valid_any t _ HT.out).mono ?_
        rintro _ wb1 ⟨rfl, hb⟩
        have HB1 := Lib.hid (below_trans' HBB.out hb)
        clear hb
        rcases Bool.eq_false_or_eq_true (okW t) with hok | hno
        · rw [hok]
          have HO := Lib.hid hok
          have HWT := Lib.hid (okW_iff.1 hok).2
          have h60 := (okW_iff.1 hok).1
          clear hok
          go_wp2_with fail
          with_reducible refine (changes_any t A n c l _ (HM.out.below HP.out HB1.out) (HRD.out.on HB1.out) (by omega)).mono ?_
          rintro _ wb2 ⟨rfl, hb⟩
          have HB2 := Lib.hid (below_trans' HB1.out hb)
          clear hb
          go_wp2_with fail
          with_reducible refine (sames_any t (mkB [97, 98, 65, 66]) _ (HM.out.below HP.out HB2.out)).mono ?_
          rintro _ wb3 ⟨rfl, hb⟩
          have HB3 := Lib.hid (below_trans' HB2.out hb)
          clear hb
          go_wp2_with fail
          with_reducible refine (inverse_any t _ HT.out).mono ?_
          rintro _ wb4 ⟨rfl, hb⟩
          rw [ansW_ok HO.out, show inL (liB t) = (miL (liB t)).reverse from rfl]
          have HB4 := Lib.hid (below_trans' HB3.out hb)
          clear hb
          go_wp2_with fail
          with_reducible refine (mirror_any t _ HT.out).mono ?_
          rintro _ wb5 ⟨rfl, hb⟩
          rw [ansW_ok HO.out]
          have HB5 := Lib.hid (below_trans' HB4.out hb)
          have hml : (miL (liB t)).length = t.size := by simp only [miL, List.length_map]; exact li_size t
          clear hb
          generalize miL (liB t) = M at hml ⊢
          have hms := size_mk M
          go_wp2_with fail
          go_loopw [23, 24] (fun v i wr => ∃ j : Nat, j ≤ M.length ∧ i = .int .i64 j ∧ v = .string (mkB (M.take j).reverse) ∧ wr = wb5) (fun _ i _ => M.length - (intOf i).toNat)
          case atStart => exact ⟨0, by omega, rfl, rfl, rfl⟩
          case round =>
            obtain ⟨j, hj, rfl, rfl, rfl⟩ := hrel
            by_cases hlt : j < M.length
            · have hlt2 : j < (mkB M).size := hlt
              have hs1 := slice1 hlt2
              have hget : (mkB M)[j] = M[j] := rfl
              rw [hget] at hs1
              have htk : (M.take (j + 1)).reverse = M[j] :: (M.take j).reverse := by rw [List.take_succ_eq_append_getElem hlt, List.reverse_append]; rfl
              have hap := mk_append [M[j]] (M.take j).reverse
              have hrl : ((M.take j).reverse).length ≤ 60 := by rw [List.length_reverse, List.length_take]; omega
              have hrs := size_mk (M.take j).reverse
              rw [show [M[j]] ++ (M.take j).reverse = (M.take (j + 1)).reverse by rw [htk]; rfl] at hap
              clear htk hget
              generalize M[j] = d at hs1 hap
              generalize (M.take j).reverse = R at hap hrl hrs ⊢
              generalize hR2 : (M.take (j + 1)).reverse = R2 at hap
              have HR2 := Lib.hid hR2
              clear hR2
              go_wp2_with fail
              go_roundw
              case rel => exact ⟨j + 1, by omega, by go_num, by rw [HR2.out], trivial⟩
              case measure => simp [intOf]; omega
            · obtain rfl : j = M.length := by omega
              rw [List.take_length]
              go_wp2_with fail
              with_reducible refine (normalE_any t _ (HM.out.below HP.out HB5.out) HT.out).mono ?_
              rintro _ wb6 ⟨hb, ⟨hno, _⟩ | ⟨_, k2, p2, rfl, hn2⟩⟩
              · rw [HO.out] at hno; cases hno
              have HB6 := Lib.hid (below_trans' HB5.out hb)
              have HN2 := Lib.hid hn2
              have HF2 := Lib.hid (nf_flip HWT.out hn2)
              have hpl := hn2.form.len
              rw [li_size] at hpl
              have hp120 : p2.length ≤ 120 := by omega
              have hps2 := size_mk p2
              clear hb hn2 hpl
              go_wp2_with fail
              with_reducible refine (isTwist_any t _ (HM.out.below HP.out HB6.out) HT.out).mono ?_
              rintro r wb7 ⟨hb, hr⟩
              obtain rfl := hr.ok HO.out HN2.out
              have HB7 := Lib.hid (below_trans' HB6.out hb)
              clear hb hr
              go_wp2_with fail
              with_reducible refine (flip_any t _ HT.out).mono ?_
              rintro _ wb8 ⟨rfl, hb⟩
              rw [ansW_ok HO.out]
              have HB8 := Lib.hid (below_trans' HB7.out hb)
              have HFO : Hid (okW (mkB (flL (liB t))) = true) := Lib.hid (okW_of (wordL_fl HWT.out) (by simp only [flL, List.length_map]; rw [li_size]; exact h60))
              have HFL : Hid ((mkB (flL (liB t))).size ≤ 1000000) := Lib.hid (by rw [size_mk]; simp only [flL, List.length_map]; rw [li_size]; exact HT.out)
              clear hb
              obtain ⟨FL, hFL⟩ : ∃ F, flL (liB t) = F := ⟨_, rfl⟩
              rw [hFL] at HF2 HFO HFL ⊢
              clear hFL
              go_wp2_with fail
              with_reducible refine (normalE_any (mkB FL) _ (HM.out.below HP.out HB8.out) HFL.out).mono ?_
              rintro _ wb9 ⟨hb, ⟨hno, _⟩ | ⟨_, k3, p3, rfl, hn3⟩⟩
              · rw [HFO.out] at hno; cases hno
              have HB9 := Lib.hid (below_trans' HB8.out hb)
              obtain ⟨rfl, rfl⟩ := Nf.unique hn3 HF2.out
              have HP2 := Lib.hid HN2.out.form.pos
              clear hb hn3
              go_wp2_with fail
              go_loopw [35, 36] (fun v i wr => ∃ j : Nat, j ≤ p2.length ∧ i = .int .i64 j ∧ v = .string (mkB (flL (p2.take j))) ∧ wr = wb9) (fun _ i _ => p2.length - (intOf i).toNat)
              case atStart => exact ⟨0, by omega, rfl, rfl, rfl⟩
              case round =>
                obtain ⟨j, hj, rfl, rfl, rfl⟩ := hrel
                by_cases hlt3 : j < p2.length
                · have hlt2 : j < (mkB p2).size := hlt3
                  have hget : (mkB p2)[j] = p2[j] := rfl
                  have hpj := HP2.out p2[j] (List.getElem_mem hlt3)
                  have htk : flL (p2.take (j + 1)) = flL (p2.take j) ++ [p2[j] ^^^ 3] := by rw [List.take_succ_eq_append_getElem hlt3]; unfold flL; rw [List.map_append]; rfl
                  have hrl : (flL (p2.take j)).length ≤ 120 := by simp only [flL, List.length_map, List.length_take]; omega
                  have hrs := size_mk (flL (p2.take j))
                  generalize hcc : p2[j] = d at hget hpj htk
                  have HTK := Lib.hid htk
                  clear hcc htk
                  generalize flL (p2.take j) = R at HTK hrl hrs ⊢
                  rcases hpj with rfl | rfl
                  · have XN : ((mkB p2)[j]).toNat = 97 := by rw [hget]; rfl
                    have hap : mkB R ++ ({ data := #[98] } : ByteArray) = mkB (R ++ [98]) := mk_append R [98]
                    clear hget
                    go_wp2_with fail
                    go_roundw
                    case rel => exact ⟨j + 1, by omega, by go_num, by rw [HTK.out]; rfl, trivial⟩
                    case measure => simp [intOf]; omega
                  · have XN : ((mkB p2)[j]).toNat = 98 := by rw [hget]; rfl
                    have hap : mkB R ++ ({ data := #[97] } : ByteArray) = mkB (R ++ [97]) := mk_append R [97]
                    clear hget
                    go_wp2_with fail
                    go_roundw
                    case rel => exact ⟨j + 1, by omega, by go_num, by rw [HTK.out]; rfl, trivial⟩
                    case measure => simp [intOf]; omega
                · obtain rfl : j = p2.length := by omega
                  rw [List.take_length]
                  cases p2 with
                  | nil =>
                    go_wp2_with fail
                    go_ret
                    exact ⟨rfl, HB9.out⟩
                  | cons d p4 =>
                    have hem : (d :: p4).isEmpty = false := rfl
                    generalize flL (d :: p4) = FP
                    go_wp2_with fail
                    go_ret
                    exact ⟨rfl, HB9.out⟩
        · rw [hno]
          go_wp2_with fail
          go_ret
          exact ⟨rfl, HB1.out⟩
      · clear hkk
        have HBB := Lib.hid (HB5.out)
        go_wp2_with fail
        with_reducible refine (valid_any t _ HT.out).mono ?_
        rintro _ wb1 ⟨rfl, hb⟩
        have HB1 := Lib.hid (below_trans' HBB.out hb)
        clear hb
        rcases Bool.eq_false_or_eq_true (okW t) with hok | hno
        · rw [hok]
          have HO := Lib.hid hok
          have HWT := Lib.hid (okW_iff.1 hok).2
          have h60 := (okW_iff.1 hok).1
          clear hok
          go_wp2_with fail
          with_reducible refine (changes_any t A n c l _ (HM.out.below HP.out HB1.out) (HRD.out.on HB1.out) (by omega)).mono ?_
          rintro _ wb2 ⟨rfl, hb⟩
          have HB2 := Lib.hid (below_trans' HB1.out hb)
          clear hb
          go_wp2_with fail
          with_reducible refine (sames_any t (mkB [97, 98, 65, 66]) _ (HM.out.below HP.out HB2.out)).mono ?_
          rintro _ wb3 ⟨rfl, hb⟩
          have HB3 := Lib.hid (below_trans' HB2.out hb)
          clear hb
          go_wp2_with fail
          with_reducible refine (inverse_any t _ HT.out).mono ?_
          rintro _ wb4 ⟨rfl, hb⟩
          rw [ansW_ok HO.out, show inL (liB t) = (miL (liB t)).reverse from rfl]
          have HB4 := Lib.hid (below_trans' HB3.out hb)
          clear hb
          go_wp2_with fail
          with_reducible refine (mirror_any t _ HT.out).mono ?_
          rintro _ wb5 ⟨rfl, hb⟩
          rw [ansW_ok HO.out]
          have HB5 := Lib.hid (below_trans' HB4.out hb)
          have hml : (miL (liB t)).length = t.size := by simp only [miL, List.length_map]; exact li_size t
          clear hb
          generalize miL (liB t) = M at hml ⊢
          have hms := size_mk M
          go_wp2_with fail
          go_loopw [23, 24] (fun v i wr => ∃ j : Nat, j ≤ M.length ∧ i = .int .i64 j ∧ v = .string (mkB (M.take j).reverse) ∧ wr = wb5) (fun _ i _ => M.length - (intOf i).toNat)
          case atStart => exact ⟨0, by omega, rfl, rfl, rfl⟩
          case round =>
            obtain ⟨j, hj, rfl, rfl, rfl⟩ := hrel
            by_cases hlt : j < M.length
            · have hlt2 : j < (mkB M).size := hlt
              have hs1 := slice1 hlt2
              have hget : (mkB M)[j] = M[j] := rfl
              rw [hget] at hs1
              have htk : (M.take (j + 1)).reverse = M[j] :: (M.take j).reverse := by rw [List.take_succ_eq_append_getElem hlt, List.reverse_append]; rfl
              have hap := mk_append [M[j]] (M.take j).reverse
              have hrl : ((M.take j).reverse).length ≤ 60 := by rw [List.length_reverse, List.length_take]; omega
              have hrs := size_mk (M.take j).reverse
              rw [show [M[j]] ++ (M.take j).reverse = (M.take (j + 1)).reverse by rw [htk]; rfl] at hap
              clear htk hget
              generalize M[j] = d at hs1 hap
              generalize (M.take j).reverse = R at hap hrl hrs ⊢
              generalize hR2 : (M.take (j + 1)).reverse = R2 at hap
              have HR2 := Lib.hid hR2
              clear hR2
              go_wp2_with fail
              go_roundw
              case rel => exact ⟨j + 1, by omega, by go_num, by rw [HR2.out], trivial⟩
              case measure => simp [intOf]; omega
            · obtain rfl : j = M.length := by omega
              rw [List.take_length]
              go_wp2_with fail
              with_reducible refine (normalE_any t _ (HM.out.below HP.out HB5.out) HT.out).mono ?_
              rintro _ wb6 ⟨hb, ⟨hno, _⟩ | ⟨_, k2, p2, rfl, hn2⟩⟩
              · rw [HO.out] at hno; cases hno
              have HB6 := Lib.hid (below_trans' HB5.out hb)
              have HN2 := Lib.hid hn2
              have HF2 := Lib.hid (nf_flip HWT.out hn2)
              have hpl := hn2.form.len
              rw [li_size] at hpl
              have hp120 : p2.length ≤ 120 := by omega
              have hps2 := size_mk p2
              clear hb hn2 hpl
              go_wp2_with fail
              with_reducible refine (isTwist_any t _ (HM.out.below HP.out HB6.out) HT.out).mono ?_
              rintro r wb7 ⟨hb, hr⟩
              obtain rfl := hr.ok HO.out HN2.out
              have HB7 := Lib.hid (below_trans' HB6.out hb)
              clear hb hr
              go_wp2_with fail
              with_reducible refine (flip_any t _ HT.out).mono ?_
              rintro _ wb8 ⟨rfl, hb⟩
              rw [ansW_ok HO.out]
              have HB8 := Lib.hid (below_trans' HB7.out hb)
              have HFO : Hid (okW (mkB (flL (liB t))) = true) := Lib.hid (okW_of (wordL_fl HWT.out) (by simp only [flL, List.length_map]; rw [li_size]; exact h60))
              have HFL : Hid ((mkB (flL (liB t))).size ≤ 1000000) := Lib.hid (by rw [size_mk]; simp only [flL, List.length_map]; rw [li_size]; exact HT.out)
              clear hb
              obtain ⟨FL, hFL⟩ : ∃ F, flL (liB t) = F := ⟨_, rfl⟩
              rw [hFL] at HF2 HFO HFL ⊢
              clear hFL
              go_wp2_with fail
              with_reducible refine (normalE_any (mkB FL) _ (HM.out.below HP.out HB8.out) HFL.out).mono ?_
              rintro _ wb9 ⟨hb, ⟨hno, _⟩ | ⟨_, k3, p3, rfl, hn3⟩⟩
              · rw [HFO.out] at hno; cases hno
              have HB9 := Lib.hid (below_trans' HB8.out hb)
              obtain ⟨rfl, rfl⟩ := Nf.unique hn3 HF2.out
              have HP2 := Lib.hid HN2.out.form.pos
              clear hb hn3
              go_wp2_with fail
              go_loopw [35, 36] (fun v i wr => ∃ j : Nat, j ≤ p2.length ∧ i = .int .i64 j ∧ v = .string (mkB (flL (p2.take j))) ∧ wr = wb9) (fun _ i _ => p2.length - (intOf i).toNat)
              case atStart => exact ⟨0, by omega, rfl, rfl, rfl⟩
              case round =>
                obtain ⟨j, hj, rfl, rfl, rfl⟩ := hrel
                by_cases hlt3 : j < p2.length
                · have hlt2 : j < (mkB p2).size := hlt3
                  have hget : (mkB p2)[j] = p2[j] := rfl
                  have hpj := HP2.out p2[j] (List.getElem_mem hlt3)
                  have htk : flL (p2.take (j + 1)) = flL (p2.take j) ++ [p2[j] ^^^ 3] := by rw [List.take_succ_eq_append_getElem hlt3]; unfold flL; rw [List.map_append]; rfl
                  have hrl : (flL (p2.take j)).length ≤ 120 := by simp only [flL, List.length_map, List.length_take]; omega
                  have hrs := size_mk (flL (p2.take j))
                  generalize hcc : p2[j] = d at hget hpj htk
                  have HTK := Lib.hid htk
                  clear hcc htk
                  generalize flL (p2.take j) = R at HTK hrl hrs ⊢
                  rcases hpj with rfl | rfl
                  · have XN : ((mkB p2)[j]).toNat = 97 := by rw [hget]; rfl
                    have hap : mkB R ++ ({ data := #[98] } : ByteArray) = mkB (R ++ [98]) := mk_append R [98]
                    clear hget
                    go_wp2_with fail
                    go_roundw
                    case rel => exact ⟨j + 1, by omega, by go_num, by rw [HTK.out]; rfl, trivial⟩
                    case measure => simp [intOf]; omega
                  · have XN : ((mkB p2)[j]).toNat = 98 := by rw [hget]; rfl
                    have hap : mkB R ++ ({ data := #[97] } : ByteArray) = mkB (R ++ [97]) := mk_append R [97]
                    clear hget
                    go_wp2_with fail
                    go_roundw
                    case rel => exact ⟨j + 1, by omega, by go_num, by rw [HTK.out]; rfl, trivial⟩
                    case measure => simp [intOf]; omega
                · obtain rfl : j = p2.length := by omega
                  rw [List.take_length]
                  cases p2 with
                  | nil =>
                    go_wp2_with fail
                    go_ret
                    exact ⟨rfl, HB9.out⟩
                  | cons d p4 =>
                    have hem : (d :: p4).isEmpty = false := rfl
                    generalize flL (d :: p4) = FP
                    go_wp2_with fail
                    go_ret
                    exact ⟨rfl, HB9.out⟩
        · rw [hno]
          go_wp2_with fail
          go_ret
          exact ⟨rfl, HB1.out⟩
  · have e1' : (F == 0) = false := beq_false_of_ne e1
    have HBB := Lib.hid (HB2.out)
    go_wp2_with fail
    with_reducible refine (valid_any t _ HT.out).mono ?_
    rintro _ wb1 ⟨rfl, hb⟩
    have HB1 := Lib.hid (below_trans' HBB.out hb)
    clear hb
    rcases Bool.eq_false_or_eq_true (okW t) with hok | hno
    · rw [hok]
      have HO := Lib.hid hok
      have HWT := Lib.hid (okW_iff.1 hok).2
      have h60 := (okW_iff.1 hok).1
      clear hok
      go_wp2_with fail
      with_reducible refine (changes_any t A n c l _ (HM.out.below HP.out HB1.out) (HRD.out.on HB1.out) (by omega)).mono ?_
      rintro _ wb2 ⟨rfl, hb⟩
      have HB2 := Lib.hid (below_trans' HB1.out hb)
      clear hb
      go_wp2_with fail
      with_reducible refine (sames_any t (mkB [97, 98, 65, 66]) _ (HM.out.below HP.out HB2.out)).mono ?_
      rintro _ wb3 ⟨rfl, hb⟩
      have HB3 := Lib.hid (below_trans' HB2.out hb)
      clear hb
      go_wp2_with fail
      with_reducible refine (inverse_any t _ HT.out).mono ?_
      rintro _ wb4 ⟨rfl, hb⟩
      rw [ansW_ok HO.out, show inL (liB t) = (miL (liB t)).reverse from rfl]
      have HB4 := Lib.hid (below_trans' HB3.out hb)
      clear hb
      go_wp2_with fail
      with_reducible refine (mirror_any t _ HT.out).mono ?_
      rintro _ wb5 ⟨rfl, hb⟩
      rw [ansW_ok HO.out]
      have HB5 := Lib.hid (below_trans' HB4.out hb)
      have hml : (miL (liB t)).length = t.size := by simp only [miL, List.length_map]; exact li_size t
      clear hb
      generalize miL (liB t) = M at hml ⊢
      have hms := size_mk M
      go_wp2_with fail
      go_loopw [23, 24] (fun v i wr => ∃ j : Nat, j ≤ M.length ∧ i = .int .i64 j ∧ v = .string (mkB (M.take j).reverse) ∧ wr = wb5) (fun _ i _ => M.length - (intOf i).toNat)
      case atStart => exact ⟨0, by omega, rfl, rfl, rfl⟩
      case round =>
        obtain ⟨j, hj, rfl, rfl, rfl⟩ := hrel
        by_cases hlt : j < M.length
        · have hlt2 : j < (mkB M).size := hlt
          have hs1 := slice1 hlt2
          have hget : (mkB M)[j] = M[j] := rfl
          rw [hget] at hs1
          have htk : (M.take (j + 1)).reverse = M[j] :: (M.take j).reverse := by rw [List.take_succ_eq_append_getElem hlt, List.reverse_append]; rfl
          have hap := mk_append [M[j]] (M.take j).reverse
          have hrl : ((M.take j).reverse).length ≤ 60 := by rw [List.length_reverse, List.length_take]; omega
          have hrs := size_mk (M.take j).reverse
          rw [show [M[j]] ++ (M.take j).reverse = (M.take (j + 1)).reverse by rw [htk]; rfl] at hap
          clear htk hget
          generalize M[j] = d at hs1 hap
          generalize (M.take j).reverse = R at hap hrl hrs ⊢
          generalize hR2 : (M.take (j + 1)).reverse = R2 at hap
          have HR2 := Lib.hid hR2
          clear hR2
          go_wp2_with fail
          go_roundw
          case rel => exact ⟨j + 1, by omega, by go_num, by rw [HR2.out], trivial⟩
          case measure => simp [intOf]; omega
        · obtain rfl : j = M.length := by omega
          rw [List.take_length]
          go_wp2_with fail
          with_reducible refine (normalE_any t _ (HM.out.below HP.out HB5.out) HT.out).mono ?_
          rintro _ wb6 ⟨hb, ⟨hno, _⟩ | ⟨_, k2, p2, rfl, hn2⟩⟩
          · rw [HO.out] at hno; cases hno
          have HB6 := Lib.hid (below_trans' HB5.out hb)
          have HN2 := Lib.hid hn2
          have HF2 := Lib.hid (nf_flip HWT.out hn2)
          have hpl := hn2.form.len
          rw [li_size] at hpl
          have hp120 : p2.length ≤ 120 := by omega
          have hps2 := size_mk p2
          clear hb hn2 hpl
          go_wp2_with fail
          with_reducible refine (isTwist_any t _ (HM.out.below HP.out HB6.out) HT.out).mono ?_
          rintro r wb7 ⟨hb, hr⟩
          obtain rfl := hr.ok HO.out HN2.out
          have HB7 := Lib.hid (below_trans' HB6.out hb)
          clear hb hr
          go_wp2_with fail
          with_reducible refine (flip_any t _ HT.out).mono ?_
          rintro _ wb8 ⟨rfl, hb⟩
          rw [ansW_ok HO.out]
          have HB8 := Lib.hid (below_trans' HB7.out hb)
          have HFO : Hid (okW (mkB (flL (liB t))) = true) := Lib.hid (okW_of (wordL_fl HWT.out) (by simp only [flL, List.length_map]; rw [li_size]; exact h60))
          have HFL : Hid ((mkB (flL (liB t))).size ≤ 1000000) := Lib.hid (by rw [size_mk]; simp only [flL, List.length_map]; rw [li_size]; exact HT.out)
          clear hb
          obtain ⟨FL, hFL⟩ : ∃ F, flL (liB t) = F := ⟨_, rfl⟩
          rw [hFL] at HF2 HFO HFL ⊢
          clear hFL
          go_wp2_with fail
          with_reducible refine (normalE_any (mkB FL) _ (HM.out.below HP.out HB8.out) HFL.out).mono ?_
          rintro _ wb9 ⟨hb, ⟨hno, _⟩ | ⟨_, k3, p3, rfl, hn3⟩⟩
          · rw [HFO.out] at hno; cases hno
          have HB9 := Lib.hid (below_trans' HB8.out hb)
          obtain ⟨rfl, rfl⟩ := Nf.unique hn3 HF2.out
          have HP2 := Lib.hid HN2.out.form.pos
          clear hb hn3
          go_wp2_with fail
          go_loopw [35, 36] (fun v i wr => ∃ j : Nat, j ≤ p2.length ∧ i = .int .i64 j ∧ v = .string (mkB (flL (p2.take j))) ∧ wr = wb9) (fun _ i _ => p2.length - (intOf i).toNat)
          case atStart => exact ⟨0, by omega, rfl, rfl, rfl⟩
          case round =>
            obtain ⟨j, hj, rfl, rfl, rfl⟩ := hrel
            by_cases hlt3 : j < p2.length
            · have hlt2 : j < (mkB p2).size := hlt3
              have hget : (mkB p2)[j] = p2[j] := rfl
              have hpj := HP2.out p2[j] (List.getElem_mem hlt3)
              have htk : flL (p2.take (j + 1)) = flL (p2.take j) ++ [p2[j] ^^^ 3] := by rw [List.take_succ_eq_append_getElem hlt3]; unfold flL; rw [List.map_append]; rfl
              have hrl : (flL (p2.take j)).length ≤ 120 := by simp only [flL, List.length_map, List.length_take]; omega
              have hrs := size_mk (flL (p2.take j))
              generalize hcc : p2[j] = d at hget hpj htk
              have HTK := Lib.hid htk
              clear hcc htk
              generalize flL (p2.take j) = R at HTK hrl hrs ⊢
              rcases hpj with rfl | rfl
              · have XN : ((mkB p2)[j]).toNat = 97 := by rw [hget]; rfl
                have hap : mkB R ++ ({ data := #[98] } : ByteArray) = mkB (R ++ [98]) := mk_append R [98]
                clear hget
                go_wp2_with fail
                go_roundw
                case rel => exact ⟨j + 1, by omega, by go_num, by rw [HTK.out]; rfl, trivial⟩
                case measure => simp [intOf]; omega
              · have XN : ((mkB p2)[j]).toNat = 98 := by rw [hget]; rfl
                have hap : mkB R ++ ({ data := #[97] } : ByteArray) = mkB (R ++ [97]) := mk_append R [97]
                clear hget
                go_wp2_with fail
                go_roundw
                case rel => exact ⟨j + 1, by omega, by go_num, by rw [HTK.out]; rfl, trivial⟩
                case measure => simp [intOf]; omega
            · obtain rfl : j = p2.length := by omega
              rw [List.take_length]
              cases p2 with
              | nil =>
                go_wp2_with fail
                go_ret
                exact ⟨rfl, HB9.out⟩
              | cons d p4 =>
                have hem : (d :: p4).isEmpty = false := rfl
                generalize flL (d :: p4) = FP
                go_wp2_with fail
                go_ret
                exact ⟨rfl, HB9.out⟩
    · rw [hno]
      go_wp2_with fail
      go_ret
      exact ⟨rfl, HB1.out⟩
end Go.Proofs.YtgkgloafjhiakaaDoor
