/- Walks: Parse of the program; known, long. -/
import Derived.Test.YtgkgloafjhiakaaDoorQ7
namespace Go.Proofs.YtgkgloafjhiakaaDoor
open Go.RowKit Go.Sort

theorem pTail_bound {s : List UInt8} {l : Nat} {w : List UInt8} {N : Nat} {K : Nat} (h : l + s.length * N ≤ K * N) : (pTail s l w).2.1 + (pTail s l w).1.length * (9 * N) ≤ K * (9 * N) := by
  have e1 : K * (9 * N) = 9 * (K * N) := by rw [Nat.mul_left_comm]
  have h9 : 9 * (l + s.length * N) ≤ 9 * (K * N) := Nat.mul_le_mul_left 9 h
  rw [Nat.mul_add] at h9
  cases s with
  | nil =>
    show l + 0 * (9 * N) ≤ _
    simp only [List.length_nil, Nat.zero_mul] at h9 ⊢
    omega
  | cons c u =>
    by_cases hc : isDig c = true
    · rw [pTail_dig hc]
      simp only [isDig, Bool.and_eq_true, decide_eq_true_eq] at hc
      have h1 : (c.toNat - 48) * l ≤ 9 * l := Nat.mul_le_mul_right _ (by omega)
      have h2 : (c :: u).length * N = u.length * N + N := by rw [List.length_cons, Nat.add_mul, Nat.one_mul]
      have h3 : u.length * (9 * N) = 9 * (u.length * N) := by rw [Nat.mul_left_comm]
      rw [h2] at h9
      show (c.toNat - 48) * l + u.length * (9 * N) ≤ _
      omega
    · have hd : isDig c = false := by simpa using hc
      have : pTail (c :: u) l w = (c :: u, l, w) := pTail_no fun e v h => by rw [← (List.cons.inj h).1]; exact hd
      rw [this]
      have h3 : (c :: u).length * (9 * N) = 9 * ((c :: u).length * N) := by rw [Nat.mul_left_comm]
      show l + (c :: u).length * (9 * N) ≤ _
      omega
theorem pOne_bound {inner : List UInt8 → Option PR} {N : Nat} (hN : 0 < N) (hi : ∀ t r, inner t = some r → r.2.1 + r.1.length * N ≤ t.length * N) {M : Nat} (hM : 9 * N ≤ M ∨ (M = 1 ∧ ∀ t, inner t = none)) {s : List UInt8} {r : PR} (h : pOne inner s = some r) : r.2.1 + r.1.length * M ≤ s.length * M := by
  have hM1 : 1 ≤ M := by rcases hM with h | ⟨h, _⟩ <;> omega
  unfold pOne at h
  have hd := dropWhile_len isSign s
  generalize s.dropWhile isSign = R at h hd
  split at h
  · cases h
  · rename_i c t
    have hs := Nat.mul_le_mul_right M hd
    have hcl : (c :: t).length * M = t.length * M + M := by rw [List.length_cons, Nat.add_mul, Nat.one_mul]
    split at h
    · cases h
      show 1 + t.length * M ≤ _
      omega
    · split at h
      · split at h
        · rename_i u l w hx
          cases h
          rcases hM with hM | ⟨_, hM⟩
          · have h1 := hi _ _ hx
            have h2 : l + u.length * N ≤ t.length * N := by
              have h3 : (41 :: u).length * N = u.length * N + N := by rw [List.length_cons, Nat.add_mul, Nat.one_mul]
              rw [h3] at h1
              exact Nat.le_trans (by show _ ≤ l + (u.length * N + N); omega) h1
            have h4 := pTail_bound (w := w) h2
            have h5 := pTail_len u l w
            show (pTail u l w).2.1 + (pTail u l w).1.length * M ≤ s.length * M
            have h6 : u.length ≤ t.length := by
              rcases Nat.lt_or_ge t.length u.length with h' | h'
              · have := Nat.mul_lt_mul_of_pos_right h' hN; omega
              · exact h'
            obtain ⟨D, hD⟩ : ∃ D, M = 9 * N + D := ⟨M - 9 * N, by omega⟩
            have h7 : (pTail u l w).1.length * D ≤ t.length * D := Nat.mul_le_mul_right _ (by omega)
            rw [hD, Nat.mul_add] 
            have h8 : t.length * (9 * N + D) ≤ s.length * (9 * N + D) := by
              rw [hD] at hs hcl
              omega
            rw [Nat.mul_add] at h8
            omega
          · rw [hM] at hx; cases hx
        · cases h
      · cases h
theorem pItems_bound : ∀ (f d : Nat) (s : List UInt8) (r : PR), pItems f d s = some r → d ≤ 8 → r.2.1 + r.1.length * 9 ^ (8 - d) ≤ s.length * 9 ^ (8 - d)
  | 0, _, _, _, h, _ => by cases h
  | f + 1, d, s, r, h, hd8 => by
    unfold pItems at h
    split at h
    · cases h; simp
    · split at h
      · cases h; simp
      · split at h
        · cases h
        · rename_i c u hne x r1 l1 w1 h1
          have hl : l1 + r1.length * 9 ^ (8 - d) ≤ (c :: u).length * 9 ^ (8 - d) := by
            rcases Nat.lt_or_ge d 8 with hd | hd
            · refine pOne_bound (N := 9 ^ (8 - (d + 1))) (Nat.pow_pos (by omega)) (fun t r ht => ?_) (.inl ?_) h1
              · rw [if_pos hd] at ht
                exact pItems_bound f (d + 1) t r ht (by omega)
              · rw [show 8 - d = 8 - (d + 1) + 1 by omega, Nat.pow_succ, Nat.mul_comm]
                exact Nat.le_refl _
            · refine pOne_bound (N := 1) (by omega) (fun t r ht => ?_) (.inr ⟨?_, fun t => ?_⟩) h1
              · rw [if_neg (by omega)] at ht; cases ht
              · rw [show 8 - d = 0 by omega]
              · exact if_neg (by omega)
          split at h
          · cases h
          · rename_i r2 l2 w2 h2
            cases h
            have := pItems_bound f d r1 _ h2 hd8
            show (l1 + l2) + r2.length * 9 ^ (8 - d) ≤ _
            have h3 : l2 + r2.length * 9 ^ (8 - d) ≤ r1.length * 9 ^ (8 - d) := this
            omega
theorem style_bound {s W : List UInt8} {L : Nat} (h : pItems (s.length + 1) 0 s = some ([], L, W)) (hs : s.length ≤ 4000) : L ≤ 1000000000000000000 := by
  have h1 : L + ([] : List UInt8).length * 9 ^ (8 - 0) ≤ s.length * 9 ^ (8 - 0) := pItems_bound _ _ _ _ h (by omega)
  rw [show 9 ^ (8 - 0) = 43046721 from rfl] at h1
  simp only [List.length_nil, Nat.zero_mul] at h1
  omega
/-- What Parse answers. -/
def pStyle (s : List UInt8) : List UInt8 × Int :=
  if 4000 < s.length then ([], 4)
  else match pItems (s.length + 1) 0 s with
    | some ([], L, W) => if 60 < L then ([], 4) else (W, 0)
    | _ => ([], 3)
set_option maxRecDepth 100000 in
set_option maxHeartbeats 4000000 in
theorem parseE_any (s : List UInt8) (w : World) (hs : s.length ≤ 1000000) :
    Calls Tryd.prog 21 #[.string (mkB s)] w fun r w' => r = .returned (.tuple #[.string (mkB (pStyle s).1), .int .i64 (pStyle s).2]) ∧ Below w.heap.size w w' := by
  have hsz : (mkB s).size = s.length := size_mk s
  go_enter Tryd.func21, Tryd.ntmps21
  by_cases h4 : 4000 < s.length
  · have HE : Hid (pStyle s = ([], 4)) := Lib.hid (by unfold pStyle; rw [if_pos h4])
    go_wp2_with fail
    go_ret2
    exact ⟨by rw [HE.out]; rfl, Below.refl _ _⟩
  · go_wp2_with fail
    with_reducible refine (parse_any s _ (by omega)).mono ?_
    rintro _ w2 ⟨hb2, ⟨hno, rfl⟩ | ⟨rest, L, W, A, n, c, es, hso, rfl, hits, hL, hW, hn⟩⟩
    · have HB2 := Lib.hid hb2
      have HE : Hid (pStyle s = ([], 3)) := Lib.hid (by unfold pStyle; rw [if_neg h4, hno])
      clear hno hb2
      go_wp2_with fail
      go_ret2
      exact ⟨by rw [HE.out]; rfl, HB2.out⟩
    · have HB2 := Lib.hid hb2
      cases rest with
      | cons x u =>
        have HE : Hid (pStyle s = ([], 3)) := Lib.hid (by unfold pStyle; rw [if_neg h4, hso])
        clear hso hb2 hits hL hW hn
        go_wp2_with fail
        go_ret2
        exact ⟨by rw [HE.out]; rfl, HB2.out⟩
      | nil =>
        have hbl := style_bound hso (by omega)
        have HI := Lib.hid hits
        have HSO := Lib.hid hso
        have HL := Lib.hid hL
        have HW := Lib.hid hW
        have hn2 : n ≤ 1000000 := by omega
        clear hso hb2 hits hW
        go_wp2_with fail
        have LC := len_all 9 _ A n c es w2 HI.out hn2 (by omega)
        with_reducible refine LC.mono ?_
        clear LC
        rintro _ w3 ⟨rfl, hb3⟩
        rw [hL]
        have HB3 := Lib.hid (below_trans' HB2.out hb3)
        have HI3 := Lib.hid (HI.out.below hb3)
        clear hb3 hL
        by_cases h60 : 60 < L
        · have HE : Hid (pStyle s = ([], 4)) := Lib.hid (by unfold pStyle; rw [if_neg h4, HSO.out]; exact if_pos h60)
          go_wp2_with fail
          go_ret2
          exact ⟨by rw [HE.out]; rfl, HB3.out⟩
        · have HE : Hid (pStyle s = (W, 0)) := Lib.hid (by unfold pStyle; rw [if_neg h4, HSO.out]; exact if_neg h60)
          go_wp2_with fail
          have WC := word_all 9 _ A n c es w3 HI3.out hn2 (by rw [HL.out]; omega)
          with_reducible refine WC.mono ?_
          clear WC
          rintro _ w4 ⟨rfl, hb4⟩
          have HB4 := Lib.hid (below_trans' HB3.out hb4)
          clear hb4
          go_wp2_with fail
          go_ret2
          exact ⟨by rw [HE.out, HW.out]; rfl, HB4.out⟩
theorem nf_A : Nf [65] (-1) [97, 98] := by
  have h := Nform.nil.large ltM_A (by decide) (by unfold posL; decide) rfl
  refine ⟨h, fun x y => ⟨fun e => ?_, fun e => ?_⟩⟩
  · have := congrArg List.length e
    simp at this
    omega
  · have := congrArg List.length e
    simp at this
    omega
set_option maxRecDepth 100000 in
set_option maxHeartbeats 4000000 in
theorem known_any (w : World) (hm : MX w) : Calls Tryd.prog 18 #[] w fun r w' => r = .returned (.bool true) ∧ Below w.heap.size w w' := by
  have HM := Lib.hid hm
  clear hm
  go_enter Tryd.func18, Tryd.ntmps18
  go_wp2_with fail
  with_reducible refine (normalE_any (mkB [65]) _ HM.out (by decide)).mono ?_
  rintro _ w2 ⟨hb2, ⟨hno, rfl⟩ | ⟨hok, k, p, rfl, hn⟩⟩
  · exact absurd hno (by decide)
  obtain ⟨rfl, rfl⟩ := Nf.unique hn nf_A
  have HB2 := Lib.hid hb2
  clear hb2 hok hn
  go_wp2_with fail
  with_reducible refine (parseE_any [33, 40, 97, 98, 41, 50] _ (by decide)).mono ?_
  rintro _ w3 ⟨rfl, hb3⟩
  rw [show pStyle [33, 40, 97, 98, 41, 50] = ([66, 65, 66, 65], 0) by decide]
  have HB3 := Lib.hid (below_trans' HB2.out hb3)
  clear hb3
  go_wp2_with fail
  go_ret
  exact ⟨rfl, HB3.out⟩
theorem long_any (t : ByteArray) (w : World) : Calls Tryd.prog 17 #[.string t] w fun r w' => r = .returned (.bool (decide (200 < t.size))) ∧ w' = w := by
  go_enter Tryd.func17, Tryd.ntmps17
  go_wp2_with fail
  go_ret
  refine ⟨ret_bool ?_, rfl⟩
  rw [decide_eq_decide]
  omega
end Go.Proofs.YtgkgloafjhiakaaDoor
