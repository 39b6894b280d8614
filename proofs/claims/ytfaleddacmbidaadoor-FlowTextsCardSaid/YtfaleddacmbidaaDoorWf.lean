/- Walks: numbers read, both sides. -/
import Derived.Test.YtfaleddacmbidaaDoorWe
namespace Go.Proofs.YtfaleddacmbidaaDoor
open Go.RowKit Go.Sort

/-- The number that digits spell. -/
def numOf (l : List UInt8) : Nat := l.foldl (fun n b => 10 * n + (b.toNat - 48)) 0
theorem numOf_snoc (l : List UInt8) (b : UInt8) : numOf (l ++ [b]) = 10 * numOf l + (b.toNat - 48) := by simp [numOf]
theorem numOf_dec (u : Nat) : numOf (Lib.decDigits u) = u := by
  induction u using Nat.strongRecOn with
  | ind u ih =>
    unfold Lib.decDigits
    split
    · rename_i h
      have : (UInt8.ofNat (48 + u)).toNat = 48 + u := by rw [UInt8.toNat_ofNat']; omega
      show 10 * 0 + ((UInt8.ofNat (48 + u)).toNat - 48) = u
      omega
    · rename_i h
      rw [numOf_snoc, ih (u / 10) (by omega)]
      have : (UInt8.ofNat (48 + u % 10)).toNat = 48 + u % 10 := by rw [UInt8.toNat_ofNat']; omega
      omega
theorem dec_len : ∀ (m n : Nat), n < 10 ^ m → (Lib.decDigits n).length ≤ m + 1
  | 0, n, h => by
    have : n = 0 := by simpa using h
    subst this
    unfold Lib.decDigits
    simp
  | m + 1, n, h => by
    unfold Lib.decDigits
    split
    · simp
    · have := dec_len m (n / 10) (by rw [Nat.pow_succ] at h; omega)
      simp only [List.length_append, List.length_cons, List.length_nil]
      omega
theorem dec_small {n : Nat} (h : n < 10) : Lib.decDigits n = decL n := decDigits_dec n (by omega)
theorem dec_step {n : Nat} (h : ¬ n < 10) : Lib.decDigits n = Lib.decDigits (n / 10) ++ decL (n % 10) := by
  rw [Lib.decDigits, dif_neg h]
  congr 1
  unfold decL
  rw [if_pos (by omega)]
set_option maxRecDepth 100000 in
theorem digitsG (n : Nat) : n < 10000000000 → ∀ w, Calls Tryd.prog 19 #[.int .i64 n] w fun r w' => r = .returned (.string ⟨(Lib.decDigits n).toArray⟩) ∧ w' = w := by
  induction n using Nat.strongRecOn with
  | ind k ih =>
    intro hk w
    by_cases h : k < 10
    · rw [dec_small h]
      exact digit_any k w h
    have HI := Lib.hid ih
    clear ih
    have e1 : (k : Int).tdiv 10 = ((k / 10 : Nat) : Int) := by rw [Int.tdiv_eq_ediv_of_nonneg (by omega)]; omega
    have e2 : (k : Int).tmod 10 = ((k % 10 : Nat) : Int) := by rw [Int.tmod_eq_emod_of_nonneg (by omega)]; omega
    have HE : Hid ((⟨(Lib.decDigits (k / 10)).toArray⟩ : ByteArray) ++ (⟨(decL (k % 10)).toArray⟩ : ByteArray) = ⟨(Lib.decDigits k).toArray⟩) := Lib.hid (by rw [appB, dec_step h])
    have l1 := dec_len 10 (k / 10) (by omega)
    have l2 := decL_len (k % 10)
    have D1 := HI.out (k / 10) (by omega) (by omega) w
    have D2 := digit_any (k % 10) w (by omega)
    push_cast at D1 D2 e1 e2
    go_enter Tryd.func19, Tryd.ntmps19
    go_wp2_with fail
    with_reducible refine D1.mono ?_
    rintro _ _ ⟨rfl, rfl⟩
    go_wp2_with fail
    with_reducible refine D2.mono ?_
    rintro _ _ ⟨rfl, rfl⟩
    go_wp2_with fail
    rw [HE.out]
    go_ret
    exact ⟨rfl, rfl⟩
theorem itoa_digits {n : Int} (h0 : 0 ≤ n) (h1 : n ≤ 99) : Lib.itoa n = Lib.decDigits n.toNat := by rw [itoa_small h0 h1, decDigits_dec _ (by omega)]
theorem numOf_itoa {n : Int} (h0 : 0 ≤ n) (h1 : n ≤ 99) : (numOf (Lib.itoa n) : Int) = n := by rw [itoa_digits h0 h1, numOf_dec]; omega
theorem tells_num {l : List UInt8} : Tells l (numOf l) := fun n h0 h1 h => by rw [h]; exact numOf_itoa h0 h1
theorem tells_not {l : List UInt8} {z : Int} (h : ∀ n : Int, 0 ≤ n → n ≤ 99 → l ≠ Lib.itoa n) : Tells l z := fun n h0 h1 e => absurd e (h n h0 h1)
theorem itoa_byte {n : Int} (h0 : 0 ≤ n) (h1 : n ≤ 99) {b : UInt8} (h : b ∈ Lib.itoa n) : 48 ≤ b.toNat ∧ b.toNat ≤ 57 := by rw [itoa_digits h0 h1] at h; exact decDigits_mem _ _ h
theorem numOf_lt : ∀ (l : List UInt8), (∀ b ∈ l, b.toNat ≤ 57) → numOf l < 10 ^ l.length := by
  intro l
  have : ∀ l : List UInt8, (∀ b ∈ l, b.toNat ≤ 57) → numOf l.reverse < 10 ^ l.length := by
    intro l
    induction l with
    | nil => intro _; simp [numOf]
    | cons a l ih =>
      intro h
      have h1 := ih fun b hb => h b (List.mem_cons_of_mem _ hb)
      have h2 := h a (by simp)
      rw [List.reverse_cons, numOf_snoc, List.length_cons, Nat.pow_succ]
      omega
  intro h
  have := this l.reverse (fun b hb => h b (List.mem_reverse.1 hb))
  simpa using this
/-- What Number returns. -/
def numR (l : List UInt8) : Int := if (∀ b ∈ l, 48 ≤ b.toNat ∧ b.toNat ≤ 57) ∧ l.length ≤ 9 ∧ l ≠ [] ∧ Lib.decDigits (numOf l) = l then numOf l else -1
theorem numR_tells (l : List UInt8) : Tells l (numR l) := by
  intro n h0 h1 e
  have hl := itoa_len2 h0 h1
  have hd := itoa_digits h0 h1
  unfold numR
  rw [if_pos, e, numOf_itoa h0 h1]
  refine ⟨fun b hb => itoa_byte h0 h1 (e ▸ hb), by rw [e]; omega, fun hn => ?_, ?_⟩
  · rw [e, hd, Lib.decDigits] at hn
    split at hn <;> simp at hn
  · have h2 := numOf_itoa h0 h1
    rw [e, hd]
    congr 1
    rw [← hd]
    omega
theorem numR_bd (l : List UInt8) : -1 ≤ numR l ∧ numR l ≤ 1000000000 := by
  unfold numR
  split
  · rename_i h
    have h1 := numOf_lt l fun b hb => (h.1 b hb).2
    have h2 : 10 ^ l.length ≤ 10 ^ 9 := Nat.pow_le_pow_right (by omega) h.2.1
    have h3 : (10 : Nat) ^ 9 = 1000000000 := by decide
    omega
  · omega
set_option maxRecDepth 100000 in
set_option maxHeartbeats 4000000 in
theorem number_any (s : ByteArray) (w : World) (hs : s.size ≤ 1000000) :
    Calls Tryd.prog 24 #[.string s] w fun r w' => r = .returned (.int .i64 (numR s.data.toList)) ∧ w' = w := by
  go_enter Tryd.func24, Tryd.ntmps24
  go_wp2_with fail
  go_loopw [3, 4] (fun n i wr => ∃ k : Nat, k ≤ s.size ∧ k ≤ 9 ∧ i = .int .i64 k ∧ n = .int .i64 (numOf (s.data.toList.take k)) ∧ (∀ b ∈ s.data.toList.take k, b.toNat ≤ 57) ∧ wr = w) (fun _ i _ => s.size - (intOf i).toNat)
  case atStart => exact ⟨0, by omega, by omega, rfl, rfl, fun _ h => by simp at h, rfl⟩
  case round =>
    obtain ⟨k, hk, hk9, rfl, rfl, hno, hw⟩ := hrel
    have HN := Lib.hid hno
    have HW := Lib.hid hw
    have hlt9 : numOf (s.data.toList.take k) < 10 ^ 9 := by
      have h1 := numOf_lt _ hno
      have h2 : (s.data.toList.take k).length ≤ 9 := by rw [List.length_take]; omega
      exact Nat.lt_of_lt_of_le h1 (Nat.pow_le_pow_right (by omega) h2)
    clear hno hw
    by_cases hlt : k < s.size
    · have HB := Lib.hid (byte_at hlt)
      have HM : Hid (s[k] ∈ s.data.toList) := Lib.hid (List.mem_of_getElem? HB.out)
      have HT := Lib.hid (take_succ_of HB.out)
      have hpow : numOf (s.data.toList.take k) < 1000000000 := hlt9
      clear hlt9
      obtain ⟨N, hN⟩ : ∃ N, numOf (s.data.toList.take k) = N := ⟨_, rfl⟩
      have HNN := Lib.hid hN
      rw [hN] at hpow ⊢
      clear hN
      by_cases hd : 48 ≤ s[k].toNat ∧ s[k].toNat ≤ 57 ∧ k < 9
      · obtain ⟨d0, d1, d2⟩ := hd
        have hsub : IntKind.u8.wrap ((s[k].toNat : Int) - 48) = (s[k].toNat : Int) - 48 := by rw [IntKind.wrap_u8]; omega
        have e0 : ¬ (s[k].toNat : Int) < 48 := by omega
        have e1 : ¬ (57 : Int) < (s[k].toNat : Int) := by omega
        have e2 : ((k : Int) == 9) = false := by rw [beq_eq_false_iff_ne]; omega
        go_wp2_with fail
        go_roundw
        case rel =>
          refine ⟨k + 1, by omega, by omega, by go_num, ?_, fun b hb => ?_, HW.out⟩
          · rw [HT.out, numOf_snoc, HNN.out]
            congr 1
            push_cast
            omega
          · rw [HT.out] at hb
            rcases List.mem_append.1 hb with hb | hb
            · exact HN.out b hb
            · rw [List.mem_singleton.1 hb]; exact d1
        case measure => simp [intOf]; omega
      · have HV : Hid (numR s.data.toList = -1) := Lib.hid (if_neg fun h => hd (by
          have h1 := h.1 _ HM.out
          have h2 := h.2.1
          have hl2 : s.data.toList.length = s.size := by simp
          omega))
        rcases (show s[k].toNat < 48 ∨ (48 ≤ s[k].toNat ∧ (57 < s[k].toNat ∨ (s[k].toNat ≤ 57 ∧ k = 9))) by omega) with h1 | ⟨h1, h2 | ⟨h2, h3⟩⟩
        · have e0 : (s[k].toNat : Int) < 48 := by omega
          clear hd
          go_wp2_with fail
          go_ret
          exact ⟨by rw [HV.out]; rfl, HW.out⟩
        · have e0 : ¬ (s[k].toNat : Int) < 48 := by omega
          have e1 : (57 : Int) < (s[k].toNat : Int) := by omega
          clear hd
          go_wp2_with fail
          go_ret
          exact ⟨by rw [HV.out]; rfl, HW.out⟩
        · have e0 : ¬ (s[k].toNat : Int) < 48 := by omega
          have e1 : ¬ (57 : Int) < (s[k].toNat : Int) := by omega
          have e2 : ((k : Int) == 9) = true := by rw [h3]; rfl
          clear hd h3
          go_wp2_with fail
          go_ret
          exact ⟨by rw [HV.out]; rfl, HW.out⟩
    · obtain rfl : k = s.size := by omega
      have hpow : numOf (s.data.toList.take s.size) < 1000000000 := hlt9
      have htk : s.data.toList.take s.size = s.data.toList := List.take_of_length_le (by simp)
      rw [htk] at hpow HN ⊢
      clear hlt9 htk
      cases hem : s.toList.isEmpty
      case true =>
        have HV : Hid (numR s.data.toList = -1) := Lib.hid (if_neg fun h => by
          rw [ByteArray.toList_eq] at hem
          exact h.2.2.1 (by simpa using hem))
        go_wp2_with fail
        go_ret
        exact ⟨by rw [HV.out]; rfl, HW.out⟩
      obtain ⟨N, hN⟩ : ∃ N, numOf s.data.toList = N := ⟨_, rfl⟩
      have HNN := Lib.hid hN
      rw [hN] at hpow ⊢
      clear hN
      have hdl := dec_len 9 N (by omega)
      go_wp2_with fail
      with_reducible refine (digitsG N (by omega) _).mono ?_
      rintro _ _ ⟨rfl, rfl⟩
      obtain ⟨t, ht⟩ : ∃ t : ByteArray, (⟨(Lib.decDigits N).toArray⟩ : ByteArray) = t := ⟨_, rfl⟩
      have HT := Lib.hid ht
      rw [ht]
      clear ht hdl
      by_cases hq : t.toList = s.toList
      case neg =>
        have gE : (t.toList == s.toList) = false := by simpa using hq
        have HV : Hid (numR s.data.toList = -1) := Lib.hid (if_neg fun h => hq (by
          rw [← HT.out, ByteArray.toList_eq, ByteArray.toList_eq, ← HNN.out, h.2.2.2]))
        clear hq
        go_wp2_with fail
        go_ret
        exact ⟨by rw [HV.out]; rfl, HW.out⟩
      have gE : (t.toList == s.toList) = true := by simpa using hq
      have HV : Hid (numR s.data.toList = (N : Int)) := Lib.hid (by
        rw [← HT.out, ByteArray.toList_eq, ByteArray.toList_eq] at hq
        unfold numR
        rw [HNN.out, if_pos]
        refine ⟨fun b hb => decDigits_mem N b (by rw [show Lib.decDigits N = s.data.toList from by simpa using hq]; exact hb), by simp; omega, fun hn => ?_, by simpa using hq⟩
        rw [ByteArray.toList_eq, hn] at hem
        cases hem)
      clear hq
      go_wp2_with fail
      go_ret
      exact ⟨by rw [HV.out]; rfl, HW.out⟩
end Go.Proofs.YtfaleddacmbidaaDoor
