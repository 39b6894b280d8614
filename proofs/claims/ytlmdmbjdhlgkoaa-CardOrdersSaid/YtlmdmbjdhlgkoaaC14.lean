/- Walks: what two cards have in common and how they are related, the reference's; the first entry with a property. -/
import Derived.Test.YtlmdmbjdhlgkoaaC13
namespace Go.Proofs.Ytlmdmbjdhlgkoaa
open Go.RowKit Go.Sort

def meetL (a b : List Ent) : List Ent := if val2 a b = 0 then wo a b true else []
def relN (x y : Nat) : Int := if 0 < x ∧ 0 < y then 3 else if 0 < x then 1 else if 0 < y then 2 else 0
def relV (a b : List Ent) : Int := if val2 a b = 0 then relN (wo a b false).length (wo b a false).length else 0
set_option maxRecDepth 100000 in
theorem refMeet_any (A B : Option Addr) (n m c d : Nat) (es fs : List Ent) (w : World) (hl : Reads w w.heap.size 6 A n (ents es)) (hm : Reads w w.heap.size 6 B m (ents fs)) (hn : n ≤ 1000000) (hn2 : m ≤ 1000000) (hnc : n ≤ c) (hmd : m ≤ d) (ht : shortT es) (ht2 : shortT fs) :
    Calls Try.prog 29 #[.slice A n c, .slice B m d] w (RetE (meetL es fs) (val2 es fs) w) := by
  have HL := Lib.hid hl
  have HM := Lib.hid hm
  have HT := Lib.hid ht
  have HT2 := Lib.hid ht2
  clear hl hm ht ht2
  go_enter Try.func29, Try.ntmps29
  go_wp2_with fail
  with_reducible refine (both_any A B n m c d es fs _ HL.out HM.out hn hn2 hnc hmd HT.out HT2.out).mono ?_
  rintro _ w2 ⟨rfl, hb2⟩
  have HW2 := Lib.hid hb2
  clear hb2
  by_cases hv : val2 es fs = 0
  case neg =>
    have HV := Lib.hid (show meetL es fs = [] from if_neg hv)
    have g := neB hv
    clear hv
    go_wp2_with fail
    go_ret2
    rw [HV.out]
    exact RetE.nil rfl HW2.out
  have HV := Lib.hid hv
  have HV2 := Lib.hid (show meetL es fs = wo es fs true from if_pos hv)
  have g := neBf hv
  clear hv
  go_wp2_with fail
  with_reducible refine (without_any A B n m c d es fs true _ (HL.out.on HW2.out) (HM.out.on HW2.out) hn hn2).mono ?_
  rintro _ w3 ⟨C, k, rfl, hr, hb3⟩
  have HR := Lib.hid (row_mono hr HW2.out.size)
  have HB := Lib.hid (below_trans' HW2.out hb3)
  clear hr hb3
  go_wp2_with fail
  go_ret2
  rw [HV.out, HV2.out]
  exact ⟨C, k, rfl, HR.out, HB.out⟩
set_option maxRecDepth 100000 in
theorem refRelation_any (A B : Option Addr) (n m c d : Nat) (es fs : List Ent) (w : World) (hl : Reads w w.heap.size 6 A n (ents es)) (hm : Reads w w.heap.size 6 B m (ents fs)) (hn : n ≤ 1000000) (hn2 : m ≤ 1000000) (hnc : n ≤ c) (hmd : m ≤ d) (ht : shortT es) (ht2 : shortT fs) :
    Calls Try.prog 31 #[.slice A n c, .slice B m d] w fun r w' => r = .returned (.tuple #[.int .i64 (relV es fs), .int .i64 (val2 es fs)]) ∧ Below w.heap.size w w' := by
  have HL := Lib.hid hl
  have HM := Lib.hid hm
  have HT := Lib.hid ht
  have HT2 := Lib.hid ht2
  clear hl hm ht ht2
  go_enter Try.func31, Try.ntmps31
  go_wp2_with fail
  with_reducible refine (both_any A B n m c d es fs _ HL.out HM.out hn hn2 hnc hmd HT.out HT2.out).mono ?_
  rintro _ w2 ⟨rfl, hb2⟩
  have HW2 := Lib.hid hb2
  clear hb2
  by_cases hv : val2 es fs = 0
  case neg =>
    have HV := Lib.hid (show relV es fs = 0 from if_neg hv)
    have g := neB hv
    clear hv
    go_wp2_with fail
    go_ret2
    exact ⟨by rw [HV.out]; rfl, HW2.out⟩
  have HV := Lib.hid hv
  have HV2 := Lib.hid (show relV es fs = relN (wo es fs false).length (wo fs es false).length from if_pos hv)
  have g := neBf hv
  clear hv
  go_wp2_with fail
  with_reducible refine (without_any A B n m c d es fs false _ (HL.out.on HW2.out) (HM.out.on HW2.out) hn hn2).mono ?_
  rintro _ w3 ⟨C, k, rfl, -, hb3⟩
  have HW3 := Lib.hid (below_trans' HW2.out hb3)
  clear hb3
  go_wp2_with fail
  with_reducible refine (without_any B A m n d c fs es false _ (HM.out.on HW3.out) (HL.out.on HW3.out) hn2 hn).mono ?_
  rintro _ w4 ⟨C2, k2, rfl, -, hb4⟩
  have HW4 := Lib.hid (below_trans' HW3.out hb4)
  clear hb4
  generalize (wo es fs false).length = X at HV2 ⊢
  generalize (wo fs es false).length = Y at HV2 ⊢
  by_cases h1 : 0 < X <;> by_cases h2 : 0 < Y
  all_goals
    have HR : Hid (relN X Y = relN X Y) := Lib.hid rfl
    have h1' := Lib.hid h1
    have h2' := Lib.hid h2
    go_wp2_with fail
    go_ret2
    refine ⟨?_, HW4.out⟩
    rw [HV2.out, HV.out]
    have q1 := h1'.out
    have q2 := h2'.out
    simp only [relN, q1, q2]
    rfl
/-- The first place of an entry with a property, or -1. -/
def IdxF (es : List Ent) (f : Ent → Bool) (i : Int) : Prop := (i = -1 ∧ ∀ e ∈ es, f e = false) ∨ ∃ k : Nat, i = k ∧ ∃ e, es[k]? = some e ∧ f e = true ∧ ∀ x ∈ es.take k, f x = false
set_option maxRecDepth 100000 in
theorem indexFunc68_any (q : Addr) (f : Ent → Bool) (S : World → Prop) (A : Option Addr) (n c : Nat) (es : List Ent) (w : World) (hl : Reads w w.heap.size 6 A n (ents es)) (hn : n ≤ 1000000)
    (hS : S w) (hon : ∀ w1 w2, S w1 → Below w1.heap.size w1 w2 → S w2)
    (hF : ∀ e ∈ es, ∀ w1, S w1 → Calls Try.prog 68 #[eval_ e, .pointer (some q)] w1 fun r w' => r = .returned (.bool (f e)) ∧ Below w1.heap.size w1 w') :
    Calls Try.prog 67 #[.slice A n c, .func (.func 68) #[] #[.pointer (some q)]] w fun r w' => (∃ i : Int, r = .returned (.int .i64 i) ∧ IdxF es f i) ∧ Below w.heap.size w w' := by
  have hlen0 := hl.1
  rw [ents_length] at hlen0
  have l1 : n ≤ es.length := by omega
  have l2 : es.length ≤ n := by omega
  have HL := Lib.hid hl
  have HS := Lib.hid hS
  have HON := Lib.hid hon
  have HF := Lib.hid hF
  clear hl hlen0 hS hon hF
  go_enter Try.func67, Try.ntmps67
  go_wp2_with fail
  go_loopw [8] (fun i wr => ∃ k : Nat, k ≤ n ∧ i = .int .i64 k ∧ (∀ x ∈ es.take k, f x = false) ∧ S wr ∧ Below w.heap.size w wr) (fun i _ => n - (intOf i).toNat)
  case atStart => exact ⟨0, by omega, rfl, by simp, HS.out, Below.refl _ _⟩
  case round =>
    obtain ⟨k, hk, rfl, hno, hS, hbw⟩ := hrel
    have HNO := Lib.hid hno
    have HBW := Lib.hid hbw
    have HSW := Lib.hid hS
    clear hno hbw hS
    by_cases hlt : k < n
    · obtain ⟨ad, x, e1, hbk, hx, d0, d1, d2, d3, d4, d5⟩ := eat (HL.out.on HBW.out) (k := k) (by omega)
      have X := fun w => ix22 (c := c) e1 hlt w
      have HT := Lib.hid (take_succ_of hx)
      have HM := Lib.hid (List.mem_of_getElem? hx)
      have HX := Lib.hid hx
      clear hx e1
      go_wp2_with fail
      with_reducible refine (HF.out x HM.out _ HSW.out).mono ?_
      rintro _ w2 ⟨rfl, hb2⟩
      have HS2 := Lib.hid (HON.out _ _ HSW.out hb2)
      have HB2 := Lib.hid (below_trans' HBW.out hb2)
      clear hb2 d0 d1 d2 d3 d4 d5 X
      rcases Bool.eq_false_or_eq_true (f x) with hf | hf
      · have HFX := Lib.hid hf
        rw [hf]
        clear hf
        go_wp2_with fail
        go_ret
        exact ⟨⟨k, rfl, .inr ⟨k, rfl, x, HX.out, HFX.out, HNO.out⟩⟩, HB2.out⟩
      · have HN2 : Hid (∀ y ∈ es.take (k + 1), f y = false) := Lib.hid fun y hy => by
          rw [HT.out] at hy
          rcases List.mem_append.1 hy with hy | hy
          · exact HNO.out y hy
          · rw [List.mem_singleton.1 hy]; exact hf
        rw [hf]
        clear hf
        go_wp2_with fail
        go_roundw
        case rel => exact ⟨k + 1, by omega, by go_num, HN2.out, HS2.out, HB2.out⟩
        case measure => simp [intOf]; omega
    · have HN3 := Lib.hid (show ∀ e ∈ es, f e = false by have := HNO.out; rwa [List.take_of_length_le (by omega)] at this)
      go_wp2_with fail
      go_ret
      exact ⟨⟨-1, rfl, .inl ⟨rfl, HN3.out⟩⟩, HBW.out⟩
set_option maxRecDepth 100000 in
theorem indexFunc56_any (q : Addr) (f : Ent → Bool) (S : World → Prop) (A : Option Addr) (n c : Nat) (es : List Ent) (w : World) (hl : Reads w w.heap.size 6 A n (ents es)) (hn : n ≤ 1000000)
    (hS : S w) (hon : ∀ w1 w2, S w1 → Below w1.heap.size w1 w2 → S w2)
    (hF : ∀ e ∈ es, ∀ w1, S w1 → Calls Try.prog 56 #[eval_ e, .pointer (some q)] w1 fun r w' => r = .returned (.bool (f e)) ∧ Below w1.heap.size w1 w') :
    Calls Try.prog 67 #[.slice A n c, .func (.func 56) #[] #[.pointer (some q)]] w fun r w' => (∃ i : Int, r = .returned (.int .i64 i) ∧ IdxF es f i) ∧ Below w.heap.size w w' := by
  have hlen0 := hl.1
  rw [ents_length] at hlen0
  have l1 : n ≤ es.length := by omega
  have l2 : es.length ≤ n := by omega
  have HL := Lib.hid hl
  have HS := Lib.hid hS
  have HON := Lib.hid hon
  have HF := Lib.hid hF
  clear hl hlen0 hS hon hF
  go_enter Try.func67, Try.ntmps67
  go_wp2_with fail
  go_loopw [8] (fun i wr => ∃ k : Nat, k ≤ n ∧ i = .int .i64 k ∧ (∀ x ∈ es.take k, f x = false) ∧ S wr ∧ Below w.heap.size w wr) (fun i _ => n - (intOf i).toNat)
  case atStart => exact ⟨0, by omega, rfl, by simp, HS.out, Below.refl _ _⟩
  case round =>
    obtain ⟨k, hk, rfl, hno, hS, hbw⟩ := hrel
    have HNO := Lib.hid hno
    have HBW := Lib.hid hbw
    have HSW := Lib.hid hS
    clear hno hbw hS
    by_cases hlt : k < n
    · obtain ⟨ad, x, e1, hbk, hx, d0, d1, d2, d3, d4, d5⟩ := eat (HL.out.on HBW.out) (k := k) (by omega)
      have X := fun w => ix22 (c := c) e1 hlt w
      have HT := Lib.hid (take_succ_of hx)
      have HM := Lib.hid (List.mem_of_getElem? hx)
      have HX := Lib.hid hx
      clear hx e1
      go_wp2_with fail
      with_reducible refine (HF.out x HM.out _ HSW.out).mono ?_
      rintro _ w2 ⟨rfl, hb2⟩
      have HS2 := Lib.hid (HON.out _ _ HSW.out hb2)
      have HB2 := Lib.hid (below_trans' HBW.out hb2)
      clear hb2 d0 d1 d2 d3 d4 d5 X
      rcases Bool.eq_false_or_eq_true (f x) with hf | hf
      · have HFX := Lib.hid hf
        rw [hf]
        clear hf
        go_wp2_with fail
        go_ret
        exact ⟨⟨k, rfl, .inr ⟨k, rfl, x, HX.out, HFX.out, HNO.out⟩⟩, HB2.out⟩
      · have HN2 : Hid (∀ y ∈ es.take (k + 1), f y = false) := Lib.hid fun y hy => by
          rw [HT.out] at hy
          rcases List.mem_append.1 hy with hy | hy
          · exact HNO.out y hy
          · rw [List.mem_singleton.1 hy]; exact hf
        rw [hf]
        clear hf
        go_wp2_with fail
        go_roundw
        case rel => exact ⟨k + 1, by omega, by go_num, HN2.out, HS2.out, HB2.out⟩
        case measure => simp [intOf]; omega
    · have HN3 := Lib.hid (show ∀ e ∈ es, f e = false by have := HNO.out; rwa [List.take_of_length_le (by omega)] at this)
      go_wp2_with fail
      go_ret
      exact ⟨⟨-1, rfl, .inl ⟨rfl, HN3.out⟩⟩, HBW.out⟩
set_option maxRecDepth 100000 in
theorem indexFunc59_any (q : Addr) (f : Ent → Bool) (S : World → Prop) (A : Option Addr) (n c : Nat) (es : List Ent) (w : World) (hl : Reads w w.heap.size 6 A n (ents es)) (hn : n ≤ 1000000)
    (hS : S w) (hon : ∀ w1 w2, S w1 → Below w1.heap.size w1 w2 → S w2)
    (hF : ∀ e ∈ es, ∀ w1, S w1 → Calls Try.prog 59 #[eval_ e, .pointer (some q)] w1 fun r w' => r = .returned (.bool (f e)) ∧ Below w1.heap.size w1 w') :
    Calls Try.prog 67 #[.slice A n c, .func (.func 59) #[] #[.pointer (some q)]] w fun r w' => (∃ i : Int, r = .returned (.int .i64 i) ∧ IdxF es f i) ∧ Below w.heap.size w w' := by
  have hlen0 := hl.1
  rw [ents_length] at hlen0
  have l1 : n ≤ es.length := by omega
  have l2 : es.length ≤ n := by omega
  have HL := Lib.hid hl
  have HS := Lib.hid hS
  have HON := Lib.hid hon
  have HF := Lib.hid hF
  clear hl hlen0 hS hon hF
  go_enter Try.func67, Try.ntmps67
  go_wp2_with fail
  go_loopw [8] (fun i wr => ∃ k : Nat, k ≤ n ∧ i = .int .i64 k ∧ (∀ x ∈ es.take k, f x = false) ∧ S wr ∧ Below w.heap.size w wr) (fun i _ => n - (intOf i).toNat)
  case atStart => exact ⟨0, by omega, rfl, by simp, HS.out, Below.refl _ _⟩
  case round =>
    obtain ⟨k, hk, rfl, hno, hS, hbw⟩ := hrel
    have HNO := Lib.hid hno
    have HBW := Lib.hid hbw
    have HSW := Lib.hid hS
    clear hno hbw hS
    by_cases hlt : k < n
    · obtain ⟨ad, x, e1, hbk, hx, d0, d1, d2, d3, d4, d5⟩ := eat (HL.out.on HBW.out) (k := k) (by omega)
      have X := fun w => ix22 (c := c) e1 hlt w
      have HT := Lib.hid (take_succ_of hx)
      have HM := Lib.hid (List.mem_of_getElem? hx)
      have HX := Lib.hid hx
      clear hx e1
      go_wp2_with fail
      with_reducible refine (HF.out x HM.out _ HSW.out).mono ?_
      rintro _ w2 ⟨rfl, hb2⟩
      have HS2 := Lib.hid (HON.out _ _ HSW.out hb2)
      have HB2 := Lib.hid (below_trans' HBW.out hb2)
      clear hb2 d0 d1 d2 d3 d4 d5 X
      rcases Bool.eq_false_or_eq_true (f x) with hf | hf
      · have HFX := Lib.hid hf
        rw [hf]
        clear hf
        go_wp2_with fail
        go_ret
        exact ⟨⟨k, rfl, .inr ⟨k, rfl, x, HX.out, HFX.out, HNO.out⟩⟩, HB2.out⟩
      · have HN2 : Hid (∀ y ∈ es.take (k + 1), f y = false) := Lib.hid fun y hy => by
          rw [HT.out] at hy
          rcases List.mem_append.1 hy with hy | hy
          · exact HNO.out y hy
          · rw [List.mem_singleton.1 hy]; exact hf
        rw [hf]
        clear hf
        go_wp2_with fail
        go_roundw
        case rel => exact ⟨k + 1, by omega, by go_num, HN2.out, HS2.out, HB2.out⟩
        case measure => simp [intOf]; omega
    · have HN3 := Lib.hid (show ∀ e ∈ es, f e = false by have := HNO.out; rwa [List.take_of_length_le (by omega)] at this)
      go_wp2_with fail
      go_ret
      exact ⟨⟨-1, rfl, .inl ⟨rfl, HN3.out⟩⟩, HBW.out⟩
set_option maxRecDepth 100000 in
theorem indexFunc60_any (q : Addr) (f : Ent → Bool) (S : World → Prop) (A : Option Addr) (n c : Nat) (es : List Ent) (w : World) (hl : Reads w w.heap.size 6 A n (ents es)) (hn : n ≤ 1000000)
    (hS : S w) (hon : ∀ w1 w2, S w1 → Below w1.heap.size w1 w2 → S w2)
    (hF : ∀ e ∈ es, ∀ w1, S w1 → Calls Try.prog 60 #[eval_ e, .pointer (some q)] w1 fun r w' => r = .returned (.bool (f e)) ∧ Below w1.heap.size w1 w') :
    Calls Try.prog 67 #[.slice A n c, .func (.func 60) #[] #[.pointer (some q)]] w fun r w' => (∃ i : Int, r = .returned (.int .i64 i) ∧ IdxF es f i) ∧ Below w.heap.size w w' := by
  have hlen0 := hl.1
  rw [ents_length] at hlen0
  have l1 : n ≤ es.length := by omega
  have l2 : es.length ≤ n := by omega
  have HL := Lib.hid hl
  have HS := Lib.hid hS
  have HON := Lib.hid hon
  have HF := Lib.hid hF
  clear hl hlen0 hS hon hF
  go_enter Try.func67, Try.ntmps67
  go_wp2_with fail
  go_loopw [8] (fun i wr => ∃ k : Nat, k ≤ n ∧ i = .int .i64 k ∧ (∀ x ∈ es.take k, f x = false) ∧ S wr ∧ Below w.heap.size w wr) (fun i _ => n - (intOf i).toNat)
  case atStart => exact ⟨0, by omega, rfl, by simp, HS.out, Below.refl _ _⟩
  case round =>
    obtain ⟨k, hk, rfl, hno, hS, hbw⟩ := hrel
    have HNO := Lib.hid hno
    have HBW := Lib.hid hbw
    have HSW := Lib.hid hS
    clear hno hbw hS
    by_cases hlt : k < n
    · obtain ⟨ad, x, e1, hbk, hx, d0, d1, d2, d3, d4, d5⟩ := eat (HL.out.on HBW.out) (k := k) (by omega)
      have X := fun w => ix22 (c := c) e1 hlt w
      have HT := Lib.hid (take_succ_of hx)
      have HM := Lib.hid (List.mem_of_getElem? hx)
      have HX := Lib.hid hx
      clear hx e1
      go_wp2_with fail
      with_reducible refine (HF.out x HM.out _ HSW.out).mono ?_
      rintro _ w2 ⟨rfl, hb2⟩
      have HS2 := Lib.hid (HON.out _ _ HSW.out hb2)
      have HB2 := Lib.hid (below_trans' HBW.out hb2)
      clear hb2 d0 d1 d2 d3 d4 d5 X
      rcases Bool.eq_false_or_eq_true (f x) with hf | hf
      · have HFX := Lib.hid hf
        rw [hf]
        clear hf
        go_wp2_with fail
        go_ret
        exact ⟨⟨k, rfl, .inr ⟨k, rfl, x, HX.out, HFX.out, HNO.out⟩⟩, HB2.out⟩
      · have HN2 : Hid (∀ y ∈ es.take (k + 1), f y = false) := Lib.hid fun y hy => by
          rw [HT.out] at hy
          rcases List.mem_append.1 hy with hy | hy
          · exact HNO.out y hy
          · rw [List.mem_singleton.1 hy]; exact hf
        rw [hf]
        clear hf
        go_wp2_with fail
        go_roundw
        case rel => exact ⟨k + 1, by omega, by go_num, HN2.out, HS2.out, HB2.out⟩
        case measure => simp [intOf]; omega
    · have HN3 := Lib.hid (show ∀ e ∈ es, f e = false by have := HNO.out; rwa [List.take_of_length_le (by omega)] at this)
      go_wp2_with fail
      go_ret
      exact ⟨⟨-1, rfl, .inl ⟨rfl, HN3.out⟩⟩, HBW.out⟩
theorem cmpK_zero (x y : Ent) : cmpK x y = 0 ↔ x.1 = y.1 ∧ x.2.1 = y.2.1 := by
  unfold cmpK or0 cmpI
  by_cases h1 : x.1 < y.1
  · simp [h1]; omega
  · by_cases h2 : y.1 < x.1
    · simp [h1, h2]; omega
    · have h3 : x.1 = y.1 := by omega
      by_cases h4 : x.2.1 < y.2.1
      · simp [h3, h4]; omega
      · by_cases h5 : y.2.1 < x.2.1
        · simp [h3, h4, h5]; omega
        · simp [h3, h4, h5]; omega
def sameKey (x y : Ent) : Bool := decide (x.1 = y.1 ∧ x.2.1 = y.2.1)
theorem splitF_any (q : Nat) (x y : Ent) (w : World) (hb : Box w q #[.int .i64 x.1, .int .i64 x.2.1, .int .i64 x.2.2.1.1, .int .i64 x.2.2.1.2.1, .int .i64 x.2.2.1.2.2, .string x.2.2.2]) :
    Calls Try.prog 68 #[eval_ y, .pointer (some ⟨q, 0, none⟩)] w fun r w' => r = .returned (.bool (sameKey x y)) ∧ Below w.heap.size w w' := by
  have hq := hb.1
  go_enter Try.func68, Try.ntmps68
  dsimp only [eval_]
  have cx := fun o => (hb.alloc (.cells #[.int .i64 y.1, .int .i64 y.2.1, .int .i64 y.2.2.1.1, .int .i64 y.2.2.1.2.1, .int .i64 y.2.2.1.2.2, .string y.2.2.2] o)).at
  have cy := fun o => (Box.new w #[.int .i64 y.1, .int .i64 y.2.1, .int .i64 y.2.2.1.1, .int .i64 y.2.2.1.2.1, .int .i64 y.2.2.1.2.2, .string y.2.2.2] o).at
  go_wp2_with fail
  with_reducible refine (cmpK_any x y _).mono ?_
  rintro _ w2 ⟨rfl, hb2⟩
  have HB := Lib.hid (below1 _ hb2)
  have HZ := Lib.hid (cmpK_zero x y)
  clear hb2 cx cy
  go_wp2_with fail
  go_ret
  refine ⟨ret_bool ?_, HB.out⟩
  unfold sameKey
  rw [Bool.eq_iff_iff, beq_iff_eq, decide_eq_true_eq]
  exact HZ.out
end Go.Proofs.Ytlmdmbjdhlgkoaa
