/- Walks: the order of a card's entries with its errors, both sides; the law CardOrders. -/
import Derived.Test.YtlmdmbjdhlgkoaaV1
import Derived.Test.YtlmdmbjdhlgkoaaO5
namespace Go.Proofs.Ytlmdmbjdhlgkoaa
open Go.RowKit Go.Sort

def ordX (es : List Ent) : List Nat := if val es = 0 then ordL es else []
/-- A list of numbers of the call's own, and an error. -/
def RetN (l : List Nat) (e : Int) (w : World) (r : Ending) (w' : World) : Prop :=
  ∃ A c, r = .returned (.tuple #[.slice A l.length c, .int .i64 e]) ∧ w'.ownsRow w.heap.size 3 1 (.slice A l.length c) l.length (ints (l.map Int.ofNat)) ∧ Below w.heap.size w w'
theorem RetN.nil {e e' : Int} {w w' : World} (h : e' = e) (hb : Below w.heap.size w w') : RetN [] e w (.returned (.tuple #[.slice none 0 0, .int .i64 e'])) w' := ⟨none, 0, by rw [h]; rfl, World.ownsRow_nil _ _ _ _, hb⟩
theorem ordL_length {es : List Ent} (h : Card es) : (ordL es).length = es.length := by
  have := (ordL_perm h).length_eq
  rwa [List.length_range] at this
set_option maxRecDepth 100000 in
theorem Order_any (A : Option Addr) (n c : Nat) (es : List Ent) (w : World) (hl : Reads w w.heap.size 6 A n (ents es)) (hn : n ≤ 1000000) (ht : shortT es) :
    Calls Try.prog 34 #[.slice A n c] w (RetN (ordX es) (val es) w) := by
  have hlen := hl.1
  rw [ents_length] at hlen
  have hle : es.length = n := by omega
  have HL := Lib.hid hl
  have HS := Lib.hid ht
  have HLE := Lib.hid hle
  clear hl ht hlen hle
  go_enter Try.func34, Try.ntmps34
  go_wp2_with fail
  with_reducible refine (validate_any A n c es _ HL.out hn HS.out).mono ?_
  rintro _ w2 ⟨rfl, hb2⟩
  have HW2 := Lib.hid hb2
  clear hb2
  by_cases hv : val es = 0
  case neg =>
    have HV : Hid (ordX es = []) := Lib.hid (if_neg hv)
    have g := neB hv
    clear hv
    go_wp2_with fail
    go_ret2
    rw [HV.out]
    exact RetN.nil rfl HW2.out
  have HV := Lib.hid hv
  have HV2 : Hid (ordX es = ordL es) := Lib.hid (if_pos hv)
  have HC := Lib.hid (val_zero.1 hv)
  have g := neBf hv
  clear hv
  go_wp2_with fail
  with_reducible refine (order_any A n c es _ (HL.out.on HW2.out) hn (card_tame HC.out)).mono ?_
  rintro _ w3 ⟨A', c', js, rfl, hj, hr, hb3⟩
  have hjs := ordd_unique HC.out hj
  have hln : js.length = n := by rw [hjs, ordL_length HC.out, HLE.out]
  rw [← hjs] at HV2
  clear hjs
  have HR := Lib.hid (row_mono hr HW2.out.size)
  have HB := Lib.hid (below_trans' HW2.out hb3)
  have HLN := Lib.hid hln
  clear hj hr hb3 hln
  go_wp2_with fail
  go_ret2
  rw [HV2.out, HV.out]
  refine ⟨A', c', ?_, ?_, HB.out⟩
  · rw [HLN.out]; rfl
  · rw [HLN.out]; exact HR.out
set_option maxRecDepth 100000 in
theorem refOrderE_any (A : Option Addr) (n c : Nat) (es : List Ent) (w : World) (hl : Reads w w.heap.size 6 A n (ents es)) (hn : n ≤ 1000000) (hnc : n ≤ c) (ht : shortT es) :
    Calls Try.prog 35 #[.slice A n c] w (RetN (ordX es) (val es) w) := by
  have hlen := hl.1
  rw [ents_length] at hlen
  have hle : es.length = n := by omega
  have HL := Lib.hid hl
  have HS := Lib.hid ht
  clear hl ht hlen
  go_enter Try.func35, Try.ntmps35
  go_wp2_with fail
  with_reducible refine (refValidate_any A n c es _ HL.out hn hnc HS.out).mono ?_
  rintro _ w2 ⟨rfl, hb2⟩
  have HW2 := Lib.hid hb2
  clear hb2
  by_cases hv : val es = 0
  case neg =>
    have HV : Hid (ordX es = []) := Lib.hid (if_neg hv)
    have g := neB hv
    clear hv
    go_wp2_with fail
    go_ret2
    rw [HV.out]
    exact RetN.nil rfl HW2.out
  have HV := Lib.hid hv
  have HV2 : Hid (ordX es = ordL es) := Lib.hid (if_pos hv)
  have HC := Lib.hid (val_zero.1 hv)
  have g := neBf hv
  have h60 : n ≤ 60 := by have := HC.out.len; omega
  clear hv hle
  go_wp2_with fail
  with_reducible refine (refOrder_any A n c es _ (HL.out.on HW2.out) h60 (card_tame HC.out)).mono ?_
  rintro _ w3 ⟨A', c', rfl, hr, hb3⟩
  obtain ⟨l, hll⟩ : ∃ l, ordL es = l := ⟨_, rfl⟩
  rw [hll] at hr HV2 ⊢
  have HR := Lib.hid (row_mono hr HW2.out.size)
  have HB := Lib.hid (below_trans' HW2.out hb3)
  clear hr hb3 hll
  go_wp2_with fail
  go_ret2
  rw [HV2.out, HV.out]
  exact ⟨A', c', rfl, HR.out, HB.out⟩
set_option maxRecDepth 100000 in
theorem sameInts_refl (A B : Option Addr) (n c d : Nat) (zs : List Int) (w : World) (hl : Reads w w.heap.size 1 A n (ints zs)) (hm : Reads w w.heap.size 1 B n (ints zs)) (hn : n ≤ 1000000) :
    Calls Try.prog 36 #[.slice A n c, .slice B n d] w fun r w' => r = .returned (.bool true) ∧ Below w.heap.size w w' := by
  have hlen := hl.1
  rw [ints_length, Nat.mul_one] at hlen
  have l2 : zs.length = n := by omega
  have HL := Lib.hid hl
  have HM := Lib.hid hm
  clear hl hm hlen
  go_enter Try.func36, Try.ntmps36
  go_wp2_with fail
  go_loopw [5] (fun i wr => ∃ k : Nat, k ≤ n ∧ i = .int .i64 k ∧ Below w.heap.size w wr) (fun i _ => n - (intOf i).toNat)
  case atStart => exact ⟨0, by omega, rfl, Below.refl _ _⟩
  case round =>
    obtain ⟨k, hk, rfl, hbw⟩ := hrel
    have HBW := Lib.hid hbw
    clear hbw
    by_cases hlt : k < n
    · obtain ⟨ad, z, e1, _, hz, d0⟩ := dsat (HL.out.on HBW.out) (k := k) (by omega)
      obtain ⟨ad', z', e1', _, hz', d0'⟩ := dsat (HM.out.on HBW.out) (k := k) (by omega)
      obtain rfl := Option.some.inj (hz.symm.trans hz')
      have X := fun w' => ix46 (c := c) e1 hlt w'
      have Y := fun w' => ix46 (c := d) e1' hlt w'
      clear e1 e1' hz hz'
      go_wp2_with fail
      go_quiet (fail)
      go_wp2_with fail
      go_roundw
      case rel => exact ⟨k + 1, by omega, by go_num, below_drewN' HBW.out _⟩
      case measure => simp [intOf]; omega
    · go_wp2_with fail
      go_ret
      exact ⟨rfl, HBW.out⟩
/-- No entry has seen one that comes later in the order. -/
theorem ord_unseen {es : List Ent} (h : Card es) {i k a b : Nat} (hik : i < k) (hi : (ordL es)[i]? = some a) (hk : (ordL es)[k]? = some b) : hsE es a b = 0 ∧ hsB es a b = false := by
  have ha : a < es.length := (mem_ordL h).1 (List.mem_of_getElem? hi)
  have hb : b < es.length := (mem_ordL h).1 (List.mem_of_getElem? hk)
  have hx : es[a]? = some es[a] := List.getElem?_eq_getElem ha
  have hy : es[b]? = some es[b] := List.getElem?_eq_getElem hb
  obtain ⟨q1, q2⟩ := hs_ok (i := (a : Int)) (j := (b : Int)) (val_zero.2 h) (by omega) (by omega) (by omega) (by omega) hx hy
  refine ⟨q1, ?_⟩
  rw [q2]
  have hlt := (List.getElem?_eq_some_iff.1 hi).1
  have hlt2 := (List.getElem?_eq_some_iff.1 hk).1
  have hp := List.pairwise_iff_getElem.1 (ordL_strict h) i k hlt hlt2 hik
  rw [(List.getElem?_eq_some_iff.1 hi).2, (List.getElem?_eq_some_iff.1 hk).2] at hp
  have := hp _ _ hx hy
  cases hs : sawE es[a] es[b] with
  | false => rfl
  | true =>
    have h2 := age_saw h (List.mem_of_getElem? hx) (List.mem_of_getElem? hy) hs
    unfold aheadE at this
    omega
set_option maxRecDepth 100000 in
set_option maxHeartbeats 4000000 in
theorem lawOrders (A : Option Addr) (n c : Nat) (es : List Ent) (w : World) (hl : InE w w A n c es) :
    Calls Try.prog 9 #[.slice A n c] w fun r w' => r = .returned (.bool true) ∧ Below w.heap.size w w' := by
  have HL := Lib.hid hl
  clear hl
  go_enter Try.func9, Try.ntmps9
  go_wp2_with fail
  with_reducible refine (long_any A n c es _ HL.out.rd).mono ?_
  rintro _ w1 ⟨rfl, hb1⟩
  have HW1 := Lib.hid hb1
  clear hb1
  cases hlong : longE es
  case true =>
    go_wp2_with fail
    with_reducible refine (known_any _).mono ?_
    rintro _ w2 ⟨rfl, hb2⟩
    go_wp2_with fail
    go_ret
    exact ⟨rfl, below_trans' HW1.out hb2⟩
  have HN := Lib.hid (HL.out.small hlong)
  have HS := Lib.hid (long_no hlong).2
  have HC := Lib.hid HL.out.cap
  replace HL := Lib.hid (HL.out.rd.on HW1.out)
  clear hlong
  have hX : ∀ (i k a b : Nat), i < k → (ordX es)[i]? = some a → (ordX es)[k]? = some b → hsE es a b = 0 ∧ hsB es a b = false := fun i k a b hik hi hk => by
    by_cases hv : val es = 0
    · rw [show ordX es = ordL es from if_pos hv] at hi hk
      exact ord_unseen (val_zero.1 hv) hik hi hk
    · rw [show ordX es = [] from if_neg hv] at hi
      simp at hi
  have hlx : (ordX es).length ≤ 1000000 := by
    by_cases hv : val es = 0
    · rw [show ordX es = ordL es from if_pos hv, ordL_length (val_zero.1 hv)]
      have := (val_zero.1 hv).len
      omega
    · rw [show ordX es = [] from if_neg hv]; simp
  have K1 := Order_any A n c es w1 HL.out HN.out HS.out
  have K2 := fun W (hb : Below w1.heap.size w1 W) => refOrderE_any A n c es W (HL.out.on hb) HN.out HC.out HS.out
  obtain ⟨l, hll⟩ : ∃ l, ordX es = l := ⟨_, rfl⟩
  obtain ⟨e, he⟩ : ∃ e, val es = e := ⟨_, rfl⟩
  rw [hll] at hX hlx
  rw [hll, he] at K1 K2
  have HX := Lib.hid hX
  have HLX := Lib.hid hlx
  have HK2 := Lib.hid K2
  clear hX hlx K2 hll he
  go_wp2_with fail
  with_reducible refine K1.mono ?_
  rintro _ w2 ⟨A2, c2, rfl, hr2, hb⟩
  have HR2 := Lib.hid (Reads.of_own hr2)
  have HB2 := Lib.hid hb
  clear hr2 hb K1
  go_wp2_with fail
  with_reducible refine (HK2.out _ HB2.out).mono ?_
  rintro _ w3 ⟨A3, c3, rfl, hr3, hb⟩
  have HR3 := Lib.hid (Reads.of_own hr3)
  replace HR2 := Lib.hid (HR2.out.on hb)
  have HB3 := Lib.hid (below_trans' HB2.out hb)
  clear hr3 hb HB2 HK2
  go_wp2_with fail
  with_reducible refine (sameInts_refl A2 A3 l.length c2 c3 (l.map Int.ofNat) _ HR2.out HR3.out HLX.out).mono ?_
  rintro _ w4 ⟨rfl, hb⟩
  replace HR2 := Lib.hid (HR2.out.on hb)
  have HB4 := Lib.hid (below_trans' HB3.out hb)
  replace HL := Lib.hid (HL.out.on HB4.out)
  have HW4 := Lib.hid (below_trans' HW1.out HB4.out)
  clear hb HB3 HR3 HB4
  have hlx := HLX.out
  go_wp2_with fail
  go_loopw [7, 8, 9, 10] (fun i _ _ _ wr => ∃ k : Nat, k ≤ l.length ∧ i = .int .i64 k ∧ Below w4.heap.size w4 wr) (fun i _ _ _ _ => l.length - (intOf i).toNat)
  case atStart => exact ⟨0, by omega, rfl, Below.refl _ _⟩
  case round =>
    obtain ⟨i, hi, rfl, hbw⟩ := hrel
    have HBW := Lib.hid hbw
    clear hbw
    by_cases hlt : i < l.length
    · have HBW0 := HBW
      go_wp2_with fail
      go_loopw [8, 9, 10] (fun v _ _ wr => ∃ k : Nat, i < k ∧ k ≤ l.length ∧ v = .int .i64 k ∧ Below w4.heap.size w4 wr) (fun v _ _ _ => l.length - (intOf v).toNat)
      case atStart => exact ⟨i + 1, by omega, by omega, by go_num, HBW0.out⟩
      case round =>
        clear HBW HBW0
        obtain ⟨k, hik, hk, rfl, hbw⟩ := hrel
        have HBW := Lib.hid hbw
        clear hbw
        by_cases hlk : k < l.length
        · have ha : l[i]? = some l[i] := List.getElem?_eq_getElem hlt
          have hb : l[k]? = some l[k] := List.getElem?_eq_getElem hlk
          generalize l[i] = a at ha
          generalize l[k] = b at hb
          obtain ⟨ad, z, e1, _, hz, d0⟩ := dsat (HR2.out.on HBW.out) (k := i) (by rw [List.length_map]; exact hlt)
          obtain ⟨ad', z', e1', _, hz', d0'⟩ := dsat (HR2.out.on HBW.out) (k := k) (by rw [List.length_map]; exact hlk)
          obtain rfl : ad = ad' := Option.some.inj (e1.symm.trans e1')
          obtain rfl : (a : Int) = z := by rw [List.getElem?_map, ha] at hz; exact Option.some.inj hz
          obtain rfl : (b : Int) = z' := by rw [List.getElem?_map, hb] at hz'; exact Option.some.inj hz'
          have X := fun w' => ix46 (c := c2) e1 hlt w'
          have Y := fun w' => ix46 (c := c2) e1 hlk w'
          have D0 := rg_cell d0
          have D1 := rg_cell d0'
          obtain ⟨h1, h2⟩ := HX.out i k a b hik ha hb
          have Q0 : Hid (∀ w5, Below wr.heap.size wr w5 → Calls Try.prog 23 #[.slice A n c, .int .i64 a, .int .i64 b] w5 fun r w' => r = .returned (.tuple #[.bool false, .int .i64 0]) ∧ Below w5.heap.size w5 w') := Lib.hid fun w5 hb5 => by
            have := hasSeen_any A n c es a b w5 ((HL.out.on HBW.out).on hb5) HN.out HS.out
            rwa [h1, h2] at this
          clear ha hb e1 e1' hz hz' d0 d0' h1 h2
          go_wp2_with fail
          refine wp_region_qb mixed (by kernel_rfl) ?_
          repeat (go_big_quiet_step (first | exact rg_call Q0.out _ _))
          refine wpQuiet_nil ?_
          intro w5 hb5
          have HB5 := Lib.hid (below_trans' HBW.out hb5)
          clear hb5 X Y D0 D1 Q0
          go_wp2_with fail
          go_roundw
          case rel => exact ⟨k + 1, by omega, by omega, by go_num, HB5.out⟩
          case measure => simp [intOf]; omega
        · go_wp2_with fail
          go_roundw
          case rel => exact ⟨i + 1, by omega, by go_num, HBW.out⟩
          case measure => simp [intOf]; omega
    · go_wp2_with fail
      with_reducible refine (known_any _).mono ?_
      rintro _ w6 ⟨rfl, hb⟩
      have HW6 := Lib.hid (below_trans' HW4.out (below_trans' HBW.out hb))
      clear hb
      go_wp2_with fail
      go_ret
      exact ⟨rfl, HW6.out⟩
end Go.Proofs.Ytlmdmbjdhlgkoaa
