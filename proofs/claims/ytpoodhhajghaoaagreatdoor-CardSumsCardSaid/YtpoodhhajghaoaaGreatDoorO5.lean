/- Walks: the order of a card's entries, the reference's; both with their errors; equal lists of numbers. -/
import Derived.Test.YtpoodhhajghaoaaGreatDoorO4
namespace Go.Proofs.YtpoodhhajghaoaaGreatDoor
open Go.RowKit Go.Sort

/-- The document's list as far as it is made. -/
def curO (es : List Ent) (n p k : Nat) : List Nat := agO es n ++ plO es n p ++ rowO es n p k
section
variable {es : List Ent}
theorem rowO_le (n p k : Nat) : (rowO es n p k).length ≤ k := by
  have := List.length_filter_le (hasO es n p) (List.range k)
  rwa [List.length_range] at this
theorem plO_le (n q : Nat) : (plO es n q).length ≤ q * es.length := by
  induction q with
  | zero => simp [plO]
  | succ q ih =>
    have := rowO_le (es := es) n q es.length
    show (plO es n q ++ rowO es n q es.length).length ≤ _
    rw [List.length_append, Nat.add_mul]
    omega
theorem agO_le (N : Nat) : (agO es N).length ≤ N * (3 * es.length) := by
  induction N with
  | zero => simp [agO]
  | succ N ih =>
    have := plO_le (es := es) N 3
    show (agO es N ++ plO es N 3).length ≤ _
    rw [List.length_append, Nat.add_mul, Nat.one_mul]
    omega
theorem curO_le {n p k : Nat} (h : es.length ≤ 60) (hn : n ≤ 181) (hp : p ≤ 3) (hk : k ≤ 60) : (curO es n p k).length < 1000000000 := by
  have h1 := agO_le (es := es) n
  have h2 := plO_le (es := es) n p
  have h3 := rowO_le (es := es) n p k
  have h4 : n * (3 * es.length) ≤ 181 * 180 := Nat.mul_le_mul hn (by omega)
  have h5 : p * es.length ≤ 3 * 60 := Nat.mul_le_mul hp h
  unfold curO
  rw [List.length_append, List.length_append]
  omega
theorem curO_yes {n p k : Nat} {e : Ent} (he : es[k]? = some e) (h1 : age e = n) (h2 : e.1 = p) : curO es n p (k + 1) = curO es n p k ++ [k] := by
  unfold curO rowO
  rw [List.range_succ, List.filter_append, show [k].filter (hasO es n p) = [k] by simp [hasO_some.2 ⟨e, he, h1, h2⟩]]
  simp only [List.append_assoc]
theorem curO_no {n p k : Nat} {e : Ent} (he : es[k]? = some e) (h : ¬ (age e = n ∧ e.1 = p)) : curO es n p (k + 1) = curO es n p k := by
  unfold curO rowO
  rw [List.range_succ, List.filter_append, show [k].filter (hasO es n p) = [] by
    have : hasO es n p k = false := by
      cases hh : hasO es n p k with
      | false => rfl
      | true =>
        obtain ⟨f, hf, h1, h2⟩ := hasO_some.1 hh
        obtain rfl := Option.some.inj (he.symm.trans hf)
        exact (h ⟨h1, h2⟩).elim
    simp [this], List.append_nil]
theorem curO_pl (n p : Nat) : curO es n p es.length = curO es n (p + 1) 0 := by
  show agO es n ++ plO es n p ++ rowO es n p es.length = agO es n ++ (plO es n p ++ rowO es n p es.length) ++ []
  rw [List.append_nil, List.append_assoc]
theorem curO_ag (n : Nat) : curO es n 3 0 = curO es (n + 1) 0 0 := by
  show agO es n ++ plO es n 3 ++ [] = agO es n ++ plO es n 3 ++ [] ++ []
  rw [List.append_nil, List.append_nil]
theorem curO_end : curO es 181 0 0 = ordL es := by
  show ordL es ++ [] ++ [] = _
  rw [List.append_nil, List.append_nil]
end
theorem len_snocN (l : List Nat) (k : Nat) : (l ++ [k]).length = l.length + 1 := by simp
/-- What the slot holds: a slice of the call's own with these numbers. -/
def HeldN (w0 : World) (l : List Nat) (w : World) (v : Value) : Prop := OwnX 3 1 w0 w v l.length (ints (l.map Int.ofNat))
theorem HeldN.on {w0 w w' : World} {l : List Nat} {v : Value} (h : HeldN w0 l w v) (hb : Below w.heap.size w w') : HeldN w0 l w' v := OwnX.on h hb
theorem HeldN.own {w0 w : World} {l : List Nat} {v : Value} (h : HeldN w0 l w v) : OwnX 3 1 w0 w v l.length (ints (l.map Int.ofNat)) := h
theorem HeldN.bel {w0 w : World} {l : List Nat} {v : Value} (h : HeldN w0 l w v) : Below w0.heap.size w0 w := OwnX.bel h
theorem HeldN.nil (w : World) : HeldN w [] w (.slice none 0 0) := OwnX.nil _ _ _
theorem HeldN.snoc {w0 w : World} {l : List Nat} {k : Nat} {v : Value} (h : OwnX 3 1 w0 w v (l.length + 1) (ints (l.map Int.ofNat) ++ [.int .i64 k])) : HeldN w0 (l ++ [k]) w v := by
  unfold HeldN
  rw [len_snocN]
  simpa [ints] using h
set_option maxRecDepth 100000 in
set_option maxHeartbeats 4000000 in
theorem refOrder_any (A : Option Addr) (n c : Nat) (es : List Ent) (w : World) (hl : Reads w w.heap.size 6 A n (ents es)) (hn : n ≤ 60) (ht : ∀ e ∈ es, tame e) :
    Calls Tryz.prog 17 #[.slice A n c] w fun r w' => ∃ A' c', r = .returned (.slice A' (ordL es).length c') ∧ w'.ownsRow w.heap.size 3 1 (.slice A' (ordL es).length c') (ordL es).length (ints ((ordL es).map Int.ofNat)) ∧ Below w.heap.size w w' := by
  have hlen := hl.1
  rw [ents_length] at hlen
  have l1 : n ≤ es.length := by omega
  have l2 : es.length ≤ n := by omega
  have HL := Lib.hid hl
  have HT := Lib.hid ht
  clear hl ht hlen
  go_enter Tryz.func17, Tryz.ntmps17
  go_wp2_with fail
  go_loopw [3, 4, 5, 6] (fun v i _ _ wr => ∃ a : Nat, a ≤ 181 ∧ i = .int .i64 a ∧ HeldN w (curO es a 0 0) wr v) (fun _ i _ _ _ => 181 - (intOf i).toNat)
  case atStart => exact ⟨0, by omega, rfl, HeldN.nil w⟩
  case round =>
    obtain ⟨a, ha, rfl, hown⟩ := hrel
    have HO := Lib.hid hown
    clear hown
    by_cases hlt : a ≤ 180
    · have i1 : (a : Int) ≤ 180 := by omega
      go_wp2_with fail
      go_loopw [3, 5, 6] (fun v i _ wr => ∃ p : Nat, p ≤ 3 ∧ i = .int .i64 p ∧ HeldN w (curO es a p 0) wr v) (fun _ i _ _ => 3 - (intOf i).toNat)
      case atStart => exact ⟨0, by omega, rfl, HO.out⟩
      case round =>
        clear HO
        obtain ⟨p, hp, rfl, hown⟩ := hrel
        have HO := Lib.hid hown
        clear hown
        by_cases hp3 : p < 3
        · have i2 : (p : Int) < 3 := by omega
          go_wp2_with fail
          go_loopw [3, 6] (fun v i wr => ∃ k : Nat, k ≤ n ∧ i = .int .i64 k ∧ HeldN w (curO es a p k) wr v) (fun _ i _ => n - (intOf i).toNat)
          case atStart => exact ⟨0, by omega, rfl, HO.out⟩
          case round =>
            clear HO
            obtain ⟨k, hk, rfl, hown⟩ := hrel
            have HO := Lib.hid hown
            clear hown
            by_cases hkn : k < n
            · obtain ⟨ad, e, e1, hbk, he, d0, d1, d2, d3, d4, d5⟩ := eat (HL.out.on HO.out.bel) (k := k) (by omega)
              have X := fun w => ix22 (c := c) e1 hkn w
              have HE := Lib.hid he
              have HM := Lib.hid (HT.out e (List.mem_of_getElem? he))
              have hln := curO_le (es := es) (n := a) (p := p) (k := k) (by omega) ha hp (by omega)
              have D0 := Go.Lib.cell?_alloc_some (ebox e) d0
              clear he e1
              go_wp2_with fail
              have K := age_any e wr HM.out
              by_cases h1 : age e = a
              · rw [h1] at K
                with_reducible refine K.mono ?_
                rintro _ w2 ⟨rfl, hw2⟩
                have HO2 := Lib.hid (HO.out.on (belowA wr (ebox e)))
                rw [← hw2] at HO2 D0
                clear d0 d1 d2 d3 d4 d5 HM hw2 HO K
                by_cases h2 : e.1 = p
                · have HC := Lib.hid (curO_yes HE.out h1 h2)
                  rw [h2] at D0
                  clear h1 h2
                  go_wp2_with (at_builtin; refine wpList_pushX rfl _ _ 43 3 rfl Tryz.underlying43 info3b rfl (by omega) (by omega) w _ _ _ _ [.int .i64 k] _ rfl (HO2.out.own.on (belowA _ _)) rfl (Box.new _ _ _) rfl (by intro u hu; rw [List.mem_singleton.1 hu]; rfl) hln ?_; intro v' w' hown'; have HO3 := Lib.hid hown'; clear hown')
                  go_roundw
                  case rel => exact ⟨k + 1, by omega, by go_num, by rw [HC.out]; exact HeldN.snoc HO3.out⟩
                  case measure => simp [intOf]; omega
                · have g2 : (e.1 == (p : Int)) = false := by simpa using h2
                  have HC := Lib.hid (curO_no (n := a) (p := p) HE.out (fun h => h2 h.2))
                  clear h1 h2
                  go_wp2_with fail
                  go_roundw
                  case rel => exact ⟨k + 1, by omega, by go_num, by rw [HC.out]; exact HO2.out⟩
                  case measure => simp [intOf]; omega
              · have g1 : (age e == (a : Int)) = false := by simpa using h1
                have HC := Lib.hid (curO_no (n := a) (p := p) HE.out (fun h => h1 h.1))
                clear h1
                with_reducible refine K.mono ?_
                rintro _ w2 ⟨rfl, hw2⟩
                have HO2 := Lib.hid (HO.out.on (belowA wr (ebox e)))
                rw [← hw2] at HO2 D0
                clear d0 d1 d2 d3 d4 d5 HM hw2 HO K
                go_wp2_with fail
                go_roundw
                case rel => exact ⟨k + 1, by omega, by go_num, by rw [HC.out]; exact HO2.out⟩
                case measure => simp [intOf]; omega
            · have HC : Hid (curO es a p k = curO es a (p + 1) 0) := Lib.hid (by rw [show k = es.length by omega]; exact curO_pl a p)
              rw [HC.out] at HO
              go_wp2_with fail
              go_roundw
              case rel => exact ⟨p + 1, by omega, by go_num, HO.out⟩
              case measure => simp [intOf]; omega
        · have HC : Hid (curO es a p 0 = curO es (a + 1) 0 0) := Lib.hid (by rw [show p = 3 by omega]; exact curO_ag a)
          rw [HC.out] at HO
          go_wp2_with fail
          go_roundw
          case rel => exact ⟨a + 1, by omega, by go_num, HO.out⟩
          case measure => simp [intOf]; omega
    · have HC : Hid (curO es a 0 0 = ordL es) := Lib.hid (by rw [show a = 181 by omega]; exact curO_end)
      rw [HC.out] at HO
      obtain ⟨A', c', hv, _⟩ := HO.out.own.form
      subst hv
      go_wp2_with fail
      go_ret
      exact ⟨A', c', rfl, HO.out.own.row, HO.out.bel⟩
end Go.Proofs.YtpoodhhajghaoaaGreatDoor
