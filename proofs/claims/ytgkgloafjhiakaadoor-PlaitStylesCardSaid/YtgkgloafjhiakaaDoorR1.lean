/- Walks: opposite letters left out, of the program. -/
import Derived.Test.YtgkgloafjhiakaaDoorP8
import Derived.Test.YtgkgloafjhiakaaDoorWd
namespace Go.Proofs.YtgkgloafjhiakaaDoor
open Go.RowKit Go.Sort

/-- Bytes as values. -/
abbrev bys (l : List UInt8) : List Value := l.map fun b => .int .u8 (b.toNat : Int)
theorem bys_length (l : List UInt8) : (bys l).length = l.length := by simp
theorem own_pop {w0 w : World} {v : Value} {q : List UInt8} {d : UInt8} (h : OwnX 5 1 w0 w v (q.length + 1) (bys (q ++ [d]))) :
    ∃ g c, v = .slice (some ⟨g, 0, none⟩) (q.length + 1) c ∧ w.cell? ⟨g, q.length, none⟩ = some (.int .u8 (d.toNat : Int)) ∧ q.length + 1 ≤ c ∧ OwnX 5 1 w0 w (.slice (some ⟨g, 0, none⟩) q.length c) q.length (bys q) := by
  obtain ⟨⟨hx, h2⟩, hb⟩ := h
  rcases h2 with ⟨_, h0⟩ | ⟨g, cap, cur, hv, hg, hh, hn, hcap, hsz, htake⟩
  · omega
  · subst hv
    refine ⟨g, cap, rfl, ?_, hn, ⟨⟨by simp, .inr ⟨g, cap, cur, rfl, hg, hh, by omega, hcap, hsz, ?_⟩⟩, hb⟩⟩
    · rw [cell_of_row _ _ _ _ _ _ hh]
      have : (cur.toList.take ((q.length + 1) * 1))[q.length]? = some (.int .u8 (d.toNat : Int)) := by rw [htake]; simp
      rw [List.getElem?_take_of_lt (by omega)] at this
      rw [← this]; simp
    · have h3 : (cur.toList.take ((q.length + 1) * 1)).take (q.length * 1) = (bys (q ++ [d])).take (q.length * 1) := by rw [htake]
      rw [List.take_take, Nat.min_eq_left (by omega)] at h3
      rw [h3]; simp
theorem other_on (c : UInt8) (w0 : World) : ∀ w, Below w0.heap.size w0 w → Calls Tryd.prog 69 #[.int .u8 (c.toNat : Int)] w fun r w' => r = .returned (.int .u8 ((c ^^^ 32).toNat : Int)) ∧ Below w.heap.size w w' := fun w _ => (other_any c w).mono fun r w' ⟨h1, h2⟩ => ⟨h1, by rw [h2]; exact Below.refl _ _⟩
theorem conv_row {w : World} {B : Nat} {A : Option Addr} {c : Nat} {p : List UInt8} (h : Reads w B 1 A p.length (bys p)) : (convert 70 9 (.slice A p.length c)).run Tryd.prog w = .ok (.string (mkB p)) w := by
  cases A with
  | none =>
    have h0 : p.length = 0 := by
      rcases Nat.eq_zero_or_pos p.length with h0 | h0
      · exact h0
      · obtain ⟨_, hp, _⟩ := h.look h0; cases hp
    obtain rfl := List.length_eq_zero_iff.1 h0
    show (convert 70 9 (.slice none 0 c)).run Tryd.prog w = _
    rw [run_convert_bytes_string w 70 9 5 none 0 c (by kernel_rfl) (by kernel_rfl) (by kernel_rfl)]
    rfl
  | some a =>
    refine run_convert_bytes_back (P := Tryd.prog) w 70 9 5 a c p (by kernel_rfl) (by kernel_rfl) (by kernel_rfl) (fun j hj => ?_)
    obtain ⟨q, hq, _, hc⟩ := h.look (by omega)
    obtain rfl := Option.some.inj hq
    exact hc j _ (by rw [List.getElem?_map, List.getElem?_eq_getElem hj]; rfl)
theorem ne_int {a b : UInt8} (h : a ≠ b) : (((a.toNat : Nat) : Int) == ((b.toNat : Nat) : Int)) = false := by
  refine beq_false_of_ne fun e => h (UInt8.toNat_inj.1 (by omega))
set_option maxRecDepth 100000 in
set_option maxHeartbeats 4000000 in
theorem reduce1_any (t : ByteArray) (w : World) (ht : t.size ≤ 60) (hW : wordL (liB t)) : Calls Tryd.prog 68 #[.string t] w fun r w' => r = .returned (.string (mkB (redL (liB t)))) ∧ Below w.heap.size w w' := by
  have hl := li_size t
  go_enter Tryd.func68, Tryd.ntmps68
  go_wp2_with fail
  go_loopw [3, 8] (fun v i wr => ∃ k : Nat, k ≤ t.size ∧ i = .int .i64 k ∧ OwnX 5 1 w wr v (redL ((liB t).take k)).length (bys (redL ((liB t).take k)))) (fun _ i _ => t.size - (intOf i).toNat)
  case atStart => exact ⟨0, by omega, rfl, ⟨⟨by simp [redL], .inl ⟨rfl, rfl⟩⟩, Below.refl _ _⟩⟩
  case round =>
    obtain ⟨k, hk, rfl, ho⟩ := hrel
    by_cases hlt : k < t.size
    · have hll : k < (liB t).length := by omega
      have hget := get_li hlt hll
      have hLk : isL t[k] := by rw [← hget]; exact hW _ (List.getElem_mem hll)
      have HT := Lib.hid (redL_take hll)
      rw [hget] at HT
      clear hget
      have hlen := redL_length (wordL_take hW k)
      rw [List.length_take] at hlen
      have O := other_on t[k] wr
      generalize hcc : t[k] = d at HT hLk O
      generalize redL ((liB t).take k) = p at HT ho hlen
      have hp60 : p.length ≤ 60 := by omega
      clear hlen
      rcases rdL_cases p d with ⟨q, rfl, e⟩ | ⟨hn, e⟩
      · rw [e] at HT
        rw [List.length_append, List.length_singleton] at ho hp60
        obtain ⟨g, c, rfl, hc, hqc, ho2⟩ := own_pop ho
        have HO2 := Lib.hid ho2
        have h0 : decide ((0 : Int) < ((q.length : Int) + 1)) = true := decide_eq_true (by omega)
        have hX := rg_cell hc
        generalize hd2 : d ^^^ 32 = d2 at hc O hX e
        clear ho ho2 e
        go_wp2_with fail
        refine wp_region_qb mixed (by kernel_rfl) ?_
        repeat (go_big_quiet_step (first | with_reducible exact rg_call O _ _))
        refine wpQuiet_nil ?_
        intro w2 hb2
        have HO3 := Lib.hid (HO2.out.on hb2)
        clear hb2 hX O hc HO2 h0
        go_wp2_with fail
        go_roundw
        case rel => exact ⟨k + 1, by omega, by go_num, by rw [HT.out]; exact HO3.out⟩
        case measure => simp [intOf]; omega
      · rw [e] at HT
        rcases List.eq_nil_or_concat p with rfl | ⟨q, z, rfl⟩
        · have h0 : decide ((0 : Int) < (([] : List UInt8).length : Int)) = false := rfl
          obtain ⟨A, c, rfl, _⟩ := ho.form
          have HO2 := Lib.hid ho
          clear ho hn e
          go_wp2_with fail
          refine wp_region_qb mixed (by kernel_rfl) ?_
          repeat (go_big_quiet_step (first | with_reducible exact rg_call O _ _))
          refine wpQuiet_nil ?_
          intro w2 hb2
          have HO3 := Lib.hid (HO2.out.on hb2)
          clear hb2 O HO2 h0
          go_wp2_with (at_builtin; refine wpList_pushX rfl _ _ 70 5 rfl Tryd.underlying70 info5b rfl (by omega) (by omega) w _ _ _ _ [.int .u8 (d.toNat : Int)] _ rfl (HO3.out.on (belowA _ _)) rfl (Box.new _ _ _) rfl (by intro u hu; rw [List.mem_singleton.1 hu]; rfl) (by decide) ?_; intro v' w' hown'; have HO4 := Lib.hid hown'; clear hown')
          go_roundw
          case rel => exact ⟨k + 1, by omega, by go_num, by rw [HT.out]; exact HO4.out⟩
          case measure => simp [intOf]; omega
        · have hz : z ≠ d ^^^ 32 := fun h => hn (by rw [h]; simp)
          have hne := ne_int hz
          rw [List.concat_eq_append] at HT ho hp60
          have hp60' : q.length + 1 ≤ 60 := by simpa using hp60
          have ho' := ho
          rw [List.length_append, List.length_singleton] at ho'
          obtain ⟨g, c, rfl, hc, hqc, _⟩ := own_pop ho'
          have HO2 := Lib.hid ho'
          have h0 : decide ((0 : Int) < ((q.length : Int) + 1)) = true := decide_eq_true (by omega)
          have hX := rg_cell hc
          generalize d ^^^ 32 = d2 at hne O
          clear ho ho' e hn hz hp60
          go_wp2_with fail
          refine wp_region_qb mixed (by kernel_rfl) ?_
          repeat (go_big_quiet_step (first | with_reducible exact rg_call O _ _))
          refine wpQuiet_nil ?_
          intro w2 hb2
          have HO3 := Lib.hid (HO2.out.on hb2)
          clear hb2 hX O hc HO2 h0 hne
          go_wp2_with (at_builtin; refine wpList_pushX rfl _ _ 70 5 rfl Tryd.underlying70 info5b rfl (by omega) (by omega) w _ _ _ _ [.int .u8 (d.toNat : Int)] _ rfl (HO3.out.on (belowA _ _)) rfl (Box.new _ _ _) rfl (by intro u hu; rw [List.mem_singleton.1 hu]; rfl) (by omega) ?_; intro v' w' hown'; have HO4 := Lib.hid hown'; clear hown')
          go_roundw
          case rel => exact ⟨k + 1, by omega, by go_num, by rw [HT.out]; simpa using HO4.out⟩
          case measure => simp [intOf]; omega
    · obtain rfl : k = t.size := by omega
      rw [show (liB t).take t.size = liB t by rw [← hl]; exact List.take_length] at ho
      generalize hp : redL (liB t) = p at ho
      have HPP := Lib.hid hp
      clear hp
      obtain ⟨A, c, rfl, hr⟩ := ho.form
      have HB := Lib.hid ho.bel
      have CB : (convert 70 9 (.slice A p.length c)).run Tryd.prog wr = .ok (.string (mkB p)) wr := conv_row hr
      clear ho hr
      go_wp2_with fail
      go_ret
      exact ⟨by rw [HPP.out]; rfl, HB.out⟩
theorem changed68_any (t : ByteArray) (w : World) (ht : t.size ≤ 1000000) : Calls Tryd.prog 61 #[.string t, .func (.func 68) #[] #[]] w fun r w' => r = .returned (ansW t (redL (liB t))) ∧ Below w.heap.size w w' := by
  go_enter Tryd.func61, Tryd.ntmps61
  go_wp2_with fail
  with_reducible refine (valid_any t _ ht).mono ?_
  rintro _ w2 ⟨rfl, hb⟩
  have HB := Lib.hid hb
  clear hb
  by_cases h : okW t = true
  · have HA := Lib.hid (ansW_ok h (redL (liB t)))
    have hW := okW_iff.1 h
    rw [h]
    clear h
    go_wp2_with fail
    with_reducible refine (reduce1_any t _ hW.1 hW.2).mono ?_
    rintro _ w3 ⟨rfl, hb⟩
    have HB2 := Lib.hid (below_trans' HB.out hb)
    clear hb
    go_wp2_with fail
    go_ret2
    exact ⟨by rw [HA.out]; rfl, HB2.out⟩
  · have h' : okW t = false := by simpa using h
    have HA := Lib.hid (ansW_no h' (redL (liB t)))
    rw [h']
    clear h h'
    go_wp2_with fail
    go_ret2
    exact ⟨by rw [HA.out]; rfl, HB.out⟩
theorem reduce_any (t : ByteArray) (w : World) (ht : t.size ≤ 1000000) : Calls Tryd.prog 29 #[.string t] w fun r w' => r = .returned (ansW t (redL (liB t))) ∧ Below w.heap.size w w' := by
  go_enter Tryd.func29, Tryd.ntmps29
  go_wp2_with fail
  with_reducible refine (changed68_any t _ ht).mono ?_
  rintro _ w2 ⟨rfl, hb⟩
  have HB := Lib.hid hb
  clear hb
  unfold ansW
  go_wp2_with fail
  go_ret2
  exact ⟨rfl, HB.out⟩
theorem opp_on {c : UInt8} (h : isL c) (w0 : World) : ∀ w, Below w0.heap.size w0 w → Calls Tryd.prog 70 #[.int .u8 (c.toNat : Int)] w fun r w' => r = .returned (.int .u8 ((c ^^^ 32).toNat : Int)) ∧ Below w.heap.size w w' := fun w _ => (opposite_any c h w).mono fun r w' ⟨h1, h2⟩ => ⟨h1, by rw [h2]; exact Below.refl _ _⟩
theorem mk_snoc (q : List UInt8) (d : UInt8) : ∃ h : q.length < (mkB (q ++ [d])).size, (mkB (q ++ [d]))[q.length] = d := ⟨by show q.length < (q ++ [d]).length; simp, by show (q ++ [d])[q.length]'_ = d; simp⟩
theorem mk_front (q : List UInt8) (d : UInt8) : (mkB (q ++ [d])).extract 0 q.length = mkB q := by
  apply ByteArray.ext
  simp [ByteArray.data_extract]
set_option maxRecDepth 100000 in
set_option maxHeartbeats 4000000 in
theorem refReduce_any (t : ByteArray) (w : World) (ht : t.size ≤ 1000000) : Calls Tryd.prog 30 #[.string t] w fun r w' => r = .returned (ansW t (redL (liB t))) ∧ Below w.heap.size w w' := by
  go_enter Tryd.func30, Tryd.ntmps30
  go_wp2_with fail
  with_reducible refine (refValid_any t _ ht).mono ?_
  rintro _ w2 ⟨rfl, rfl⟩
  rcases Bool.eq_false_or_eq_true (okW t) with h | h'
  · have HA := Lib.hid (ansW_ok h (redL (liB t)))
    have hW := (okW_iff.1 h).2
    have h60 := (okW_iff.1 h).1
    have hl := li_size t
    rw [h]
    clear h
    go_wp2_with fail
    go_loopw [4, 5] (fun v i wr => ∃ k : Nat, k ≤ t.size ∧ i = .int .i64 k ∧ v = .string (mkB (redL ((liB t).take k))) ∧ Below w2.heap.size w2 wr) (fun _ i _ => t.size - (intOf i).toNat)
    case atStart => exact ⟨0, by omega, rfl, rfl, Below.refl _ _⟩
    case round =>
      obtain ⟨k, hk, rfl, rfl, hb⟩ := hrel
      have HB := Lib.hid hb
      clear hb
      by_cases hlt : k < t.size
      · have hll : k < (liB t).length := by omega
        have hget := get_li hlt hll
        have hLk : isL t[k] := by rw [← hget]; exact hW _ (List.getElem_mem hll)
        have HT := Lib.hid (redL_take hll)
        rw [hget] at HT
        clear hget
        have hlen := redL_length (wordL_take hW k)
        rw [List.length_take] at hlen
        have O := opp_on hLk wr
        have hs1 := slice1 hlt
        generalize hcc : t[k] = d at HT hLk O hs1
        generalize redL ((liB t).take k) = p at HT hlen ⊢
        have hp60 : p.length ≤ 60 := by omega
        have hps := size_mk p
        clear hlen
        rcases rdL_cases p d with ⟨q, rfl, e⟩ | ⟨hn, e⟩
        · rw [e] at HT
          rw [List.length_append, List.length_singleton] at hp60 hps
          have h0 : decide ((0 : Int) < ((q.length : Int) + 1)) = true := decide_eq_true (by omega)
          obtain ⟨hq1, hq2⟩ := mk_snoc q (d ^^^ 32)
          have hfr := mk_front q (d ^^^ 32)
          generalize hd2 : d ^^^ 32 = d2 at O e hq1 hq2 hfr hps ⊢
          clear e
          go_wp2_with fail
          refine wp_region_qb mixed (by kernel_rfl) ?_
          repeat (go_big_quiet_step (first | with_reducible exact rg_call O _ _))
          refine wpQuiet_nil ?_
          intro w3 hb3
          have HB3 := Lib.hid (below_trans' HB.out hb3)
          clear hb3 O h0
          go_wp2_with fail
          go_roundw
          case rel => exact ⟨k + 1, by omega, by go_num, by rw [HT.out], HB3.out⟩
          case measure => simp [intOf]; omega
        · rw [e] at HT
          have hap := mk_append p [d]
          rcases List.eq_nil_or_concat p with rfl | ⟨q, z, rfl⟩
          · have h0 : decide ((0 : Int) < (([] : List UInt8).length : Int)) = false := rfl
            clear hn e
            go_wp2_with fail
            refine wp_region_qb mixed (by kernel_rfl) ?_
            repeat (go_big_quiet_step (first | with_reducible exact rg_call O _ _))
            refine wpQuiet_nil ?_
            intro w3 hb3
            have HB3 := Lib.hid (below_trans' HB.out hb3)
            clear hb3 O h0
            go_wp2_with fail
            go_roundw
            case rel => exact ⟨k + 1, by omega, by go_num, by rw [HT.out]; simp, HB3.out⟩
            case measure => simp [intOf]; omega
          · have hz : z ≠ d ^^^ 32 := fun h => hn (by rw [h]; simp)
            have hne := ne_int hz
            rw [List.concat_eq_append] at HT hap hp60 hps ⊢
            rw [List.length_append, List.length_singleton] at hp60 hps
            obtain ⟨hq1, hq2⟩ := mk_snoc q z
            have h0 : decide ((0 : Int) < ((q.length : Int) + 1)) = true := decide_eq_true (by omega)
            generalize d ^^^ 32 = d2 at hne O
            clear e hn hz
            go_wp2_with fail
            refine wp_region_qb mixed (by kernel_rfl) ?_
            repeat (go_big_quiet_step (first | with_reducible exact rg_call O _ _))
            refine wpQuiet_nil ?_
            intro w3 hb3
            have HB3 := Lib.hid (below_trans' HB.out hb3)
            clear hb3 O h0 hne
            go_wp2_with fail
            go_roundw
            case rel => exact ⟨k + 1, by omega, by go_num, by rw [HT.out]; simp, HB3.out⟩
            case measure => simp [intOf]; omega
      · obtain rfl : k = t.size := by omega
        have HL := Lib.hid (show (liB t).take t.size = liB t by rw [← hl]; exact List.take_length)
        go_wp2_with fail
        go_ret2
        exact ⟨by rw [HA.out, HL.out]; rfl, HB.out⟩
  · have HA := Lib.hid (ansW_no h' (redL (liB t)))
    rw [h']
    clear h'
    go_wp2_with fail
    go_ret2
    exact ⟨by rw [HA.out]; rfl, Below.refl _ _⟩
end Go.Proofs.YtgkgloafjhiakaaDoor
