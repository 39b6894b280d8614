/- Walks: the normal form of a word; the reference's side. -/
import Derived.Test.YtgkgloafjhiakaaDoorP9
namespace Go.Proofs.YtgkgloafjhiakaaDoor
open Go.RowKit Go.Sort

/-- What find answers. -/
def Found (p : List UInt8) (v : Value) : Prop := (v = .int .i64 (-1) ∧ noHalf p) ∨ ∃ x y m, v = .int .i64 (x.length : Int) ∧ p = x ++ (m ++ y) ∧ matL m = dM ∧ m.length = 3
theorem find_found (p : List UInt8) (w : World) (hp : p.length ≤ 1000) : Calls Tryd.prog 80 #[.string (mkB p)] w fun r w' => w' = w ∧ ∃ v, r = .returned v ∧ Found p v :=
  (find_any p w hp).mono fun r w' ⟨h1, h2⟩ => ⟨h1, by
    rcases h2 with ⟨h2, h3⟩ | ⟨x, y, m, h2, h3⟩
    · exact ⟨_, h2, .inl ⟨rfl, h3⟩⟩
    · exact ⟨_, h2, .inr ⟨x, y, m, rfl, h3⟩⟩⟩
def strLen : Value → Nat
  | .string s => s.size
  | _ => 0
theorem extract_one {t : ByteArray} {j : Nat} (hlt : j < t.size) : (t.extract j (j + 1)).toList = [t[j]] := by
  rw [ByteArray.toList_eq, slice1 hlt]
theorem ext_left (x z : List UInt8) : (mkB (x ++ z)).extract 0 x.length = mkB x := by rw [extract_mk]; simp
theorem ext_right (x m y : List UInt8) (n : Nat) (hm : m.length = 3) (hn : n = x.length + 3 + y.length) : (mkB (x ++ (m ++ y))).extract (x.length + 3) n = mkB y := by
  rw [extract_mk]
  congr 1
  rw [show x.length + 3 = (x ++ m).length by simp [hm], ← List.append_assoc, List.drop_left, List.take_of_length_le]
  rw [List.length_append, hm]; omega
set_option maxRecDepth 100000 in
set_option maxHeartbeats 4000000 in
theorem refNormal_any (t : ByteArray) (w : World) (ht : t.size ≤ 60) (hW : wordL (liB t)) :
    Calls Tryd.prog 56 #[.string t] w fun r w' => ∃ k p, r = .returned (.tuple #[.int .i64 k, .string (mkB p)]) ∧ Nf (liB t) k p ∧ Below w.heap.size w w' := by
  have hl := li_size t
  go_enter Tryd.func56, Tryd.ntmps56
  go_wp2_with fail
  go_loopw [4, 5, 6] (fun a b i wr => ∃ j : Nat, j ≤ t.size ∧ i = .int .i64 j ∧ Below w.heap.size w wr ∧ ∃ k p, a = .int .i64 k ∧ b = .string (mkB p) ∧ Nf ((liB t).take j) k p) (fun _ _ i _ => t.size - (intOf i).toNat)
  case atStart => exact ⟨0, by omega, rfl, Below.refl _ _, 0, [], rfl, rfl, Nf.nil⟩
  case round =>
    obtain ⟨j, hj, rfl, hb, k, p, rfl, rfl, hn⟩ := hrel
    have HB := Lib.hid hb
    have HN := Lib.hid hn
    clear hb hn
    by_cases hlt : j < t.size
    · have hll : j < (liB t).length := by omega
      have hget := get_li hlt hll
      have hLk : isL t[j] := by rw [← hget]; exact hW _ (List.getElem_mem hll)
      have HT : Hid ((liB t).take (j + 1) = (liB t).take j ++ [t[j]]) := Lib.hid (by rw [← hget]; exact List.take_succ_eq_append_getElem hll)
      have HC := Lib.hid (cross_form HN.out.form hLk)
      have q0 : -1000 ≤ k ∧ k ≤ 1000 := by
        have h1 := HN.out.form.high; have h2 := HN.out.form.low
        rw [List.length_take] at h1 h2
        omega
      have q1 : p.length ≤ 1000 := by
        have h1 := HN.out.form.len
        rw [List.length_take] at h1
        omega
      have e := extract_one hlt
      have s0 : (mkB p).size = p.length := size_mk p
      have s00 : (t.extract j (j + 1)).size = 1 := by rw [slice1 hlt]; rfl
      have HS := Lib.hid (slice1 hlt)
      have HW : Hid (wordL p) := Lib.hid (posL_word HN.out.form.pos)
      have HL2 : Hid (((liB t).take (j + 1)).length ≤ 60) := Lib.hid (by rw [List.length_take]; omega)
      clear hget HN
      generalize hcc : t[j] = c at e HC HS hLk HT
      clear hcc
      rcases hLk with rfl | rfl | rfl | rfl
      · have x00 := HS.out
        go_wp2_with fail
        rw [mk_append]
        have HNN : Hid (Nform ((liB t).take (j + 1)) (k) (p ++ [97])) := Lib.hid (by rw [HT.out]; exact HC.out.2.2 (by decide) (by decide))
        have q3 : (p ++ [97]).length ≤ 1000 := by
          have h1 := HNN.out.len; have h2 := HL2.out
          omega
        with_reducible refine (find_found (p ++ [97]) _ q3).mono ?_
        rintro _ _ ⟨rfl, v, rfl, hv⟩
        have HV := Lib.hid hv
        clear hv HT HC HS HW q0 q1 q3 e s0 s00
        go_wp2_with fail
        go_loopw [4, 5, 8] (fun a b f wr => Below w.heap.size w wr ∧ ∃ k p, a = .int .i64 k ∧ b = .string (mkB p) ∧ Nform ((liB t).take (j + 1)) k p ∧ Found p f) (fun _ b _ _ => strLen b)
        case atStart => exact ⟨HB.out, _, _, rfl, rfl, HNN.out, HV.out⟩
        case round =>
          obtain ⟨hb1, k1, p1, rfl, rfl, hn1, hf1⟩ := hrel
          have q2 : -1000 ≤ k1 ∧ k1 ≤ 1000 := by
            have h1 := hn1.high; have h2 := hn1.low; have h3 := HL2.out
            omega
          have q3 : p1.length ≤ 1000 := by
            have h2 := hn1.len; have h3 := HL2.out
            omega
          have HB1 := Lib.hid hb1
          have HN1 := Lib.hid hn1
          clear hb1 hn1 HNN HV
          rcases hf1 with ⟨rfl, hno⟩ | ⟨x, y, m, rfl, rfl, hm, hml⟩
          · have HNO := Lib.hid hno
            clear hno
            go_wp2_with fail
            go_roundw
            case rel => exact ⟨j + 1, by omega, by go_num, HB1.out, k1, p1, rfl, rfl, HN1.out, HNO.out⟩
            case measure => simp [intOf]; omega
          · have HX : Hid (Nform ((liB t).take (j + 1)) (k1 + 1) (flL x ++ y)) := Lib.hid (HN1.out.twist hm hml)
            have hpl : (x ++ (m ++ y)).length = x.length + 3 + y.length := by simp [hml]; omega
            have s1 : (mkB (x ++ (m ++ y))).size = x.length + 3 + y.length := by rw [size_mk]; exact hpl
            have x0 := ext_left x (m ++ y)
            have x1 := ext_right x m y _ hml s1
            rw [s1] at x1
            rw [hpl] at q3
            have s2 : (mkB y).size = y.length := size_mk y
            have s3 : (mkB (flL x)).size = x.length := by rw [size_mk]; simp [flL]
            have q4 : (flL x ++ y).length ≤ 1000 := by simp [flL]; omega
            have HWX : Hid (wordL x) := Lib.hid fun c hc => posL_word HN1.out.pos c (by simp [hc])
            have Q0 : Hid (∀ w4, Calls Tryd.prog 67 #[.string (mkB x)] w4 fun r w' => r = .returned (.string (mkB (flL x))) ∧ Below w4.heap.size w4 w') := Lib.hid fun w4 => refFlipped_any (mkB x) w4 (by rw [size_mk]; omega) HWX.out
            clear hm hml HN1
            go_wp2_with fail
            refine wp_region_qb mixed (by kernel_rfl) ?_
            repeat (go_big_quiet_step (first | exact rg_call (fun w4 _ => Q0.out w4) _ _))
            refine wpQuiet_nil ?_
            intro w5 hb5
            have HB5 := Lib.hid (HB1.out.trans (hb5.mono (HB1.out.size)))
            clear hb5
            go_wp2_with fail
            rw [x1, mk_append]
            with_reducible refine (find_found (flL x ++ y) _ q4).mono ?_
            rintro _ _ ⟨rfl, v2, rfl, hv2⟩
            have HV2 := Lib.hid hv2
            clear hv2
            have s5 : (mkB (flL x ++ y)).size = x.length + y.length := by rw [size_mk]; simp [flL]
            go_wp2_with fail
            go_roundw
            case rel => exact ⟨HB5.out, k1 + 1, _, rfl, rfl, HX.out, HV2.out⟩
            case measure =>
              show (mkB (flL x ++ y)).size < (mkB (x ++ (m ++ y))).size
              omega
      · go_wp2_with fail
        with_reducible refine (refFlipped_any (mkB p) _ ?_ HW.out).mono ?_
        · rw [size_mk]; omega
        rintro _ w2 ⟨rfl, hb2⟩
        have HB2 := Lib.hid (HB.out.trans (hb2.mono HB.out.size))
        clear hb2
        rw [li_mk]
        have s4 : (mkB (flL p)).size = p.length := by rw [size_mk]; simp [flL]
        go_wp2_with fail
        rw [show ({ data := #[97, 98] } : ByteArray) = mkB [97, 98] from rfl, mk_append]
        have HNN : Hid (Nform ((liB t).take (j + 1)) (k - 1) (flL p ++ [97, 98])) := Lib.hid (by rw [HT.out]; exact HC.out.1 (by trivial))
        have q3 : (flL p ++ [97, 98]).length ≤ 1000 := by
          have h1 := HNN.out.len; have h2 := HL2.out
          omega
        with_reducible refine (find_found (flL p ++ [97, 98]) _ q3).mono ?_
        rintro _ _ ⟨rfl, v, rfl, hv⟩
        have HV := Lib.hid hv
        clear hv HT HC HS HW q0 q1 q3 e s0 s00
        go_wp2_with fail
        go_loopw [4, 5, 8] (fun a b f wr => Below w.heap.size w wr ∧ ∃ k p, a = .int .i64 k ∧ b = .string (mkB p) ∧ Nform ((liB t).take (j + 1)) k p ∧ Found p f) (fun _ b _ _ => strLen b)
        case atStart => exact ⟨HB2.out, _, _, rfl, rfl, HNN.out, HV.out⟩
        case round =>
          obtain ⟨hb1, k1, p1, rfl, rfl, hn1, hf1⟩ := hrel
          have q2 : -1000 ≤ k1 ∧ k1 ≤ 1000 := by
            have h1 := hn1.high; have h2 := hn1.low; have h3 := HL2.out
            omega
          have q3 : p1.length ≤ 1000 := by
            have h2 := hn1.len; have h3 := HL2.out
            omega
          have HB1 := Lib.hid hb1
          have HN1 := Lib.hid hn1
          clear hb1 hn1 HNN HV
          rcases hf1 with ⟨rfl, hno⟩ | ⟨x, y, m, rfl, rfl, hm, hml⟩
          · have HNO := Lib.hid hno
            clear hno
            go_wp2_with fail
            go_roundw
            case rel => exact ⟨j + 1, by omega, by go_num, HB1.out, k1, p1, rfl, rfl, HN1.out, HNO.out⟩
            case measure => simp [intOf]; omega
          · have HX : Hid (Nform ((liB t).take (j + 1)) (k1 + 1) (flL x ++ y)) := Lib.hid (HN1.out.twist hm hml)
            have hpl : (x ++ (m ++ y)).length = x.length + 3 + y.length := by simp [hml]; omega
            have s1 : (mkB (x ++ (m ++ y))).size = x.length + 3 + y.length := by rw [size_mk]; exact hpl
            have x0 := ext_left x (m ++ y)
            have x1 := ext_right x m y _ hml s1
            rw [s1] at x1
            rw [hpl] at q3
            have s2 : (mkB y).size = y.length := size_mk y
            have s3 : (mkB (flL x)).size = x.length := by rw [size_mk]; simp [flL]
            have q4 : (flL x ++ y).length ≤ 1000 := by simp [flL]; omega
            have HWX : Hid (wordL x) := Lib.hid fun c hc => posL_word HN1.out.pos c (by simp [hc])
            have Q0 : Hid (∀ w4, Calls Tryd.prog 67 #[.string (mkB x)] w4 fun r w' => r = .returned (.string (mkB (flL x))) ∧ Below w4.heap.size w4 w') := Lib.hid fun w4 => refFlipped_any (mkB x) w4 (by rw [size_mk]; omega) HWX.out
            clear hm hml HN1
            go_wp2_with fail
            refine wp_region_qb mixed (by kernel_rfl) ?_
            repeat (go_big_quiet_step (first | exact rg_call (fun w4 _ => Q0.out w4) _ _))
            refine wpQuiet_nil ?_
            intro w5 hb5
            have HB5 := Lib.hid (HB1.out.trans (hb5.mono (HB1.out.size)))
            clear hb5
            go_wp2_with fail
            rw [x1, mk_append]
            with_reducible refine (find_found (flL x ++ y) _ q4).mono ?_
            rintro _ _ ⟨rfl, v2, rfl, hv2⟩
            have HV2 := Lib.hid hv2
            clear hv2
            have s5 : (mkB (flL x ++ y)).size = x.length + y.length := by rw [size_mk]; simp [flL]
            go_wp2_with fail
            go_roundw
            case rel => exact ⟨HB5.out, k1 + 1, _, rfl, rfl, HX.out, HV2.out⟩
            case measure =>
              show (mkB (flL x ++ y)).size < (mkB (x ++ (m ++ y))).size
              omega
      · have x00 := HS.out
        go_wp2_with fail
        rw [mk_append]
        have HNN : Hid (Nform ((liB t).take (j + 1)) (k) (p ++ [98])) := Lib.hid (by rw [HT.out]; exact HC.out.2.2 (by decide) (by decide))
        have q3 : (p ++ [98]).length ≤ 1000 := by
          have h1 := HNN.out.len; have h2 := HL2.out
          omega
        with_reducible refine (find_found (p ++ [98]) _ q3).mono ?_
        rintro _ _ ⟨rfl, v, rfl, hv⟩
        have HV := Lib.hid hv
        clear hv HT HC HS HW q0 q1 q3 e s0 s00
        go_wp2_with fail
        go_loopw [4, 5, 8] (fun a b f wr => Below w.heap.size w wr ∧ ∃ k p, a = .int .i64 k ∧ b = .string (mkB p) ∧ Nform ((liB t).take (j + 1)) k p ∧ Found p f) (fun _ b _ _ => strLen b)
        case atStart => exact ⟨HB.out, _, _, rfl, rfl, HNN.out, HV.out⟩
        case round =>
          obtain ⟨hb1, k1, p1, rfl, rfl, hn1, hf1⟩ := hrel
          have q2 : -1000 ≤ k1 ∧ k1 ≤ 1000 := by
            have h1 := hn1.high; have h2 := hn1.low; have h3 := HL2.out
            omega
          have q3 : p1.length ≤ 1000 := by
            have h2 := hn1.len; have h3 := HL2.out
            omega
          have HB1 := Lib.hid hb1
          have HN1 := Lib.hid hn1
          clear hb1 hn1 HNN HV
          rcases hf1 with ⟨rfl, hno⟩ | ⟨x, y, m, rfl, rfl, hm, hml⟩
          · have HNO := Lib.hid hno
            clear hno
            go_wp2_with fail
            go_roundw
            case rel => exact ⟨j + 1, by omega, by go_num, HB1.out, k1, p1, rfl, rfl, HN1.out, HNO.out⟩
            case measure => simp [intOf]; omega
          · have HX : Hid (Nform ((liB t).take (j + 1)) (k1 + 1) (flL x ++ y)) := Lib.hid (HN1.out.twist hm hml)
            have hpl : (x ++ (m ++ y)).length = x.length + 3 + y.length := by simp [hml]; omega
            have s1 : (mkB (x ++ (m ++ y))).size = x.length + 3 + y.length := by rw [size_mk]; exact hpl
            have x0 := ext_left x (m ++ y)
            have x1 := ext_right x m y _ hml s1
            rw [s1] at x1
            rw [hpl] at q3
            have s2 : (mkB y).size = y.length := size_mk y
            have s3 : (mkB (flL x)).size = x.length := by rw [size_mk]; simp [flL]
            have q4 : (flL x ++ y).length ≤ 1000 := by simp [flL]; omega
            have HWX : Hid (wordL x) := Lib.hid fun c hc => posL_word HN1.out.pos c (by simp [hc])
            have Q0 : Hid (∀ w4, Calls Tryd.prog 67 #[.string (mkB x)] w4 fun r w' => r = .returned (.string (mkB (flL x))) ∧ Below w4.heap.size w4 w') := Lib.hid fun w4 => refFlipped_any (mkB x) w4 (by rw [size_mk]; omega) HWX.out
            clear hm hml HN1
            go_wp2_with fail
            refine wp_region_qb mixed (by kernel_rfl) ?_
            repeat (go_big_quiet_step (first | exact rg_call (fun w4 _ => Q0.out w4) _ _))
            refine wpQuiet_nil ?_
            intro w5 hb5
            have HB5 := Lib.hid (HB1.out.trans (hb5.mono (HB1.out.size)))
            clear hb5
            go_wp2_with fail
            rw [x1, mk_append]
            with_reducible refine (find_found (flL x ++ y) _ q4).mono ?_
            rintro _ _ ⟨rfl, v2, rfl, hv2⟩
            have HV2 := Lib.hid hv2
            clear hv2
            have s5 : (mkB (flL x ++ y)).size = x.length + y.length := by rw [size_mk]; simp [flL]
            go_wp2_with fail
            go_roundw
            case rel => exact ⟨HB5.out, k1 + 1, _, rfl, rfl, HX.out, HV2.out⟩
            case measure =>
              show (mkB (flL x ++ y)).size < (mkB (x ++ (m ++ y))).size
              omega
      · go_wp2_with fail
        with_reducible refine (refFlipped_any (mkB p) _ ?_ HW.out).mono ?_
        · rw [size_mk]; omega
        rintro _ w2 ⟨rfl, hb2⟩
        have HB2 := Lib.hid (HB.out.trans (hb2.mono HB.out.size))
        clear hb2
        rw [li_mk]
        have s4 : (mkB (flL p)).size = p.length := by rw [size_mk]; simp [flL]
        go_wp2_with fail
        rw [show ({ data := #[98, 97] } : ByteArray) = mkB [98, 97] from rfl, mk_append]
        have HNN : Hid (Nform ((liB t).take (j + 1)) (k - 1) (flL p ++ [98, 97])) := Lib.hid (by rw [HT.out]; exact HC.out.2.1 (by trivial))
        have q3 : (flL p ++ [98, 97]).length ≤ 1000 := by
          have h1 := HNN.out.len; have h2 := HL2.out
          omega
        with_reducible refine (find_found (flL p ++ [98, 97]) _ q3).mono ?_
        rintro _ _ ⟨rfl, v, rfl, hv⟩
        have HV := Lib.hid hv
        clear hv HT HC HS HW q0 q1 q3 e s0 s00
        go_wp2_with fail
        go_loopw [4, 5, 8] (fun a b f wr => Below w.heap.size w wr ∧ ∃ k p, a = .int .i64 k ∧ b = .string (mkB p) ∧ Nform ((liB t).take (j + 1)) k p ∧ Found p f) (fun _ b _ _ => strLen b)
        case atStart => exact ⟨HB2.out, _, _, rfl, rfl, HNN.out, HV.out⟩
        case round =>
          obtain ⟨hb1, k1, p1, rfl, rfl, hn1, hf1⟩ := hrel
          have q2 : -1000 ≤ k1 ∧ k1 ≤ 1000 := by
            have h1 := hn1.high; have h2 := hn1.low; have h3 := HL2.out
            omega
          have q3 : p1.length ≤ 1000 := by
            have h2 := hn1.len; have h3 := HL2.out
            omega
          have HB1 := Lib.hid hb1
          have HN1 := Lib.hid hn1
          clear hb1 hn1 HNN HV
          rcases hf1 with ⟨rfl, hno⟩ | ⟨x, y, m, rfl, rfl, hm, hml⟩
          · have HNO := Lib.hid hno
            clear hno
            go_wp2_with fail
            go_roundw
            case rel => exact ⟨j + 1, by omega, by go_num, HB1.out, k1, p1, rfl, rfl, HN1.out, HNO.out⟩
            case measure => simp [intOf]; omega
          · have HX : Hid (Nform ((liB t).take (j + 1)) (k1 + 1) (flL x ++ y)) := Lib.hid (HN1.out.twist hm hml)
            have hpl : (x ++ (m ++ y)).length = x.length + 3 + y.length := by simp [hml]; omega
            have s1 : (mkB (x ++ (m ++ y))).size = x.length + 3 + y.length := by rw [size_mk]; exact hpl
            have x0 := ext_left x (m ++ y)
            have x1 := ext_right x m y _ hml s1
            rw [s1] at x1
            rw [hpl] at q3
            have s2 : (mkB y).size = y.length := size_mk y
            have s3 : (mkB (flL x)).size = x.length := by rw [size_mk]; simp [flL]
            have q4 : (flL x ++ y).length ≤ 1000 := by simp [flL]; omega
            have HWX : Hid (wordL x) := Lib.hid fun c hc => posL_word HN1.out.pos c (by simp [hc])
            have Q0 : Hid (∀ w4, Calls Tryd.prog 67 #[.string (mkB x)] w4 fun r w' => r = .returned (.string (mkB (flL x))) ∧ Below w4.heap.size w4 w') := Lib.hid fun w4 => refFlipped_any (mkB x) w4 (by rw [size_mk]; omega) HWX.out
            clear hm hml HN1
            go_wp2_with fail
            refine wp_region_qb mixed (by kernel_rfl) ?_
            repeat (go_big_quiet_step (first | exact rg_call (fun w4 _ => Q0.out w4) _ _))
            refine wpQuiet_nil ?_
            intro w5 hb5
            have HB5 := Lib.hid (HB1.out.trans (hb5.mono (HB1.out.size)))
            clear hb5
            go_wp2_with fail
            rw [x1, mk_append]
            with_reducible refine (find_found (flL x ++ y) _ q4).mono ?_
            rintro _ _ ⟨rfl, v2, rfl, hv2⟩
            have HV2 := Lib.hid hv2
            clear hv2
            have s5 : (mkB (flL x ++ y)).size = x.length + y.length := by rw [size_mk]; simp [flL]
            go_wp2_with fail
            go_roundw
            case rel => exact ⟨HB5.out, k1 + 1, _, rfl, rfl, HX.out, HV2.out⟩
            case measure =>
              show (mkB (flL x ++ y)).size < (mkB (x ++ (m ++ y))).size
              omega
    · obtain rfl : j = t.size := by omega
      have HL := Lib.hid (show (liB t).take t.size = liB t by rw [← hl]; exact List.take_length)
      go_wp2_with fail
      go_ret2
      have := HN.out
      rw [HL.out] at this
      exact ⟨k, p, rfl, this, HB.out⟩
end Go.Proofs.YtgkgloafjhiakaaDoor
